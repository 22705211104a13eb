/- Several texts in one (merge.py). -/
import Derived.Test.YtffefjmpmgkfoaaGreatDoorPV
import Derived.Test.YtffefjmpmgkfoaaGreatDoorPS

/- A graph as a text: what Print writes. No program. -/
namespace Pure
open Esp Ev Go
set_option linter.unusedSimpArgs false
set_option linter.unusedVariables false
set_option linter.unusedSimpArgs false
set_option linter.unusedVariables false

def bigP (p : Prp) : Bool := decide (((prV p.val).length : Int) > 4000)
def prpT (p : Prp) : List UInt8 := 32 :: (p.name.data.toList ++ 61 :: (bif bigP p then [] else prV p.val))
def prpsT (l : List Prp) : List UInt8 := l.flatMap prpT ++ [10]
def labT (s : ByteArray) : List UInt8 := 32 :: 58 :: s.data.toList
def nodT (x : Ev.Node) : List UInt8 := [110, 111, 100, 101, 32] ++ Lib.itoa x.id ++ x.labels.flatMap labT ++ prpsT x.props
def edgT (x : Edg) : List UInt8 := [101, 100, 103, 101, 32] ++ Lib.itoa x.id ++ [32] ++ Lib.itoa x.src ++ [32] ++ Lib.itoa x.dst ++ [32, 58] ++ x.type.data.toList ++ prpsT x.props
def grT (g : Graph) : List UInt8 := [110, 101, 120, 116, 32] ++ Lib.itoa g.next ++ [10] ++ g.nodes.flatMap nodT ++ g.edges.flatMap edgT
def bigG (g : Graph) : Bool := g.nodes.any (fun x => x.props.any bigP) || g.edges.any (fun x => x.props.any bigP)
structure prpG (p : Prp) : Prop where
  nm : nmB p.name = true
  ok : chk p.val 1 = 0
  r : Right p.val 1
structure prpsG (l : List Prp) : Prop where
  n : l.length ≤ 6
  ps : ∀ p ∈ l, prpG p
structure nodG (x : Ev.Node) : Prop where
  i : wfI .i64 x.id
  n : x.labels.length ≤ 4
  ls : ∀ s ∈ x.labels, nmB s = true
  ps : prpsG x.props
structure edgG (x : Edg) : Prop where
  i : wfI .i64 x.id
  s : wfI .i64 x.src
  d : wfI .i64 x.dst
  t : nmB x.type = true
  ps : prpsG x.props
structure grG (g : Graph) : Prop where
  i : wfI .i64 g.next
  nn : g.nodes.length ≤ 40
  en : g.edges.length ≤ 60
  ns : ∀ x ∈ g.nodes, nodG x
  es : ∀ x ∈ g.edges, edgG x
theorem prpsG_of {l : List Prp} (hc : prpE l = 0) (hw : ∀ x ∈ l, pOk x) : prpsG l :=
  ⟨(prpE_0 hc).1, fun x hx => ⟨prpE_nm hc x hx, (prpE_0 hc).2 x hx, right_of x.val 1 (hw x hx).2 ((prpE_0 hc).2 x hx)⟩⟩
theorem grG_of {g : Graph} (hw : gOk g) (hc : chkG g = 0) : grG g := by
  obtain ⟨k1, k2, k3, k4⟩ := chkG_0 hc
  refine ⟨hw.2.2, k1, k2, fun x hx => ?_, fun x hx => ?_⟩
  · have hx2 := nodF_0 k3 x hx
    exact ⟨(hw.1.2 x hx).1, labE_0 hx2.1, labE_nm hx2.1, prpsG_of hx2.2 (hw.1.2 x hx).2.2.2⟩
  · have hx2 := edgF_0 k4 x hx
    exact ⟨(hw.2.1.2 x hx).1, (hw.2.1.2 x hx).2.1, (hw.2.1.2 x hx).2.2.1, edgF_nm k4 x hx, prpsG_of hx2.1 (hw.2.1.2 x hx).2.2.2.2.2⟩
theorem nm_len {s : ByteArray} (h : nmB s = true) : s.data.toList.length ≤ 12 := nm_size h

/-! ## how long -/
theorem prpT_len {p : Prp} (h : prpG p) : (prpT p).length ≤ 4020 := by
  have h1 := nm_len h.nm
  unfold prpT
  cases hb : bigP p with
  | true => simp only [cond_true, List.length_cons, List.length_append, List.length_nil]; omega
  | false =>
    have := of_decide_eq_false hb
    simp only [cond_false, List.length_cons, List.length_append]
    omega
theorem flat_le {α : Type} {e : α → List UInt8} {c : Nat} : ∀ {l : List α}, (∀ x ∈ l, (e x).length ≤ c) → (l.flatMap e).length ≤ c * l.length
  | [], _ => by simp
  | x :: r, h => by
    have h1 := h x (by simp)
    have h2 := flat_le (l := r) fun y hy => h y (by simp [hy])
    rw [List.flatMap_cons, List.length_append, List.length_cons, Nat.mul_add]
    omega
theorem prpsT_len {l : List Prp} (h : prpsG l) : (prpsT l).length ≤ 24121 := by
  have h1 := h.n
  have h2 := flat_le (e := prpT) (c := 4020) (l := l) fun x hx => prpT_len (h.ps x hx)
  have h3 : 4020 * l.length ≤ 4020 * 6 := Nat.mul_le_mul_left _ h1
  unfold prpsT
  simp only [List.length_append, List.length_cons, List.length_nil]
  omega
theorem nodT_len {x : Ev.Node} (h : nodG x) : (nodT x).length ≤ 33000 := by
  have h1 := itoa_len x.id h.i
  have h2 := flat_le (e := labT) (c := 14) (l := x.labels) fun s hs => by have := nm_len (h.ls s hs); unfold labT; simp only [List.length_cons]; omega
  have h3 := prpsT_len h.ps
  have h4 : 14 * x.labels.length ≤ 14 * 4 := Nat.mul_le_mul_left _ h.n
  unfold nodT
  simp only [List.length_append, List.length_cons, List.length_nil]
  omega
theorem edgT_len {x : Edg} (h : edgG x) : (edgT x).length ≤ 49000 := by
  have h1 := itoa_len x.id h.i
  have h2 := itoa_len x.src h.s
  have h3 := itoa_len x.dst h.d
  have h4 := prpsT_len h.ps
  have h5 := nm_len h.t
  unfold edgT
  simp only [List.length_append, List.length_cons, List.length_nil]
  omega

/-! ## what is written -/
theorem sz10 (s : ByteArray) (h : s.size ≤ 10) : s.size ≤ 10000 := by omega
theorem say_ok (n : Nat) (l : List ByteArray) (m : List UInt8) (hl : l.length ≤ 100) (hn : 200 ≤ n) (hs : ∀ s ∈ l, s.size ≤ 10000) (hm : m.length ≤ 90000000000000) :
    q44z n (l, (), bi m, ()) = some ((), bi (m ++ l.flatMap fun s => s.data.toList), ()) := by
  unfold q44z
  dsimp only
  rw [R_q44z_s0 n _ _ l n () (bi m) (by omega) (by omega)]
  have key : ∀ (l : List ByteArray) (i : Int) (m : List UInt8), (∀ s ∈ l, s.size ≤ 10000) → m.length + 10000 * l.length ≤ 99000000000000 →
      foldK (F_q44z_s0 n (fun _ => none)) (fun s => some ((), s.2.1, ())) i l ((), bi m, ()) = some ((), bi (m ++ l.flatMap fun s => s.data.toList), ()) := by
    intro l
    induction l with
    | nil => intro i m _ _; simp [foldK]
    | cons x r ih =>
      intro i m hs hm
      rw [foldK]
      unfold F_q44z_s0
      dsimp only
      have hx := hs x (by simp)
      have hz : x.data.toList.length = x.size := rfl
      rw [List.length_cons] at hm
      rw [wStr m x (by omega) hx, Option.bind_some]
      dsimp only
      refine (ih (i + 1) (m ++ x.data.toList) (fun s h => hs s (by simp [h])) (by rw [List.length_append]; omega)).trans ?_
      simp [List.append_assoc]
  exact key l 0 m hs (by have : 10000 * l.length ≤ 10000 * 100 := Nat.mul_le_mul_left _ hl; omega)
theorem S_sz {l : List UInt8} : (⟨l.toArray⟩ : ByteArray).size = l.length := by show l.toArray.size = _; simp
theorem end_ok (n : Nat) (hn : 6000 ≤ n) (l : List Prp) (b : Bool) (m : List UInt8) (h : prpsG l) (hm : m.length ≤ 80000000000000) :
    q45z n (l, (b, ()), (), (), bi m, ()) = some ((b || l.any bigP, ()), (), (), bi (m ++ prpsT l), ()) := by
  have hn5 : 5010 ≤ n := by omega
  unfold q45z
  dsimp only
  rw [R_q45z_s0 n _ _ l n (b, ()) () () (bi m) (by have := h.n; omega) (by have := h.n; omega)]
  have key : ∀ (l : List Prp) (i : Int) (b : Bool) (m : List UInt8), (∀ p ∈ l, prpG p) → m.length + 10000 * l.length ≤ 85000000000000 →
      foldK (F_q45z_s0 n (fun _ => none)) (fun (o9, o10, o11, o12, _) => (q44z n (([(⟨#[10]⟩ : ByteArray)] : List ByteArray), (()), o12, ())).bind fun (o24, o25, _) => some ((o9.1, ()), (()), (()), o25, ())) i l ((b, ()), (), (), bi m, ()) =
        some ((b || l.any bigP, ()), (), (), bi (m ++ prpsT l), ()) := by
    intro l
    induction l with
    | nil =>
      intro i b m _ hm
      rw [foldK]
      dsimp only
      rw [say_ok n [⟨#[10]⟩] m (by simp) (by omega) (fun s hs => by simp at hs; subst hs; exact sz10 _ (by decide)) (by simp at hm; omega), Option.bind_some]
      simp [prpsT]
    | cons x r ih =>
      intro i b m hp hm
      have hx := hp x (by simp)
      rw [List.length_cons] at hm
      rw [foldK]
      unfold F_q45z_s0
      dsimp only
      rw [Val.eta, Print_ok x.val n hn5 hx.ok hx.r]
      have hnl := nm_size hx.nm
      cases hb : decide (((prV x.val).length : Int) > 4000) with
      | true =>
        rw [cond_true, Option.bind_some]
        dsimp only
        rw [show ((2 : Int) != 0) = true from rfl, cond_true, say_ok n [⟨#[32]⟩, x.name, ⟨#[61]⟩, ⟨#[]⟩] m (by simp) (by omega) (fun s hs => by
          simp only [List.mem_cons, List.not_mem_nil, or_false] at hs
          rcases hs with rfl | rfl | rfl | rfl
          · exact sz10 _ (by decide)
          · omega
          · exact sz10 _ (by decide)
          · exact sz10 _ (by decide)) (by omega), Option.bind_some]
        dsimp only
        have hb' : bigP x = true := hb
        have ht := prpT_len hx
        refine (ih (i + 1) true _ (fun p h => hp p (by simp [h])) (by simp only [List.length_append, List.flatMap_cons, List.flatMap_nil, List.length_cons, List.length_nil]; have : x.name.data.toList.length = x.name.size := rfl; omega)).trans ?_
        simp [prpsT, prpT, hb', List.append_assoc]
      | false =>
        have hl := of_decide_eq_false hb
        rw [cond_false, Option.bind_some]
        dsimp only
        rw [show ((0 : Int) != 0) = false from rfl, cond_false, say_ok n [⟨#[32]⟩, x.name, ⟨#[61]⟩, ⟨(prV x.val).toArray⟩] m (by simp) (by omega) (fun s hs => by
          simp only [List.mem_cons, List.not_mem_nil, or_false] at hs
          rcases hs with rfl | rfl | rfl | rfl
          · exact sz10 _ (by decide)
          · omega
          · exact sz10 _ (by decide)
          · rw [S_sz]; omega) (by omega), Option.bind_some]
        dsimp only
        have hb' : bigP x = false := hb
        refine (ih (i + 1) b _ (fun p h => hp p (by simp [h])) (by simp only [List.length_append, List.flatMap_cons, List.flatMap_nil, List.length_cons, List.length_nil]; have : x.name.data.toList.length = x.name.size := rfl; simp; omega)).trans ?_
        simp [prpsT, prpT, hb', List.append_assoc]
  exact key l 0 b m h.ps (by have := h.n; have : 10000 * l.length ≤ 10000 * 6 := Nat.mul_le_mul_left _ this; omega)
end Pure


/- A graph as a text: Print; the count of lines. No program. -/
namespace Pure
open Esp Ev Go
set_option linter.unusedSimpArgs false
set_option linter.unusedVariables false
set_option linter.unusedSimpArgs false
set_option linter.unusedVariables false

theorem S_ls (l : List UInt8) : (⟨l.toArray⟩ : ByteArray).data.toList = l := by simp
theorem itoa_sz {k : Int} (h : wfI .i64 k) : (⟨(Lib.itoa k).toArray⟩ : ByteArray).size ≤ 10000 := by have := itoa_len k h; rw [S_sz]; omega
theorem labs_ok {ρ : Type} (n : Nat) (hn : 6000 ≤ n) (l : List ByteArray) (hl : l.length ≤ 4) (hs : ∀ s ∈ l, nmB s = true) (m : List UInt8) (hm : m.length ≤ 70000000000000)
    (kx : (List Ev.Node) × Int × Int × (Ev.Graph × Unit) × Unit × (Bool × Unit) × Unit × (Ev.Node × Unit) × (List Int) × Unit → Option ρ) (kr : Unit → Option ρ) (v6 : List Ev.Node) (v7 v8 : Int) (g : Graph) (b : Bool) (x : Ev.Node) :
    iterN (fun rc => q56z_s2 n rc kx kr) n (v6, v7, v8, l, (l.length : Int), 0, (g, ()), (), (b, ()), (), (x, ()), bi m, ()) = kx (v6, v7, v8, (g, ()), (), (b, ()), (), (x, ()), bi (m ++ l.flatMap labT), ()) := by
  rw [R_q56z_s2 n kx kr l n v6 v7 v8 (g, ()) () (b, ()) () (x, ()) (bi m) (by omega) (by omega)]
  have key : ∀ (l : List ByteArray) (i : Int) (m : List UInt8), (∀ s ∈ l, nmB s = true) → m.length + 14 * l.length ≤ 80000000000000 →
      foldK (F_q56z_s2 n kr) (fun (v18, v19, v20, o24, o25, o26, o27, o28, o29, _) => kx (v18, v19, v20, ((Ev.Graph.mk o24.1.nodes o24.1.edges o24.1.next), ()), (()), (o26.1, ()), (()), ((Ev.Node.mk o28.1.id o28.1.labels o28.1.props), ()), o29, ())) i l (v6, v7, v8, (g, ()), (), (b, ()), (), (x, ()), bi m, ()) =
        kx (v6, v7, v8, (g, ()), (), (b, ()), (), (x, ()), bi (m ++ l.flatMap labT), ()) := by
    intro l
    induction l with
    | nil => intro i m _ _; rw [foldK]; simp
    | cons s r ih =>
      intro i m hs hm
      rw [List.length_cons] at hm
      have hx := nm_size (hs s (by simp))
      rw [foldK]
      unfold F_q56z_s2
      dsimp only
      rw [say_ok n [⟨#[32, 58]⟩, s] m (by simp) (by omega) (fun t ht => by
        simp only [List.mem_cons, List.not_mem_nil, or_false] at ht
        rcases ht with rfl | rfl
        · exact sz10 _ (by decide)
        · omega) (by omega), Option.bind_some]
      dsimp only
      refine (ih (i + 1) _ (fun t h => hs t (by simp [h])) (by simp only [List.length_append, List.flatMap_cons, List.flatMap_nil, List.length_nil]; have : s.data.toList.length = s.size := rfl; simp; omega)).trans ?_
      simp [labT, List.append_assoc]
  exact key l 0 m hs (by omega)
theorem nods_ok {ρ : Type} (n : Nat) (hn : 6000 ≤ n) (kx : (Ev.Graph × Unit) × Unit × (Bool × Unit) × Unit × (List Int) × Unit → Option ρ) (kr : Unit → Option ρ) (g : Graph) (l : List Ev.Node) (hl : l.length ≤ 40) (hg : ∀ x ∈ l, nodG x) :
    ∀ (r p : List Ev.Node) (fuel : Nat) (b : Bool) (m : List UInt8), l = p ++ r → r.length < fuel → m.length + 33000 * r.length ≤ 60000000000000 →
      iterN (fun rc77 => q56z_s0 n rc77 kx kr) fuel (l, (l.length : Int), (p.length : Int), (g, ()), (), (b, ()), (), bi m, ()) = kx ((g, ()), (), (b || r.any (fun x => x.props.any bigP), ()), (), bi (m ++ r.flatMap nodT), ()) := by
  intro r
  induction r with
  | nil =>
    intro p fuel b m hp hf _
    obtain ⟨f, rfl⟩ : ∃ f, fuel = f + 1 := ⟨fuel - 1, by simp at hf; omega⟩
    rw [iterN]
    unfold q56z_s0
    dsimp only
    have e : decide ((p.length : Int) < (l.length : Int)) = false := by rw [hp]; simp
    rw [e, cond_false]
    simp
  | cons x r ih =>
    intro p fuel b m hp hf hm
    obtain ⟨f, rfl⟩ : ∃ f, fuel = f + 1 := ⟨fuel - 1, by simp at hf; omega⟩
    have hx := hg x (by rw [hp]; simp)
    rw [List.length_cons] at hm hf
    rw [iterN]
    unfold q56z_s0
    dsimp only
    have e : decide ((p.length : Int) < (l.length : Int)) = true := by rw [hp, decide_eq_true_eq]; simp; omega
    have hix : ix l (p.length : Int) = some x := ix_ok (by rw [hp]; simp)
    rw [e, cond_true, hix, Option.bind_some, itoaN_eq hx.i, Option.bind_some]
    dsimp only
    rw [say_ok n [⟨#[110, 111, 100, 101, 32]⟩, ⟨(Lib.itoa x.id).toArray⟩] m (by simp) (by omega) (fun t ht => by
        simp only [List.mem_cons, List.not_mem_nil, or_false] at ht
        rcases ht with rfl | rfl
        · exact sz10 _ (by decide)
        · exact itoa_sz hx.i) (by omega), Option.bind_some]
    dsimp only
    have hi := itoa_len x.id hx.i
    rw [Graph.eta, show Ev.Node.mk x.id x.labels x.props = x from rfl]
    rw [labs_ok n hn x.labels hx.n hx.ls _ (by simp only [List.length_append, List.flatMap_cons, List.flatMap_nil, List.length_nil, S_ls]; simp; omega) _ _ l (l.length : Int) (p.length : Int) g b x]
    dsimp only
    have hlb := flat_le (e := labT) (c := 14) (l := x.labels) fun s hs => by have := nm_len (hx.ls s hs); unfold labT; simp only [List.length_cons]; omega
    have h4 : 14 * x.labels.length ≤ 14 * 4 := Nat.mul_le_mul_left _ hx.n
    rw [end_ok n hn x.props b _ hx.ps (by simp only [List.length_append, List.flatMap_cons, List.flatMap_nil, List.length_nil, S_ls]; simp; simp at hlb h4; omega), Option.bind_some]
    dsimp only
    have hw : IntKind.wrap .i64 ((p.length : Int) + 1) = ((p ++ [x]).length : Int) := by
      have : p.length ≤ 40 := by have := congrArg List.length hp; simp at this; omega
      rw [wrap64 (by omega) (by omega)]
      simp
    have hnl := nodT_len hx
    have he : m ++ ([⟨#[110, 111, 100, 101, 32]⟩, ⟨(Lib.itoa x.id).toArray⟩] : List ByteArray).flatMap (fun s => s.data.toList) ++ x.labels.flatMap labT ++ prpsT x.props = m ++ nodT x := by
      simp [nodT, List.append_assoc]
    rw [hw, he]
    refine (ih (p ++ [x]) f _ (m ++ nodT x) (by rw [hp]; simp) (by omega) (by rw [List.length_append]; omega)).trans ?_
    simp [Bool.or_assoc, List.append_assoc]
theorem nods0 {ρ : Type} (n : Nat) (hn : 6000 ≤ n) (kx : (Ev.Graph × Unit) × Unit × (Bool × Unit) × Unit × (List Int) × Unit → Option ρ) (kr : Unit → Option ρ) (g : Graph) (l : List Ev.Node) (hl : l.length ≤ 40) (hg : ∀ x ∈ l, nodG x)
    (fuel : Nat) (b : Bool) (m : List UInt8) (hf : l.length < fuel) (hm : m.length + 33000 * l.length ≤ 60000000000000) :
    iterN (fun rc77 => q56z_s0 n rc77 kx kr) fuel (l, (l.length : Int), 0, (g, ()), (), (b, ()), (), bi m, ()) = kx ((g, ()), (), (b || l.any (fun x => x.props.any bigP), ()), (), bi (m ++ l.flatMap nodT), ()) :=
  nods_ok n hn kx kr g l hl hg l [] fuel b m rfl hf hm
theorem edgs_ok {ρ : Type} (n : Nat) (hn : 6000 ≤ n) (kx : Unit × (Bool × Unit) × (List Int) × Unit → Option ρ) (kr : Unit → Option ρ) (l : List Edg) (hl : l.length ≤ 60) (hg : ∀ x ∈ l, edgG x) (b : Bool) (m : List UInt8) (hm : m.length ≤ 50000000000000) :
    iterN (fun rc76 => q56z_s4 n rc76 kx kr) n (l, (l.length : Int), 0, (), (b, ()), (), bi m, ()) = kx ((), (b || l.any (fun x => x.props.any bigP), ()), bi (m ++ l.flatMap edgT), ()) := by
  rw [R_q56z_s4 n kx kr l n () (b, ()) () (bi m) (by omega) (by omega)]
  have key : ∀ (l : List Edg) (i : Int) (b : Bool) (m : List UInt8), (∀ x ∈ l, edgG x) → m.length + 49000 * l.length ≤ 60000000000000 →
      foldK (F_q56z_s4 n kr) (fun (o55, o56, o57, o58, _) => kx ((()), (o56.1, ()), o58, ())) i l ((), (b, ()), (), bi m, ()) = kx ((), (b || l.any (fun x => x.props.any bigP), ()), bi (m ++ l.flatMap edgT), ()) := by
    intro l
    induction l with
    | nil => intro i b m _ _; rw [foldK]; simp
    | cons x r ih =>
      intro i b m hg hm
      rw [List.length_cons] at hm
      have hx := hg x (by simp)
      have ht := nm_size hx.t
      rw [foldK]
      unfold F_q56z_s4
      dsimp only
      rw [itoaN_eq hx.i, Option.bind_some]
      dsimp only
      rw [itoaN_eq hx.s, Option.bind_some]
      dsimp only
      rw [itoaN_eq hx.d, Option.bind_some]
      dsimp only
      rw [say_ok n [⟨#[101, 100, 103, 101, 32]⟩, ⟨(Lib.itoa x.id).toArray⟩, ⟨#[32]⟩, ⟨(Lib.itoa x.src).toArray⟩, ⟨#[32]⟩, ⟨(Lib.itoa x.dst).toArray⟩, ⟨#[32, 58]⟩, x.type] m (by simp) (by omega) (fun t ht' => by
        simp only [List.mem_cons, List.not_mem_nil, or_false] at ht'
        rcases ht' with rfl | rfl | rfl | rfl | rfl | rfl | rfl | rfl
        · exact sz10 _ (by decide)
        · exact itoa_sz hx.i
        · exact sz10 _ (by decide)
        · exact itoa_sz hx.s
        · exact sz10 _ (by decide)
        · exact itoa_sz hx.d
        · exact sz10 _ (by decide)
        · omega) (by omega), Option.bind_some]
      dsimp only
      have i1 := itoa_len x.id hx.i
      have i2 := itoa_len x.src hx.s
      have i3 := itoa_len x.dst hx.d
      have i4 := nm_len hx.t
      rw [end_ok n hn x.props b _ hx.ps (by simp only [List.length_append, List.flatMap_cons, List.flatMap_nil, List.length_nil, S_ls]; simp; simp at i4; omega), Option.bind_some]
      dsimp only
      have hel := edgT_len hx
      have he : m ++ ([⟨#[101, 100, 103, 101, 32]⟩, ⟨(Lib.itoa x.id).toArray⟩, ⟨#[32]⟩, ⟨(Lib.itoa x.src).toArray⟩, ⟨#[32]⟩, ⟨(Lib.itoa x.dst).toArray⟩, ⟨#[32, 58]⟩, x.type] : List ByteArray).flatMap (fun s => s.data.toList) ++ prpsT x.props = m ++ edgT x := by
        simp [edgT, List.append_assoc]
      rw [he]
      refine (ih (i + 1) _ (m ++ edgT x) (fun y h => hg y (by simp [h])) (by rw [List.length_append]; omega)).trans ?_
      simp [Bool.or_assoc, List.append_assoc]
  exact key l 0 b m hg (by have : 49000 * l.length ≤ 49000 * 60 := Nat.mul_le_mul_left _ hl; omega)
def portR (g : Graph) : ByteArray × Int := bif chkG g != 0 then (⟨#[]⟩, chkG g) else bif bigG g then (⟨#[]⟩, 2) else bif decide (((grT g).length : Int) > 40000) then (⟨#[]⟩, 2) else (⟨(grT g).toArray⟩, 0)
theorem print_ok (g : Graph) (hw : gOk g) (n : Nat) (hn : 6000 ≤ n) : q56z n (g, ()) = some ((portR g).1, (portR g).2, ()) := by
  unfold q56z portR
  dsimp only
  rw [Graph.eta, gcheck_ok g n (by omega), Option.bind_some]
  dsimp only
  cases hc : chkG g != 0 with
  | true => rfl
  | false =>
    have hc0 : chkG g = 0 := by simpa using hc
    have hg := grG_of hw hc0
    simp only [cond_false]
    rw [itoaN_eq hg.i, Option.bind_some]
    dsimp only
    have e0 : ([] : List Int) = bi [] := rfl
    rw [e0, say_ok n [⟨#[110, 101, 120, 116, 32]⟩, ⟨(Lib.itoa g.next).toArray⟩, ⟨#[10]⟩] [] (by simp) (by omega) (fun t ht => by
        simp only [List.mem_cons, List.not_mem_nil, or_false] at ht
        rcases ht with rfl | rfl | rfl
        · exact sz10 _ (by decide)
        · exact itoa_sz hg.i
        · exact sz10 _ (by decide)) (by simp), Option.bind_some]
    dsimp only
    have i0 := itoa_len g.next hg.i
    have hnl := flat_le (e := nodT) (c := 33000) (l := g.nodes) fun x hx => nodT_len (hg.ns x hx)
    have h4 : 33000 * g.nodes.length ≤ 33000 * 40 := Nat.mul_le_mul_left _ hg.nn
    have h5 := hg.nn
    rw [nods0 n hn _ _ g g.nodes h5 hg.ns n false _ (by omega) (by simp; omega)]
    dsimp only
    rw [edgs_ok n hn _ _ g.edges hg.en hg.es _ _ (by simp; simp at hnl; omega)]
    dsimp only
    have he : [] ++ ([⟨#[110, 101, 120, 116, 32]⟩, ⟨(Lib.itoa g.next).toArray⟩, ⟨#[10]⟩] : List ByteArray).flatMap (fun s => s.data.toList) ++ g.nodes.flatMap nodT ++ g.edges.flatMap edgT = grT g := by
      simp [grT, List.append_assoc]
    rw [he, Bool.false_or]
    show (bif bigG g then _ else _) = _
    cases hb : bigG g with
    | true => rfl
    | false =>
      unfold q25z
      simp only [cond_false, Option.bind_some, bi_length]
      cases hl : decide (((grT g).length : Int) > 40000) with
      | true => rfl
      | false => simp only [cond_false, stringN_bi, Option.bind_some]
end Pure


/- A graph has a line for each node and each edge, and one ahead. No program. -/
namespace Pure
open Esp Ev Go
set_option linter.unusedSimpArgs false
set_option linter.unusedVariables false
set_option linter.unusedSimpArgs false
set_option linter.unusedVariables false

theorem itoa_no (n : Int) (k : UInt8) (hk : k ≠ 45) (hk2 : ¬ (48 ≤ k.toNat ∧ k.toNat ≤ 57)) : ∀ c ∈ Lib.itoa n, c ≠ k := by
  obtain ⟨sg, ds, h1, h2, _, h3⟩ := itoa_shape n
  intro c hc e
  subst e
  rw [h1, List.mem_append] at hc
  rcases hc with hc | hc
  · rcases h2 with rfl | rfl
    · cases hc
    · simp at hc; exact hk hc
  · exact hk2 (h3 c hc)
def nmC (c : UInt8) : Prop := (97 ≤ c.toNat ∧ c.toNat ≤ 122) ∨ (65 ≤ c.toNat ∧ c.toNat ≤ 90) ∨ c.toNat = 95 ∨ (48 ≤ c.toNat ∧ c.toNat ≤ 57)
theorem nmC_of {c : UInt8} (h : (lttI (c.toNat : Int) || digI (c.toNat : Int)) = true) : nmC c := by
  unfold lttI digI at h
  unfold nmC
  simp only [Bool.or_eq_true, Bool.and_eq_true, decide_eq_true_eq, beq_iff_eq] at h
  omega
theorem nmF_C : ∀ (l : List UInt8) (i : Int), nmF i (bi l) = true → ∀ c ∈ l, nmC c
  | [], _, _, c, hc => by cases hc
  | b :: r, i, h, c, hc => by
    rw [bi_cons, nmF] at h
    cases h1 : !(lttI (b.toNat : Int)) && (((i == 0) || (decide ((b.toNat : Int) < 48))) || (decide ((b.toNat : Int) > 57))) with
    | true => rw [h1] at h; cases h
    | false =>
      rw [h1, cond_false] at h
      rcases List.mem_cons.1 hc with rfl | hc
      · apply nmC_of
        cases h2 : lttI (c.toNat : Int) with
        | true => rfl
        | false =>
          rw [h2, Bool.not_false, Bool.true_and] at h1
          have h3 := (Bool.or_eq_false_iff.1 h1)
          have h4 := of_decide_eq_false (Bool.or_eq_false_iff.1 h3.1).2
          have h5 := of_decide_eq_false h3.2
          unfold digI
          simp only [Bool.false_or, Bool.and_eq_true, decide_eq_true_eq]
          omega
      · exact nmF_C r (i + 1) h c hc
theorem nm_C {s : ByteArray} (h : nmB s = true) : ∀ c ∈ s.data.toList, nmC c := by
  unfold nmB at h
  cases h1 : (seq s ⟨#[]⟩) || (decide ((s.size : Int) > 12)) with
  | true => rw [h1] at h; cases h
  | false => rw [h1] at h; exact nmF_C _ _ h
theorem nmC_ne {c : UInt8} (h : nmC c) (k : UInt8) (hk : k = 10 ∨ k = 32 ∨ k = 39 ∨ k = 61 ∨ k = 92 ∨ k = 58) : c ≠ k := by
  rintro rfl
  unfold nmC at h
  rcases hk with rfl | rfl | rfl | rfl | rfl | rfl <;> simp at h

end Pure


/- Lines apart, words apart. No program. -/
namespace Pure
open Esp Ev Go
set_option linter.unusedSimpArgs false
set_option linter.unusedVariables false
set_option linter.unusedSimpArgs false
set_option linter.unusedVariables false

def B (l : List UInt8) : ByteArray := ⟨l.toArray⟩
theorem B_data (l : List UInt8) : (B l).data.toList = l := by simp [B]
theorem B_size (l : List UInt8) : (B l).size = l.length := S_sz
theorem B_app (a b : List UInt8) : B a ++ B b = B (a ++ b) := by
  apply ba_ext
  rw [ByteArray.data_append, Array.toList_append, B_data, B_data, B_data]
/-! ## words -/
inductive Run : Bool → List UInt8 → Bool → Nat → Prop
  | nil (q : Bool) : Run q [] q 0
  | chr (q : Bool) (c : UInt8) (a : List UInt8) (p : Bool) (k : Nat) (h1 : (c == 92 && q) = false) (h2 : c ≠ 39) (h3 : (c == 32 && !q) = false) (h : Run q a p k) : Run q (c :: a) p (k + 1)
  | quo (q : Bool) (a : List UInt8) (p : Bool) (k : Nat) (h : Run (!q) a p k) : Run q (39 :: a) p (k + 1)
  | esc (d : UInt8) (a : List UInt8) (p : Bool) (k : Nat) (h : Run true a p k) : Run true (92 :: d :: a) p (k + 1)
theorem Run.app {q p r : Bool} {a b : List UInt8} {k j : Nat} (h : Run q a p k) (h2 : Run p b r j) : Run q (a ++ b) r (k + j) := by
  induction h with
  | nil q => rw [Nat.zero_add]; exact h2
  | chr q c a p k h1 h2' h3 h ih => rw [show k + 1 + j = (k + j) + 1 by omega]; exact .chr q c _ _ _ h1 h2' h3 (ih h2)
  | quo q a p k h ih => rw [show k + 1 + j = (k + j) + 1 by omega]; exact .quo q _ _ _ (ih h2)
  | esc d a p k h ih => rw [show k + 1 + j = (k + j) + 1 by omega]; exact .esc d _ _ _ (ih h2)
theorem Run.le {q p : Bool} {a : List UInt8} {k : Nat} (h : Run q a p k) : k ≤ a.length := by
  induction h with
  | nil q => exact Nat.le_refl _
  | chr q c a p k h1 h2' h3 h ih => simp; omega
  | quo q a p k h ih => simp; omega
  | esc d a p k h ih => simp; omega
theorem Run.plain : ∀ (a : List UInt8), (∀ c ∈ a, c ≠ 39 ∧ c ≠ 32) → Run false a false a.length
  | [], _ => .nil _
  | c :: r, h => .chr _ _ _ _ _ (by simp) (h c (by simp)).1 (by simp; exact (h c (by simp)).2) (Run.plain r fun x hx => h x (by simp [hx]))
theorem Run.escs : ∀ (l : List UInt8), ∃ k, Run true (Pure.esc l) true k
  | [] => ⟨0, .nil _⟩
  | b :: r => by
    obtain ⟨k, hk⟩ := Run.escs r
    have e : Pure.esc (b :: r) = eb b ++ Pure.esc r := rfl
    rw [e]
    unfold eb
    cases h1 : (b == 39) || (b == 92) with
    | true => exact ⟨_, .esc b _ _ _ hk⟩
    | false =>
      rw [cond_false]
      cases h2 : b == 10 with
      | true => exact ⟨_, .esc 110 _ _ _ hk⟩
      | false =>
        have h3 := Bool.or_eq_false_iff.1 h1
        exact ⟨_, .chr _ _ _ _ _ (by rw [h3.2]; rfl) (by simpa using h3.1) (by simp) hk⟩
theorem Run.itoa (n : Int) : Run false (Lib.itoa n) false (Lib.itoa n).length :=
  .plain _ fun c hc => ⟨itoa_no n 39 (by decide) (by decide) c hc, itoa_no n 32 (by decide) (by decide) c hc⟩
theorem Run.lit {l : List UInt8} (h : l.all (fun c => c != 39 && c != 32) = true) : ∃ k, Run false l false k :=
  ⟨_, .plain l fun c hc => by
    have := List.all_eq_true.1 h c hc
    simpa using this⟩
mutual
theorem Run.prV : ∀ (v : Val), ∃ k, Run false (Pure.prV v) false k
  | .mk k n s l => by
    rw [Pure.prV]
    cases k == 0 with
    | true => exact Run.lit (l := [110, 117, 108, 108]) rfl
    | false =>
      cases k == 1 with
      | true => cases n == 1 with
        | true => exact Run.lit (l := [116, 114, 117, 101]) rfl
        | false => exact Run.lit (l := [102, 97, 108, 115, 101]) rfl
      | false =>
        cases k == 2 with
        | true => exact ⟨_, .itoa n⟩
        | false =>
          cases k == 3 with
          | true =>
            obtain ⟨j, hj⟩ := Run.escs s.data.toList
            exact ⟨_, .quo _ _ _ _ (hj.app (.quo _ _ _ _ (.nil _)))⟩
          | false =>
            cases k == 4 with
            | true =>
              obtain ⟨j, hj⟩ := Run.prL l
              exact ⟨_, .chr _ _ _ _ _ (by simp) (by decide) (by decide) (hj.app (.chr _ _ _ _ _ (by simp) (by decide) (by decide) (.nil _)))⟩
            | false => exact ⟨_, .nil _⟩
theorem Run.prL : ∀ (l : List Val), ∃ k, Run false (Pure.prL l) false k
  | [] => by rw [Pure.prL]; exact ⟨_, .nil _⟩
  | x :: r => by
    rw [Pure.prL]
    obtain ⟨a, ha⟩ := Run.prV x
    obtain ⟨b, hb⟩ := Run.prT r
    exact ⟨_, ha.app hb⟩
theorem Run.prT : ∀ (l : List Val), ∃ k, Run false (Pure.prT l) false k
  | [] => by rw [Pure.prT]; exact ⟨_, .nil _⟩
  | x :: r => by
    rw [Pure.prT]
    obtain ⟨a, ha⟩ := Run.prV x
    obtain ⟨b, hb⟩ := Run.prT r
    exact ⟨_, .chr _ _ _ _ _ (by simp) (by decide) (by decide) (ha.app hb)⟩
end
theorem Run.name {s : ByteArray} (h : nmB s = true) : Run false s.data.toList false s.data.toList.length :=
  .plain _ fun c hc => ⟨nmC_ne (nm_C h c hc) 39 (.inr (.inr (.inl rfl))), nmC_ne (nm_C h c hc) 32 (.inr (.inl rfl))⟩
end Pure


/- Words of a line; a line read back. No program. -/
namespace Pure
open Esp Ev Go
set_option linter.unusedSimpArgs false
set_option linter.unusedVariables false
set_option linter.unusedSimpArgs false
set_option linter.unusedVariables false

end Pure


/- What is printed of a graph is read as it. No program. -/
namespace Pure
open Esp Ev Go
set_option linter.unusedSimpArgs false
set_option linter.unusedVariables false
set_option linter.unusedSimpArgs false
set_option linter.unusedVariables false

theorem flatMap_eq' {α : Type} {f g : α → List UInt8} {l : List α} (h : ∀ x ∈ l, f x = g x) : l.flatMap f = l.flatMap g := by
  induction l with
  | nil => rfl
  | cons a r ih => rw [List.flatMap_cons, List.flatMap_cons, h a (by simp), ih fun x hx => h x (by simp [hx])]
theorem bigG_not {g : Graph} (h : bigG g = false) : (∀ x ∈ g.nodes, x.props.any bigP = false) ∧ ∀ x ∈ g.edges, x.props.any bigP = false := by
  unfold bigG at h
  rw [Bool.or_eq_false_iff] at h
  exact ⟨fun x hx => by have := List.any_eq_false.1 h.1 x hx; simpa using this, fun x hx => by have := List.any_eq_false.1 h.2 x hx; simpa using this⟩
end Pure
