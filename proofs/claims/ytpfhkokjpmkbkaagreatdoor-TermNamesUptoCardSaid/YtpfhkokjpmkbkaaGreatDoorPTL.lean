/- Several texts in one (merge.py). -/
import Derived.Test.YtpfhkokjpmkbkaaGreatDoorPS
import Derived.Test.YtpfhkokjpmkbkaaGreatDoorPA
import Derived.KernelRfl
import Derived.Test.YtpfhkokjpmkbkaaGreatDoorEvRead3
import Derived.Test.YtpfhkokjpmkbkaaGreatDoorPFree
import Derived.Test.YtpfhkokjpmkbkaaGreatDoorEvRead5

/- Values that are right, reckoned with: in closed form. No program. -/
namespace Pure
open Esp Ev Go
set_option linter.unusedSimpArgs false
set_option linter.unusedVariables false

end Pure


/- Terms: what they are, and what they come to. No program. -/
namespace Pure
open Esp Ev Go
set_option linter.unusedSimpArgs false
set_option linter.unusedVariables false
set_option linter.unusedSimpArgs false
set_option linter.unusedVariables false


/-! ## names -/
theorem has_any (l : List ByteArray) (s : ByteArray) (n : Nat) (hl : l.length ≤ 100) (hn : 200 ≤ n) : q3z n (l, s, ()) = some (hasL l s, ()) := by
  obtain ⟨j, h1, h2⟩ := index_fold s (fun _ => some (-1, ())) rfl l 0 (by omega)
  have h3 : q5z n (l, s, ()) = some (j, ()) :=
    (range_list l (fun i (u : Unit) => (l, s, (l.length : Int), i, ())) _ (fun (i : Int) (x : ByteArray) (u : Unit) (rec : Unit → Option (Int × Unit)) => bif seq s x then some (i, ()) else rec u) (fun _ => some (-1, ()))
      (fun rec i u => rfl) (by omega) n () (by omega)).trans h1
  unfold q3z
  dsimp only
  rw [h3, Option.bind_some]
  dsimp only
  rw [h2]
noncomputable def resB (s : ByteArray) : Bool := ((q29z 200 (s, ())).getD (false, ())).1
theorem reserved_ok (s : ByteArray) (n : Nat) (hn : 200 ≤ n) : q29z n (s, ()) = some (resB s, ()) := by
  unfold resB
  unfold q29z
  dsimp only
  rw [has_any _ s n (by decide) hn, has_any _ s 200 (by decide) (by omega)]
  rfl
noncomputable def nameB (s : ByteArray) : Bool := nmB s && !resB s
theorem name_ok (s : ByteArray) (n : Nat) (hn : 200 ≤ n) : term_Name n (s, ()) = some (nameB s, ()) := by
  unfold term_Name nameB
  dsimp only
  rw [q44z_ok s n (by omega), Option.bind_some]
  cases nmB s with
  | false => rfl
  | true => dsimp only; rw [cond_true, reserved_ok s n hn]; rfl
def arN (s : ByteArray) : Int × Bool :=
  bif ((((((((seq s ⟨#[43]⟩) || seq s ⟨#[45]⟩) || seq s ⟨#[42]⟩) || seq s ⟨#[61]⟩) || seq s ⟨#[60]⟩) || seq s ⟨#[60, 61]⟩) || seq s ⟨#[97, 110, 100]⟩) || seq s ⟨#[111, 114]⟩) || seq s ⟨#[105, 110]⟩ then (2, true) else bif (((((seq s ⟨#[110, 111, 116]⟩) || seq s ⟨#[110, 117, 108, 108]⟩) || seq s ⟨#[115, 105, 122, 101]⟩) || seq s ⟨#[104, 101, 97, 100]⟩) || seq s ⟨#[105, 100]⟩) || seq s ⟨#[116, 121, 112, 101]⟩ then (1, true) else bif (seq s ⟨#[99, 111, 97, 108, 101, 115, 99, 101]⟩) || seq s ⟨#[108, 105, 115, 116]⟩ then (-1, true) else (0, false)
/-! ## is it one? -/
def zrB (v : Val) : Bool := ((((v.kind == 0) && (v.n == 0)) && (seq v.s ⟨#[]⟩)) && ((v.l.length : Int) == 0))
def lstB (b : List (ByteArray × Bool)) (s : ByteArray) (x : Term) : Int :=
  bif seq s ⟨#[105, 100]⟩ then (bif x.kind != 2 then 3 else 0)
  else bif seq s ⟨#[116, 121, 112, 101]⟩ then (bif x.kind != 2 then 3 else bif !(mpGet .str .bool false b x.name) then 3 else 0) else 0
def hdT (l : List Term) : Term := l.headD (.mk 0 (.mk 0 0 ⟨#[]⟩ []) ⟨#[]⟩ [])
mutual
noncomputable def tchk (b : List (ByteArray × Bool)) : Term → Int → Int
  | .mk k v s a, d =>
    bif decide (d > 6) then 2
    else bif k == 1 then (bif (!(seq s ⟨#[]⟩)) || decide ((a.length : Int) > 0) then 6 else bif v.kind == 4 then 6 else chk v 1)
    else bif k == 2 then (bif (!zrB v) || decide ((a.length : Int) > 0) then 6 else bif !nameB s then 6 else bif !mpHas .str .bool b s then 5 else 0)
    else bif k == 3 then (bif (!zrB v) || ((a.length : Int) != 1) then 6 else bif (hdT a).kind != 2 then 6 else bif !nmB s then 6 else tchks b a (d + 1))
    else bif k == 4 then (bif ((!(arN s).2) || !zrB v) || (decide ((arN s).1 ≥ 0) && ((a.length : Int) != (arN s).1)) then 6 else bif decide ((a.length : Int) > 30) then 2
      else bif tchks b a (d + 1) != 0 then tchks b a (d + 1) else lstB b s (hdT a))
    else 6
noncomputable def tchks (b : List (ByteArray × Bool)) : List Term → Int → Int
  | [], _ => 0
  | x :: r, d => bif tchk b x d != 0 then tchk b x d else tchks b r d
end
end Pure


/- Terms: what calls come to. No program. -/
namespace Pure
open Esp Ev Go
set_option linter.unusedSimpArgs false
set_option linter.unusedVariables false
set_option linter.unusedSimpArgs false
set_option linter.unusedVariables false

/-! ## names are texts that are right -/
theorem valid_ascii : ∀ (n : Nat) (l : List UInt8), (∀ b ∈ l, b.toNat < 128) → Lib.validGoD n l = true
  | 0, l, _ => rfl
  | n + 1, [], _ => rfl
  | n + 1, b :: r, h => by
    have hb := h b (by simp)
    have hd : Lib.decodeL (b :: r) = (b.toNat, 1) := by
      have h0 : (⟨(b :: r).toArray⟩ : ByteArray).get! 0 = b := rfl
      unfold Lib.decodeL Utf8.decode
      simp only [Nat.zero_add, h0]
      rw [if_pos (by omega)]
    have h3 : ¬ ((b.toNat, 1).1 = 65533 ∧ (b.toNat, 1).2 = 1) := fun h => by
      have := h.1
      dsimp only at this
      omega
    rw [Lib.validGoD, if_neg (List.cons_ne_nil b r), hd, if_neg h3]
    exact valid_ascii n r fun x hx => h x (List.mem_cons_of_mem _ hx)
theorem nmF_ascii : ∀ (l : List UInt8) (i : Int), nmF i (bi l) = true → ∀ b ∈ l, b.toNat < 128
  | [], _, _ => fun b hb => by cases hb
  | c :: r, i, h => by
    rw [bi_cons, nmF] at h
    intro b hb
    cases hc : (!(lttI (c.toNat : Int)) && (((i == 0) || (decide ((c.toNat : Int) < 48))) || (decide ((c.toNat : Int) > 57)))) with
    | true => rw [hc] at h; cases h
    | false =>
      rw [hc] at h
      rcases List.mem_cons.1 hb with rfl | hb
      · unfold lttI at hc
        simp only [Bool.and_eq_false_iff, Bool.not_eq_false', Bool.or_eq_true, Bool.and_eq_true, decide_eq_true_eq, Bool.or_eq_false_iff, decide_eq_false_iff_not, beq_iff_eq] at hc
        omega
      · exact nmF_ascii r (i + 1) h b hb
theorem nm_valid {s : ByteArray} (h : nmB s = true) : validS s = true ∧ s.size ≤ 12 := by
  unfold nmB at h
  cases hc : (seq s ⟨#[]⟩) || (decide ((s.size : Int) > 12)) with
  | true => rw [hc] at h; cases h
  | false =>
    rw [hc] at h
    rw [Bool.or_eq_false_iff] at hc
    have h12 := of_decide_eq_false hc.2
    exact ⟨valid_ascii _ _ (nmF_ascii _ _ h), by omega⟩

end Pure


/- Terms: calls, by the program. No program. -/
namespace Pure
open Esp Ev Go
set_option linter.unusedSimpArgs false
set_option linter.unusedVariables false
set_option linter.unusedSimpArgs false
set_option linter.unusedVariables false

def ArOk (s : ByteArray) (k : Nat) : Prop := (arN s).2 = true ∧ ((arN s).1 ≥ 0 → (k : Int) = (arN s).1)
theorem ArOk.two {s : ByteArray} {k : Nat} (h : ArOk s k) (h2 : arN s = (2, true)) : k = 2 := by
  have := h.2 (by rw [h2]; decide)
  rw [h2] at this
  simp at this
  omega
theorem ArOk.one {s : ByteArray} {k : Nat} (h : ArOk s k) (h2 : arN s = (1, true)) : k = 1 := by
  have := h.2 (by rw [h2]; decide)
  rw [h2] at this
  simp at this
  omega
end Pure


/- Terms: what they come to, by the program. No program. -/
namespace Pure
open Esp Ev Go
set_option linter.unusedSimpArgs false
set_option linter.unusedVariables false
set_option linter.unusedSimpArgs false
set_option linter.unusedVariables false

structure GOk (g : Graph) : Prop where
  ok : gOk g
  cg : chkG g = 0
theorem edgF_type {nodes : List Ev.Node} : ∀ {l : List Edg} {last : Int}, edgF nodes last l = 0 → ∀ x ∈ l, nmB x.type = true
  | [], _, _ => fun x hx => (by cases hx)
  | y :: r, last, h => by
    rw [edgF] at h
    cases h1 : decide (y.id ≤ last) with
    | true => rw [h1] at h; cases h
    | false =>
    rw [h1, cond_false] at h
    cases h2 : (nodeIn nodes y.id).isSome with
    | true => rw [h2] at h; cases h
    | false =>
    rw [h2, cond_false] at h
    cases h3 : nmB y.type with
    | false => rw [h3] at h; cases h
    | true =>
    rw [h3, Bool.not_true, cond_false] at h
    cases h4 : (nodeIn nodes y.src).isNone with
    | true => rw [h4] at h; cases h
    | false =>
    rw [h4, cond_false] at h
    cases h5 : (nodeIn nodes y.dst).isNone with
    | true => rw [h5] at h; cases h
    | false =>
    rw [h5, cond_false] at h
    cases h6 : prpE y.props != 0 with
    | true => rw [h6, cond_true] at h; rw [h] at h6; cases h6
    | false =>
    rw [h6, cond_false] at h
    intro x hx
    rcases List.mem_cons.1 hx with rfl | hx
    · exact h3
    · exact edgF_type h x hx
theorem GOk.types {g : Graph} (h : GOk g) : ∀ x ∈ g.edges, nmB x.type = true := edgF_type (chkG_0 h.cg).2.2.2
def atOk (at_ : List (ByteArray × Int)) : Prop := ∀ p ∈ at_, wfI .i64 p.2
inductive TR (b : List (ByteArray × Bool)) : Term → Int → Prop
  | const (v : Val) (s : ByteArray) (a : List Term) (d : Int) : d ≤ 6 → chk v 1 = 0 → TR b (.mk 1 v s a) d
  | var (v : Val) (s : ByteArray) (a : List Term) (d : Int) : d ≤ 6 → mpHas .str .bool b s = true → TR b (.mk 2 v s a) d
  | field (v : Val) (s : ByteArray) (a : List Term) (d : Int) : d ≤ 6 → ix a 0 = some (hdT a) → a = [hdT a] → TR b (.mk 3 v s a) d
  | call (v : Val) (s : ByteArray) (a : List Term) (d : Int) : d ≤ 6 → ArOk s a.length → a.length ≤ 30 → (∀ x ∈ a, tchk b x (d + 1) = 0) → lstB b s (hdT a) = 0 → zrB v = true → TR b (.mk 4 v s a) d
end Pure


/- Terms: Eval in closed form. No program. -/
namespace Pure
open Esp Ev Go
set_option linter.unusedSimpArgs false
set_option linter.unusedVariables false
set_option linter.unusedSimpArgs false
set_option linter.unusedVariables false

def envF (g : Graph) : List (ByteArray × Int) → List (ByteArray × Bool) → List (ByteArray × Int) → Int × List (ByteArray × Bool) × List (ByteArray × Int)
  | [], b, a => (0, b, a)
  | p :: r, b, a => bif mpHas .str .bool b p.1 then (7, b, a) else bif (nodeIn g.nodes p.2).isNone && (edgeIn g.edges p.2).isNone then (5, b, a)
    else envF g r (mpPut .str .bool b p.1 (edgeIn g.edges p.2).isSome) (mpPut .str .i64 a p.1 p.2)
noncomputable def setR (g : Graph) (names : List ByteArray) (ids : List Int) : Int × List (ByteArray × Bool) × List (ByteArray × Int) :=
  bif chkG g != 0 then (chkG g, [], []) else bif ((names.length : Int) != (ids.length : Int)) || decide ((names.length : Int) > 30) then (2, [], []) else envF g (names.zip ids) [] []
structure EvOk (g : Graph) (names : List ByteArray) (ids : List Int) (t : Term) : Prop where
  gk : GOk g
  at_ : atOk (setR g names ids).2.2
  z : (setR g names ids).1 = 0
  c : tchk (setR g names ids).2.1 t 1 = 0
end Pure


/- Terms, by the document's own answer. No program. -/
namespace Pure
open Esp Ev Go
set_option linter.unusedSimpArgs false
set_option linter.unusedVariables false
set_option linter.unusedSimpArgs false
set_option linter.unusedVariables false

theorem pre_word : ∀ (l s r : List UInt8), (∀ c ∈ s, c ≠ 32) → l = s ++ 32 :: r → s = l.takeWhile (fun c => c != 32)
  | l, [], r, _, h => by subst h; rfl
  | l, c :: s, r, hs, h => by
    subst h
    have hc : (c != 32) = true := by simpa using hs c (by simp)
    rw [List.cons_append, List.takeWhile_cons, if_pos hc]
    exact congrArg (c :: ·) (pre_word (s ++ 32 :: r) s r (fun x hx => hs x (by simp [hx])) rfl)
theorem index_occ : ∀ (l sub : List UInt8), 0 ≤ Lib.index l sub → ∃ i, sub.isPrefixOf (l.drop i) = true
  | [], sub, h => by
    unfold Lib.index at h
    split at h
    · rename_i h1
      exact ⟨0, by cases sub <;> simp_all⟩
    · omega
  | b :: l, sub, h => by
    unfold Lib.index at h
    split at h
    · rename_i h1
      exact ⟨0, h1⟩
    · split at h
      · omega
      · rename_i h2
        obtain ⟨i, hi⟩ := index_occ l sub (by
          have := Lib.index_ge l sub
          simp at h2
          omega)
        exact ⟨i + 1, hi⟩
def wordsB : ByteArray := ⟨#[32, 109, 97, 116, 99, 104, 32, 119, 104, 101, 114, 101, 32, 114, 101, 116, 117, 114, 110, 32, 100, 105, 115, 116, 105, 110, 99, 116, 32, 97, 115, 32, 97, 110, 100, 32, 111, 114, 32, 110, 111, 116, 32, 105, 110, 32, 105, 115, 32, 110, 117, 108, 108, 32, 116, 114, 117, 101, 32, 102, 97, 108, 115, 101, 32, 99, 111, 117, 110, 116, 32, 115, 117, 109, 32, 109, 105, 110, 32, 109, 97, 120, 32, 115, 105, 122, 101, 32, 104, 101, 97, 100, 32, 99, 111, 97, 108, 101, 115, 99, 101, 32, 105, 100, 32, 116, 121, 112, 101, 32]⟩
theorem words_in : (List.range 111).all (fun i => match wordsB.data.toList.drop i with
    | 32 :: r => (r.takeWhile (fun c => c != 32)).isEmpty || resB ⟨(r.takeWhile (fun c => c != 32)).toArray⟩
    | _ => true) = true := by kernel_rfl
theorem res_words : ([[109, 97, 116, 99, 104], [119, 104, 101, 114, 101], [114, 101, 116, 117, 114, 110], [100, 105, 115, 116, 105, 110, 99, 116], [97, 115], [97, 110, 100], [111, 114], [110, 111, 116], [105, 110], [105, 115], [110, 117, 108, 108], [116, 114, 117, 101], [102, 97, 108, 115, 101], [99, 111, 117, 110, 116], [115, 117, 109], [109, 105, 110], [109, 97, 120], [115, 105, 122, 101], [104, 101, 97, 100], [99, 111, 97, 108, 101, 115, 99, 101], [105, 100], [116, 121, 112, 101]] : List (List UInt8)).all (fun w => contS wordsB ⟨(32 :: (w ++ [32])).toArray⟩) = true := by kernel_rfl
theorem resB_any (s : ByteArray) : resB s = ([[109, 97, 116, 99, 104], [119, 104, 101, 114, 101], [114, 101, 116, 117, 114, 110], [100, 105, 115, 116, 105, 110, 99, 116], [97, 115], [97, 110, 100], [111, 114], [110, 111, 116], [105, 110], [105, 115], [110, 117, 108, 108], [116, 114, 117, 101], [102, 97, 108, 115, 101], [99, 111, 117, 110, 116], [115, 117, 109], [109, 105, 110], [109, 97, 120], [115, 105, 122, 101], [104, 101, 97, 100], [99, 111, 97, 108, 101, 115, 99, 101], [105, 100], [116, 121, 112, 101]] : List (List UInt8)).any (fun w => seq s ⟨w.toArray⟩) := by
  unfold resB
  unfold q29z
  dsimp only
  rw [has_any _ s 200 (by decide) (by omega)]
  rfl
theorem cont_words {s : ByteArray} (hs : ∀ c ∈ s.data.toList, c ≠ 32) (hne : s.data.toList ≠ []) : contS wordsB ⟨(32 :: (s.data.toList ++ [32])).toArray⟩ = resB s := by
  have hself : (⟨s.data.toList.toArray⟩ : ByteArray) = s := by cases s; simp
  cases hc : contS wordsB ⟨(32 :: (s.data.toList ++ [32])).toArray⟩ with
  | true =>
    unfold contS Lib.contains at hc
    simp only [decide_eq_true_eq] at hc
    obtain ⟨i, hi⟩ := index_occ _ _ hc
    have hi2 : (32 :: (s.data.toList ++ [32])).isPrefixOf (wordsB.data.toList.drop i) = true := by simpa using hi
    obtain ⟨r, hr⟩ := List.isPrefixOf_iff_prefix.1 hi2
    have hlt : i < 111 := by
      by_cases h : i < 111
      · exact h
      · have hlen : wordsB.data.toList.length = 110 := by kernel_rfl
        have : wordsB.data.toList.drop i = [] := List.drop_eq_nil_of_le (by rw [hlen]; omega)
        rw [this] at hr
        simp at hr
    have hw := List.all_eq_true.1 words_in i (List.mem_range.2 hlt)
    have hd : wordsB.data.toList.drop i = 32 :: (s.data.toList ++ 32 :: r) := by rw [← hr]; simp
    rw [hd] at hw
    have hw : (((s.data.toList ++ 32 :: r).takeWhile (fun c => c != 32)).isEmpty || resB ⟨((s.data.toList ++ 32 :: r).takeWhile (fun c => c != 32)).toArray⟩) = true := hw
    rw [← pre_word _ s.data.toList r hs rfl, hself, Bool.or_eq_true] at hw
    rcases hw with h | h
    · exact absurd (List.isEmpty_iff.1 h) hne
    · exact h.symm
  | false =>
    cases hr : resB s with
    | false => rfl
    | true =>
      rw [resB_any, List.any_eq_true] at hr
      obtain ⟨w, hw, he⟩ := hr
      have h2 := List.all_eq_true.1 res_words w hw
      have hs2 : s.data.toList = w := by rw [(seq_iff _ _).1 he]
      rw [hs2] at hc
      rw [hc] at h2
      cases h2
theorem nm_blank {s : ByteArray} (h : nmB s = true) : (∀ c ∈ s.data.toList, c ≠ 32) ∧ s.data.toList ≠ [] ∧ s.size ≤ 12 := by
  have hsz := (nm_valid h).2
  unfold nmB at h
  cases hc : (seq s ⟨#[]⟩) || (decide ((s.size : Int) > 12)) with
  | true => rw [hc] at h; cases h
  | false =>
    rw [hc, cond_false] at h
    rw [Bool.or_eq_false_iff] at hc
    refine ⟨?_, fun hn => ?_, hsz⟩
    · have : ∀ (l : List UInt8) (i : Int), nmF i (bi l) = true → ∀ b ∈ l, b ≠ 32 := by
        intro l
        induction l with
        | nil => intro i _ b hb; cases hb
        | cons c r ih =>
          intro i h b hb
          rw [bi_cons, nmF] at h
          cases hk : (!(lttI (c.toNat : Int)) && (((i == 0) || (decide ((c.toNat : Int) < 48))) || (decide ((c.toNat : Int) > 57)))) with
          | true => rw [hk] at h; cases h
          | false =>
            rw [hk, cond_false] at h
            rcases List.mem_cons.1 hb with rfl | hb
            · rintro rfl
              cases hi : (i == 0) <;> (rw [hi] at hk; revert hk; decide)
            · exact ih (i + 1) h b hb
      exact this _ _ h
    · have : s = ⟨#[]⟩ := by cases s with | mk d => simp at hn; subst hn; rfl
      rw [this, seq_refl] at hc
      cases hc.1
theorem size_eq (s : ByteArray) : s.size = s.data.toList.length := by rw [Array.length_toList]; rfl
theorem isfree_ok (s : ByteArray) : q12z (s, ()) = some (nameB s, ()) := by
  unfold q12z nameB
  dsimp only
  rw [isName_ok, Option.bind_some]
  cases hn : nmB s with
  | false => rfl
  | true =>
    obtain ⟨h1, h2, h3⟩ := nm_blank hn
    have hne : seq s ⟨#[]⟩ = false := by
      cases h : seq s ⟨#[]⟩ with
      | false => rfl
      | true => rw [(seq_iff _ _).1 h] at h2; exact absurd rfl h2
    have hb : contS s ⟨#[32]⟩ = false := by
      cases h : contS s ⟨#[32]⟩ with
      | false => rfl
      | true =>
        unfold contS Lib.contains at h
        simp only [decide_eq_true_eq] at h
        obtain ⟨i, hi⟩ := index_occ _ _ h
        obtain ⟨r, hr⟩ := List.isPrefixOf_iff_prefix.1 hi
        have hm : (32 : UInt8) ∈ s.data.toList := List.mem_of_mem_drop (i := i) (by rw [← hr]; simp)
        exact absurd rfl (h1 32 hm)
    have c0 : containsN (s, (⟨#[32]⟩ : ByteArray), ()) = some (false, ()) := by
      unfold containsN
      dsimp only
      rw [show Nat.blt s.size 4294967281 = true from Nat.ble_eq_true_of_le (by omega), hb]
      rfl
    have k1 : cat? (⟨#[32]⟩ : ByteArray) s = some (⟨#[32]⟩ ++ s) := by
      unfold cat?
      have : (⟨#[32]⟩ : ByteArray).size = 1 := rfl
      rw [if_pos (by omega)]
    have z1 : ((⟨#[32]⟩ : ByteArray) ++ s).size = 1 + s.size := by rw [ByteArray.size_append]; rfl
    have k2 : cat? ((⟨#[32]⟩ : ByteArray) ++ s) ⟨#[32]⟩ = some (((⟨#[32]⟩ : ByteArray) ++ s) ++ ⟨#[32]⟩) := by
      unfold cat?
      have : (⟨#[32]⟩ : ByteArray).size = 1 := rfl
      rw [if_pos (by omega)]
    have e2 : (((⟨#[32]⟩ : ByteArray) ++ s) ++ ⟨#[32]⟩) = ⟨(32 :: (s.data.toList ++ [32])).toArray⟩ := by
      apply ByteArray.ext
      rw [ByteArray.data_append, ByteArray.data_append]
      simp
    have c2 : containsN (wordsB, (((⟨#[32]⟩ : ByteArray) ++ s) ++ ⟨#[32]⟩), ()) = some (resB s, ()) := by
      unfold containsN
      dsimp only
      rw [show Nat.blt wordsB.size 4294967281 = true by kernel_rfl, e2, cont_words h1 h2]
      rfl
    unfold q6z
    dsimp only
    rw [hne, c0]
    simp only [Bool.not_false, cond_true, Option.bind_some]
    rw [k1, Option.bind_some, k2, Option.bind_some, show (⟨#[32, 109, 97, 116, 99, 104, 32, 119, 104, 101, 114, 101, 32, 114, 101, 116, 117, 114, 110, 32, 100, 105, 115, 116, 105, 110, 99, 116, 32, 97, 115, 32, 97, 110, 100, 32, 111, 114, 32, 110, 111, 116, 32, 105, 110, 32, 105, 115, 32, 110, 117, 108, 108, 32, 116, 114, 117, 101, 32, 102, 97, 108, 115, 101, 32, 99, 111, 117, 110, 116, 32, 115, 117, 109, 32, 109, 105, 110, 32, 109, 97, 120, 32, 115, 105, 122, 101, 32, 104, 101, 97, 100, 32, 99, 111, 97, 108, 101, 115, 99, 101, 32, 105, 100, 32, 116, 121, 112, 101, 32]⟩ : ByteArray) = wordsB from rfl, c2]
    rfl
end Pure

/- The law TermNames of the plain functions. No program. -/
namespace Pure
open Esp Ev Go
set_option linter.unusedSimpArgs false
set_option linter.unusedVariables false
set_option linter.unusedSimpArgs false
set_option linter.unusedVariables false
theorem termed_ok3 (n : Nat) : q11z (n + 60) () = some (true, ()) := by kernel_rfl
theorem words_noblank : ([[109, 97, 116, 99, 104], [119, 104, 101, 114, 101], [114, 101, 116, 117, 114, 110], [100, 105, 115, 116, 105, 110, 99, 116], [97, 115], [97, 110, 100], [111, 114], [110, 111, 116], [105, 110], [105, 115], [110, 117, 108, 108], [116, 114, 117, 101], [102, 97, 108, 115, 101], [99, 111, 117, 110, 116], [115, 117, 109], [109, 105, 110], [109, 97, 120], [115, 105, 122, 101], [104, 101, 97, 100], [99, 111, 97, 108, 101, 115, 99, 101], [105, 100], [116, 121, 112, 101]] : List (List UInt8)).all (fun w => w.all (fun c => c != 32) && !w.isEmpty) = true := by decide
theorem resB_chars {s : ByteArray} (h : resB s = true) : (∀ c ∈ s.data.toList, c ≠ 32) ∧ s.data.toList ≠ [] := by
  rw [resB_any, List.any_eq_true] at h
  obtain ⟨w, hw, he⟩ := h
  have hs2 : s.data.toList = w := by rw [(seq_iff _ _).1 he]
  have h3 := List.all_eq_true.1 words_noblank w hw
  rw [Bool.and_eq_true] at h3
  rw [hs2]
  refine ⟨fun c hc => ?_, fun e => ?_⟩
  · have := List.all_eq_true.1 h3.1 c hc
    simpa using this
  · rw [e] at h3
    simp at h3
theorem blank_in {s : ByteArray} (h : (32 : UInt8) ∈ s.data.toList) : contS s ⟨#[32]⟩ = true := by
  unfold contS Lib.contains
  simp only [decide_eq_true_eq]
  have : ∀ l : List UInt8, (32 : UInt8) ∈ l → 0 ≤ Lib.index l [32] := by
    intro l
    induction l with
    | nil => intro h; cases h
    | cons b r ih =>
      intro h
      unfold Lib.index
      split
      · omega
      · rename_i hp
        have hb : (32 : UInt8) ∈ r := by
          rcases List.mem_cons.1 h with e | e
          · subst e
            simp at hp
          · exact e
        have := ih hb
        split
        · rename_i h2
          simp at h2
          omega
        · omega
  exact this _ h
theorem isreserved_ok (s : ByteArray) (hz : s.size ≤ 2000000) : q6z (s, ()) = some (resB s, ()) := by
  unfold q6z
  dsimp only
  cases hne : seq s ⟨#[]⟩ with
  | true =>
    have e := (seq_iff _ _).1 hne
    have : resB s = false := by
      cases h : resB s with
      | false => rfl
      | true =>
        have h2 := (resB_chars h).2
        rw [e] at h2
        exact absurd rfl h2
    rw [this]
    rfl
  | false =>
    have c0 : containsN (s, (⟨#[32]⟩ : ByteArray), ()) = some (contS s ⟨#[32]⟩, ()) := by
      unfold containsN
      dsimp only
      rw [show Nat.blt s.size 4294967281 = true from Nat.ble_eq_true_of_le (by omega)]
      rfl
    rw [c0]
    simp only [Bool.not_false, cond_true, Option.bind_some]
    cases hb : contS s ⟨#[32]⟩ with
    | true =>
      have : resB s = false := by
        cases h : resB s with
        | false => rfl
        | true =>
          have h2 := (resB_chars h).1
          unfold contS Lib.contains at hb
          simp only [decide_eq_true_eq] at hb
          obtain ⟨i, hi⟩ := index_occ _ _ hb
          obtain ⟨r, hr⟩ := List.isPrefixOf_iff_prefix.1 hi
          have hm : (32 : UInt8) ∈ s.data.toList := List.mem_of_mem_drop (i := i) (by rw [← hr]; simp)
          exact absurd rfl (h2 32 hm)
      rw [this]
      rfl
    | false =>
      have h1 : ∀ c ∈ s.data.toList, c ≠ 32 := by
        rintro c hc rfl
        rw [blank_in hc] at hb
        cases hb
      have h2 : s.data.toList ≠ [] := by
        intro e
        have : s = ⟨#[]⟩ := by cases s with | mk d => simp at e; subst e; rfl
        rw [this, seq_refl] at hne
        cases hne
      have k1 : cat? (⟨#[32]⟩ : ByteArray) s = some (⟨#[32]⟩ ++ s) := by
        unfold cat?
        have : (⟨#[32]⟩ : ByteArray).size = 1 := rfl
        rw [if_pos (by omega)]
      have z1 : ((⟨#[32]⟩ : ByteArray) ++ s).size = 1 + s.size := by rw [ByteArray.size_append]; rfl
      have k2 : cat? ((⟨#[32]⟩ : ByteArray) ++ s) ⟨#[32]⟩ = some (((⟨#[32]⟩ : ByteArray) ++ s) ++ ⟨#[32]⟩) := by
        unfold cat?
        have : (⟨#[32]⟩ : ByteArray).size = 1 := rfl
        rw [if_pos (by omega)]
      have e2 : (((⟨#[32]⟩ : ByteArray) ++ s) ++ ⟨#[32]⟩) = ⟨(32 :: (s.data.toList ++ [32])).toArray⟩ := by
        apply ByteArray.ext
        rw [ByteArray.data_append, ByteArray.data_append]
        simp
      have c2 : containsN (wordsB, (((⟨#[32]⟩ : ByteArray) ++ s) ++ ⟨#[32]⟩), ()) = some (resB s, ()) := by
        unfold containsN
        dsimp only
        rw [show Nat.blt wordsB.size 4294967281 = true by kernel_rfl, e2, cont_words h1 h2]
        rfl
      simp only [Bool.not_false, cond_true, Option.bind_some]
      rw [k1, Option.bind_some, k2, Option.bind_some, show (⟨#[32, 109, 97, 116, 99, 104, 32, 119, 104, 101, 114, 101, 32, 114, 101, 116, 117, 114, 110, 32, 100, 105, 115, 116, 105, 110, 99, 116, 32, 97, 115, 32, 97, 110, 100, 32, 111, 114, 32, 110, 111, 116, 32, 105, 110, 32, 105, 115, 32, 110, 117, 108, 108, 32, 116, 114, 117, 101, 32, 102, 97, 108, 115, 101, 32, 99, 111, 117, 110, 116, 32, 115, 117, 109, 32, 109, 105, 110, 32, 109, 97, 120, 32, 115, 105, 122, 101, 32, 104, 101, 97, 100, 32, 99, 111, 97, 108, 101, 115, 99, 101, 32, 105, 100, 32, 116, 121, 112, 101, 32]⟩ : ByteArray) = wordsB from rfl, c2]
      rfl
theorem fold_same (n : Nat) : ∀ (r p l : List ByteArray), l = p ++ r → l.length ≤ 9223372036854775807 → foldK (F_q4z_s0 (ρ := Bool × Unit) n (fun (v11, _) => some (v11, ()))) (fun (_, _) => some (true, ())) (p.length : Int) r (l, ()) = some (true, ())
  | [], p, l, _, _ => rfl
  | x :: r, p, l, hl, hz => by
    have e1 : ix l (p.length : Int) = some x := ix_ok (by rw [hl]; simp)
    rw [foldK]
    unfold F_q4z_s0
    dsimp only
    rw [e1, Option.bind_some, seq_refl]
    have := fold_same n r (p ++ [x]) l (by simp [hl]) hz
    rw [List.length_append, List.length_singleton] at this
    simp only [Bool.not_true, cond_false]
    have e2 : ((p.length + 1 : Nat) : Int) = (p.length : Int) + 1 := by omega
    rw [e2] at this
    exact this
theorem equalS_same (l : List ByteArray) (n : Nat) (hl : l.length ≤ 2000000) (hn : l.length < n) : q4z n (l, l, ()) = some (true, ()) := by
  unfold q4z
  dsimp only
  rw [show ((l.length : Int) != (l.length : Int)) = false by simp, cond_false, R_q4z_s0 n _ _ l n l (by omega) hn]
  exact fold_same n l [] l rfl (by omega)
mutual
theorem cnt_le : ∀ t : Term, cntT t ≤ tBk t
  | .mk k v s a => by have := cnts_le a; rw [cntT, tBk]; omega
theorem cnts_le : ∀ l : List Term, cntTs l ≤ tBks l
  | [] => by simp [cntTs, tBks]
  | x :: r => by have h1 := cnt_le x; have h2 := cnts_le r; rw [cntTs, tBks]; omega
end
mutual
theorem nm_of : ∀ t : Term, tOk t → nmOk t
  | .mk k v s a => fun h => by rw [tOk] at h; rw [nmOk]; exact ⟨h.2.2.1, nms_of a h.2.2.2.2⟩
theorem nms_of : ∀ l : List Term, tOks l → nmOks l
  | [] => fun _ => by simp [nmOks]
  | x :: r => fun h => by rw [tOks] at h; rw [nmOks]; exact ⟨nm_of x h.1, nms_of r h.2⟩
end
theorem TermNames_ok (s : ByteArray) (t : Term) (hs : s.size ≤ 2000000) (ht : cntT t ≤ 1900000) (hn : nmOk t) (n : Nat) (h : 2000400 ≤ n) : q7z n (s, t, ()) = some (true, ()) := by
  have ht1 : q11z n () = some (true, ()) := by
    obtain ⟨m, rfl⟩ : ∃ m, n = m + 60 := ⟨n - 60, by omega⟩
    exact termed_ok3 m
  simp only [q7z, ht1, Option.bind_some, cond_true, reserved_ok s n (by omega), isreserved_ok s hs, name_ok s n (by omega), isfree_ok s]
  have b1 : ∀ b : Bool, (b == b) = true := by decide
  rw [b1, b1, cond_true, cond_true]
  have et : Ev.Term.mk t.kind (Ev.Val.mk t.v.kind t.v.n t.v.s t.v.l) t.name t.a = t := by cases t with | mk k v s a => cases v; rfl
  rw [et]
  have e1 : freeN (t, ()) = some ((freeR t).map B1, ()) := by
    simp only [freeN, if_pos (show cntT t ≤ 1900000 ∧ nmOk t from ⟨ht, hn⟩), free_same]
  have e2 : freeOfN (t, ()) = some ((freeR t).map B1, ()) := by
    simp only [freeOfN, if_pos ht]
  rw [e1, e2]
  have hle := freeR_le t
  simp only [Option.bind_some]
  rw [equalS_same _ n (by rw [List.length_map]; omega) (by rw [List.length_map]; omega)]
  rfl
end Pure
