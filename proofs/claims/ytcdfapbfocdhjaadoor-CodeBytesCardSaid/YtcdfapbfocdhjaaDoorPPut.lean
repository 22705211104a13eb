
/- The bytes of values that are right, and back. No program. -/
import Derived.Test.YtcdfapbfocdhjaaDoorPValue
namespace Pure
open Esp Ev Go
set_option linter.unusedSimpArgs false
set_option linter.unusedVariables false
set_option linter.unusedSimpArgs false
set_option linter.unusedVariables false

mutual
def putL : Val → List UInt8
  | .mk k n s l =>
    if k = 1 ∨ k = 2 then UInt8.ofNat k.toNat :: numB (n + 9223372036854775808) 8
    else if k = 3 then 3 :: (numB (s.size : Int) 2 ++ s.data.toList)
    else if k = 4 then 4 :: UInt8.ofNat l.length :: putLs l
    else [UInt8.ofNat k.toNat]
def putLs : List Val → List UInt8
  | [] => []
  | x :: r => putL x ++ putLs r
end
def top (d : Int) : Nat := 4003 * 31 ^ (7 - d).toNat
theorem top_pos (d : Int) : 4003 ≤ top d := by
  unfold top
  have : 1 ≤ 31 ^ (7 - d).toNat := Nat.pow_pos (by decide)
  omega
theorem top_step (d : Int) (h : d ≤ 6) : top d = 31 * top (d + 1) := by
  unfold top
  rw [show (7 - d).toNat = (7 - (d + 1)).toNat + 1 by omega, Nat.pow_succ]
  omega
theorem putLs_le (l : List Val) (b : Nat) (h : ∀ x ∈ l, (putL x).length ≤ b) : (putLs l).length ≤ l.length * b := by
  induction l with
  | nil => simp [putLs]
  | cons x r ih =>
    have h1 := h x (by simp)
    have h2 := ih fun y hy => h y (by simp [hy])
    rw [putLs, List.length_append, List.length_cons, Nat.add_mul]
    omega
theorem putL_le {v : Val} {d : Int} (h : Right v d) : (putL v).length ≤ top d := by
  induction h with
  | null d => have := top_pos d; simp [putL]; omega
  | truth n d h => have := top_pos d; simp [putL, numB_length]; omega
  | int n d h => have := top_pos d; simp [putL, numB_length]; omega
  | text s d h1 h2 =>
    have := top_pos d
    have e : s.data.size = s.size := rfl
    simp [putL, numB_length]
    omega
  | list l d h1 h2 h3 ih =>
    have := putLs_le l _ ih
    have h4 := top_step d h2
    have h5 := top_pos (d + 1)
    have h6 : l.length * top (d + 1) ≤ 30 * top (d + 1) := Nat.mul_le_mul_right _ h1
    simp [putL]
    omega
theorem top_all (d : Int) (h : 1 ≤ d) : top d ≤ 100000000000000 := by
  have h1 : top d ≤ top 1 := by
    unfold top
    exact Nat.mul_le_mul_left _ (Nat.pow_le_pow_right (by decide) (by omega))
  have : top 1 ≤ 100000000000000 := by decide
  omega

/-! ## numbers -/
theorem number_loop {ρ : Type} (n : Nat) (a : Int) (kx : List Int × Unit → Option ρ) (kr : Unit → Option ρ) :
    ∀ (s : Nat) (o : List UInt8) (fuel : Nat), s < fuel → s ≤ 8 → o.length + s ≤ 140737488355328 →
      iterN (fun rc => q4z_s0 n rc kx kr) fuel (a, (s : Int) - 1, bi o, ()) = kx (bi (o ++ numB a s), ()) := by
  intro s
  induction s with
  | zero =>
    intro o fuel hf hs ho
    obtain ⟨m, rfl⟩ : ∃ m, fuel = m + 1 := ⟨fuel - 1, by omega⟩
    rw [iterN]
    simp only [q4z_s0]
    rw [show decide (((0 : Nat) : Int) - 1 ≥ 0) = false by decide]
    simp [numB]
  | succ s ih =>
    intro o fuel hf hs ho
    obtain ⟨m, rfl⟩ : ∃ m, fuel = m + 1 := ⟨fuel - 1, by omega⟩
    rw [iterN]
    simp only [q4z_s0]
    have e0 : (((s + 1 : Nat) : Int) - 1) = (s : Int) := by omega
    rw [e0, show decide ((s : Int) ≥ 0) = true by rw [decide_eq_true_iff]; omega]
    have e1 : IntKind.wrap .i64 (8 * (s : Int)) = 8 * (s : Int) := wrap64 (by omega) (by omega)
    have e2 : IntKind.wrap .i64 ((s : Int) - 1) = (s : Int) - 1 := wrap64 (by omega) (by omega)
    have e3 : shamt (8 * (s : Int)) = some (8 * (s : Int)) := by unfold shamt; rw [if_pos (by omega)]
    have e4 : bi o ++ [((byteAt a (8 * (s : Int))).toNat : Int)] = bi (o ++ [byteAt a (8 * (s : Int))]) := by rw [bi_app]; rfl
    simp only [cond_true, e1, e2, e3, Option.bind_some, byteAt_eq, e4]
    rw [ck_ok (room1 (by rw [bi_length]; simp; omega)), ih _ _ (by omega) (by omega) (by simp; omega)]
    simp [numB]
theorem number_ok (n : Nat) (a : Int) (s : Nat) (o : List UInt8) (hn : 10 ≤ n) (hs : s ≤ 8) (ho : o.length + s ≤ 140737488355328) : q4z n (a, (s : Int), bi o, ()) = some (bi (o ++ numB a s), ()) := by
  simp only [q4z]
  rw [wrap64 (by omega) (by omega)]
  exact number_loop n a _ _ s o n (by omega) hs ho
/-! ## bytes -/
theorem put_loop {ρ : Type} (self : Val × List Int × Unit → Option (List Int × Unit)) (n : Nat) (l : List Val) (kx : List Int × Unit → Option ρ) (kr : Unit → Option ρ) (hl : l.length ≤ 30)
    (hs : ∀ x ∈ l, ∀ o : List UInt8, o.length + (putL x).length ≤ 140737488355328 → self (x, bi o, ()) = some (bi (o ++ putL x), ())) :
    ∀ (r p : List Val), l = p ++ r → ∀ (fuel : Nat) (o : List UInt8), r.length < fuel → o.length + (putLs r).length ≤ 140737488355328 →
      iterN (fun rc => code_Put_s1 self n rc kx kr) fuel (l, (l.length : Int), (p.length : Int), bi o, ()) = kx (bi (o ++ putLs r), ()) := by
  intro r
  induction r with
  | nil =>
    intro p hp fuel o hf ho
    obtain ⟨m, rfl⟩ : ∃ m, fuel = m + 1 := ⟨fuel - 1, by omega⟩
    have e : decide ((p.length : Int) < (l.length : Int)) = false := by rw [decide_eq_false_iff_not]; subst hp; simp
    rw [iterN]
    simp only [code_Put_s1, e, cond_false, putLs, List.append_nil]
  | cons y r ih =>
    intro p hp fuel o hf ho
    obtain ⟨m, rfl⟩ : ∃ m, fuel = m + 1 := ⟨fuel - 1, by omega⟩
    have hlen : l.length = p.length + (r.length + 1) := by rw [hp]; simp
    have e : decide ((p.length : Int) < (l.length : Int)) = true := by rw [decide_eq_true_iff]; omega
    have e2 : ix l (p.length : Int) = some y := ix_ok (by rw [hp]; simp)
    have e3 : IntKind.wrap .i64 ((p.length : Int) + 1) = ((p ++ [y]).length : Int) := by rw [wrap64 (by omega) (by omega)]; simp
    have ho2 : o.length + ((putL y).length + (putLs r).length) ≤ 140737488355328 := by simpa [putLs] using ho
    have e4 := hs y (by rw [hp]; simp) o (by omega)
    have e5 := ih (p ++ [y]) (by simp [hp]) m (o ++ putL y) (by simp at hf; omega) (by simp; omega)
    rw [iterN]
    simp only [code_Put_s1, Val.eta, e, e2, e3, e4, cond_true, Option.bind_some]
    rw [e5, putLs, List.append_assoc]
theorem bi_snoc (o : List UInt8) (k : Int) (h0 : 0 ≤ k) (h1 : k ≤ 255) : bi o ++ [IntKind.wrap .u8 k] = bi (o ++ [UInt8.ofNat k.toNat]) := by
  have e : bi [UInt8.ofNat k.toNat] = [k] := by
    rw [bi_cons, bi_nil, UInt8.toNat_ofNat_of_lt' (by show _ < 256; omega)]
    congr 1
    omega
  rw [bi_app, wrapU8 h0 h1, e]

theorem put_ok {v : Val} {d : Int} (h : Right v d) : ∀ (n : Nat) (o : List UInt8), 1 ≤ d → d ≤ 7 → 40 ≤ n + d.toNat → o.length + (putL v).length ≤ 140737488355328 → code_Put n (v, bi o, ()) = some (bi (o ++ putL v), ()) := by
  induction h with
  | null d =>
    intro n o h1 h2 hn ho
    obtain ⟨m, rfl⟩ : ∃ m, n = m + 1 := ⟨n - 1, by omega⟩
    simp [putL] at ho
    rw [code_Put]
    unfold code_Put_b
    simp only [kind_mk]
    rw [bi_snoc o 0 (by omega) (by omega), ck_ok (room1 (by rw [bi_length]; simp; omega))]
    rfl
  | truth a d h =>
    intro n o h1 h2 hn ho
    obtain ⟨m, rfl⟩ : ∃ m, n = m + 1 := ⟨n - 1, by omega⟩
    simp [putL, numB_length] at ho
    rw [code_Put]
    unfold code_Put_b
    simp only [kind_mk, n_mk]
    rw [bi_snoc o 1 (by omega) (by omega), ck_ok (room1 (by rw [bi_length]; simp; omega)), top_flip a (by omega) (by omega)]
    have := number_ok m (a + 9223372036854775808) 8 (o ++ [UInt8.ofNat (1 : Int).toNat]) (by omega) (by omega) (by simp; omega)
    rw [show ((8 : Nat) : Int) = 8 from rfl] at this
    rw [show ((1 : Int) == 1) = true from rfl, cond_true, cond_true, this]
    simp [putL]
  | int a d h =>
    intro n o h1 h2 hn ho
    obtain ⟨m, rfl⟩ : ∃ m, n = m + 1 := ⟨n - 1, by omega⟩
    simp [putL, numB_length] at ho
    have hr : -9223372036854775808 ≤ a ∧ a ≤ 9223372036854775807 := by
      unfold wfI Lit.wf at h
      simp [IntKind.bits, IntKind.signed, IntKind.min, IntKind.max] at h
      omega
    rw [code_Put]
    unfold code_Put_b
    simp only [kind_mk, n_mk]
    rw [bi_snoc o 2 (by omega) (by omega), ck_ok (room1 (by rw [bi_length]; simp; omega)), top_flip a (by omega) (by omega)]
    have := number_ok m (a + 9223372036854775808) 8 (o ++ [UInt8.ofNat (2 : Int).toNat]) (by omega) (by omega) (by simp; omega)
    rw [show ((8 : Nat) : Int) = 8 from rfl] at this
    rw [show ((2 : Int) == 1) = false from rfl, show ((2 : Int) == 2) = true from rfl, cond_false, cond_true, this]
    simp [putL]
  | text s d h3 h4 =>
    intro n o h1 h2 hn ho
    obtain ⟨m, rfl⟩ : ∃ m, n = m + 1 := ⟨n - 1, by omega⟩
    have e : s.data.size = s.size := rfl
    simp [putL, numB_length] at ho
    rw [code_Put]
    unfold code_Put_b
    simp only [kind_mk, s_mk]
    rw [bi_snoc o 3 (by omega) (by omega), ck_ok (room1 (by rw [bi_length]; simp; omega)), wrapU64 (x := (s.size : Int)) (by omega) (by omega)]
    have := number_ok m (s.size : Int) 2 (o ++ [UInt8.ofNat (3 : Int).toNat]) (by omega) (by omega) (by simp; omega)
    rw [show ((2 : Nat) : Int) = 2 from rfl] at this
    rw [show ((3 : Int) == 1) = false from rfl, show ((3 : Int) == 2) = false from rfl, show ((3 : Int) == 3) = true from rfl, cond_false, cond_false, cond_true, this]
    simp only [Option.bind_some, bytesI_eq]
    rw [← bi_app, ck_ok (room1 (by rw [bi_length]; simp [numB_length]; omega))]
    simp [putL]
  | list l d h3 h4 h5 ih =>
    intro n o h1 h2 hn ho
    obtain ⟨m, rfl⟩ : ∃ m, n = m + 1 := ⟨n - 1, by omega⟩
    simp [putL] at ho
    rw [code_Put]
    unfold code_Put_b
    simp only [kind_mk, l_mk]
    rw [bi_snoc o 4 (by omega) (by omega), ck_ok (room1 (by rw [bi_length]; simp; omega)), bi_snoc _ (l.length : Int) (by omega) (by omega)]
    rw [show ((4 : Int) == 1) = false from rfl, show ((4 : Int) == 2) = false from rfl, show ((4 : Int) == 3) = false from rfl, show ((4 : Int) == 4) = true from rfl]
    simp only [cond_false, cond_true]
    rw [ck_ok (room1 (by rw [bi_length]; simp; omega))]
    have := put_loop (code_Put m) m l (fun (o15, _) => some (o15, ())) (fun (_) => none) h3 (fun x hx o ho => ih x hx m o (by omega) (by omega) (by omega) ho) l [] rfl m (o ++ [UInt8.ofNat (4 : Int).toNat] ++ [UInt8.ofNat (l.length : Int).toNat]) (by omega) (by simp; omega)
    refine this.trans ?_
    simp [putL]
end Pure
