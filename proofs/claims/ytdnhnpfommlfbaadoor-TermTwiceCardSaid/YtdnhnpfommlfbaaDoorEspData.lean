/- ESP, part 12: lists as cells. -/
import Derived.Test.YtdnhnpfommlfbaaDoorEspQ
namespace Esp
open Go
set_option linter.unusedSimpArgs false
set_option linter.unusedVariables false
variable [Tabs]

omit [Tabs] in
theorem at_of {α : Type} {l : List α} {i : Nat} (h : i < l.length) : ∃ x, l[i]? = some x := ⟨l[i], by simp [h]⟩
omit [Tabs] in
theorem str_at {s : ByteArray} {j : Int} (h0 : 0 ≤ j) (h : j < (s.size : Int)) : ∃ b, s.data.toList[j.toNat]? = some b := by
  have e : s.data.toList.length = s.size := by rw [Array.length_toList]; rfl
  exact at_of (by omega)

omit [Tabs] in
theorem drop_take_one {α β : Type} (f : α → β) {l : List α} {i : Nat} {x : α} (h : l[i]? = some x) : ((l.map f).drop (i * 1)).take 1 = [f x] := by
  obtain ⟨hi, rfl⟩ := List.getElem?_eq_some_iff.1 h
  rw [Nat.mul_one, List.drop_eq_getElem_cons (by simpa using hi)]
  simp

def encI (l : List Int) : List D := l.map fun n => .sc (.int .i64 n)
omit [Tabs] in
theorem encI_at {l : List Int} {i : Nat} {x : Int} (h : l[i]? = some x) : ((encI l).drop (i * 1)).take 1 = [.sc (.int .i64 x)] := drop_take_one _ h
omit [Tabs] in
theorem encI_length (l : List Int) : (encI l).length = l.length := by simp [encI]

def encS (l : List ByteArray) : List D := l.map fun n => .sc (.string n)
omit [Tabs] in
theorem encS_at {l : List ByteArray} {i : Nat} {x : ByteArray} (h : l[i]? = some x) : ((encS l).drop (i * 1)).take 1 = [.sc (.string x)] := drop_take_one _ h

omit [Tabs] in
theorem bytesD_at {l : List UInt8} {i : Nat} {x : UInt8} (h : l[i]? = some x) : ((bytesD l).drop (i * 1)).take 1 = [.sc (.int .u8 x.toNat)] := drop_take_one _ h

omit [Tabs] in
theorem take_succ_of {α : Type} {l : List α} {i : Nat} {x : α} (h : l[i]? = some x) : l.take (i + 1) = l.take i ++ [x] := by
  obtain ⟨hi, rfl⟩ := List.getElem?_eq_some_iff.1 h
  rw [List.take_succ_eq_append_getElem hi]

end Esp
