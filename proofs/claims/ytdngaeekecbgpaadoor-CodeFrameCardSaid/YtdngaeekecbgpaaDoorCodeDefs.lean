/- What the functions of package code compute: the bytes of numbers, the sum, frames. Plain functions; no program. -/
import Derived.Test.YtdngaeekecbgpaaDoorRows
import Derived.KernelRfl
import Derived.Test.YtdngaeekecbgpaaDoorEspEnd
import Derived.Test.YtdngaeekecbgpaaDoorEspBin
namespace Go.Proofs.YtdngaeekecbgpaaDoor
open Go Esp
set_option linter.unusedSimpArgs false
set_option linter.unusedVariables false

/-- the byte at so many bits -/
def byteAt (n : Int) (k : Int) : UInt8 := UInt8.ofNat (IntKind.wrap .u8 (bshr .u64 n k)).toNat
/-- the lowest s bytes of a number, the highest first -/
def numB (n : Int) : Nat → List UInt8
  | 0 => []
  | s + 1 => byteAt n (8 * (s : Int)) :: numB n s

theorem wrap_u8_range (e : Int) : 0 ≤ IntKind.wrap .u8 e ∧ IntKind.wrap .u8 e < 256 := by
  simp only [IntKind.wrap, IntKind.bits, IntKind.signed]
  constructor <;> simp <;> omega
theorem u8_eq (e : Int) : IntKind.wrap .u8 e = ((UInt8.ofNat (IntKind.wrap .u8 e).toNat).toNat : Int) := by
  have h := wrap_u8_range e
  rw [UInt8.toNat_ofNat_of_lt' (by show _ < 256; omega)]
  omega
theorem byteAt_eq (n k : Int) : IntKind.wrap .u8 (bshr .u64 n k) = ((byteAt n k).toNat : Int) := by
  have h := wrap_u8_range (bshr .u64 n k)
  unfold byteAt
  rw [UInt8.toNat_ofNat_of_lt' (by show _ < 256; omega)]
  omega
theorem numB_length (n : Int) (s : Nat) : (numB n s).length = s := by
  induction s with
  | zero => rfl
  | succ s ih => simp [numB, ih]
theorem numB_step (n i : Int) (h : 0 ≤ i) : numB n (i + 1).toNat = byteAt n (8 * i) :: numB n i.toNat := by
  have e : (i + 1).toNat = i.toNat + 1 := by omega
  have e2 : (i.toNat : Int) = i := by omega
  rw [e, numB, e2]
theorem bytesD_snoc (l : List UInt8) (b : UInt8) (e : Int) (h : e = (b.toNat : Int)) : bytesD l ++ [.sc (.int .u8 e)] = bytesD (l ++ [b]) := by
  simp [bytesD, h]
theorem bytesD_app (l m : List UInt8) : bytesD l ++ bytesD m = bytesD (l ++ m) := by simp [bytesD]

def crcStep (n : Int) : Int := bxor .u32 (bshr .u32 n 1) (band .u32 3988292384 (IntKind.wrap .u32 (0 - band .u32 n 1)))
def crcIt : Nat → Int → Int
  | 0, n => n
  | k + 1, n => crcStep (crcIt k n)
def crcByte (n : Int) (b : UInt8) : Int := crcIt 8 (bxor .u32 n (IntKind.wrap .u32 (b.toNat : Int)))
def crcL (l : List UInt8) : Int := l.foldl crcByte 4294967295
def sumOf (b : ByteArray) : Int := IntKind.wrap .u64 (bnot .u32 (crcL b.data.toList))
theorem crcL_succ {l : List UInt8} {i : Nat} {b : UInt8} (h : l[i]? = some b) : crcL (l.take (i + 1)) = crcByte (crcL (l.take i)) b := by
  rw [take_succ_of h]
  simp [crcL]
/-- a number in eight bytes, so that they stand to each other as numbers do -/
def putI (n : Int) : List UInt8 := 2 :: numB (bxor .u64 (IntKind.wrap .u64 n) 9223372036854775808) 8
def intStr (n : Int) : ByteArray := ⟨(putI n).toArray⟩
theorem putI_length (n : Int) : (putI n).length = 9 := by simp [putI, numB_length]
def headOf (b : ByteArray) : List UInt8 := numB (IntKind.wrap .u64 (b.size : Int)) 4 ++ numB (sumOf b) 4
def frameOf (b : ByteArray) : ByteArray := ⟨(headOf b).toArray⟩ ++ b
theorem headOf_length (b : ByteArray) : (headOf b).length = 8 := by simp [headOf, numB_length]
end Go.Proofs.YtdngaeekecbgpaaDoor
