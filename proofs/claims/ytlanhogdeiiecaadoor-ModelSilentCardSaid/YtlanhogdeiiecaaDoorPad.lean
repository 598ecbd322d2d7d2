/-
  digest: how a text is filled up (plain).
-/
import Derived.Test.YtlanhogdeiiecaaDoorMark
set_option linter.unusedVariables false
set_option linter.unusedSimpArgs false
namespace Go.Proofs.YtlanhogdeiiecaaDoor
open Go.RowKit Go.Lib

/-- How many zeros follow the mark behind n bytes. -/
def padZ (n : Nat) : Nat := (120 - (n + 1) % 64) % 64
theorem padZ_mod (n : Nat) : (n + 1 + padZ n) % 64 = 56 := by unfold padZ; omega
theorem padZ_ne {n j : Nat} (h : j < padZ n) : (n + 1 + j) % 64 ≠ 56 := by unfold padZ at h; omega
theorem padZ_lt (n : Nat) : padZ n < 64 := by unfold padZ; omega
/-- The size's eight bytes. -/
def lenB (n : Nat) : List UInt8 := (List.range 8).map fun k => UInt8.ofNat (8 * n / 2 ^ (8 * (7 - k)))
def padL (r : List UInt8) (n : Nat) : List UInt8 := r ++ [128] ++ List.replicate (padZ r.length) 0 ++ lenB n
theorem lenB_length (n : Nat) : (lenB n).length = 8 := by simp [lenB]
theorem padL_length (r : List UInt8) (n : Nat) : (padL r n).length = r.length + 1 + padZ r.length + 8 := by simp [padL, lenB_length]; omega
theorem padL_mod (r : List UInt8) (n : Nat) : (padL r n).length % 64 = 0 := by rw [padL_length]; have := padZ_mod r.length; omega
theorem padL_blocks (r : List UInt8) (n : Nat) : (padL r n).length = 64 * ((padL r n).length / 64) := by have := padL_mod r n; omega
theorem lenB_take (n k : Nat) (h : k < 8) : (lenB n).take (k + 1) = (lenB n).take k ++ [UInt8.ofNat (8 * n / 2 ^ (8 * (7 - k)))] := by
  rw [List.take_succ_eq_append_getElem (by rw [lenB_length]; exact h)]
  simp [lenB]
def pad (r : ByteArray) (n : Nat) : ByteArray := ⟨(padL r.data.toList n).toArray⟩
theorem pad_size (r : ByteArray) (n : Nat) : (pad r n).size = r.size + 1 + padZ r.size + 8 := padL_length r.data.toList n
theorem byteCells_len (l : List UInt8) : (byteCells l).length = l.length := by simp [byteCells]
theorem byteCells_add (a b : List UInt8) : byteCells (a ++ b) = byteCells a ++ byteCells b := by simp [byteCells]
theorem byteCells_get {l : List UInt8} {j : Nat} (h : j < l.length) : (byteCells l)[j]? = some (.int .u8 (l[j].toNat : Int)) := by simp [byteCells, h]
end Go.Proofs.YtlanhogdeiiecaaDoor
