/-
  digest (layer 3) at this program: words of 32 bits.
-/
import Derived.Test.YtlanhogdeiiecaaDoorModel4
import Derived.Deep.CutBlock
import Derived.Deep.DeepCutAuto
import Derived.Laws.BitsAllLaws
set_option linter.unusedVariables false
set_option linter.unusedSimpArgs false
namespace Go.Proofs.YtlanhogdeiiecaaDoor
open Go.RowKit Go.Shelf Go.Lib

abbrev U32 := BitVec 32
def W32 (x : U32) : Value := .int .u32 x.toNat
theorem b_xor (x y : U32) : bits .xor .u32 (x.toNat : Int) (y.toNat : Int) = ((x ^^^ y).toNat : Int) := by rw [u32_xor_nat _ _ x.isLt y.isLt]; simp
theorem b_and (x y : U32) : bits .and .u32 (x.toNat : Int) (y.toNat : Int) = ((x &&& y).toNat : Int) := by rw [u32_and_nat _ _ x.isLt y.isLt]; simp
theorem b_or (x y : U32) : bits .or .u32 (x.toNat : Int) (y.toNat : Int) = ((x ||| y).toNat : Int) := by rw [u32_or_nat _ _ x.isLt y.isLt]; simp
theorem b_add (x y : U32) : ((x.toNat : Int) + (y.toNat : Int)) % 4294967296 = ((x + y).toNat : Int) := by rw [BitVec.toNat_add]; simp
theorem b_shr (x : U32) (n : Nat) : (x.toNat : Int) / ((2 ^ n : Nat) : Int) = ((x >>> n).toNat : Int) := by rw [BitVec.toNat_ushiftRight, Nat.shiftRight_eq_div_pow]; simp
theorem b_shl (x : U32) (n : Nat) : ((x.toNat : Int) * ((2 ^ n : Nat) : Int)) % 4294967296 = ((x <<< n).toNat : Int) := by rw [BitVec.toNat_shiftLeft, Nat.shiftLeft_eq]; simp
/-- A word turned to the right. -/
def rotr (x : U32) (n : Nat) : U32 := x >>> n ||| x <<< (32 - n)

set_option maxRecDepth 100000 in
set_option maxHeartbeats 2000000 in
theorem right_any (x : U32) (n : Int) (hn : n = 2 ∨ n = 6 ∨ n = 7 ∨ n = 11 ∨ n = 13 ∨ n = 17 ∨ n = 18 ∨ n = 19 ∨ n = 22 ∨ n = 25) (w : World) :
    Calls Tryd.prog 93 #[.int .u32 x.toNat, .int .i64 n] w fun e w' => e = .returned (.int .u32 (rotr x n.toNat).toNat) ∧ ∃ q, w' = w.drewN q := by
  have hx := x.isLt
  rcases hn with rfl | rfl | rfl | rfl | rfl | rfl | rfl | rfl | rfl | rfl
  all_goals
    go_enter Tryd.func93, Tryd.ntmps93
    go_wp2
    go_quiet (fail)
    go_wp2
    go_ret
    refine ⟨ret_int ?_, _, rfl⟩
    unfold rotr
    rw [← b_or, ← b_shr, ← b_shl]
    rfl

end Go.Proofs.YtlanhogdeiiecaaDoor
