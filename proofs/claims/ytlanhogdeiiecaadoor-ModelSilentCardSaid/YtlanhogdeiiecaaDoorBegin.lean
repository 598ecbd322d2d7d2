/-
  digest.begin and digest.New (layer 3) at this program.
-/
import Derived.Test.YtlanhogdeiiecaaDoorBlock
set_option linter.unusedVariables false
set_option linter.unusedSimpArgs false
namespace Go.Proofs.YtlanhogdeiiecaaDoor
open Go.RowKit Go.Shelf Go.Lib

def begins : List U32 := [0x6a09e667, 0xbb67ae85, 0x3c6ef372, 0xa54ff53a, 0x510e527f, 0x9b05688c, 0x1f83d9ab, 0x5be0cd19]
set_option maxRecDepth 100000 in
theorem begin_any (w : World) : Calls Tryd.prog 74 #[] w fun e w' => e = .returned (.agg (begins.map W32).toArray) ∧ Below w.heap.size w w' := by
  go_enter Tryd.func74, Tryd.ntmps74
  go_wp2_with fail
  refine bodyPost_ret (v := .agg (begins.map W32).toArray) (by simp [results, Tryd.results74, go_sem, begins, W32]) rfl ⟨rfl, bl_alloc (Below.refl _ w) _⟩

/-- A digest's state in block d: the words behind it, the rest, the size. -/
def StateAt (W : World) (d : Nat) (s : List U32) (r : ByteArray) (n : Nat) : Prop := W.heap[d]? = some (.cells (s.map W32 ++ [Value.string r, Value.int .i64 n] : List Value).toArray 110 (0, 0))
set_option maxRecDepth 100000 in
theorem New_any (w : World) : Calls Tryd.prog 59 #[] w fun e w' => ∃ d, e = .returned (.pointer (some ⟨d, 0, none⟩)) ∧ w.heap.size ≤ d ∧ StateAt w' d begins ⟨#[]⟩ 0 ∧ Below w.heap.size w w' := by
  go_enter Tryd.func59, Tryd.ntmps59
  go_wp2_with (go_at_call 74; refine (begin_any _).mono ?_; rintro e w1 ⟨rfl, hb⟩)
  have hz := hb.size
  refine bodyPost_ret (v := .pointer (some ⟨w1.heap.size, 0, none⟩)) (by simp [results, Tryd.results59, go_sem]) rfl ⟨_, rfl, hb.size, ?_, bl_trans hb (bl_alloc (Below.refl _ w1) _)⟩
  exact heap_alloc_last w1 _

end Go.Proofs.YtlanhogdeiiecaaDoor
