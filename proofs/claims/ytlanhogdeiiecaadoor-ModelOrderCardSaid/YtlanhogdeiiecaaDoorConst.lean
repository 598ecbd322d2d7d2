/-
  digest.constants (layer 3) at this program, and begin.
-/
import Derived.Test.YtlanhogdeiiecaaDoorDig
import Derived.Deep.MidRow
import Derived.Deep.WholeRow
import Derived.Laws.CopyOwn
set_option linter.unusedVariables false
set_option linter.unusedSimpArgs false
namespace Go.Proofs.YtlanhogdeiiecaaDoor
open Go.RowKit Go.Shelf Go.Lib

def kk : List U32 := [0x428a2f98, 0x71374491, 0xb5c0fbcf, 0xe9b5dba5, 0x3956c25b, 0x59f111f1, 0x923f82a4, 0xab1c5ed5, 0xd807aa98, 0x12835b01, 0x243185be, 0x550c7dc3, 0x72be5d74, 0x80deb1fe, 0x9bdc06a7, 0xc19bf174, 0xe49b69c1, 0xefbe4786, 0x0fc19dc6, 0x240ca1cc, 0x2de92c6f, 0x4a7484aa, 0x5cb0a9dc, 0x76f988da, 0x983e5152, 0xa831c66d, 0xb00327c8, 0xbf597fc7, 0xc6e00bf3, 0xd5a79147, 0x06ca6351, 0x14292967, 0x27b70a85, 0x2e1b2138, 0x4d2c6dfc, 0x53380d13, 0x650a7354, 0x766a0abb, 0x81c2c92e, 0x92722c85, 0xa2bfe8a1, 0xa81a664b, 0xc24b8b70, 0xc76c51a3, 0xd192e819, 0xd6990624, 0xf40e3585, 0x106aa070, 0x19a4c116, 0x1e376c08, 0x2748774c, 0x34b0bcb5, 0x391c0cb3, 0x4ed8aa4a, 0x5b9cca4f, 0x682e6ff3, 0x748f82ee, 0x78a5636f, 0x84c87814, 0x8cc70208, 0x90befffa, 0xa4506ceb, 0xbef9a3f7, 0xc67178f2]
def zs64 : Array Value := #[Value.int IntKind.u32 0, Value.int IntKind.u32 0, Value.int IntKind.u32 0, Value.int IntKind.u32 0, Value.int IntKind.u32 0, Value.int IntKind.u32 0, Value.int IntKind.u32 0, Value.int IntKind.u32 0, Value.int IntKind.u32 0, Value.int IntKind.u32 0, Value.int IntKind.u32 0, Value.int IntKind.u32 0, Value.int IntKind.u32 0, Value.int IntKind.u32 0, Value.int IntKind.u32 0, Value.int IntKind.u32 0, Value.int IntKind.u32 0, Value.int IntKind.u32 0, Value.int IntKind.u32 0, Value.int IntKind.u32 0, Value.int IntKind.u32 0, Value.int IntKind.u32 0, Value.int IntKind.u32 0, Value.int IntKind.u32 0, Value.int IntKind.u32 0, Value.int IntKind.u32 0, Value.int IntKind.u32 0, Value.int IntKind.u32 0, Value.int IntKind.u32 0, Value.int IntKind.u32 0, Value.int IntKind.u32 0, Value.int IntKind.u32 0, Value.int IntKind.u32 0, Value.int IntKind.u32 0, Value.int IntKind.u32 0, Value.int IntKind.u32 0, Value.int IntKind.u32 0, Value.int IntKind.u32 0, Value.int IntKind.u32 0, Value.int IntKind.u32 0, Value.int IntKind.u32 0, Value.int IntKind.u32 0, Value.int IntKind.u32 0, Value.int IntKind.u32 0, Value.int IntKind.u32 0, Value.int IntKind.u32 0, Value.int IntKind.u32 0, Value.int IntKind.u32 0, Value.int IntKind.u32 0, Value.int IntKind.u32 0, Value.int IntKind.u32 0, Value.int IntKind.u32 0, Value.int IntKind.u32 0, Value.int IntKind.u32 0, Value.int IntKind.u32 0, Value.int IntKind.u32 0, Value.int IntKind.u32 0, Value.int IntKind.u32 0, Value.int IntKind.u32 0, Value.int IntKind.u32 0, Value.int IntKind.u32 0, Value.int IntKind.u32 0, Value.int IntKind.u32 0, Value.int IntKind.u32 0]
def ks64 : Array Value := #[Value.int IntKind.u32 1116352408, Value.int IntKind.u32 1899447441, Value.int IntKind.u32 3049323471, Value.int IntKind.u32 3921009573, Value.int IntKind.u32 961987163, Value.int IntKind.u32 1508970993, Value.int IntKind.u32 2453635748, Value.int IntKind.u32 2870763221, Value.int IntKind.u32 3624381080, Value.int IntKind.u32 310598401, Value.int IntKind.u32 607225278, Value.int IntKind.u32 1426881987, Value.int IntKind.u32 1925078388, Value.int IntKind.u32 2162078206, Value.int IntKind.u32 2614888103, Value.int IntKind.u32 3248222580, Value.int IntKind.u32 3835390401, Value.int IntKind.u32 4022224774, Value.int IntKind.u32 264347078, Value.int IntKind.u32 604807628, Value.int IntKind.u32 770255983, Value.int IntKind.u32 1249150122, Value.int IntKind.u32 1555081692, Value.int IntKind.u32 1996064986, Value.int IntKind.u32 2554220882, Value.int IntKind.u32 2821834349, Value.int IntKind.u32 2952996808, Value.int IntKind.u32 3210313671, Value.int IntKind.u32 3336571891, Value.int IntKind.u32 3584528711, Value.int IntKind.u32 113926993, Value.int IntKind.u32 338241895, Value.int IntKind.u32 666307205, Value.int IntKind.u32 773529912, Value.int IntKind.u32 1294757372, Value.int IntKind.u32 1396182291, Value.int IntKind.u32 1695183700, Value.int IntKind.u32 1986661051, Value.int IntKind.u32 2177026350, Value.int IntKind.u32 2456956037, Value.int IntKind.u32 2730485921, Value.int IntKind.u32 2820302411, Value.int IntKind.u32 3259730800, Value.int IntKind.u32 3345764771, Value.int IntKind.u32 3516065817, Value.int IntKind.u32 3600352804, Value.int IntKind.u32 4094571909, Value.int IntKind.u32 275423344, Value.int IntKind.u32 430227734, Value.int IntKind.u32 506948616, Value.int IntKind.u32 659060556, Value.int IntKind.u32 883997877, Value.int IntKind.u32 958139571, Value.int IntKind.u32 1322822218, Value.int IntKind.u32 1537002063, Value.int IntKind.u32 1747873779, Value.int IntKind.u32 1955562222, Value.int IntKind.u32 2024104815, Value.int IntKind.u32 2227730452, Value.int IntKind.u32 2361852424, Value.int IntKind.u32 2428436474, Value.int IntKind.u32 2756734187, Value.int IntKind.u32 3204031479, Value.int IntKind.u32 3329325298]
theorem ks64_is : ks64 = (kk.map W32).toArray := by kernel_rfl
theorem ks64_size : ks64.size = 64 := by kernel_rfl
theorem zs64_size : zs64.size = 64 := by kernel_rfl
theorem ks64_one : ks64.all (·.oneCell') = true := by kernel_rfl
theorem type64_u : Tryd.prog.underlying 129 = some (.array 64 82) := by kernel_rfl
theorem type64_n : (Tryd.prog.info? 129).map (·.size) = some 64 := by kernel_rfl
set_option maxRecDepth 100000 in
set_option maxHeartbeats 4000000 in
theorem constants_any (w : World) : Calls Tryd.prog 94 #[] w fun e w' => e = .returned (.agg (kk.map W32).toArray) ∧ Below w.heap.size w w' := by
  go_enter Tryd.func94, Tryd.ntmps94
  refine wp_seq (wp_region_lit ?_)
  refine wpList_plain rfl (fun K hK => ?_)
  go_simp
  refine hK _ _ ?_
  clear hK K
  go_simp
  refine wp_seq (wp_region_lit ?_)
  refine wpList_plain rfl (fun K hK => ?_)
  go_simp
  refine hK _ _ ?_
  clear hK K
  refine wpList_store_row rfl 129 _ _ rfl w.heap.size ks64 rfl rfl 129 zs64 (heap_alloc_last w _) (by rw [type64_n, ks64_size]) (by rw [ks64_size, zs64_size]) ks64_one ?_
  generalize hW : World.setRow _ _ _ = W
  have hr : W.heap[w.heap.size]? = some (.cells ks64 129 (0, 0)) := by rw [← hW]; exact setRow_heap _ _ _ _ _ _ (heap_alloc_last w _)
  have hb : Below w.heap.size w W := by rw [← hW]; exact below_setRow (bl_alloc (Below.refl _ w) _) (Nat.le_refl _) _
  clear hW
  go_wp2_with fail
  have ld : (loadVar 129 ⟨w.heap.size, 0, none⟩).run Tryd.prog W = .ok (.agg ks64) W := run_loadVar_row W w.heap.size _ 129 ks64 _ _ hr type64_u rfl (by rw [type64_n, ks64_size])
  refine bodyPost_ret (v := .agg ks64) ?_ rfl ⟨by rw [ks64_is], hb⟩
  simp [results, Tryd.results94, Act.put, asAddr, ld]

end Go.Proofs.YtlanhogdeiiecaaDoor
