/-
  digest.Sum (layer 3) at this program: what it hands back.
-/
import Derived.Test.YtlanhogdeiiecaaDoorSum
set_option linter.unusedVariables false
set_option linter.unusedSimpArgs false
namespace Go.Proofs.YtlanhogdeiiecaaDoor
open Go.RowKit Go.Shelf Go.Lib

/-- What Sum hands back of a text. -/
def sumF (x : ByteArray) : ByteArray := sumS (wordsAt begins (⟨#[]⟩ ++ x) ((⟨#[]⟩ ++ x).size / 64)) ((⟨#[]⟩ ++ x).extract (64 * ((⟨#[]⟩ ++ x).size / 64)) (⟨#[]⟩ ++ x).size) (0 + x.size)

set_option maxRecDepth 100000 in
set_option maxHeartbeats 1000000 in
theorem dsum_any (x : ByteArray) (w : World) (hx : x.size < 16384) : Calls Tryd.prog 45 #[.string x] w (RetBelow (.string (sumF x)) w) := by
  have hz : (⟨#[]⟩ ++ x : ByteArray).size = x.size := by rw [ByteArray.size_append]; show 0 + x.size = x.size; omega
  have HZ := Lib.hid hz
  clear hz
  go_enter Tryd.func45, Tryd.ntmps45
  go_wp2_with fail
  refine (New_any _).mono ?_
  rintro e w1 ⟨d, rfl, hd, hst, hb⟩
  have HS := Lib.hid hst
  clear hst
  go_wp2_with fail
  refine (Add_any w w1 hb d hd begins rfl ⟨#[]⟩ x 0 (by omega) (by show 0 ≤ _; omega) (by omega) HS.out).mono ?_
  rintro e w2 ⟨rfl, hst, hb2⟩
  have hl := wordsAt_length begins rfl (⟨#[]⟩ ++ x) ((⟨#[]⟩ ++ x).size / 64)
  have hr : ((⟨#[]⟩ ++ x : ByteArray).extract (64 * ((⟨#[]⟩ ++ x).size / 64)) (⟨#[]⟩ ++ x).size).size ≤ 1000000 := by
    simp only [ByteArray.size_extract]
    have := HZ.out
    omega
  obtain ⟨s2, hs2⟩ : ∃ s2, s2 = wordsAt begins (⟨#[]⟩ ++ x) ((⟨#[]⟩ ++ x).size / 64) := ⟨_, rfl⟩
  obtain ⟨r2, hr2⟩ : ∃ r2, r2 = (⟨#[]⟩ ++ x : ByteArray).extract (64 * ((⟨#[]⟩ ++ x).size / 64)) (⟨#[]⟩ ++ x).size := ⟨_, rfl⟩
  rw [← hs2, ← hr2] at hst
  rw [← hs2] at hl
  rw [← hr2] at hr
  have HS2 := Lib.hid hst
  have HL := Lib.hid hl
  have E1 := Lib.hid hs2
  have E2 := Lib.hid hr2
  clear hst HS hb hs2 hr2 hl
  go_wp2_with fail
  refine (Sum_any w2 d s2 HL.out r2 (0 + x.size) (by omega) hr HS2.out).mono ?_
  rintro e w3 ⟨rfl, hb3⟩
  generalize hv : sumS s2 r2 (0 + x.size) = v
  have HV := Lib.hid hv
  clear hv
  go_wp2
  go_ret
  exact ⟨ret_str (by rw [← HV.out, E1.out, E2.out]; rfl), bl_trans hb2 hb3⟩

theorem sumS_size (s : List U32) (hs : s.length = 8) (r : ByteArray) (n : Nat) : (sumS s r n).size = 32 := by
  show (wordsB (wordsAt s (pad r n) ((pad r n).size / 64))).length = 32
  rw [wordsB_le, wordsAt_length s hs]

theorem sumOk : SumOk sumF := ⟨fun s w h => dsum_any s w h, fun s => by
  unfold sumF
  rw [sumS_size _ (wordsAt_length begins rfl _ _)]
  omega⟩
end Go.Proofs.YtlanhogdeiiecaaDoor
