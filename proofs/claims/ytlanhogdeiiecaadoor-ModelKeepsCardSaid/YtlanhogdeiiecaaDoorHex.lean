/-
  digest.Hex at this program: each byte as two digits of sixteen.
-/
import Derived.Test.YtlanhogdeiiecaaDoorNeedle
import Derived.Lib.ConvBytes
import Derived.Deep.LoopGhost
set_option linter.unusedVariables false
set_option linter.unusedSimpArgs false
namespace Go.Proofs.YtlanhogdeiiecaaDoor
open Go.RowKit Go.Shelf Go.Lib

/-- A digit of sixteen. -/
def hexD (n : Nat) : UInt8 := (⟨#[48, 49, 50, 51, 52, 53, 54, 55, 56, 57, 97, 98, 99, 100, 101, 102]⟩ : ByteArray).data.getD n 0
def hexB (c : UInt8) : List UInt8 := [hexD (c.toNat / 16), hexD (c.toNat % 16)]
def hexL (l : List UInt8) : List UInt8 := l.flatMap hexB
/-- A text in digits of sixteen. -/
def hexS (s : ByteArray) : ByteArray := ⟨(hexL s.data.toList).toArray⟩
theorem hexL_length (l : List UInt8) : (hexL l).length = 2 * l.length := by
  induction l with
  | nil => rfl
  | cons a l ih => unfold hexL at ih ⊢; rw [List.flatMap_cons, List.length_append, ih]; simp [hexB]; omega
theorem hexS_size (s : ByteArray) : (hexS s).size = 2 * s.size := hexL_length s.data.toList
theorem hexL_snoc (l : List UInt8) (c : UInt8) : hexL (l ++ [c]) = hexL l ++ [hexD (c.toNat / 16)] ++ [hexD (c.toNat % 16)] := by
  unfold hexL; rw [List.flatMap_append]; simp [hexB]
theorem byteCells_one (l : List UInt8) (c : UInt8) : byteCells l ++ [.int .u8 c.toNat] = byteCells (l ++ [c]) := by simp [byteCells]

theorem hexIdx (i : Nat) (h : i < 16) : (⟨#[48, 49, 50, 51, 52, 53, 54, 55, 56, 57, 97, 98, 99, 100, 101, 102]⟩ : ByteArray)[i]'h = hexD i := by
  unfold hexD
  simp [Array.getD, h]
  rfl
theorem take_next (s : ByteArray) (k : Nat) (c : UInt8) (h : k < s.size) (hc : s.data.toList.getD k 0 = c) : s.data.toList.take (k + 1) = s.data.toList.take k ++ [c] := by
  rw [List.take_succ_eq_append_getElem (by simpa using h)]
  congr 2
  rw [← hc]
  simp [List.getD, h]
theorem bytesCells_at (w : World) (e : TypeId) (s : ByteArray) (j : Nat) (hj : j < s.size) : (bytesCells w e s)[j]? = some (.int .u8 (s.data.toList.getD j 0).toNat) := by
  simp [bytesCells, Array.getElem?_append, List.getD, hj]
theorem below_bytesWorld {B : Nat} {a w : World} (h : Below B a w) (hB : B ≤ w.heap.size) (e : TypeId) (s : ByteArray) : Below B a (bytesWorld w e s) :=
  h.trans ⟨rfl, rfl, rfl, by rw [bytesWorld_size]; omega, fun k hk => bytesWorld_at_old w e s k (by omega)⟩
theorem ret_str {a b : ByteArray} (h : a = b) : Ending.returned (.string a) = .returned (.string b) := by rw [h]
theorem keep_marked {b j m : Nat} {w w' : World} {cs : Array Value} {t : TypeId} (h : KeepB b w w') (hj : w.heap[j]? = some (.cells cs t (m, m + 1))) (hb : j ≠ b) : w'.heap[j]? = some (.cells cs t (m, m + 1)) := by
  rw [h j (Array.getElem?_eq_some_iff.1 hj).1 hb (fun cur e => by rw [hj] at e; simp at e)]
  exact hj

def HexRel (s : ByteArray) (w wr : World) (k : Nat) : Prop :=
  IsBuilder 62 5 w.heap.size w.heap.size (byteCells (hexL (s.data.toList.take k))) wr ∧ Below w.heap.size w wr ∧ w.heap.size + 2 ≤ wr.heap.size ∧ (∃ cs m, wr.heap[w.heap.size + 1]? = some (.cells cs 5 (m, m + 1)) ∧ ∀ j, j < s.size → cs[j]? = some (.int .u8 (s.data.toList.getD j 0).toNat))

set_option maxHeartbeats 1000000 in
theorem hex_any (s : ByteArray) (hs : s.size ≤ 1000000) (w : World) :
    Calls Tryd.prog 36 #[.string s] w (RetBelow (.string (hexS s)) w) := by
  have hcv := fun W : World => Lib.run_convert_string_bytes (P := Tryd.prog) W 9 60 5 s Tryd.underlying9 Tryd.underlying60 Tryd.underlying5
  go_enter Tryd.func36, Tryd.ntmps36
  go_wp2
  go_loopw [5, 9] (fun _ v9 wr => ∃ k : Nat, k ≤ s.size ∧ v9 = .int .i64 k ∧ HexRel s w wr k) (fun _ v9 _ => s.size - (intOf v9).toNat)
  case atStart =>
    have e : w.heap.size + 1 = (w.alloc (.cells #[.pointer none, .slice none 0 0] 62)).heap.size := by simp
    refine ⟨0, Nat.zero_le _, rfl, .inl ⟨Nat.le_refl _, .slice none 0 0, ?_, World.ownsRow_nil _ _ _ _, by simp [Value.ownBlock]⟩, ?_, ?_, ?_⟩
    · rw [bytesWorld_at_old _ _ _ _ (by simp)]
      exact heap_alloc_new w _
    · exact below_bytesWorld ((Below.refl _ w).alloc (Nat.le_refl _) _) (by simp) _ _
    · rw [bytesWorld_size]; simp
    · rw [e]
      exact ⟨_, _, bytesWorld_at_new _ _ _, fun j hj => bytesCells_at _ _ _ j hj⟩
  case round =>
    obtain ⟨k, hk, rfl, h1, h2, h3, cs, m, hcs, hat⟩ := hrel
    have HS := Lib.hid hcs
    have HA := Lib.hid hat
    by_cases hlt : k < s.size
    · have hcell : wr.cell? ⟨w.heap.size + 1, k, none⟩ = some (.int .u8 (s.data.toList.getD k 0).toNat) := by rw [Lib.cell_of_heap hcs]; exact hat k hlt
      clear hcs hat
      obtain ⟨c, hc⟩ : ∃ c : UInt8, s.data.toList.getD k 0 = c := ⟨_, rfl⟩
      rw [hc] at hcell
      have HC := Lib.hid hc
      clear hc
      have hq1 := c.toNat_lt
      have hq2 : c.toNat / 16 < 16 := by omega
      have hq3 : c.toNat % 16 < 16 := by omega
      have hz := h2.size
      have HL : Hid ((hexL (s.data.toList.take k)).length ≤ 2000000) := by
        unfold Hid
        rw [hexL_length, List.length_take]
        omega
      go_wp2_with fail
      refine (writeByte_any w.heap.size w.heap.size _ _ _ h1 (by rw [byteCells_length]; have := HL.out; omega) hz).mono ?_
      rintro e w1 ⟨rfl, g1, g2, g3⟩
      have G3 := Lib.hid g3
      clear g3
      have hz1 := g2.size
      go_wp2_with fail
      refine (writeByte_any w.heap.size w.heap.size _ _ _ (.inr g1) (by rw [List.length_append, byteCells_length]; have := HL.out; simp; omega) (by omega)).mono ?_
      rintro e w2 ⟨rfl, k1, k2, k3⟩
      have K3 := Lib.hid k3
      clear k3
      go_wp2_with fail
      go_roundw
      case rel =>
        refine ⟨k + 1, by omega, by go_num, ?_, ?_, ?_, ?_⟩
        · have ee : byteCells (hexL (s.data.toList.take (k + 1))) = (byteCells (hexL (s.data.toList.take k)) ++ [.int .u8 (hexD (c.toNat / 16)).toNat]) ++ [.int .u8 (hexD (c.toNat % 16)).toNat] := by
            rw [take_next s k c hlt HC.out, hexL_snoc, ← byteCells_one, ← byteCells_one]
          rw [ee, ← hexIdx _ hq2, ← hexIdx _ hq3]
          exact .inr k1
        · exact (h2.trans g2).trans k2
        · have := k2.size; omega
        · exact ⟨cs, m, keep_marked K3.out (keep_marked G3.out HS.out (by omega)) (by omega), HA.out⟩
      case measure => simp [intOf]; omega
    · clear hcs hat
      have hz := h2.size
      have e : k = s.size := by omega
      have HE := Lib.hid e
      clear e
      go_wp2_with (go_at_call 37; refine (Tryd.Builder_String_any _ _ _ _ h1 hz).mono ?_; rintro e w1 ⟨rfl, g1⟩)
      go_ret
      refine ⟨?_, h2.trans g1⟩
      exact ret_str (by rw [hexS, HE.out, List.take_of_length_le (by simp)])

end Go.Proofs.YtlanhogdeiiecaaDoor
