/-
  pack.Number and pack.Text at this program: how many bytes they hand back, of numbers and texts that are not too great.
-/
import Derived.Test.YtlanhogdeiiecaaDoorBuild
import Derived.Lib.DecodeN
import Derived.Lib.SlBytesRow
import Derived.Laws.BitsAllLaws
import Derived.IntWalk
set_option linter.unusedVariables false
set_option linter.unusedSimpArgs false
namespace Go.Proofs.YtlanhogdeiiecaaDoor
open Go.RowKit Go.Shelf Go.Lib

theorem bsz (a : Array UInt8) : (ByteArray.mk a).size = a.size := rfl
/-- How many bytes a text of n bytes has with its length in front, where n is below 16384. -/
def textLen (n : Nat) : Nat := if n < 128 then n + 1 else n + 2
def numLen (n : Nat) : Nat := if n < 128 then 1 else 2
def NumPost (n : Nat) (w : World) (e : Ending) (w' : World) : Prop := ∃ r : ByteArray, e = .returned (.string r) ∧ r.size = numLen n ∧ Below w.heap.size w w'

theorem conv_row {W : World} {base : Nat} {v : Value} {l : List UInt8} (h : W.ownsRow base 5 1 v l.length (byteCells l)) (hn : l ≠ []) :
    (convert 60 9 v).run Tryd.prog W = .ok (.string ⟨l.toArray⟩) W := by
  rcases h.2 with ⟨_, h0⟩ | ⟨g, cap, cur, rfl, _, hh, _, _, _, ht⟩
  · exact absurd (List.eq_nil_of_length_eq_zero h0) hn
  · refine run_convert_bytes_back W 60 9 5 ⟨g, 0, none⟩ cap l Tryd.underlying60 Tryd.underlying5 Tryd.underlying9 (fun j hj => ?_)
    exact h.cells (g := g) rfl j _ (by simp [byteCells, hj])
theorem cell_one (w : World) (u : Value) (e : TypeId) : ∀ j x, [u][j]? = some x → (w.alloc (.cells #[u] e)).cell? ((⟨w.heap.size, 0, none⟩ : Addr).add j) = some x := by
  intro j x hj
  match j, hj with
  | 0, hj =>
    simp at hj
    subst hj
    have e1 : (⟨w.heap.size, 0, none⟩ : Addr).add 0 = ⟨w.heap.size, 0, none⟩ := by simp [Addr.add]
    rw [e1, Lib.cell_of_heap (heap_alloc_new w _)]
    rfl

theorem shr7 (m : Nat) : (m : Int) / 128 = ((m / 128 : Nat) : Int) := by omega

set_option maxRecDepth 100000 in
set_option maxHeartbeats 1000000 in
theorem num_any (n : Nat) (hn : n < 16384) (w : World) : Calls Tryd.prog 72 #[.int .i64 n] w (NumPost n w) := by
  obtain ⟨i0, hi, hz0, hz1, hz2⟩ := info_parts infoByte
  have h0 : ¬ (n : Int) < 0 := by omega
  have h1 : ¬ (72057594037927935 : Int) < (n : Int) := by omega
  go_enter Tryd.func72, Tryd.ntmps72
  go_wp2_with fail
  clear h0 h1
  go_loopw [0, 3] (fun v0 v3 wr => ∃ (m : Nat) (l : List UInt8), v0 = .int .i64 m ∧ ((l.length = 0 ∧ m = n) ∨ (l.length = 1 ∧ 128 ≤ n ∧ m = n / 128)) ∧ wr.ownsRow w.heap.size 5 1 v3 l.length (byteCells l) ∧ Below w.heap.size w wr) (fun v0 _ _ => (intOf v0).toNat)
  case atStart => exact ⟨n, [], rfl, .inl ⟨rfl, rfl⟩, World.ownsRow_nil _ _ _ _, Below.refl _ _⟩
  case round =>
    obtain ⟨m, l, rfl, hml, hown, hbl⟩ := hrel
    have HM := Lib.hid hml
    have HO := Lib.hid hown
    have hlen : l.length ≤ 1 := by omega
    have hm16 : m < 16384 := by omega
    have hz := hbl.size
    have hm2 : ¬ m < 128 → m = n ∧ l.length = 0 ∧ 128 ≤ n := by omega
    have HM2 := Lib.hid hm2
    clear hml hown hm2
    by_cases hlt : m < 128
    · have hlt' : ¬ (128 : Int) ≤ (m : Int) := by omega
      have e8 : (m : Int) % 256 = m := by omega
      go_wp2_with (at_builtin; refine wpList_append_own _ rfl _ _ 60 rfl w.heap.size 5 i0 (.int .u8 0) 1 1 Tryd.underlying60 hi hz0 hz1 hz2 rfl (by decide) _ _ _ rfl (HO.out.alloc _) ⟨wr.heap.size, 0, none⟩ 1 1 [.int .u8 _] rfl rfl (cell_one _ _ _) ?_ ?_ ?_ ?_ ?_)
      · first | rfl | (intro u hu; simp only [List.mem_singleton] at hu; subst hu; rfl)
      · unfold maxLen; omega
      · omega
      · first | omega | (simp; omega)
      intro v' w1 hown' hgrow _
      have hB : Below w.heap.size w w1 := (hbl.alloc hz _).grown hgrow (by simp; omega) (fun q hq => (HO.out.lt q hq).1)
      have e1 : byteCells l ++ [.int .u8 (m : Int)] = byteCells (l ++ [UInt8.ofNat m]) := by
        have : m % 256 = m := by omega
        simp [byteCells, this]
      have hown2 : w1.ownsRow w.heap.size 5 1 v' (l ++ [UInt8.ofNat m]).length (byteCells (l ++ [UInt8.ofNat m])) := by
        rw [← e1, List.length_append]
        exact hown'
      have hcv := conv_row hown2 (by simp)
      clear hown' hgrow hown2 e1 e8
      go_wp2_with fail
      go_ret
      refine ⟨_, rfl, ?_, hB⟩
      have := HM.out
      have e2 : (ByteArray.mk (l ++ [UInt8.ofNat m]).toArray).size = l.length + 1 := by
        rw [bsz]; simp
      rw [e2]
      unfold numLen
      split <;> omega
    · have hlt' : (128 : Int) ≤ (m : Int) := by omega
      obtain ⟨he, hl0, hn8⟩ := HM2.out hlt
      have HE := Lib.hid he
      clear he
      have es : (m : Int) / 128 = ((m / 128 : Nat) : Int) := shr7 m
      go_wp2_with (at_builtin; refine wpList_append_own _ rfl _ _ 60 rfl w.heap.size 5 i0 (.int .u8 0) 1 1 Tryd.underlying60 hi hz0 hz1 hz2 rfl (by decide) _ _ _ rfl (HO.out.alloc _) ⟨wr.heap.size, 0, none⟩ 1 1 [.int .u8 _] rfl rfl (cell_one _ _ _) ?_ ?_ ?_ ?_ ?_)
      · first | rfl | (intro u hu; simp only [List.mem_singleton] at hu; subst hu; rfl)
      · unfold maxLen; omega
      · omega
      · first | omega | (simp; omega)
      intro v' w1 hown' hgrow _
      have hB : Below w.heap.size w w1 := (hbl.alloc hz _).grown hgrow (by simp; omega) (fun q hq => (HO.out.lt q hq).1)
      clear es
      have HO' := Lib.hid hown'
      clear hown' hgrow
      go_wp2_with fail
      go_roundw
      case rel =>
        obtain rfl : l = [] := List.eq_nil_of_length_eq_zero hl0
        refine ⟨m / 128, [UInt8.ofNat (m % 256 ||| 128)], by rw [shr7], .inr ⟨rfl, hn8, by rw [HE.out]⟩, ?_, hB⟩
        have e1 : bits .or .u8 ((m : Int) % 256) 128 = ((m % 256 ||| 128 : Nat) : Int) := by
          have := u8_or_nat (m % 256) 128 (by omega) (by omega)
          rw [← this]
          congr 1
        have h8 : m % 256 ||| 128 < 256 := Nat.or_lt_two_pow (n := 8) (by omega) (by omega)
        have h := HO'.out
        rw [e1] at h
        have e2 : byteCells [] ++ [.int .u8 ((m % 256 ||| 128 : Nat) : Int)] = byteCells [UInt8.ofNat (m % 256 ||| 128)] := by
          simp [byteCells, Nat.mod_eq_of_lt h8]
        rw [e2] at h
        exact h
      case measure => simp [intOf]; omega

def TextPost (n : Nat) (w : World) (e : Ending) (w' : World) : Prop := ∃ r : ByteArray, e = .returned (.string r) ∧ r.size = textLen n ∧ Below w.heap.size w w'
theorem text_any (s : ByteArray) (hs : s.size < 16384) (w : World) : Calls Tryd.prog 57 #[.string s] w fun e w' => ∃ r : ByteArray, e = .returned (.string r) ∧ r.size = textLen s.size ∧ Below w.heap.size w w' := by
  go_enter Tryd.func57, Tryd.ntmps57
  go_wp2_with fail
  refine (num_any s.size hs _).mono ?_
  rintro e w1 ⟨r, rfl, hr, hb⟩
  have HR := Lib.hid hr
  have hr2 : r.size ≤ 2 := by rw [hr]; unfold numLen; split <;> omega
  clear hr
  go_wp2
  go_ret
  refine ⟨_, rfl, ?_, hb⟩
  rw [ByteArray.size_append, HR.out]
  unfold numLen textLen
  split <;> omega
end Go.Proofs.YtlanhogdeiiecaaDoor
