/-
  (*digest.State).Sum (layer 3) at this program.
-/
import Derived.Test.YtlanhogdeiiecaaDoorWrite
import Derived.Test.YtlanhogdeiiecaaDoorAdd
import Derived.Test.YtlanhogdeiiecaaDoorState
import Derived.Lib.SlBytesRow
set_option linter.unusedVariables false
set_option linter.unusedSimpArgs false
namespace Go.Proofs.YtlanhogdeiiecaaDoor
open Go.RowKit Go.Shelf Go.Lib

/-- The length that a slice value tells. -/
def lenV : Value → Nat
  | .slice _ n _ => n
  | _ => 0

/-- The bytes behind the text, its mark and k zeros; behind j bytes of the size. -/
def endZ (r : ByteArray) (k : Nat) : List UInt8 := r.data.toList ++ [128] ++ List.replicate k 0
def endB (r : ByteArray) (n j : Nat) : List UInt8 := endZ r (padZ r.size) ++ (lenB n).take j
theorem endZ_len (r : ByteArray) (k : Nat) : (byteCells (endZ r k)).length = r.size + 1 + k := by simp [byteCells, endZ]; omega
theorem endZ_next (r : ByteArray) (k : Nat) : byteCells (endZ r (k + 1)) = byteCells (endZ r k) ++ [.int .u8 0] := by
  unfold endZ
  rw [List.replicate_succ', ← List.append_assoc, byteCells_add]
  rfl
theorem endB_zero (r : ByteArray) (n : Nat) : endB r n 0 = endZ r (padZ r.size) := by simp [endB]
theorem endB_len (r : ByteArray) (n j : Nat) (hj : j ≤ 8) : (byteCells (endB r n j)).length = r.size + 1 + padZ r.size + j := by
  have := endZ_len r (padZ r.size)
  simp [byteCells, endB, lenB_length] at this ⊢
  omega
theorem endB_next (r : ByteArray) (n j : Nat) (hj : j < 8) : byteCells (endB r n (j + 1)) = byteCells (endB r n j) ++ [.int .u8 ((8 * n / 2 ^ (8 * (7 - j)) % 256 : Nat) : Int)] := by
  unfold endB
  rw [lenB_take n j hj, ← List.append_assoc, byteCells_add]
  simp [byteCells]
theorem endB_done (r : ByteArray) (n : Nat) : endB r n 8 = padL r.data.toList n := by
  unfold endB padL endZ
  rw [List.take_of_length_le (by rw [lenB_length]; exact Nat.le_refl _)]
  rfl

theorem cell_new (w : World) (u : Value) (e : TypeId) : (w.alloc (.cells #[u] e)).cell? ⟨w.heap.size, 0, none⟩ = some u := by rw [Lib.cell_of_heap (heap_alloc_last w _)]; rfl
theorem own_num {w : World} {base : Nat} {e : TypeId} {v : Value} {xs : List Value} {a b : Int} (h : OwnsM w base e v (xs ++ [.int .u8 a])) (hab : a = b) : OwnsM w base e v (xs ++ [.int .u8 b]) := hab ▸ h
theorem ownsM_len {w : World} {base : Nat} {e : TypeId} {v : Value} {xs : List Value} (h : OwnsM w base e v xs) : lenV v = xs.length := by
  obtain ⟨g, cap, cur, fz, rfl, _⟩ := h
  rfl

theorem slice_head (g o n c : Nat) (hc : 64 ≤ c) (W : World) : (Instr.slice 60 (.slice (some ⟨g, o, none⟩) n c) none (some (.int .i64 64)) none).run Tryd.prog W = .ok (.slice (some ⟨g, o, none⟩) 64 c) W := by
  have h : (64 : Int) ≤ (c : Int) := by omega
  go_simp
theorem slice_tail (g o n c : Nat) (hn : 64 ≤ n) (hc : n ≤ c) : ∃ A, (64 < n → A = some ⟨g, o + 64, none⟩) ∧ ∀ W : World, (Instr.slice 60 (.slice (some ⟨g, o, none⟩) n c) (some (.int .i64 64)) none none).run Tryd.prog W = .ok (.slice A (n - 64) (c - 64)) W := by
  have h : (64 : Int) ≤ (n : Int) := by omega
  by_cases e : c = 64
  · refine ⟨some ⟨g, o, none⟩, fun h => by omega, fun W => ?_⟩
    subst e
    go_simp
  · refine ⟨some ⟨g, o + 64, none⟩, fun _ => rfl, fun W => ?_⟩
    go_simp

/-- The bytes of a word. -/
def wordB (x : U32) : List UInt8 := [UInt8.ofNat (x.toNat / 16777216), UInt8.ofNat (x.toNat / 65536), UInt8.ofNat (x.toNat / 256), UInt8.ofNat x.toNat]
def wordsB (l : List U32) : List UInt8 := l.flatMap wordB
/-- What Sum hands back of a state. -/
def sumS (s : List U32) (r : ByteArray) (n : Nat) : ByteArray := ⟨(wordsB (wordsAt s (pad r n) ((pad r n).size / 64))).toArray⟩

/-- What holds between two rounds over the blocks. -/
structure BlkR (w : World) (g b5 : Nat) (PB : ByteArray) (s : List U32) (k : Nat) (W : World) : Prop where
  row : RowW W b5 107 (wordsAt s PB k)
  bytes : Bytes W g 0 PB
  below : Below w.heap.size w W
  far : g < b5
  new : w.heap.size ≤ g

theorem bytes_below {W W' : World} {g : Nat} {PB : ByteArray} (h : Bytes W g 0 PB) (hg : g < W.heap.size) (hb : ∀ j, j < W.heap.size → W'.heap[j]? = W.heap[j]?) : Bytes W' g 0 PB := fun i hi => by
  rw [← h i hi]
  unfold World.cell?
  rw [hb g hg]

theorem eight_set {W2 : World} {d : Nat} {x0 x1 x2 x3 x4 x5 x6 x7 b0 b1 b2 b3 b4 b5 b6 b7 : U32} (h : RowW W2 d 107 [x0, x1, x2, x3, x4, x5, x6, x7]) :
    RowW ((((((((W2.setCell ⟨d, 0, none⟩ (.int .u32 b0.toNat)).setCell ⟨d, 1, none⟩ (.int .u32 b1.toNat)).setCell ⟨d, 2, none⟩ (.int .u32 b2.toNat)).setCell ⟨d, 3, none⟩ (.int .u32 b3.toNat)).setCell ⟨d, 4, none⟩ (.int .u32 b4.toNat)).setCell ⟨d, 5, none⟩ (.int .u32 b5.toNat)).setCell ⟨d, 6, none⟩ (.int .u32 b6.toNat)).setCell ⟨d, 7, none⟩ (.int .u32 b7.toNat)) d 107 [b0, b1, b2, b3, b4, b5, b6, b7] :=
  (((((((h.set 0 b0).set 1 b1).set 2 b2).set 3 b3).set 4 b4).set 5 b5).set 6 b6).set 7 b7
theorem blk_round {w W W2 : World} {g d k : Nat} {PB : ByteArray} {s : List U32} {x0 x1 x2 x3 x4 x5 x6 x7 b0 b1 b2 b3 b4 b5 b6 b7 : U32} (h : BlkR w g d PB s k W) (hv : wordsAt s PB k = [x0, x1, x2, x3, x4, x5, x6, x7])
    (hbF : blockF [x0, x1, x2, x3, x4, x5, x6, x7] (PB.extract (64 * k) (64 * k + 64)) = [b0, b1, b2, b3, b4, b5, b6, b7]) (hb : Below W.heap.size W W2) :
    BlkR w g d PB s (k + 1) ((((((((W2.setCell ⟨d, 0, none⟩ (.int .u32 b0.toNat)).setCell ⟨d, 1, none⟩ (.int .u32 b1.toNat)).setCell ⟨d, 2, none⟩ (.int .u32 b2.toNat)).setCell ⟨d, 3, none⟩ (.int .u32 b3.toNat)).setCell ⟨d, 4, none⟩ (.int .u32 b4.toNat)).setCell ⟨d, 5, none⟩ (.int .u32 b5.toNat)).setCell ⟨d, 6, none⟩ (.int .u32 b6.toNat)).setCell ⟨d, 7, none⟩ (.int .u32 b7.toNat)) := by
  have hrow := h.row
  rw [hv] at hrow
  have hdl := hrow.lt
  have hne : g ≠ d := by have := h.far; omega
  have h2 : RowW W2 d 107 [x0, x1, x2, x3, x4, x5, x6, x7] := (hb.block d hdl).trans hrow
  have hgl : g < W.heap.size := Nat.lt_trans h.far hdl
  have hd2 : w.heap.size ≤ d := by have := h.new; have := h.far; omega
  have hby := bytes_below h.bytes hgl hb.block
  refine ⟨?_, ?_, ?_, h.far, h.new⟩
  · have e1 : wordsAt s PB (k + 1) = [b0, b1, b2, b3, b4, b5, b6, b7] := by
      rw [wordsAt, hv]
      exact hbF
    rw [e1]
    exact eight_set h2
  · intro i hi
    rw [← hby i hi]
    have far : ∀ (V : World) (o : Nat) (u : Value), (V.setCell ⟨d, o, none⟩ u).heap[g]? = V.heap[g]? := fun V o u => Below.heap_setCell V _ u g hne
    unfold World.cell?
    rw [far, far, far, far, far, far, far, far]
  · repeat (refine bl_set ?_ (by exact hd2) _)
    exact bl_trans h.below hb

theorem cells_four (w : World) (a b c d : Value) (e : TypeId) : ∀ j u, [a, b, c, d][j]? = some u → (w.alloc (.cells #[a, b, c, d] e)).cell? ⟨w.heap.size, j, none⟩ = some u := by
  intro j u h
  rw [Lib.cell_of_heap (heap_alloc_last w _)]
  simpa using h
theorem isb_lt {T e : TypeId} {B b : Nat} {bs : List Value} {w : World} (h : IsBuilder T e B b bs w) : b < w.heap.size := by
  rcases h with ⟨_, v, h2, _⟩ | ⟨_, v, h2, _⟩ <;> exact lt_some h2
theorem wordsB_le (l : List U32) : (wordsB l).length = 4 * l.length := by
  induction l with
  | nil => rfl
  | cons x r ih => unfold wordsB at ih ⊢; rw [List.flatMap_cons, List.length_append, ih]; simp [wordB]; omega
theorem isb_words {T e : TypeId} {B b : Nat} {v : Value} {xs ys : List Value} {w : World} (h : BuilderAt T e B b v xs w) (hxy : xs = ys) : BuilderAt T e B b v ys w := hxy ▸ h
theorem below_alloc' {B : Nat} {w : World} (h : B ≤ w.heap.size) (o : Obj) : Below B w (w.alloc o) := (Below.refl B w).alloc h o

set_option maxRecDepth 100000 in
set_option maxHeartbeats 8000000 in
theorem Sum_any (w : World) (d : Nat) (s : List U32) (hs : s.length = 8) (r : ByteArray) (n : Nat) (hn : n ≤ 1000000) (hr : r.size ≤ 1000000) (h : StateAt w d s r n) :
    Calls Tryd.prog 61 #[.pointer (some ⟨d, 0, none⟩)] w (RetBelow (.string (sumS s r n)) w) := by
  obtain ⟨i0, hi, hz0, hz1, hz2⟩ := info_parts infoByte
  obtain ⟨s0, s1, s2, s3, s4, s5, s6, s7, rfl⟩ := eight hs
  have a8 : w.cell? ⟨d, 8, none⟩ = some (.string r) := by rw [Lib.cell_of_heap h]; rfl
  have a9 : w.cell? ⟨d, 9, none⟩ = some (.int .i64 n) := by rw [Lib.cell_of_heap h]; rfl
  have A9 := Lib.hid a9
  clear a9
  have hdl : d < w.heap.size := lt_some h
  have hcv := fun W : World => Lib.run_convert_string_bytes (P := Tryd.prog) W 9 60 5 (r ++ ⟨#[128]⟩) Tryd.underlying9 Tryd.underlying60 Tryd.underlying5
  have hrz : (r ++ ⟨#[128]⟩ : ByteArray).size = r.size + 1 := by simp [ByteArray.size_append]; rfl
  have hm := ownsM_conv w w.heap.size (Nat.le_refl _) 5 (r ++ ⟨#[128]⟩) (by unfold maxLen; omega)
  have hbl := below_bytesWorld (Below.refl w.heap.size w) (Nat.le_refl _) 5 (r ++ ⟨#[128]⟩)
  have HM := Lib.hid hm
  have HB := Lib.hid hbl
  have HZ := Lib.hid hrz
  have HS := Lib.hid h
  clear h hs hm hbl hrz
  go_enter Tryd.func61, Tryd.ntmps61
  go_wp2_with fail
  go_loopw [3] (fun v3 wr => ∃ k : Nat, k ≤ padZ r.size ∧ OwnsM wr w.heap.size 5 v3 (byteCells (endZ r k)) ∧ Below w.heap.size w wr) (fun v3 _ => r.size + 1 + padZ r.size - lenV v3)
  case atStart => 
    refine ⟨0, Nat.zero_le _, ?_, HB.out⟩
    have := HM.out
    rw [HZ.out] at this
    have e : byteCells (r ++ ⟨#[128]⟩ : ByteArray).data.toList = byteCells (endZ r 0) := by simp [endZ]
    rw [← e]
    exact this
  case round =>
    obtain ⟨k, hk, hown, hbl⟩ := hrel
    have hL := endZ_len r k
    obtain ⟨g, cap, hv, hcap, hmx, hgb, hcell⟩ := hown.cells
    rw [hL] at hv hcap
    subst hv
    have HL := Lib.hid hL
    have HO := Lib.hid hown
    clear hL hown hcell
    have hwz := hbl.size
    have hp := padZ_lt r.size
    by_cases hlt : k < padZ r.size
    · have hne := padZ_ne hlt
      go_wp2_with (at_builtin; refine wpList_append_ownM _ rfl _ _ 60 rfl w.heap.size 5 i0 (.int .u8 0) Tryd.underlying60 hi hz0 hz1 hz2 rfl _ _ rfl (HO.out.alloc _) ⟨wr.heap.size, 0, none⟩ 1 (.int .u8 0) rfl ?c1 rfl ?c3 ?c5 ?_)
      case c1 => simp
      case c3 => rw [HL.out]; omega
      case c5 => simp; omega
      intro v' w1 hown' hgrow
      have hl := ownsM_len hown'
      have HO' := Lib.hid hown'
      have HG := Lib.hid hgrow
      have HLL := Lib.hid hl
      clear hown' hgrow hl
      go_wp2_with fail
      go_roundw
      case rel =>
        refine ⟨k + 1, by omega, ?_, hbl.alloc hbl.size _ |>.grown HG.out (by simp; omega) (fun q hq => (HO.out.lt q hq).1)⟩
        rw [endZ_next]
        exact HO'.out
      case measure =>
        have := HL.out
        rw [HLL.out, List.length_append, this]
        simp [lenV]
        omega
    · have hne : (r.size + 1 + k) % 64 = 56 := by
        have := padZ_mod r.size
        have e : k = padZ r.size := by omega
        rw [e]; exact this
      have h56 : (((r.size : Int) + 1 + (k : Int)) % 64 != 56) = false := by
        have : ((r.size : Int) + 1 + (k : Int)) % 64 = 56 := by omega
        rw [this]
        rfl
      clear hne
      go_wp2_with fail
      have e : k = padZ r.size := by omega
      have h0 := HO.out
      rw [e, ← endB_zero r n] at h0
      have H0 := Lib.hid h0
      have HB1 := Lib.hid hbl
      have HK := Lib.hid e
      clear e h0 hbl HO HL h56
      obtain ⟨wo, hwo⟩ : ∃ wo : World, wo = wr := ⟨_, rfl⟩
      rw [← hwo] at HB1 hwz ⊢
      go_loopw [3, 4] (fun v3 v4 wx => ∃ j : Nat, j ≤ 8 ∧ v4 = .int .i64 (7 - (j : Int)) ∧ OwnsM wx w.heap.size 5 v3 (byteCells (endB r n j)) ∧ Below w.heap.size w wx) (fun _ v4 _ => (intOf v4 + 1).toNat)
      case atStart => exact ⟨0, by omega, rfl, by have := H0.out; rw [HK.out]; rw [hwo]; exact this, HB1.out⟩
      case round =>
        obtain ⟨j, hj, rfl, hown, hbl⟩ := hrel
        have HO := Lib.hid hown
        have hL := endB_len r n j hj
        obtain ⟨g, cap, hv, hcap, hmx, hgb, hcell⟩ := hown.cells
        rw [hL] at hv hcap
        subst hv
        have HL := Lib.hid hL
        have HC := Lib.hid hcell
        clear hL hown hcell H0 HB1
        have c9 := (hbl.cell (p := ⟨d, 9, none⟩) hdl).trans A9.out
        by_cases h8 : j < 8
        · obtain rfl | rfl | rfl | rfl | rfl | rfl | rfl | rfl : j = 0 ∨ j = 1 ∨ j = 2 ∨ j = 3 ∨ j = 4 ∨ j = 5 ∨ j = 6 ∨ j = 7 := by omega
          · go_wp2_with (at_builtin; refine wpList_append_ownM _ rfl _ _ 60 rfl w.heap.size 5 i0 (.int .u8 0) Tryd.underlying60 hi hz0 hz1 hz2 rfl _ _ rfl (HO.out.alloc _) ⟨wr.heap.size, 0, none⟩ 1 _ rfl (cell_new _ _ _) rfl ?_ ?_ ?_)
            · rw [HL.out]; omega
            · simp; have := hbl.size; omega
            intro v' w1 hown' hgrow
            have hB : Below w.heap.size w w1 := (hbl.alloc hbl.size _).grown hgrow (by simp; have := hbl.size; omega) (fun q hq => (HO.out.lt q hq).1)
            have HO' := Lib.hid hown'
            clear hown' hgrow
            go_wp2_with fail
            go_roundw
            case rel =>
              refine ⟨1, by omega, rfl, ?_, hB⟩
              rw [endB_next _ _ 0 (by omega)]
              refine own_num HO'.out ?_
              simp
              omega
            case measure => simp [intOf]
          · go_wp2_with (at_builtin; refine wpList_append_ownM _ rfl _ _ 60 rfl w.heap.size 5 i0 (.int .u8 0) Tryd.underlying60 hi hz0 hz1 hz2 rfl _ _ rfl (HO.out.alloc _) ⟨wr.heap.size, 0, none⟩ 1 _ rfl (cell_new _ _ _) rfl ?_ ?_ ?_)
            · rw [HL.out]; omega
            · simp; have := hbl.size; omega
            intro v' w1 hown' hgrow
            have hB : Below w.heap.size w w1 := (hbl.alloc hbl.size _).grown hgrow (by simp; have := hbl.size; omega) (fun q hq => (HO.out.lt q hq).1)
            have HO' := Lib.hid hown'
            clear hown' hgrow
            go_wp2_with fail
            go_roundw
            case rel =>
              refine ⟨2, by omega, rfl, ?_, hB⟩
              rw [endB_next _ _ 1 (by omega)]
              refine own_num HO'.out ?_
              simp
              omega
            case measure => simp [intOf]
          · go_wp2_with (at_builtin; refine wpList_append_ownM _ rfl _ _ 60 rfl w.heap.size 5 i0 (.int .u8 0) Tryd.underlying60 hi hz0 hz1 hz2 rfl _ _ rfl (HO.out.alloc _) ⟨wr.heap.size, 0, none⟩ 1 _ rfl (cell_new _ _ _) rfl ?_ ?_ ?_)
            · rw [HL.out]; omega
            · simp; have := hbl.size; omega
            intro v' w1 hown' hgrow
            have hB : Below w.heap.size w w1 := (hbl.alloc hbl.size _).grown hgrow (by simp; have := hbl.size; omega) (fun q hq => (HO.out.lt q hq).1)
            have HO' := Lib.hid hown'
            clear hown' hgrow
            go_wp2_with fail
            go_roundw
            case rel =>
              refine ⟨3, by omega, rfl, ?_, hB⟩
              rw [endB_next _ _ 2 (by omega)]
              refine own_num HO'.out ?_
              simp
              omega
            case measure => simp [intOf]
          · go_wp2_with (at_builtin; refine wpList_append_ownM _ rfl _ _ 60 rfl w.heap.size 5 i0 (.int .u8 0) Tryd.underlying60 hi hz0 hz1 hz2 rfl _ _ rfl (HO.out.alloc _) ⟨wr.heap.size, 0, none⟩ 1 _ rfl (cell_new _ _ _) rfl ?_ ?_ ?_)
            · rw [HL.out]; omega
            · simp; have := hbl.size; omega
            intro v' w1 hown' hgrow
            have hB : Below w.heap.size w w1 := (hbl.alloc hbl.size _).grown hgrow (by simp; have := hbl.size; omega) (fun q hq => (HO.out.lt q hq).1)
            have HO' := Lib.hid hown'
            clear hown' hgrow
            go_wp2_with fail
            go_roundw
            case rel =>
              refine ⟨4, by omega, rfl, ?_, hB⟩
              rw [endB_next _ _ 3 (by omega)]
              refine own_num HO'.out ?_
              simp
              omega
            case measure => simp [intOf]
          · go_wp2_with (at_builtin; refine wpList_append_ownM _ rfl _ _ 60 rfl w.heap.size 5 i0 (.int .u8 0) Tryd.underlying60 hi hz0 hz1 hz2 rfl _ _ rfl (HO.out.alloc _) ⟨wr.heap.size, 0, none⟩ 1 _ rfl (cell_new _ _ _) rfl ?_ ?_ ?_)
            · rw [HL.out]; omega
            · simp; have := hbl.size; omega
            intro v' w1 hown' hgrow
            have hB : Below w.heap.size w w1 := (hbl.alloc hbl.size _).grown hgrow (by simp; have := hbl.size; omega) (fun q hq => (HO.out.lt q hq).1)
            have HO' := Lib.hid hown'
            clear hown' hgrow
            go_wp2_with fail
            go_roundw
            case rel =>
              refine ⟨5, by omega, rfl, ?_, hB⟩
              rw [endB_next _ _ 4 (by omega)]
              refine own_num HO'.out ?_
              simp
              omega
            case measure => simp [intOf]
          · go_wp2_with (at_builtin; refine wpList_append_ownM _ rfl _ _ 60 rfl w.heap.size 5 i0 (.int .u8 0) Tryd.underlying60 hi hz0 hz1 hz2 rfl _ _ rfl (HO.out.alloc _) ⟨wr.heap.size, 0, none⟩ 1 _ rfl (cell_new _ _ _) rfl ?_ ?_ ?_)
            · rw [HL.out]; omega
            · simp; have := hbl.size; omega
            intro v' w1 hown' hgrow
            have hB : Below w.heap.size w w1 := (hbl.alloc hbl.size _).grown hgrow (by simp; have := hbl.size; omega) (fun q hq => (HO.out.lt q hq).1)
            have HO' := Lib.hid hown'
            clear hown' hgrow
            go_wp2_with fail
            go_roundw
            case rel =>
              refine ⟨6, by omega, rfl, ?_, hB⟩
              rw [endB_next _ _ 5 (by omega)]
              refine own_num HO'.out ?_
              simp
              omega
            case measure => simp [intOf]
          · go_wp2_with (at_builtin; refine wpList_append_ownM _ rfl _ _ 60 rfl w.heap.size 5 i0 (.int .u8 0) Tryd.underlying60 hi hz0 hz1 hz2 rfl _ _ rfl (HO.out.alloc _) ⟨wr.heap.size, 0, none⟩ 1 _ rfl (cell_new _ _ _) rfl ?_ ?_ ?_)
            · rw [HL.out]; omega
            · simp; have := hbl.size; omega
            intro v' w1 hown' hgrow
            have hB : Below w.heap.size w w1 := (hbl.alloc hbl.size _).grown hgrow (by simp; have := hbl.size; omega) (fun q hq => (HO.out.lt q hq).1)
            have HO' := Lib.hid hown'
            clear hown' hgrow
            go_wp2_with fail
            go_roundw
            case rel =>
              refine ⟨7, by omega, rfl, ?_, hB⟩
              rw [endB_next _ _ 6 (by omega)]
              refine own_num HO'.out ?_
              simp
              omega
            case measure => simp [intOf]
          · go_wp2_with (at_builtin; refine wpList_append_ownM _ rfl _ _ 60 rfl w.heap.size 5 i0 (.int .u8 0) Tryd.underlying60 hi hz0 hz1 hz2 rfl _ _ rfl (HO.out.alloc _) ⟨wr.heap.size, 0, none⟩ 1 _ rfl (cell_new _ _ _) rfl ?_ ?_ ?_)
            · rw [HL.out]; omega
            · simp; have := hbl.size; omega
            intro v' w1 hown' hgrow
            have hB : Below w.heap.size w w1 := (hbl.alloc hbl.size _).grown hgrow (by simp; have := hbl.size; omega) (fun q hq => (HO.out.lt q hq).1)
            have HO' := Lib.hid hown'
            clear hown' hgrow
            go_wp2_with fail
            go_roundw
            case rel =>
              refine ⟨8, by omega, rfl, ?_, hB⟩
              rw [endB_next _ _ 7 (by omega)]
              refine own_num HO'.out ?_
              simp
              omega
            case measure => simp [intOf]
        · obtain rfl : j = 8 := by omega
          have e78 : (7 : Int) - ((8 : Nat) : Int) = -1 := rfl
          rw [e78]
          clear e78
          have hst : StateAt wr d [s0, s1, s2, s3, s4, s5, s6, s7] r n := (hbl.block d hdl).trans HS.out
          have c0 : wr.cell? ⟨d, 0, none⟩ = some (.int .u32 s0.toNat) := by rw [Lib.cell_of_heap hst]; rfl
          have c1 : wr.cell? ⟨d, 1, none⟩ = some (.int .u32 s1.toNat) := by rw [Lib.cell_of_heap hst]; rfl
          have c2 : wr.cell? ⟨d, 2, none⟩ = some (.int .u32 s2.toNat) := by rw [Lib.cell_of_heap hst]; rfl
          have c3 : wr.cell? ⟨d, 3, none⟩ = some (.int .u32 s3.toNat) := by rw [Lib.cell_of_heap hst]; rfl
          have c4 : wr.cell? ⟨d, 4, none⟩ = some (.int .u32 s4.toNat) := by rw [Lib.cell_of_heap hst]; rfl
          have c5 : wr.cell? ⟨d, 5, none⟩ = some (.int .u32 s5.toNat) := by rw [Lib.cell_of_heap hst]; rfl
          have c6 : wr.cell? ⟨d, 6, none⟩ = some (.int .u32 s6.toNat) := by rw [Lib.cell_of_heap hst]; rfl
          have c7 : wr.cell? ⟨d, 7, none⟩ = some (.int .u32 s7.toNat) := by rw [Lib.cell_of_heap hst]; rfl
          have hgl := (HO.out.lt g rfl).2
          have hby : Bytes wr g 0 (pad r n) := by
            intro i hi
            have hi' : i < (padL r.data.toList n).length := hi
            have := HC.out i (.int .u8 ((padL r.data.toList n)[i].toNat : Int)) (by rw [endB_done]; exact byteCells_get hi')
            rw [Nat.zero_add, this]
            rfl
          have HBY := Lib.hid hby
          clear hst hby
          go_wp2_with fail
          generalize hW : World.alloc _ _ = W
          have hR : BlkR w g wr.heap.size (pad r n) [s0, s1, s2, s3, s4, s5, s6, s7] 0 W := by
            rw [← hW]
            exact ⟨heap_alloc_last wr _, bytes_below HBY.out hgl (fun j hj => Below.heap_alloc _ _ j hj), bl_alloc hbl _, hgl, hgb⟩
          have HR := Lib.hid hR
          clear hR hW c0 c1 c2 c3 c4 c5 c6 c7 hbl
          have hps := pad_size r n
          have hmod := padL_mod r.data.toList n
          have hmod2 : (pad r n).size % 64 = 0 := hmod
          have hps2 : r.size + 1 + padZ r.size + 8 = (pad r n).size := hps.symm
          rw [hps2] at hcap ⊢
          generalize hPB : pad r n = PB at HR hmod2 hps2 hcap ⊢
          have HPB := Lib.hid hPB
          have HPS := Lib.hid hps2
          have hN : PB.size ≤ 1000200 := by omega
          clear hPB hps hmod hps2 HO HC HL HBY
          obtain ⟨b5, hb5⟩ : ∃ b5, b5 = wr.heap.size := ⟨_, rfl⟩
          rw [← hb5] at HR ⊢
          clear hb5
          obtain ⟨wo2, hwo2⟩ : ∃ wo2 : World, wo2 = wr := ⟨_, rfl⟩
          clear hwo2 c9 hgl hwo
          go_loopw [3] (fun v3 wx => ∃ (k m c : Nat) (A : Option Addr), 64 * k + m = PB.size ∧ m ≤ c ∧ v3 = .slice A m c ∧ (0 < m → A = some ⟨g, 64 * k, none⟩) ∧ BlkR w g b5 PB [s0, s1, s2, s3, s4, s5, s6, s7] k wx) (fun v3 _ => lenV v3)
          case atStart => exact ⟨0, PB.size, cap, _, by omega, hcap, rfl, fun _ => rfl, HR.out⟩
          case round =>
            clear HR
            obtain ⟨k, m, c, A, hkm, hmc, rfl, hA, hR⟩ := hrel
            have HR := Lib.hid hR
            by_cases hm : 0 < m
            · have h64 : 64 ≤ m := by omega
              obtain rfl := hA hm
              obtain ⟨x0, x1, x2, x3, x4, x5, x6, x7, hv⟩ := eight (wordsAt_length [s0, s1, s2, s3, s4, s5, s6, s7] rfl PB k)
              have hrow := hR.row
              rw [hv] at hrow
              have a0 : wr.cell? ⟨b5, 0, none⟩ = some (.int .u32 x0.toNat) := by rw [Lib.cell_of_heap hrow]; rfl
              have a1 : wr.cell? ⟨b5, 1, none⟩ = some (.int .u32 x1.toNat) := by rw [Lib.cell_of_heap hrow]; rfl
              have a2 : wr.cell? ⟨b5, 2, none⟩ = some (.int .u32 x2.toNat) := by rw [Lib.cell_of_heap hrow]; rfl
              have a3 : wr.cell? ⟨b5, 3, none⟩ = some (.int .u32 x3.toNat) := by rw [Lib.cell_of_heap hrow]; rfl
              have a4 : wr.cell? ⟨b5, 4, none⟩ = some (.int .u32 x4.toNat) := by rw [Lib.cell_of_heap hrow]; rfl
              have a5 : wr.cell? ⟨b5, 5, none⟩ = some (.int .u32 x5.toNat) := by rw [Lib.cell_of_heap hrow]; rfl
              have a6 : wr.cell? ⟨b5, 6, none⟩ = some (.int .u32 x6.toNat) := by rw [Lib.cell_of_heap hrow]; rfl
              have a7 : wr.cell? ⟨b5, 7, none⟩ = some (.int .u32 x7.toNat) := by rw [Lib.cell_of_heap hrow]; rfl
              have fz := fun (j : Nat) => hrow.frozen j
              have hdl := hrow.lt
              obtain ⟨y0, y1, y2, y3, y4, y5, y6, y7, hbF⟩ := eight (blockF_length [x0, x1, x2, x3, x4, x5, x6, x7] rfl (PB.extract (64 * k) (64 * k + 64)))
              have hC : ∀ W : World, Calls Tryd.prog 75 #[.agg (([x0, x1, x2, x3, x4, x5, x6, x7] : List U32).map W32).toArray, .string (PB.extract (64 * k) (64 * k + 64))] W fun e w' => e = .returned (.agg #[.int .u32 y0.toNat, .int .u32 y1.toNat, .int .u32 y2.toNat, .int .u32 y3.toNat, .int .u32 y4.toNat, .int .u32 y5.toNat, .int .u32 y6.toNat, .int .u32 y7.toNat]) ∧ Below W.heap.size W w' := fun W => by
                have h1 : (PB.extract (64 * k) (64 * k + 64)).size = 64 := by simp; omega
                have := block_any [x0, x1, x2, x3, x4, x5, x6, x7] rfl (PB.extract (64 * k) (64 * k + 64)) (by omega) (by omega) W
                rw [hbF] at this
                exact this
              have hs1 := slice_head g (64 * k) m c (by omega)
              obtain ⟨A2, hA2, hs2⟩ := slice_tail g (64 * k) m c h64 hmc
              have hc1 := Lib.run_convert_window wr.drew 60 5 9 Tryd.underlying60 Tryd.underlying5 Tryd.underlying9 g 0 PB (fun i hi => hR.bytes i hi) (64 * k) 64 c (by omega)
              rw [Nat.zero_add] at hc1
              have HC := Lib.hid hC
              have HBF := Lib.hid hbF
              have HV := Lib.hid hv
              have HA2 := Lib.hid hA2
              clear hC hbF hv hA2 hA hR hrow
              have hm' : (0 : Int) < (m : Int) := by omega
              go_upto_region 12 with fail
              go_region_law (go_simp; go_at_call 75; refine (HC.out _).mono ?_; rintro e w2 ⟨rfl, hb2⟩; have g0 := (hb2.cell (p := ⟨b5, 0, none⟩) hdl).trans a0; have g1 := (hb2.cell (p := ⟨b5, 1, none⟩) hdl).trans a1; have g2 := (hb2.cell (p := ⟨b5, 2, none⟩) hdl).trans a2; have g3 := (hb2.cell (p := ⟨b5, 3, none⟩) hdl).trans a3; have g4 := (hb2.cell (p := ⟨b5, 4, none⟩) hdl).trans a4; have g5 := (hb2.cell (p := ⟨b5, 5, none⟩) hdl).trans a5; have g6 := (hb2.cell (p := ⟨b5, 6, none⟩) hdl).trans a6; have g7 := (hb2.cell (p := ⟨b5, 7, none⟩) hdl).trans a7; have h0 := (hb2.frozen (p := ⟨b5, 0, none⟩) hdl).trans (fz 0); have h1 := (hb2.frozen (p := ⟨b5, 1, none⟩) hdl).trans (fz 1); have h2 := (hb2.frozen (p := ⟨b5, 2, none⟩) hdl).trans (fz 2); have h3 := (hb2.frozen (p := ⟨b5, 3, none⟩) hdl).trans (fz 3); have h4 := (hb2.frozen (p := ⟨b5, 4, none⟩) hdl).trans (fz 4); have h5 := (hb2.frozen (p := ⟨b5, 5, none⟩) hdl).trans (fz 5); have h6 := (hb2.frozen (p := ⟨b5, 6, none⟩) hdl).trans (fz 6); have h7 := (hb2.frozen (p := ⟨b5, 7, none⟩) hdl).trans (fz 7))
              all_goals go_wp2_with fail
              all_goals
                have R2 := Lib.hid (blk_round HR.out HV.out HBF.out (bl_trans (Below.refl _ wr).drew hb2))
                refine ⟨⟨.slice A2 (m - 64) (c - 64), _, _, _, _, _, _, _, _, _, _, ⟨k + 1, m - 64, c - 64, A2, by omega, by omega, rfl, fun h => by rw [HA2.out (by omega)]; rfl, R2.out⟩, rfl⟩, ?_⟩
                change m - 64 < m
                omega
            · have hm' : ¬ (0 : Int) < (m : Int) := by omega
              obtain rfl : m = 0 := by omega
              have hkB : PB.size / 64 = k := by omega
              obtain ⟨x0, x1, x2, x3, x4, x5, x6, x7, hv⟩ := eight (wordsAt_length [s0, s1, s2, s3, s4, s5, s6, s7] rfl PB k)
              have hrow := hR.row
              rw [hv] at hrow
              have hrow' := (one_old wr (.cells #[.pointer none, .slice none 0 0] 62) b5 hrow.lt).trans hrow
              have a0 := (Lib.cell_of_heap hrow' 0).trans rfl
              have a1 := (Lib.cell_of_heap hrow' 1).trans rfl
              have a2 := (Lib.cell_of_heap hrow' 2).trans rfl
              have a3 := (Lib.cell_of_heap hrow' 3).trans rfl
              have a4 := (Lib.cell_of_heap hrow' 4).trans rfl
              have a5 := (Lib.cell_of_heap hrow' 5).trans rfl
              have a6 := (Lib.cell_of_heap hrow' 6).trans rfl
              have a7 := (Lib.cell_of_heap hrow' 7).trans rfl
              have HV := Lib.hid hv
              have HKB := Lib.hid hkB
              have hbl2 := hR.below
              clear hv hkB hrow hrow' hR
              go_wp2_with fail
              have hB0 : IsBuilder 62 5 w.heap.size wr.heap.size (byteCells (wordsB (([x0, x1, x2, x3, x4, x5, x6, x7] : List U32).take 0))) (wr.alloc (.cells #[.pointer none, .slice none 0 0] 62)) :=
                .inl ⟨hbl2.size, .slice none 0 0, heap_alloc_last wr _, World.ownsRow_nil _ _ _ _, by simp [Value.ownBlock]⟩
              have HB0 := Lib.hid hB0
              have HB1 := Lib.hid (bl_alloc hbl2 (.cells #[.pointer none, .slice none 0 0] 62))
              obtain ⟨b6, hb6⟩ : ∃ b6, b6 = wr.heap.size := ⟨_, rfl⟩
              generalize World.alloc wr _ = W6 at HB0 HB1 ⊢
              rw [← hb6] at HB0 ⊢
              clear hb6 hB0 hbl2 HR a0 a1 a2 a3 a4 a5 a6 a7 hkm hmc
              go_loopw [56, 8] (fun v56 _ wx => ∃ i : Nat, i ≤ 8 ∧ v56 = .int .i64 i ∧ IsBuilder 62 5 w.heap.size b6 (byteCells (wordsB (([x0, x1, x2, x3, x4, x5, x6, x7] : List U32).take i))) wx ∧ Below w.heap.size w wx) (fun v56 _ _ => 8 - (intOf v56).toNat)
              case atStart => exact ⟨0, by omega, rfl, HB0.out, HB1.out⟩
              case round =>
                clear HB0 HB1
                obtain ⟨i, hi8, rfl, hbu, hbl⟩ := hrel
                have HBU := Lib.hid hbu
                have hz := hbl.size
                clear hbu
                have l0 := x0.isLt
                have l1 := x1.isLt
                have l2 := x2.isLt
                have l3 := x3.isLt
                have l4 := x4.isLt
                have l5 := x5.isLt
                have l6 := x6.isLt
                have l7 := x7.isLt
                by_cases h8 : i < 8
                · obtain rfl | rfl | rfl | rfl | rfl | rfl | rfl | rfl : i = 0 ∨ i = 1 ∨ i = 2 ∨ i = 3 ∨ i = 4 ∨ i = 5 ∨ i = 6 ∨ i = 7 := by omega
                  · have hix : ∀ w : World, (Instr.index 107 (.agg #[W32 x0, W32 x1, W32 x2, W32 x3, W32 x4, W32 x5, W32 x6, W32 x7]) (.int .i64 0)).run Tryd.prog w = .ok (.int .u32 x0.toNat) w := fun _ => by kernel_rfl
                    go_wp2_with fail
                    refine (write_any w.heap.size b6 _ wr.heap.size _ [.int .u8 _, .int .u8 _, .int .u8 _, .int .u8 _] _ (isb_below HBU.out (bl_alloc (Below.refl _ wr) _)) (by have := isb_lt HBU.out; omega) (cells_four _ _ _ _ _ _) (by intro u hu; simp only [List.mem_cons, List.not_mem_nil, or_false] at hu; rcases hu with rfl | rfl | rfl | rfl <;> rfl) ?_ (by simp; omega)).mono ?_
                    · simp [byteCells_len, wordsB_le]
                    rintro e w1 ⟨rfl, k1, k2⟩
                    have K1 := Lib.hid k1
                    have K2 := Lib.hid (hbl.trans ((below_alloc' hz _).trans k2))
                    clear k1 k2
                    go_wp2_with fail
                    go_roundw
                    case rel =>
                      refine ⟨1, by omega, by go_num, .inr (isb_words K1.out ?_), K2.out⟩
                      simp [wordsB, wordB, byteCells]
                      omega
                    case measure => simp [intOf]
                  · have hix : ∀ w : World, (Instr.index 107 (.agg #[W32 x0, W32 x1, W32 x2, W32 x3, W32 x4, W32 x5, W32 x6, W32 x7]) (.int .i64 1)).run Tryd.prog w = .ok (.int .u32 x1.toNat) w := fun _ => by kernel_rfl
                    go_wp2_with fail
                    refine (write_any w.heap.size b6 _ wr.heap.size _ [.int .u8 _, .int .u8 _, .int .u8 _, .int .u8 _] _ (isb_below HBU.out (bl_alloc (Below.refl _ wr) _)) (by have := isb_lt HBU.out; omega) (cells_four _ _ _ _ _ _) (by intro u hu; simp only [List.mem_cons, List.not_mem_nil, or_false] at hu; rcases hu with rfl | rfl | rfl | rfl <;> rfl) ?_ (by simp; omega)).mono ?_
                    · simp [byteCells_len, wordsB_le]
                    rintro e w1 ⟨rfl, k1, k2⟩
                    have K1 := Lib.hid k1
                    have K2 := Lib.hid (hbl.trans ((below_alloc' hz _).trans k2))
                    clear k1 k2
                    go_wp2_with fail
                    go_roundw
                    case rel =>
                      refine ⟨2, by omega, by go_num, .inr (isb_words K1.out ?_), K2.out⟩
                      simp [wordsB, wordB, byteCells]
                      omega
                    case measure => simp [intOf]
                  · have hix : ∀ w : World, (Instr.index 107 (.agg #[W32 x0, W32 x1, W32 x2, W32 x3, W32 x4, W32 x5, W32 x6, W32 x7]) (.int .i64 2)).run Tryd.prog w = .ok (.int .u32 x2.toNat) w := fun _ => by kernel_rfl
                    go_wp2_with fail
                    refine (write_any w.heap.size b6 _ wr.heap.size _ [.int .u8 _, .int .u8 _, .int .u8 _, .int .u8 _] _ (isb_below HBU.out (bl_alloc (Below.refl _ wr) _)) (by have := isb_lt HBU.out; omega) (cells_four _ _ _ _ _ _) (by intro u hu; simp only [List.mem_cons, List.not_mem_nil, or_false] at hu; rcases hu with rfl | rfl | rfl | rfl <;> rfl) ?_ (by simp; omega)).mono ?_
                    · simp [byteCells_len, wordsB_le]
                    rintro e w1 ⟨rfl, k1, k2⟩
                    have K1 := Lib.hid k1
                    have K2 := Lib.hid (hbl.trans ((below_alloc' hz _).trans k2))
                    clear k1 k2
                    go_wp2_with fail
                    go_roundw
                    case rel =>
                      refine ⟨3, by omega, by go_num, .inr (isb_words K1.out ?_), K2.out⟩
                      simp [wordsB, wordB, byteCells]
                      omega
                    case measure => simp [intOf]
                  · have hix : ∀ w : World, (Instr.index 107 (.agg #[W32 x0, W32 x1, W32 x2, W32 x3, W32 x4, W32 x5, W32 x6, W32 x7]) (.int .i64 3)).run Tryd.prog w = .ok (.int .u32 x3.toNat) w := fun _ => by kernel_rfl
                    go_wp2_with fail
                    refine (write_any w.heap.size b6 _ wr.heap.size _ [.int .u8 _, .int .u8 _, .int .u8 _, .int .u8 _] _ (isb_below HBU.out (bl_alloc (Below.refl _ wr) _)) (by have := isb_lt HBU.out; omega) (cells_four _ _ _ _ _ _) (by intro u hu; simp only [List.mem_cons, List.not_mem_nil, or_false] at hu; rcases hu with rfl | rfl | rfl | rfl <;> rfl) ?_ (by simp; omega)).mono ?_
                    · simp [byteCells_len, wordsB_le]
                    rintro e w1 ⟨rfl, k1, k2⟩
                    have K1 := Lib.hid k1
                    have K2 := Lib.hid (hbl.trans ((below_alloc' hz _).trans k2))
                    clear k1 k2
                    go_wp2_with fail
                    go_roundw
                    case rel =>
                      refine ⟨4, by omega, by go_num, .inr (isb_words K1.out ?_), K2.out⟩
                      simp [wordsB, wordB, byteCells]
                      omega
                    case measure => simp [intOf]
                  · have hix : ∀ w : World, (Instr.index 107 (.agg #[W32 x0, W32 x1, W32 x2, W32 x3, W32 x4, W32 x5, W32 x6, W32 x7]) (.int .i64 4)).run Tryd.prog w = .ok (.int .u32 x4.toNat) w := fun _ => by kernel_rfl
                    go_wp2_with fail
                    refine (write_any w.heap.size b6 _ wr.heap.size _ [.int .u8 _, .int .u8 _, .int .u8 _, .int .u8 _] _ (isb_below HBU.out (bl_alloc (Below.refl _ wr) _)) (by have := isb_lt HBU.out; omega) (cells_four _ _ _ _ _ _) (by intro u hu; simp only [List.mem_cons, List.not_mem_nil, or_false] at hu; rcases hu with rfl | rfl | rfl | rfl <;> rfl) ?_ (by simp; omega)).mono ?_
                    · simp [byteCells_len, wordsB_le]
                    rintro e w1 ⟨rfl, k1, k2⟩
                    have K1 := Lib.hid k1
                    have K2 := Lib.hid (hbl.trans ((below_alloc' hz _).trans k2))
                    clear k1 k2
                    go_wp2_with fail
                    go_roundw
                    case rel =>
                      refine ⟨5, by omega, by go_num, .inr (isb_words K1.out ?_), K2.out⟩
                      simp [wordsB, wordB, byteCells]
                      omega
                    case measure => simp [intOf]
                  · have hix : ∀ w : World, (Instr.index 107 (.agg #[W32 x0, W32 x1, W32 x2, W32 x3, W32 x4, W32 x5, W32 x6, W32 x7]) (.int .i64 5)).run Tryd.prog w = .ok (.int .u32 x5.toNat) w := fun _ => by kernel_rfl
                    go_wp2_with fail
                    refine (write_any w.heap.size b6 _ wr.heap.size _ [.int .u8 _, .int .u8 _, .int .u8 _, .int .u8 _] _ (isb_below HBU.out (bl_alloc (Below.refl _ wr) _)) (by have := isb_lt HBU.out; omega) (cells_four _ _ _ _ _ _) (by intro u hu; simp only [List.mem_cons, List.not_mem_nil, or_false] at hu; rcases hu with rfl | rfl | rfl | rfl <;> rfl) ?_ (by simp; omega)).mono ?_
                    · simp [byteCells_len, wordsB_le]
                    rintro e w1 ⟨rfl, k1, k2⟩
                    have K1 := Lib.hid k1
                    have K2 := Lib.hid (hbl.trans ((below_alloc' hz _).trans k2))
                    clear k1 k2
                    go_wp2_with fail
                    go_roundw
                    case rel =>
                      refine ⟨6, by omega, by go_num, .inr (isb_words K1.out ?_), K2.out⟩
                      simp [wordsB, wordB, byteCells]
                      omega
                    case measure => simp [intOf]
                  · have hix : ∀ w : World, (Instr.index 107 (.agg #[W32 x0, W32 x1, W32 x2, W32 x3, W32 x4, W32 x5, W32 x6, W32 x7]) (.int .i64 6)).run Tryd.prog w = .ok (.int .u32 x6.toNat) w := fun _ => by kernel_rfl
                    go_wp2_with fail
                    refine (write_any w.heap.size b6 _ wr.heap.size _ [.int .u8 _, .int .u8 _, .int .u8 _, .int .u8 _] _ (isb_below HBU.out (bl_alloc (Below.refl _ wr) _)) (by have := isb_lt HBU.out; omega) (cells_four _ _ _ _ _ _) (by intro u hu; simp only [List.mem_cons, List.not_mem_nil, or_false] at hu; rcases hu with rfl | rfl | rfl | rfl <;> rfl) ?_ (by simp; omega)).mono ?_
                    · simp [byteCells_len, wordsB_le]
                    rintro e w1 ⟨rfl, k1, k2⟩
                    have K1 := Lib.hid k1
                    have K2 := Lib.hid (hbl.trans ((below_alloc' hz _).trans k2))
                    clear k1 k2
                    go_wp2_with fail
                    go_roundw
                    case rel =>
                      refine ⟨7, by omega, by go_num, .inr (isb_words K1.out ?_), K2.out⟩
                      simp [wordsB, wordB, byteCells]
                      omega
                    case measure => simp [intOf]
                  · have hix : ∀ w : World, (Instr.index 107 (.agg #[W32 x0, W32 x1, W32 x2, W32 x3, W32 x4, W32 x5, W32 x6, W32 x7]) (.int .i64 7)).run Tryd.prog w = .ok (.int .u32 x7.toNat) w := fun _ => by kernel_rfl
                    go_wp2_with fail
                    refine (write_any w.heap.size b6 _ wr.heap.size _ [.int .u8 _, .int .u8 _, .int .u8 _, .int .u8 _] _ (isb_below HBU.out (bl_alloc (Below.refl _ wr) _)) (by have := isb_lt HBU.out; omega) (cells_four _ _ _ _ _ _) (by intro u hu; simp only [List.mem_cons, List.not_mem_nil, or_false] at hu; rcases hu with rfl | rfl | rfl | rfl <;> rfl) ?_ (by simp; omega)).mono ?_
                    · simp [byteCells_len, wordsB_le]
                    rintro e w1 ⟨rfl, k1, k2⟩
                    have K1 := Lib.hid k1
                    have K2 := Lib.hid (hbl.trans ((below_alloc' hz _).trans k2))
                    clear k1 k2
                    go_wp2_with fail
                    go_roundw
                    case rel =>
                      refine ⟨8, by omega, by go_num, .inr (isb_words K1.out ?_), K2.out⟩
                      simp [wordsB, wordB, byteCells]
                      omega
                    case measure => simp [intOf]
                · obtain rfl : i = 8 := by omega
                  go_wp2_with fail
                  refine (Tryd.Builder_String_any _ _ _ _ HBU.out hz).mono ?_
                  rintro e w3 ⟨rfl, hb3⟩
                  go_wp2
                  go_ret
                  refine ⟨ret_str ?_, hbl.trans hb3⟩
                  unfold sumS
                  rw [HPB.out, HKB.out, HV.out]

end Go.Proofs.YtlanhogdeiiecaaDoor
