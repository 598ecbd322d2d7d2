/-
  (*digest.State).Add (layer 3) at this program.
-/
import Derived.Test.YtlanhogdeiiecaaDoorBegin
set_option linter.unusedVariables false
set_option linter.unusedSimpArgs false
namespace Go.Proofs.YtlanhogdeiiecaaDoor
open Go.RowKit Go.Shelf Go.Lib

/-- The words behind the first k blocks of r. -/
def wordsAt (s : List U32) (r : ByteArray) : Nat → List U32
  | 0 => s
  | k + 1 => blockF (wordsAt s r k) (r.extract (64 * k) (64 * k + 64))
theorem wordsAt_length (s : List U32) (hs : s.length = 8) (r : ByteArray) : ∀ k, (wordsAt s r k).length = 8
  | 0 => hs
  | k + 1 => blockF_length _ (wordsAt_length s hs r k) _

/-- What holds between two rounds of Add's loop. -/
def A1 (w0 : World) (d : Nat) (s : List U32) (r : ByteArray) (n k : Nat) (W : World) : Prop := StateAt W d (wordsAt s r k) (r.extract (64 * k) r.size) n ∧ Below w0.heap.size w0 W
/-- How many bytes the digest's rest has. -/
def restLen (d : Nat) (W : World) : Nat := match W.cell? ⟨d, 8, none⟩ with | some (.string y) => y.size | _ => 0
theorem ext_all (r : ByteArray) : r.extract 0 r.size = r := by
  apply ByteArray.ext
  simp

theorem row_set {W : World} {b o : Nat} {c : Array Value} {t : TypeId} (h : W.heap[b]? = some (.cells c t (0, 0))) (u : Value) : (W.setCell ⟨b, o, none⟩ u).heap[b]? = some (.cells (c.setIfInBounds o u) t (0, 0)) := by
  simp [World.setCell, Array.getElem?_modify, h]
theorem a1_start {w0 w : World} {d : Nat} {s0 s1 s2 s3 s4 s5 s6 s7 : U32} {r x : ByteArray} {n : Nat} (hb : Below w0.heap.size w0 w) (hd : w0.heap.size ≤ d) (h : StateAt w d [s0, s1, s2, s3, s4, s5, s6, s7] r n) {m : Int} (hm : m = ((n + x.size : Nat) : Int)) :
    A1 w0 d [s0, s1, s2, s3, s4, s5, s6, s7] (r ++ x) (n + x.size) 0 ((w.setCell ⟨d, 9, none⟩ (.int .i64 m)).setCell ⟨d, 8, none⟩ (.string (r ++ x))) := by
  subst hm
  refine ⟨?_, bl_set (bl_set hb hd _) hd _⟩
  unfold StateAt at h ⊢
  have e1 := row_set (o := 9) h (.int .i64 ((n + x.size : Nat) : Int))
  have e2 := row_set (o := 8) e1 (.string (r ++ x))
  rw [e2]
  simp only [wordsAt, Nat.mul_zero, ext_all]
  rfl

theorem nine_set {W2 : World} {d : Nat} {x0 x1 x2 x3 x4 x5 x6 x7 b0 b1 b2 b3 b4 b5 b6 b7 : U32} {y y' : ByteArray} {m : Nat} (h : StateAt W2 d [x0, x1, x2, x3, x4, x5, x6, x7] y m) :
    StateAt (((((((((W2.setCell ⟨d, 0, none⟩ (.int .u32 b0.toNat)).setCell ⟨d, 1, none⟩ (.int .u32 b1.toNat)).setCell ⟨d, 2, none⟩ (.int .u32 b2.toNat)).setCell ⟨d, 3, none⟩ (.int .u32 b3.toNat)).setCell ⟨d, 4, none⟩ (.int .u32 b4.toNat)).setCell ⟨d, 5, none⟩ (.int .u32 b5.toNat)).setCell ⟨d, 6, none⟩ (.int .u32 b6.toNat)).setCell ⟨d, 7, none⟩ (.int .u32 b7.toNat)).setCell ⟨d, 8, none⟩ (.string y')) d [b0, b1, b2, b3, b4, b5, b6, b7] y' m := by
  unfold StateAt at h ⊢
  simp only [List.map_cons, List.map_nil, List.cons_append, List.nil_append, W32] at h ⊢
  have e0 := row_set (o := 0) h (.int .u32 b0.toNat)
  have e1 := row_set (o := 1) e0 (.int .u32 b1.toNat)
  have e2 := row_set (o := 2) e1 (.int .u32 b2.toNat)
  have e3 := row_set (o := 3) e2 (.int .u32 b3.toNat)
  have e4 := row_set (o := 4) e3 (.int .u32 b4.toNat)
  have e5 := row_set (o := 5) e4 (.int .u32 b5.toNat)
  have e6 := row_set (o := 6) e5 (.int .u32 b6.toNat)
  have e7 := row_set (o := 7) e6 (.int .u32 b7.toNat)
  have e8 := row_set (o := 8) e7 (.string y')
  simp only [List.setIfInBounds_toArray, List.set_cons_zero, List.set_cons_succ] at e8
  exact e8
theorem nine_below {w0 W2 : World} {d : Nat} {b0 b1 b2 b3 b4 b5 b6 b7 : U32} {y' : ByteArray} (h : Below w0.heap.size w0 W2) (hd : w0.heap.size ≤ d) : Below w0.heap.size w0 (((((((((W2.setCell ⟨d, 0, none⟩ (.int .u32 b0.toNat)).setCell ⟨d, 1, none⟩ (.int .u32 b1.toNat)).setCell ⟨d, 2, none⟩ (.int .u32 b2.toNat)).setCell ⟨d, 3, none⟩ (.int .u32 b3.toNat)).setCell ⟨d, 4, none⟩ (.int .u32 b4.toNat)).setCell ⟨d, 5, none⟩ (.int .u32 b5.toNat)).setCell ⟨d, 6, none⟩ (.int .u32 b6.toNat)).setCell ⟨d, 7, none⟩ (.int .u32 b7.toNat)).setCell ⟨d, 8, none⟩ (.string y')) := by
  repeat (refine bl_set ?_ (by exact hd) _)
  exact h
theorem restLen_at {W : World} {d : Nat} {s : List U32} (hs : s.length = 8) {r : ByteArray} {n : Nat} (h : StateAt W d s r n) : restLen d W = r.size := by
  obtain ⟨x0, x1, x2, x3, x4, x5, x6, x7, rfl⟩ := eight hs
  have : W.cell? ⟨d, 8, none⟩ = some (.string r) := by rw [Lib.cell_of_heap h]; rfl
  unfold restLen
  rw [this]

theorem ext_ext (R : ByteArray) (a b c e : Nat) (h : a + e ≤ b) : (R.extract a b).extract c e = R.extract (a + c) (a + e) := by
  apply ByteArray.ext
  simp only [ByteArray.data_extract, Array.extract_extract]
  congr 1
  omega
theorem ext_tail {R y : ByteArray} {k : Nat} (hk : 64 * k ≤ R.size) (hy : R.extract (64 * k) R.size = y) (h64 : 64 ≤ y.size) :
    y.size = R.size - 64 * k ∧ R.extract (64 * (k + 1)) R.size = y.extract 64 y.size ∧ y.extract 0 64 = R.extract (64 * k) (64 * k + 64) := by
  have hys : y.size = R.size - 64 * k := by rw [← hy]; simp
  refine ⟨hys, ?_, ?_⟩
  · rw [hys, ← hy, ext_ext _ _ _ _ _ (by omega)]
    congr 1
    omega
  · rw [← hy, ext_ext _ _ _ _ _ (by omega), Nat.add_zero]
theorem a1_round {w0 w2 : World} {d m k : Nat} {s : List U32} {x0 x1 x2 x3 x4 x5 x6 x7 b0 b1 b2 b3 b4 b5 b6 b7 : U32} {R y : ByteArray} (hd : w0.heap.size ≤ d) (hk : 64 * k ≤ R.size) (hv : wordsAt s R k = [x0, x1, x2, x3, x4, x5, x6, x7]) (hy : R.extract (64 * k) R.size = y) (h64 : 64 ≤ y.size)
    (hbF : blockF [x0, x1, x2, x3, x4, x5, x6, x7] (y.extract 0 64) = [b0, b1, b2, b3, b4, b5, b6, b7]) (h2 : StateAt w2 d [x0, x1, x2, x3, x4, x5, x6, x7] y m) (hb : Below w0.heap.size w0 w2) :
    64 * (k + 1) ≤ R.size ∧ A1 w0 d s R m (k + 1) (((((((((w2.setCell ⟨d, 0, none⟩ (.int .u32 b0.toNat)).setCell ⟨d, 1, none⟩ (.int .u32 b1.toNat)).setCell ⟨d, 2, none⟩ (.int .u32 b2.toNat)).setCell ⟨d, 3, none⟩ (.int .u32 b3.toNat)).setCell ⟨d, 4, none⟩ (.int .u32 b4.toNat)).setCell ⟨d, 5, none⟩ (.int .u32 b5.toNat)).setCell ⟨d, 6, none⟩ (.int .u32 b6.toNat)).setCell ⟨d, 7, none⟩ (.int .u32 b7.toNat)).setCell ⟨d, 8, none⟩ (.string (y.extract 64 y.size))) ∧ restLen d (((((((((w2.setCell ⟨d, 0, none⟩ (.int .u32 b0.toNat)).setCell ⟨d, 1, none⟩ (.int .u32 b1.toNat)).setCell ⟨d, 2, none⟩ (.int .u32 b2.toNat)).setCell ⟨d, 3, none⟩ (.int .u32 b3.toNat)).setCell ⟨d, 4, none⟩ (.int .u32 b4.toNat)).setCell ⟨d, 5, none⟩ (.int .u32 b5.toNat)).setCell ⟨d, 6, none⟩ (.int .u32 b6.toNat)).setCell ⟨d, 7, none⟩ (.int .u32 b7.toNat)).setCell ⟨d, 8, none⟩ (.string (y.extract 64 y.size))) + 64 = y.size := by
  obtain ⟨hys, e2, e0⟩ := ext_tail hk hy h64
  rw [e0] at hbF
  have hn : 64 * (k + 1) ≤ R.size := by clear hbF e2 e0 h2 hb; omega
  have hsz : (y.extract 64 y.size).size + 64 = y.size := by
    have : (y.extract 64 y.size).size = y.size - 64 := by simp
    rw [this]
    clear hbF e2 e0 h2 hb
    omega
  have hst := nine_set (b0 := b0) (b1 := b1) (b2 := b2) (b3 := b3) (b4 := b4) (b5 := b5) (b6 := b6) (b7 := b7) (y' := y.extract 64 y.size) h2
  have e1 : wordsAt s R (k + 1) = [b0, b1, b2, b3, b4, b5, b6, b7] := by
    rw [wordsAt, hv]
    exact hbF
  refine ⟨hn, ⟨?_, nine_below hb hd⟩, ?_⟩
  · rw [e1, e2]
    exact hst
  · rw [restLen_at rfl hst]
    exact hsz

set_option maxRecDepth 100000 in
set_option maxHeartbeats 4000000 in
theorem Add_any (w0 w : World) (hb : Below w0.heap.size w0 w) (d : Nat) (hd : w0.heap.size ≤ d) (s : List U32) (hs : s.length = 8) (r x : ByteArray) (n : Nat) (hn : n ≤ 1000000) (hr : r.size ≤ 1000000) (hx : x.size ≤ 1000000) (h : StateAt w d s r n) :
    Calls Tryd.prog 60 #[.pointer (some ⟨d, 0, none⟩), .string x] w fun e w' => e = .returned (.int .i64 (n + x.size : Nat)) ∧ StateAt w' d (wordsAt s (r ++ x) ((r ++ x).size / 64)) ((r ++ x).extract (64 * ((r ++ x).size / 64)) (r ++ x).size) (n + x.size) ∧ Below w0.heap.size w0 w' := by
  obtain ⟨s0, s1, s2, s3, s4, s5, s6, s7, rfl⟩ := eight hs
  have a8 : w.cell? ⟨d, 8, none⟩ = some (.string r) := by rw [Lib.cell_of_heap h]; rfl
  have a9 : w.cell? ⟨d, 9, none⟩ = some (.int .i64 n) := by rw [Lib.cell_of_heap h]; rfl
  have f8 : w.frozen? ⟨d, 8, none⟩ = false := Lib.frozen_of_heap h 8
  have f9 : w.frozen? ⟨d, 9, none⟩ = false := Lib.frozen_of_heap h 9
  have HS := Lib.hid h
  have HB := Lib.hid hb
  clear h hb hs
  go_enter Tryd.func60, Tryd.ntmps60
  go_wp2_with fail
  generalize hW : World.setCell _ _ _ = W
  have h0 : A1 w0 d [s0, s1, s2, s3, s4, s5, s6, s7] (r ++ x) (n + x.size) 0 W := by
    rw [← hW]
    exact a1_start HB.out hd HS.out (by go_num)
  have H0 := Lib.hid h0
  clear h0 hW a8 a9 f8 f9 HS HB
  go_loopw [] (fun wr => ∃ k : Nat, 64 * k ≤ (r ++ x).size ∧ A1 w0 d [s0, s1, s2, s3, s4, s5, s6, s7] (r ++ x) (n + x.size) k wr) (fun wr => restLen d wr)
  case atStart => exact ⟨0, by omega, H0.out⟩
  case round =>
    clear H0
    obtain ⟨k, hk, hrel⟩ := hrel
    have HR := Lib.hid hrel
    obtain ⟨hst, hbl⟩ := hrel
    obtain ⟨x0, x1, x2, x3, x4, x5, x6, x7, hv⟩ := eight (wordsAt_length [s0, s1, s2, s3, s4, s5, s6, s7] rfl (r ++ x) k)
    rw [hv] at hst
    have HV := Lib.hid hv
    clear hv
    generalize hy : (r ++ x).extract (64 * k) (r ++ x).size = y at hst
    have HY := Lib.hid hy
    have hys : y.size = (r ++ x).size - 64 * k := by rw [← hy]; simp
    have HYS := Lib.hid hys
    have a0 : wr.cell? ⟨d, 0, none⟩ = some (.int .u32 x0.toNat) := by rw [Lib.cell_of_heap hst]; rfl
    have a1 : wr.cell? ⟨d, 1, none⟩ = some (.int .u32 x1.toNat) := by rw [Lib.cell_of_heap hst]; rfl
    have a2 : wr.cell? ⟨d, 2, none⟩ = some (.int .u32 x2.toNat) := by rw [Lib.cell_of_heap hst]; rfl
    have a3 : wr.cell? ⟨d, 3, none⟩ = some (.int .u32 x3.toNat) := by rw [Lib.cell_of_heap hst]; rfl
    have a4 : wr.cell? ⟨d, 4, none⟩ = some (.int .u32 x4.toNat) := by rw [Lib.cell_of_heap hst]; rfl
    have a5 : wr.cell? ⟨d, 5, none⟩ = some (.int .u32 x5.toNat) := by rw [Lib.cell_of_heap hst]; rfl
    have a6 : wr.cell? ⟨d, 6, none⟩ = some (.int .u32 x6.toNat) := by rw [Lib.cell_of_heap hst]; rfl
    have a7 : wr.cell? ⟨d, 7, none⟩ = some (.int .u32 x7.toNat) := by rw [Lib.cell_of_heap hst]; rfl
    have a8 : wr.cell? ⟨d, 8, none⟩ = some (.string y) := by rw [Lib.cell_of_heap hst]; rfl
    have a9 : wr.cell? ⟨d, 9, none⟩ = some (.int .i64 (n + x.size : Nat)) := by rw [Lib.cell_of_heap hst]; rfl
    have HS := Lib.hid hst
    have HBL := Lib.hid hbl
    by_cases h64 : 64 ≤ y.size
    · have i1 : (64 : Int) ≤ (y.size : Int) := by omega
      have hz := hbl.size
      have hdl : d < wr.heap.size := (Array.getElem?_eq_some_iff.1 hst).1
      clear hst hbl hy hys
      obtain ⟨b0, b1, b2, b3, b4, b5, b6, b7, hbF⟩ := eight (blockF_length [x0, x1, x2, x3, x4, x5, x6, x7] rfl (y.extract 0 64))
      have hC : ∀ W : World, Calls Tryd.prog 75 #[.agg (([x0, x1, x2, x3, x4, x5, x6, x7] : List U32).map W32).toArray, .string (y.extract 0 64)] W fun e w' => e = .returned (.agg #[.int .u32 b0.toNat, .int .u32 b1.toNat, .int .u32 b2.toNat, .int .u32 b3.toNat, .int .u32 b4.toNat, .int .u32 b5.toNat, .int .u32 b6.toNat, .int .u32 b7.toNat]) ∧ Below W.heap.size W w' := fun W => by
        have h1 : (y.extract 0 64).size = 64 := by simp; omega
        have := block_any [x0, x1, x2, x3, x4, x5, x6, x7] rfl (y.extract 0 64) (by omega) (by omega) W
        rw [hbF] at this
        exact this
      have HC := Lib.hid hC
      have HBF := Lib.hid hbF
      clear hC hbF
      have fz := fun (j : Nat) => Lib.frozen_of_heap HS.out j
      go_upto_region 6 with fail
      go_region_law (go_simp; go_at_call 75; refine (HC.out _).mono ?_; rintro e w2 ⟨rfl, hb2⟩; have g0 := (hb2.cell (p := ⟨d, 0, none⟩) hdl).trans a0; have g1 := (hb2.cell (p := ⟨d, 1, none⟩) hdl).trans a1; have g2 := (hb2.cell (p := ⟨d, 2, none⟩) hdl).trans a2; have g3 := (hb2.cell (p := ⟨d, 3, none⟩) hdl).trans a3; have g4 := (hb2.cell (p := ⟨d, 4, none⟩) hdl).trans a4; have g5 := (hb2.cell (p := ⟨d, 5, none⟩) hdl).trans a5; have g6 := (hb2.cell (p := ⟨d, 6, none⟩) hdl).trans a6; have g7 := (hb2.cell (p := ⟨d, 7, none⟩) hdl).trans a7; have g8 := (hb2.cell (p := ⟨d, 8, none⟩) hdl).trans a8; have h0 := (hb2.frozen (p := ⟨d, 0, none⟩) hdl).trans (fz 0); have h1 := (hb2.frozen (p := ⟨d, 1, none⟩) hdl).trans (fz 1); have h2 := (hb2.frozen (p := ⟨d, 2, none⟩) hdl).trans (fz 2); have h3 := (hb2.frozen (p := ⟨d, 3, none⟩) hdl).trans (fz 3); have h4 := (hb2.frozen (p := ⟨d, 4, none⟩) hdl).trans (fz 4); have h5 := (hb2.frozen (p := ⟨d, 5, none⟩) hdl).trans (fz 5); have h6 := (hb2.frozen (p := ⟨d, 6, none⟩) hdl).trans (fz 6); have h7 := (hb2.frozen (p := ⟨d, 7, none⟩) hdl).trans (fz 7); have h8 := (hb2.frozen (p := ⟨d, 8, none⟩) hdl).trans (fz 8))
      all_goals go_wp2_with fail
      all_goals
        obtain ⟨n1, n2, n3⟩ := a1_round hd hk HV.out HY.out h64 HBF.out (w2 := w2) ((hb2.block d hdl).trans HS.out) (HBL.out.drew.trans (hb2.mono hz))
        have N2 := Lib.hid n2
        have n4 := restLen_at rfl HS.out
        clear n2
        go_roundw
        case rel => exact ⟨k + 1, n1, N2.out⟩
        case measure => rw [n4]; omega
    · clear hst hbl hy hys a0 a1 a2 a3 a4 a5 a6 a7
      go_wp2_with fail
      go_ret
      have e : (r ++ x).size / 64 = k := by
        have := HYS.out
        omega
      rw [e]
      exact ⟨rfl, by rw [HV.out, HY.out]; exact HS.out, HBL.out⟩

end Go.Proofs.YtlanhogdeiiecaaDoor
