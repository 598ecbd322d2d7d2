/-
  digest's block (layer 3) at this program: the state behind one more block of 64 bytes.
-/
import Derived.Test.YtlanhogdeiiecaaDoorConst
import Derived.Laws.CopyOwn
import Derived.BigRegion
import Derived.Deep.RegionHeld3
set_option linter.unusedVariables false
set_option linter.unusedSimpArgs false
namespace Go.Proofs.YtlanhogdeiiecaaDoor
open Go.RowKit Go.Shelf Go.Lib

/-- A row of words in a block of its own. -/
def RowW (W : World) (b : Nat) (t : TypeId) (xs : List U32) : Prop := W.heap[b]? = some (.cells (xs.map W32).toArray t (0, 0))
theorem RowW.cell {W : World} {b : Nat} {t : TypeId} {xs : List U32} (h : RowW W b t xs) (j : Nat) (hj : j < xs.length) : W.cell? ⟨b, j, none⟩ = some (.int .u32 (xs.getD j 0).toNat) := by
  rw [Lib.cell_of_heap h]
  simp [W32, List.getD, hj]
theorem RowW.frozen {W : World} {b : Nat} {t : TypeId} {xs : List U32} (h : RowW W b t xs) (j : Nat) : W.frozen? ⟨b, j, none⟩ = false := Lib.frozen_of_heap h j
theorem RowW.lt {W : World} {b : Nat} {t : TypeId} {xs : List U32} (h : RowW W b t xs) : b < W.heap.size := (Array.getElem?_eq_some_iff.1 h).1
theorem RowW.same {W W' : World} {b : Nat} {t : TypeId} {xs : List U32} (h : RowW W b t xs) (e : W'.heap[b]? = W.heap[b]?) : RowW W' b t xs := e.trans h
theorem RowW.set {W : World} {b : Nat} {t : TypeId} {xs : List U32} (h : RowW W b t xs) (j : Nat) (x : U32) : RowW (W.setCell ⟨b, j, none⟩ (.int .u32 x.toNat)) b t (xs.set j x) := by
  unfold RowW at h ⊢
  simp [World.setCell, Array.getElem?_modify, h, W32, List.map_set]
theorem RowW.far {W : World} {b : Nat} {t : TypeId} {xs : List U32} (h : RowW W b t xs) {q : Addr} (hq : b ≠ q.block) (u : Value) : RowW (W.setCell q u) b t xs := (Below.heap_setCell W q u b hq).trans h

def byteAt (b : ByteArray) (i : Nat) : U32 := BitVec.ofNat 32 (b.data.toList.getD i 0).toNat
/-- The word of four bytes, the first of them taken in. -/
def part (b : ByteArray) (i : Nat) : Nat → U32
  | 0 => 0
  | j + 1 => part b i j <<< 8 ||| byteAt b (4 * i + j)
/-- The next word of the schedule. -/
def wNext (b : ByteArray) (k : Nat) (l : List U32) : U32 :=
  if k < 16 then part b k 4
  else (l.getD (k - 16) 0 + l.getD (k - 7) 0 + ((rotr (l.getD (k - 15) 0) 7 ^^^ rotr (l.getD (k - 15) 0) 18) ^^^ l.getD (k - 15) 0 >>> 3)) + ((rotr (l.getD (k - 2) 0) 17 ^^^ rotr (l.getD (k - 2) 0) 19) ^^^ l.getD (k - 2) 0 >>> 10)
/-- The schedule, its first k words made. -/
def ws (b : ByteArray) : Nat → List U32
  | 0 => List.replicate 64 0
  | k + 1 => (ws b k).set k (wNext b k (ws b k))
theorem ws_length (b : ByteArray) : ∀ k, (ws b k).length = 64
  | 0 => by simp [ws]
  | k + 1 => by simp [ws, ws_length b k]
theorem ws_zero (b : ByteArray) : ∀ (k j : Nat), k ≤ j → (ws b k).getD j 0 = 0
  | 0, j, _ => by
    unfold ws
    rw [List.getD_eq_getElem?_getD, List.getElem?_replicate]
    split <;> rfl
  | k + 1, j, h => by
    unfold ws
    rw [List.getD, List.getElem?_set_ne (by omega)]
    exact ws_zero b k j (by omega)

attribute [local go_sem] b_xor b_and b_or b_add

/-- What holds between two rounds of the first loop. -/
def B1 (s : List U32) (b : ByteArray) (w : World) (k : Nat) (W : World) : Prop :=
  RowW W w.heap.size 107 s ∧ RowW W (w.heap.size + 1) 107 (List.replicate 8 0) ∧ RowW W (w.heap.size + 1 + 1) 129 (ws b k) ∧ Below w.heap.size w W
/-- .. of the inner one. -/
def B2 (s : List U32) (b : ByteArray) (w : World) (k j : Nat) (W : World) : Prop :=
  RowW W w.heap.size 107 s ∧ RowW W (w.heap.size + 1) 107 (List.replicate 8 0) ∧ RowW W (w.heap.size + 1 + 1) 129 ((ws b k).set k (part b k j)) ∧ Below w.heap.size w W

theorem b2_start {s : List U32} {b : ByteArray} {w W : World} {k : Nat} (hk : k < 16) (h : B1 s b w k W) : B2 s b w k 0 W := by
  obtain ⟨h1, h2, h3, h4⟩ := h
  refine ⟨h1, h2, ?_, h4⟩
  have e : (ws b k).set k (part b k 0) = ws b k := by
    have hz := ws_zero b k k (Nat.le_refl _)
    have hl := ws_length b k
    rw [List.getD_eq_getElem?_getD, List.getElem?_eq_getElem (by omega)] at hz
    simp only [Option.getD_some] at hz
    show (ws b k).set k 0 = ws b k
    rw [← hz]
    exact List.set_getElem_self _
  rw [e]
  exact h3

theorem B2.cellk {s : List U32} {b : ByteArray} {w W : World} {k j : Nat} (hk : k < 16) (h : B2 s b w k j W) : W.cell? ⟨w.heap.size + 1 + 1, k, none⟩ = some (.int .u32 (part b k j).toNat) := by
  have := h.2.2.1.cell k (by simp [ws_length]; omega)
  rw [this]
  have hl := ws_length b k
  simp [List.getD, List.getElem?_set_self (show k < (ws b k).length by omega)]
theorem part_step (x : U32) (b : ByteArray) (i : Nat) (hi : i < b.size) : bits .or .u32 ((x.toNat : Int) * 256 % 4294967296) ((b[i].toNat : Int) % 4294967296) = ((x <<< 8 ||| byteAt b i).toNat : Int) := by
  have e1 : (x.toNat : Int) * (256 : Int) % (4294967296 : Int) = ((x <<< 8).toNat : Int) := by
    have := b_shl x 8
    exact this
  have e2 : (b[i].toNat : Int) % (4294967296 : Int) = ((byteAt b i).toNat : Int) := by
    have h : b.data.toList.getD i 0 = b[i] := by
      rw [List.getD_eq_getElem?_getD, List.getElem?_eq_getElem (by simpa using hi)]
      rfl
    unfold byteAt
    rw [h, BitVec.toNat_ofNat]
    have := b[i].toNat_lt
    omega
  rw [e1, e2, b_or]
theorem b2_next {s : List U32} {b : ByteArray} {w W : World} {k j : Nat} (hk : k < 16) (h : B2 s b w k j W) (v : Int) (hv : v = ((part b k j <<< 8 ||| byteAt b (4 * k + j)).toNat : Int)) :
    B2 s b w k (j + 1) (W.setCell ⟨w.heap.size + 1 + 1, k, none⟩ (.int .u32 v)).drew := by
  obtain ⟨h1, h2, h3, h4⟩ := h
  subst hv
  refine ⟨h1.far (q := ⟨w.heap.size + 1 + 1, k, none⟩) (by simp; omega) _, h2.far (q := ⟨w.heap.size + 1 + 1, k, none⟩) (by simp) _, ?_, (bl_set h4 (p := ⟨w.heap.size + 1 + 1, k, none⟩) (by simp; omega) _).drew⟩
  have h5 := h3.set k (part b k j <<< 8 ||| byteAt b (4 * k + j))
  rw [List.set_set] at h5
  exact h5
theorem b1_next16 {s : List U32} {b : ByteArray} {w W : World} {k : Nat} (hk : k < 16) (h : B2 s b w k 4 W) : B1 s b w (k + 1) W := by
  obtain ⟨h1, h2, h3, h4⟩ := h
  refine ⟨h1, h2, ?_, h4⟩
  have e : ws b (k + 1) = (ws b k).set k (part b k 4) := by
    show (ws b k).set k (wNext b k (ws b k)) = _
    unfold wNext
    rw [if_pos hk]
  rw [e]
  exact h3

theorem bl_drewN {B : Nat} {w0 w : World} (h : Below B w0 w) (n : Nat) : Below B w0 (w.drewN n) := ⟨h.os, h.tape, h.output, h.size, h.block⟩
theorem sched_step (y0 y1 y2 y3 : U32) : ((((y0.toNat : Int) + (y1.toNat : Int)) % (4294967296 : Int) + bits .xor .u32 (((rotr y2 7).toNat ^^^ (rotr y2 18).toNat : Nat) : Int) ((y2.toNat : Int) / (8 : Int))) % (4294967296 : Int) + bits .xor .u32 (((rotr y3 17).toNat ^^^ (rotr y3 19).toNat : Nat) : Int) ((y3.toNat : Int) / (1024 : Int))) % (4294967296 : Int) = (((y0 + y1 + ((rotr y2 7 ^^^ rotr y2 18) ^^^ y2 >>> 3)) + ((rotr y3 17 ^^^ rotr y3 19) ^^^ y3 >>> 10) : U32).toNat : Int) := by
  have e1 : (y2.toNat : Int) / (8 : Int) = ((y2 >>> 3).toNat : Int) := b_shr y2 3
  have e2 : (y3.toNat : Int) / (1024 : Int) = ((y3 >>> 10).toNat : Int) := b_shr y3 10
  rw [e1, e2, ← BitVec.toNat_xor, ← BitVec.toNat_xor, b_xor, b_xor, b_add, b_add, b_add]
theorem b1_next64 {s : List U32} {b : ByteArray} {w W : World} {k : Nat} (hk : ¬ k < 16) (h : B1 s b w k W) (n : Nat) (v : Int) (hv : v = ((wNext b k (ws b k)).toNat : Int)) :
    B1 s b w (k + 1) ((W.drewN n).setCell ⟨w.heap.size + 1 + 1, k, none⟩ (.int .u32 v)) := by
  obtain ⟨h1, h2, h3, h4⟩ := h
  subst hv
  refine ⟨RowW.far (W := W.drewN n) h1 (q := ⟨w.heap.size + 1 + 1, k, none⟩) (by simp; omega) _, RowW.far (W := W.drewN n) h2 (q := ⟨w.heap.size + 1 + 1, k, none⟩) (by simp) _, ?_, bl_set (W := W.drewN n) (bl_drewN h4 n) (p := ⟨w.heap.size + 1 + 1, k, none⟩) (by simp; omega) _⟩
  exact RowW.set (W := W.drewN n) h3 k _
theorem rows_start (w : World) (s : List U32) (b : ByteArray) : B1 s b w 0 (((w.alloc (.cells (s.map W32).toArray 107)).alloc (.cells (List.replicate 8 (W32 0)).toArray 107)).alloc (.cells (List.replicate 64 (W32 0)).toArray 129)) := by
  refine ⟨nw31 w _ _ _, ?_, ?_, bl_alloc (bl_alloc (bl_alloc (Below.refl _ w) _) _) _⟩
  · have := nw32 w (.cells (s.map W32).toArray 107) (.cells (List.replicate 8 (W32 0)).toArray 107) (.cells (List.replicate 64 (W32 0)).toArray 129)
    unfold RowW
    rw [List.map_replicate]
    exact this
  · have := nw33 w (.cells (s.map W32).toArray 107) (.cells (List.replicate 8 (W32 0)).toArray 107) (.cells (List.replicate 64 (W32 0)).toArray 129)
    unfold RowW ws
    rw [List.map_replicate]
    exact this

theorem lenK : (kk.map W32).length = 64 := by kernel_rfl
theorem one_w (l : List U32) : ∀ v ∈ l.map W32, v.oneCell' = true := by
  intro v hv
  obtain ⟨x, _, rfl⟩ := List.mem_map.1 hv
  rfl
theorem size_k {old : Array Value} (h : old.size = 64) : old.size = (kk.map W32).toArray.size := by rw [h, List.size_toArray, lenK]
theorem lt_some {W : World} {b : Nat} {x : Obj} (h : W.heap[b]? = some x) : b < W.heap.size := (Array.getElem?_eq_some_iff.1 h).1
theorem state_n : (Tryd.prog.info? 107).map (·.size) = some 8 := by kernel_rfl
theorem state_u : Tryd.prog.underlying 107 = some (.array 8 82) := by kernel_rfl
theorem run_load_row {W : World} {b : Nat} {c : List U32} {a : Act} {x : Operand} {o : Oper} (hc : W.heap[b]? = some (.cells (c.map W32).toArray 107 (0, 0))) (hl : c.length = 8) (ho : o.op = .load 107 x) (hx : a.eval x = .pointer (some ⟨b, 0, none⟩)) :
    (execOp a.eval o).run Tryd.prog W = .ok (.value (.agg (c.map W32).toArray)) W := by
  have := run_loadVar_row (P := Tryd.prog) W b _ 107 _ _ _ hc state_u rfl (by rw [state_n]; simp [hl])
  unfold execOp
  simp only [ho, hx, Instr.loadAt, Instr.sureAddr, Sem.run_bind, Sem.run_pure, Result.andThen_ok, this]
theorem a_old {W W' : World} {o : Obj} {b : Nat} {x : Obj} (hW : W.alloc o = W') (h : W.heap[b]? = some x) : W'.heap[b]? = some x := hW ▸ (one_old W o b (lt_some h)).trans h
theorem a_new {W W' : World} {o : Obj} (hW : W.alloc o = W') : W'.heap[W.heap.size]? = some o := hW ▸ heap_alloc_last W o
theorem a_bl {w W W' : World} {o : Obj} (hW : W.alloc o = W') (h : Below w.heap.size w W) : Below w.heap.size w W' := hW ▸ bl_alloc h o
theorem s_same {W W' : World} {g : Nat} {c old : Array Value} {t : TypeId} {fr : Nat × Nat} (hW : W.setRow g c = W') (h : W.heap[g]? = some (.cells old t fr)) : W'.heap[g]? = some (.cells c t fr) := hW ▸ setRow_heap W g old c t fr h
theorem s_old {W W' : World} {g b : Nat} {c : Array Value} {x : Obj} (hW : W.setRow g c = W') (hb : b ≠ g) (h : W.heap[b]? = some x) : W'.heap[b]? = some x := hW ▸ (setRow_other W g b c hb).trans h
theorem s_bl {w W W' : World} {g : Nat} {c : Array Value} (hW : W.setRow g c = W') (h : Below w.heap.size w W) (hg : w.heap.size ≤ g) : Below w.heap.size w W' := hW ▸ below_setRow h hg c
theorem range_row {W : World} {b : Nat} {c : List Value} {t : TypeId} (h : W.heap[b]? = some (.cells c.toArray t (0, 0))) : W.rangeAt b 0 c := fun j v hv => by
  rw [Nat.zero_add, Lib.cell_of_heap h]
  simpa using hv
def rnd (b : ByteArray) (k : Nat) (v : List U32) : List U32 :=
  let x (i : Nat) := v.getD i 0
  let t := x 7 + ((rotr (x 4) 6 ^^^ rotr (x 4) 11) ^^^ rotr (x 4) 25) + (x 6 ^^^ x 4 &&& (x 5 ^^^ x 6)) + kk.getD k 0 + (ws b 64).getD k 0
  let u := ((rotr (x 0) 2 ^^^ rotr (x 0) 13) ^^^ rotr (x 0) 22) + (x 0 &&& x 1 ||| x 2 &&& (x 0 ||| x 1))
  [t + u, x 0, x 1, x 2, x 3 + t, x 4, x 5, x 6]
def vs (s : List U32) (b : ByteArray) : Nat → List U32
  | 0 => s
  | k + 1 => rnd b k (vs s b k)
/-- What holds between two rounds of the third loop. -/
def B3 (s : List U32) (b : ByteArray) (w : World) (p q k : Nat) (W : World) : Prop :=
  RowW W w.heap.size 107 s ∧ RowW W (w.heap.size + 1) 107 (List.replicate 8 0) ∧ RowW W (w.heap.size + 1 + 1) 129 (ws b 64) ∧ RowW W p 107 (vs s b k) ∧ W.rangeAt q 0 (kk.map W32) ∧ w.heap.size + 1 + 1 < p ∧ w.heap.size + 1 + 1 < q ∧ p ≠ q ∧ Below w.heap.size w W

/-- B3 but for the row of the third loop's own words. -/
def BC (s : List U32) (b : ByteArray) (w : World) (p q : Nat) (W : World) : Prop :=
  RowW W w.heap.size 107 s ∧ RowW W (w.heap.size + 1) 107 (List.replicate 8 0) ∧ RowW W (w.heap.size + 1 + 1) 129 (ws b 64) ∧ W.rangeAt q 0 (kk.map W32) ∧ w.heap.size + 1 + 1 < p ∧ w.heap.size + 1 + 1 < q ∧ p ≠ q ∧ Below w.heap.size w W
theorem range_far {W : World} {q p : Nat} {c : List Value} (h : W.rangeAt q 0 c) (hpq : p ≠ q) (d : Array Value) : (W.setRow p d).rangeAt q 0 c := fun j v hv => by
  rw [cell_setRow_other W p d _ (fun e => hpq e.symm)]
  exact h j v hv
theorem range_far1 {W : World} {q p o : Nat} {c : List Value} (h : W.rangeAt q 0 c) (hpq : p ≠ q) (u : Value) : (W.setCell ⟨p, o, none⟩ u).rangeAt q 0 c := fun j v hv => by
  rw [World.cell?_setCell_far W ⟨p, o, none⟩ _ u hpq]
  exact h j v hv
theorem bc_set {s : List U32} {b : ByteArray} {w W : World} {p q k : Nat} (h : B3 s b w p q k W) (c : Array Value) : BC s b w p q (W.drew.setRow p c) := by
  obtain ⟨h1, h2, h3, h4, h5, h6, h7, h8, h9⟩ := h
  exact ⟨(setRow_other W.drew p _ c (by omega)).trans h1, (setRow_other W.drew p _ c (by omega)).trans h2, (setRow_other W.drew p _ c (by omega)).trans h3, range_far (W := W.drew) (fun j v hv => h5 j v hv) h8 c, h6, h7, h8, below_setRow h9.drew (by omega) c⟩
theorem b3_next {s : List U32} {b : ByteArray} {w W : World} {p q k : Nat} {x0 x1 x2 x3 x4 x5 x6 : U32} (h : BC s b w p q W) (hp : RowW W p 107 [x0, x0, x1, x2, x3, x4, x5, x6]) (y z : U32) (m n : Int) (hm : m = (y.toNat : Int)) (hn : n = (z.toNat : Int)) (hv : vs s b (k + 1) = [y, x0, x1, x2, z, x4, x5, x6]) :
    B3 s b w p q (k + 1) ((W.setCell ⟨p, 0, none⟩ (.int .u32 m)).setCell ⟨p, 4, none⟩ (.int .u32 n)) := by
  obtain ⟨h1, h2, h3, h5, h6, h7, h8, h9⟩ := h
  subst hm hn
  refine ⟨(h1.far (q := ⟨p, 0, none⟩) (by simp; omega) _).far (q := ⟨p, 4, none⟩) (by simp; omega) _, (h2.far (q := ⟨p, 0, none⟩) (by simp; omega) _).far (q := ⟨p, 4, none⟩) (by simp; omega) _, (h3.far (q := ⟨p, 0, none⟩) (by simp; omega) _).far (q := ⟨p, 4, none⟩) (by simp; omega) _, ?_, range_far1 (range_far1 h5 h8 _) h8 _, h6, h7, h8, bl_set (bl_set h9 (p := ⟨p, 0, none⟩) (by simp; omega) _) (p := ⟨p, 4, none⟩) (by simp; omega) _⟩
  rw [hv]
  exact (hp.set 0 y).set 4 z
/-- The words behind the block, the first i of them summed. -/
def outs (s v : List U32) : Nat → List U32
  | 0 => s
  | i + 1 => (outs s v i).set i ((outs s v i).getD i 0 + v.getD i 0)
/-- What holds between two rounds of the last loop. -/
def B4 (s : List U32) (b : ByteArray) (w : World) (p i : Nat) (W : World) : Prop :=
  RowW W w.heap.size 107 (outs s (vs s b 64) i) ∧ RowW W (w.heap.size + 1) 107 (List.replicate 8 0) ∧ RowW W p 107 (vs s b 64) ∧ w.heap.size + 1 + 1 < p ∧ Below w.heap.size w W
theorem outs_length (s v : List U32) : ∀ i, (outs s v i).length = s.length
  | 0 => rfl
  | i + 1 => by simp [outs, outs_length s v i]
theorem b4_next {s : List U32} {b : ByteArray} {w W : World} {p i : Nat} (h : B4 s b w p i W) (m : Int) (hm : m = (((outs s (vs s b 64) i).getD i 0 + (vs s b 64).getD i 0 : U32).toNat : Int)) :
    B4 s b w p (i + 1) (W.setCell ⟨w.heap.size, i, none⟩ (.int .u32 m)).drew := by
  obtain ⟨h1, h2, h3, h4, h5⟩ := h
  subst hm
  exact ⟨h1.set i _, h2.far (q := ⟨w.heap.size, i, none⟩) (by simp) _, h3.far (q := ⟨w.heap.size, i, none⟩) (by simp; omega) _, h4, (bl_set h5 (p := ⟨w.heap.size, i, none⟩) (by simp) _).drew⟩
/-- The words behind one more block. -/
def blockF (s : List U32) (b : ByteArray) : List U32 := outs s (vs s b 64) 8
theorem blockF_length (s : List U32) (hs : s.length = 8) (b : ByteArray) : (blockF s b).length = 8 := (outs_length s _ 8).trans hs
theorem b4_done {s : List U32} {b : ByteArray} {w W : World} {p : Nat} (h : B4 s b w p 8 W) : RowW W w.heap.size 107 (blockF s b) ∧ RowW W (w.heap.size + 1) 107 (List.replicate 8 0) ∧ Below w.heap.size w W := ⟨h.1, h.2.1, h.2.2.2.2⟩
theorem b4_start {s : List U32} {b : ByteArray} {w W : World} {p q : Nat} (h : B3 s b w p q 64 W) : B4 s b w p 0 W := ⟨h.1, h.2.1, h.2.2.2.1, h.2.2.2.2.2.1, h.2.2.2.2.2.2.2.2⟩
theorem there_below {W w2 : World} (h : Below W.heap.size W w2) (b o n : Nat) (hn : 0 < n) (ht : W.there b o n) : w2.there b o n := by
  obtain ⟨u, hu⟩ := Option.isSome_iff_exists.1 (ht 0 hn).1
  have hb := World.block_lt_of_cell? W _ hu
  intro j hj
  rw [h.cell (p := ⟨b, o + j, none⟩) hb, h.frozen (p := ⟨b, o + j, none⟩) hb]
  exact ht j hj

theorem quiet_addE {P : Program} {f : FuncId} {args : Array Value} {w : World} {a n : Nat} {v : Value}
    (h : Calls P f args (w.drewN (a + n)) fun e w' => e = .returned v ∧ ∃ m, w' = (w.drewN (a + n)).drewN m) : Calls P f args (w.drewN (a + n)) fun e w'' => e = .returned v ∧ ∃ m, w'' = w.drewN (a + m) :=
  h.mono fun _ _ ⟨he, m, hm⟩ => ⟨he, n + m, by rw [hm, World.drewN_drewN, Nat.add_assoc]⟩
theorem t_num (x4 x5 x6 x7 yk yw : U32) : ((((x7.toNat : Int) + bits .xor .u32 (((rotr x4 6).toNat ^^^ (rotr x4 11).toNat : Nat) : Int) ((rotr x4 25).toNat : Int) + bits .xor .u32 (x6.toNat : Int) (bits .and .u32 (x4.toNat : Int) ((x5.toNat ^^^ x6.toNat : Nat) : Int)) + (yk.toNat : Int)) % (4294967296 : Int) + (yw.toNat : Int)) % (4294967296 : Int)) =
    ((x7 + ((rotr x4 6 ^^^ rotr x4 11) ^^^ rotr x4 25) + (x6 ^^^ x4 &&& (x5 ^^^ x6)) + yk + yw : U32).toNat : Int) := by
  rw [← BitVec.toNat_xor, ← BitVec.toNat_xor, b_xor, b_and, b_xor, ← b_add, ← b_add, ← b_add, ← b_add]
  omega
theorem u_num (x0 x1 x2 : U32) : ((bits .xor .u32 (((rotr x0 2).toNat ^^^ (rotr x0 13).toNat : Nat) : Int) ((rotr x0 22).toNat : Int) + bits .or .u32 ((x0.toNat &&& x1.toNat : Nat) : Int) (bits .and .u32 (x2.toNat : Int) ((x0.toNat ||| x1.toNat : Nat) : Int))) % (4294967296 : Int)) =
    ((((rotr x0 2 ^^^ rotr x0 13) ^^^ rotr x0 22) + (x0 &&& x1 ||| x2 &&& (x0 ||| x1)) : U32).toNat : Int) := by
  rw [← BitVec.toNat_xor, ← BitVec.toNat_and, ← BitVec.toNat_or, b_xor, b_and, b_or, ← b_add]
theorem step_copy_set {P : Program} {ops : Array Oper} {o : Oper} {a : Act} {w : World} {K : Act → World → Prop} {Q : Exit → Act → World → Prop} {E : Prop} (hgd : o.guard = none) (d s : Operand) (dT sT : TypeId)
    (ho : o.op = .call { callee := .builtin .copy, args := #[d, s], argTypes := #[dT, sT] }) (elem : TypeId) (hu : P.underlying dT = some (.slice elem)) (hsz : (P.info? elem).map (·.size) = some 1)
    (g off dLen dCap : Nat) (ad : Addr) (sLen sCap : Nat) (hd : a.eval d = .slice (some ⟨g, off, none⟩) dLen dCap) (hs : a.eval s = .slice (some ad) sLen sCap)
    (cur : List Value) (t : TypeId) (hg : w.heap[g]? = some (.cells cur.toArray t (0, 0))) (cs : List Value) (hn : cs.length = Nat.min sLen dLen)
    (hsrc : ∀ j v, cs[j]? = some v → w.cell? (ad.add j) = some v) (hfit : off + cs.length ≤ cur.length) (h1 : ∀ v ∈ cs, v.oneCell' = true)
    (h : K (a.put o.dst (goInt cs.length)) (w.setRow g (splice cur off cs).toArray)) :
    if Region.wanted o (yielded ops a.tmps) = true then Oper.wp P o a w K Q else E := by
  have hw : Region.wanted o (yielded ops a.tmps) = true := by simp [Region.wanted, hgd]
  rw [if_pos hw]
  have hrun := run_copy_row (P := P) w dT sT o.type elem g off dLen dCap ad sLen sCap cur.toArray t cs hu hsz hg hn hsrc (by simpa using hfit) h1
  unfold Oper.wp
  simp [execOp, ho, resolve, invoke, builtin, hd, hs, hrun, Result.andThen]
  exact h
theorem b3_drewN {s : List U32} {b : ByteArray} {w W : World} {p q k : Nat} (h : B3 s b w p q k W) (n : Nat) : B3 s b w p q k (W.drewN n) := by
  obtain ⟨h1, h2, h3, h4, h5, h6, h7, h8, h9⟩ := h
  exact ⟨h1, h2, h3, h4, h5, h6, h7, h8, bl_drewN h9 n⟩
theorem copy_src {W : World} {p : Nat} {x0 x1 x2 x3 x4 x5 x6 x7 : U32} (h : RowW W p 107 [x0, x1, x2, x3, x4, x5, x6, x7]) : ∀ j v, (([x0, x1, x2, x3, x4, x5, x6] : List U32).map W32)[j]? = some v → W.cell? ((⟨p, 0, none⟩ : Addr).add j) = some v := by
  intro j v hv
  rw [Addr.add_mid, Nat.zero_add]
  have hj : j < 7 := by have := (List.getElem?_eq_some_iff.1 hv).1; simpa using this
  rw [h.cell j (by simp; omega), ← hv, List.getElem?_map]
  have : j = 0 ∨ j = 1 ∨ j = 2 ∨ j = 3 ∨ j = 4 ∨ j = 5 ∨ j = 6 := by omega
  rcases this with rfl | rfl | rfl | rfl | rfl | rfl | rfl <;> rfl
theorem rnd_length (b : ByteArray) (k : Nat) (v : List U32) : (rnd b k v).length = 8 := rfl
theorem vs_length (s : List U32) (hs : s.length = 8) (b : ByteArray) : ∀ k, (vs s b k).length = 8
  | 0 => hs
  | _ + 1 => rfl
theorem eight {l : List U32} (h : l.length = 8) : ∃ x0 x1 x2 x3 x4 x5 x6 x7, l = [x0, x1, x2, x3, x4, x5, x6, x7] := by
  match l, h with
  | [a, b, c, d, e, f, g, h], _ => exact ⟨_, _, _, _, _, _, _, _, rfl⟩

set_option maxRecDepth 100000 in
set_option maxHeartbeats 4000000 in
theorem block_any (s : List U32) (hs : s.length = 8) (b : ByteArray) (hb : 64 ≤ b.size) (hb2 : b.size ≤ 1000000) (w : World) :
    Calls Tryd.prog 75 #[.agg (s.map W32).toArray, .string b] w fun e w' => e = .returned (.agg ((blockF s b).map W32).toArray) ∧ Below w.heap.size w w' := by
  obtain ⟨s0, s1, s2, s3, s4, s5, s6, s7, rfl⟩ : ∃ s0 s1 s2 s3 s4 s5 s6 s7, s = [s0, s1, s2, s3, s4, s5, s6, s7] := by
    match s, hs with
    | [a, b, c, d, e, f, g, h], _ => exact ⟨_, _, _, _, _, _, _, _, rfl⟩
  simp only [List.map_cons, List.map_nil, W32]
  clear hs
  go_enter Tryd.func75, Tryd.ntmps75
  go_wp2_with fail
  generalize hW : World.alloc _ _ = W
  have S0 : B1 [s0, s1, s2, s3, s4, s5, s6, s7] b w 0 W := by rw [← hW]; exact rows_start w _ b
  have SH := Lib.hid S0
  clear S0 hW
  go_loopw [18] (fun v18 wr => ∃ k : Nat, k ≤ 64 ∧ v18 = .int .i64 k ∧ B1 [s0, s1, s2, s3, s4, s5, s6, s7] b w k wr) (fun v18 _ => 64 - (intOf v18).toNat)
  case atStart => exact ⟨0, by omega, rfl, SH.out⟩
  case round =>
    obtain ⟨k, hk, rfl, hrel⟩ := hrel
    have HR := Lib.hid hrel
    obtain ⟨h1, h2, h3, h4⟩ := hrel
    have hwz := h4.size
    by_cases h16 : k < 16
    · have hlt : k < 64 := by omega
      clear h1 h2 h3
      go_wp2_with fail
      have S2 := b2_start h16 HR.out
      have SH2 := Lib.hid S2
      clear S2
      go_loopw [23] (fun v23 wq => ∃ j : Nat, j ≤ 4 ∧ v23 = .int .i64 j ∧ B2 [s0, s1, s2, s3, s4, s5, s6, s7] b w k j wq) (fun v23 _ => 4 - (intOf v23).toNat)
      case atStart => exact ⟨0, by omega, rfl, SH2.out⟩
      case round =>
        obtain ⟨j, hj, rfl, hrel2⟩ := hrel
        have HR2 := Lib.hid hrel2
        have g3 := hrel2.2.2.1
        by_cases hj4 : j < 4
        · have c1 := hrel2.cellk h16
          have f1 := g3.frozen k
          clear hrel2 g3
          have i0 : 0 ≤ 4 * (k : Int) + (j : Int) := by omega
          have i1 : 4 * (k : Int) + (j : Int) < (b.size : Int) := by omega
          have i2 : (4 * (k : Int) + (j : Int)).toNat = 4 * k + j := by omega
          have i3 : 4 * k + j < b.size := by omega
          go_wp2_with fail
          go_region
          go_wp2_with fail
          exact ⟨⟨j + 1, by omega, by go_num, b2_next h16 HR2.out _ (part_step _ b _ i3)⟩, by simp [intOf]; omega⟩
        · have e : j = 4 := by omega
          have HE := Lib.hid e
          clear e hrel2 g3
          go_wp2_with fail
          exact ⟨⟨k + 1, by omega, by go_num, b1_next16 h16 (HE.out ▸ HR2.out)⟩, by simp [intOf]; omega⟩
    · by_cases h64 : k < 64
      · have a0 := h3.cell (k - 16) (by rw [ws_length]; omega)
        have a1 := h3.cell (k - 15) (by rw [ws_length]; omega)
        have a2 := h3.cell (k - 7) (by rw [ws_length]; omega)
        have a3 := h3.cell (k - 2) (by rw [ws_length]; omega)
        have a4 := h3.cell k (by rw [ws_length]; omega)
        have f1 := h3.frozen k
        generalize hy0 : (ws b k).getD (k - 16) 0 = y0 at a0
        generalize hy1 : (ws b k).getD (k - 7) 0 = y1 at a2
        generalize hy2 : (ws b k).getD (k - 15) 0 = y2 at a1
        generalize hy3 : (ws b k).getD (k - 2) 0 = y3 at a3
        generalize hy4 : (ws b k).getD k 0 = y4 at a4
        have YH : Go.RowKit.Hid (wNext b k (ws b k) = (y0 + y1 + ((rotr y2 7 ^^^ rotr y2 18) ^^^ y2 >>> 3)) + ((rotr y3 17 ^^^ rotr y3 19) ^^^ y3 >>> 10)) := Lib.hid (by unfold wNext; rw [if_neg h16, hy0, hy1, hy2, hy3])
        clear hy0 hy1 hy2 hy3 hy4
        have p0 : (0 : Int) ≤ (k : Int) := by omega
        have p1 : (k : Int) < 64 := by omega
        have p2 : ((k : Int)).toNat = k := by omega
        have i0 : (0 : Int) ≤ (k : Int) - 16 := by omega
        have i1 : (k : Int) - 16 < 64 := by omega
        have i2 : ((k : Int) - 16).toNat = k - 16 := by omega
        have j0 : (0 : Int) ≤ (k : Int) - 15 := by omega
        have j1 : (k : Int) - 15 < 64 := by omega
        have j2 : ((k : Int) - 15).toNat = k - 15 := by omega
        have m0 : (0 : Int) ≤ (k : Int) - 7 := by omega
        have m3 : (7 : Int) ≤ k := by omega
        have m4 : (16 : Int) ≤ k := by omega
        have m1 : (k : Int) - 7 < 64 := by omega
        have m2 : ((k : Int) - 7).toNat = k - 7 := by omega
        have n0 : (0 : Int) ≤ (k : Int) - 2 := by omega
        have n1 : (k : Int) - 2 < 64 := by omega
        have n2 : ((k : Int) - 2).toNat = k - 2 := by omega
        clear h1 h2 h3
        go_wp2_with fail
        go_quiet (fail)
        go_wp2_with fail
        have x1 : IntKind.i64.wrap ((k : Int) - 16) = (k : Int) - 16 := IntWalk.i64_in _ (by omega)
        have x2 : IntKind.i64.wrap ((k : Int) - 7) = (k : Int) - 7 := IntWalk.i64_in _ (by omega)
        have d1 : (⟨w.heap.size + 1 + 1, k - 16, none⟩ : Addr) ≠ ⟨w.heap.size + 1 + 1, k, none⟩ := by
          intro e; have := congrArg Addr.off e; simp only at this; omega
        have d2 : (⟨w.heap.size + 1 + 1, k - 7, none⟩ : Addr) ≠ ⟨w.heap.size + 1 + 1, k, none⟩ := by
          intro e; have := congrArg Addr.off e; simp only at this; omega
        have d3 := fun e => d1 (Eq.symm e)
        have d4 := fun e => d2 (Eq.symm e)
        go_region_held3 (fun w' => w'.cell? ⟨w.heap.size + 1 + 1, k - 16, none⟩ = some (.int .u32 y0.toNat) ∧ w'.cell? ⟨w.heap.size + 1 + 1, k - 7, none⟩ = some (.int .u32 y1.toNat))
          (simp [*, World.cell?_setCell_other])
          (first | (go_at_call 93; refine (right_any _ _ (by simp) _).mono ?_; rintro e w2 ⟨rfl, q2, rfl⟩))
        go_wp2_with fail
        exact ⟨⟨k + 1, by omega, by go_num, b1_next64 h16 HR.out _ _ ((sched_step y0 y1 y2 y3).trans (by rw [YH.out]))⟩, by simp [intOf]; omega⟩
      · have e : k = 64 := by omega
        have HE := Lib.hid e
        clear e
        clear h1 h2 h3
        go_wp2_with fail
        go_cut [10, 11] from 79 to 80 (fun v10 v11 wx => ∃ p q, v10 = .pointer (some ⟨p, 0, none⟩) ∧ v11 = .pointer (some ⟨q, 0, none⟩) ∧ B3 [s0, s1, s2, s3, s4, s5, s6, s7] b w p q 0 wx)
        case first =>
          have a0 : RowW wr.drew w.heap.size 107 [s0, s1, s2, s3, s4, s5, s6, s7] := (HR.out).1
          have b0 : RowW wr.drew (w.heap.size + 1) 107 (List.replicate 8 0) := (HR.out).2.1
          have c0 : RowW wr.drew (w.heap.size + 1 + 1) 129 (ws b 64) := HE.out ▸ (HR.out).2.2.1
          have l0 : Below w.heap.size w wr.drew := (HR.out).2.2.2.drew
          unfold RowW at a0 b0 c0
          refine wp_region_held_drew (S := fun w' => w'.heap[w.heap.size]? = some (.cells (([s0, s1, s2, s3, s4, s5, s6, s7] : List U32).map W32).toArray 107 (0, 0))) (by kernel_rfl) a0 (fun _ => ?_)
          refine wpAnyH_take (i := 0) (oi := { dst := some 79, op := Op.load 107 (Operand.tmp 2), type := 107, pos := "digest.go:49", after := #[], guard := none }) (v := .agg (([s0, s1, s2, s3, s4, s5, s6, s7] : List U32).map W32).toArray) rfl (by kernel_rfl) (by kernel_rfl) (by kernel_rfl) (fun _ _ _ h => h) (Or.inl ⟨by rfl, fun W hW => run_load_row hW rfl rfl rfl⟩) a0 ?_
          simp only [Act.put, List.setIfInBounds_toArray, List.set_cons_zero, List.set_cons_succ]
          generalize wr.drew = W0 at *
          -- REGION 14
          refine wpAnyH_ready (rs := [1, 2, 3]) (by kernel_rfl) (by simp) ?_
          refine AllReadyH.cons (o := { dst := some 80, op := Op.call { callee := Callee.value (Operand.func 94), args := #[], argTypes := #[] }, type := 129, pos := "digest.go:49", after := #[], guard := none }) rfl (fun K hK => ?_) ?_
          ·
            rw [if_pos (by rfl)]
            go_simp
            go_at_call 94
            refine (constants_any _).mono ?_
            rintro e W1 ⟨rfl, hbl⟩
            refine hK.out _ _ ((hbl.block _ (lt_some a0)).trans a0) (fun _ => ?_)
            have a1 := (hbl.block _ (lt_some a0)).trans a0
            have b1 := (hbl.block _ (lt_some b0)).trans b0
            have c1 := (hbl.block _ (lt_some c0)).trans c0
            have l1 := bl_trans l0 hbl
            clear hK K hbl a0 b0 c0 l0
            try simp only [Act.put, List.setIfInBounds_toArray, List.set_cons_zero, List.set_cons_succ]
            refine wpAnyH_ready (rs := [2, 3]) (by kernel_rfl) (by simp) ?_
            refine AllReadyH.cons (o := { dst := some 10, op := Op.alloc 107, type := 0, pos := "digest.go:49", after := #[], guard := none }) rfl (fun K hK => ?_) ?_
            ·
              rw [if_pos (by rfl)]
              go_simp
              refine hK.out _ _ ((one_old _ _ _ (lt_some a1)).trans a1) (fun _ => ?_)
              generalize hW : World.alloc W1 _ = W2
              have a2 := a_old hW a1
              have b2 := a_old hW b1
              have c2 := a_old hW c1
              have p2 := a_new hW
              have l2 := a_bl hW l1
              have hp : w.heap.size + 1 + 1 < W1.heap.size := lt_some c1
              generalize W1.heap.size = p at *
              clear hK K hW a1 b1 c1 l1
              try simp only [Act.put, List.setIfInBounds_toArray, List.set_cons_zero, List.set_cons_succ]
              refine wpAnyH_ready (rs := [3]) (by kernel_rfl) (by simp) ?_
              refine AllReadyH.cons (o := { dst := some 11, op := Op.alloc 129, type := 0, pos := "digest.go:49", after := #[], guard := none }) rfl (fun K hK => ?_) ?_
              ·
                rw [if_pos (by rfl)]
                go_simp
                refine hK.out _ _ ((one_old _ _ _ (lt_some a2)).trans a2) (fun _ => ?_)
                generalize hW : World.alloc W2 _ = W3
                have a3 := a_old hW a2
                have b3 := a_old hW b2
                have c3 := a_old hW c2
                have p3 := a_old hW p2
                have q3 := a_new hW
                have l3 := a_bl hW l2
                have hq : w.heap.size + 1 + 1 < W2.heap.size := lt_some c2
                have hpq0 : p < W2.heap.size := lt_some p2
                generalize W2.heap.size = q at *
                have hpq : p ≠ q := by omega
                clear hK K hW a2 b2 c2 p2 l2
                try simp only [Act.put, List.setIfInBounds_toArray, List.set_cons_zero, List.set_cons_succ]
                refine wpAnyH_ready (rs := [4]) (by kernel_rfl) (by simp) ?_
                refine AllReadyH.cons (o := { dst := none, op := Op.store 107 (Operand.tmp 10) (Operand.tmp 79), type := 0, pos := "digest.go:49", after := #[{ on := 2, ground := Ground.data }, { on := 0, ground := Ground.data }, { on := 1, ground := Ground.chain }, { on := 0, ground := Ground.phase }, { on := 1, ground := Ground.phase }, { on := 2, ground := Ground.phase }, { on := 3, ground := Ground.phase }], guard := none }) rfl (fun K hK => ?_) ?_
                ·
                  rw [if_pos (by rfl)]
                  refine wp_store_row 107 _ _ rfl p (([s0, s1, s2, s3, s4, s5, s6, s7] : List U32).map W32).toArray rfl rfl 107 _ p3 (by rw [state_n]; rfl) rfl (all_oneCell_toArray (one_w _)) ?_
                  refine hK.out _ _ ((setRow_other _ _ _ _ (by omega)).trans a3) (fun _ => ?_)
                  generalize hW : World.setRow W3 _ _ = W4
                  have a4 := s_old hW (by omega) a3
                  have b4 := s_old hW (by omega) b3
                  have c4 := s_old hW (by omega) c3
                  have p4 := s_same hW p3
                  have q4 := s_old hW (by omega) q3
                  have l4 := s_bl hW l3 (by omega)
                  clear hK K hW a3 b3 c3 p3 q3 l3
                  try simp only [Act.put, List.setIfInBounds_toArray, List.set_cons_zero, List.set_cons_succ]
                  refine wpAnyH_ready (rs := [5]) (by kernel_rfl) (by simp) ?_
                  refine AllReadyH.cons (o := { dst := none, op := Op.store 129 (Operand.tmp 11) (Operand.tmp 80), type := 0, pos := "digest.go:49", after := #[{ on := 3, ground := Ground.data }, { on := 1, ground := Ground.data }, { on := 4, ground := Ground.chain }, { on := 0, ground := Ground.phase }, { on := 1, ground := Ground.phase }, { on := 2, ground := Ground.phase }, { on := 3, ground := Ground.phase }, { on := 4, ground := Ground.phase }], guard := none }) rfl (fun K hK => ?_) ?_
                  ·
                    rw [if_pos (by rfl)]
                    refine wp_store_row 129 _ _ rfl q (kk.map W32).toArray rfl rfl 129 _ q4 (by rw [type64_n, List.size_toArray, lenK]) (size_k zs64_size) (all_oneCell_toArray (one_w _)) ?_
                    refine hK.out _ _ ((setRow_other _ _ _ _ (by omega)).trans a4) (fun _ => ?_)
                    generalize hW : World.setRow W4 _ _ = W5
                    have a5 := s_old hW (by omega) a4
                    have b5 := s_old hW (by omega) b4
                    have c5 := s_old hW (by omega) c4
                    have p5 := s_old hW (by omega) p4
                    have q5 := s_same hW q4
                    have l5 := s_bl hW l4 (by omega)
                    clear hK K hW a4 b4 c4 p4 q4 l4
                    try simp only [Act.put, List.setIfInBounds_toArray, List.set_cons_zero, List.set_cons_succ]
                    refine wpAnyH_done (by kernel_rfl) ?_ _
                    go_wp2_with fail
                    go_meet
                    exact ⟨p, q, rfl, rfl, a5, b5, c5, p5, range_row q5, hp, hq, hpq, l5⟩
                  exact AllReadyH.nil
                exact AllReadyH.nil
              exact AllReadyH.nil
            refine AllReadyH.cons (o := { dst := some 11, op := Op.alloc 129, type := 0, pos := "digest.go:49", after := #[], guard := none }) rfl (fun K hK => ?_) ?_
            ·
              rw [if_pos (by rfl)]
              go_simp
              refine hK.out _ _ ((one_old _ _ _ (lt_some a1)).trans a1) (fun _ => ?_)
              generalize hW : World.alloc W1 _ = W2
              have a2 := a_old hW a1
              have b2 := a_old hW b1
              have c2 := a_old hW c1
              have q2 := a_new hW
              have l2 := a_bl hW l1
              have hq : w.heap.size + 1 + 1 < W1.heap.size := lt_some c1
              generalize W1.heap.size = q at *
              clear hK K hW a1 b1 c1 l1
              try simp only [Act.put, List.setIfInBounds_toArray, List.set_cons_zero, List.set_cons_succ]
              refine wpAnyH_ready (rs := [2]) (by kernel_rfl) (by simp) ?_
              refine AllReadyH.cons (o := { dst := some 10, op := Op.alloc 107, type := 0, pos := "digest.go:49", after := #[], guard := none }) rfl (fun K hK => ?_) ?_
              ·
                rw [if_pos (by rfl)]
                go_simp
                refine hK.out _ _ ((one_old _ _ _ (lt_some a2)).trans a2) (fun _ => ?_)
                generalize hW : World.alloc W2 _ = W3
                have a3 := a_old hW a2
                have b3 := a_old hW b2
                have c3 := a_old hW c2
                have q3 := a_old hW q2
                have p3 := a_new hW
                have l3 := a_bl hW l2
                have hp : w.heap.size + 1 + 1 < W2.heap.size := lt_some c2
                have hpq0 : q < W2.heap.size := lt_some q2
                generalize W2.heap.size = p at *
                have hpq : p ≠ q := by omega
                clear hK K hW a2 b2 c2 q2 l2
                try simp only [Act.put, List.setIfInBounds_toArray, List.set_cons_zero, List.set_cons_succ]
                refine wpAnyH_ready (rs := [4]) (by kernel_rfl) (by simp) ?_
                refine AllReadyH.cons (o := { dst := none, op := Op.store 107 (Operand.tmp 10) (Operand.tmp 79), type := 0, pos := "digest.go:49", after := #[{ on := 2, ground := Ground.data }, { on := 0, ground := Ground.data }, { on := 1, ground := Ground.chain }, { on := 0, ground := Ground.phase }, { on := 1, ground := Ground.phase }, { on := 2, ground := Ground.phase }, { on := 3, ground := Ground.phase }], guard := none }) rfl (fun K hK => ?_) ?_
                ·
                  rw [if_pos (by rfl)]
                  refine wp_store_row 107 _ _ rfl p (([s0, s1, s2, s3, s4, s5, s6, s7] : List U32).map W32).toArray rfl rfl 107 _ p3 (by rw [state_n]; rfl) rfl (all_oneCell_toArray (one_w _)) ?_
                  refine hK.out _ _ ((setRow_other _ _ _ _ (by omega)).trans a3) (fun _ => ?_)
                  generalize hW : World.setRow W3 _ _ = W4
                  have a4 := s_old hW (by omega) a3
                  have b4 := s_old hW (by omega) b3
                  have c4 := s_old hW (by omega) c3
                  have p4 := s_same hW p3
                  have q4 := s_old hW (by omega) q3
                  have l4 := s_bl hW l3 (by omega)
                  clear hK K hW a3 b3 c3 p3 q3 l3
                  try simp only [Act.put, List.setIfInBounds_toArray, List.set_cons_zero, List.set_cons_succ]
                  refine wpAnyH_ready (rs := [5]) (by kernel_rfl) (by simp) ?_
                  refine AllReadyH.cons (o := { dst := none, op := Op.store 129 (Operand.tmp 11) (Operand.tmp 80), type := 0, pos := "digest.go:49", after := #[{ on := 3, ground := Ground.data }, { on := 1, ground := Ground.data }, { on := 4, ground := Ground.chain }, { on := 0, ground := Ground.phase }, { on := 1, ground := Ground.phase }, { on := 2, ground := Ground.phase }, { on := 3, ground := Ground.phase }, { on := 4, ground := Ground.phase }], guard := none }) rfl (fun K hK => ?_) ?_
                  ·
                    rw [if_pos (by rfl)]
                    refine wp_store_row 129 _ _ rfl q (kk.map W32).toArray rfl rfl 129 _ q4 (by rw [type64_n, List.size_toArray, lenK]) (size_k zs64_size) (all_oneCell_toArray (one_w _)) ?_
                    refine hK.out _ _ ((setRow_other _ _ _ _ (by omega)).trans a4) (fun _ => ?_)
                    generalize hW : World.setRow W4 _ _ = W5
                    have a5 := s_old hW (by omega) a4
                    have b5 := s_old hW (by omega) b4
                    have c5 := s_old hW (by omega) c4
                    have p5 := s_old hW (by omega) p4
                    have q5 := s_same hW q4
                    have l5 := s_bl hW l4 (by omega)
                    clear hK K hW a4 b4 c4 p4 q4 l4
                    try simp only [Act.put, List.setIfInBounds_toArray, List.set_cons_zero, List.set_cons_succ]
                    refine wpAnyH_done (by kernel_rfl) ?_ _
                    go_wp2_with fail
                    go_meet
                    exact ⟨p, q, rfl, rfl, a5, b5, c5, p5, range_row q5, hp, hq, hpq, l5⟩
                  exact AllReadyH.nil
                exact AllReadyH.nil
              exact AllReadyH.nil
            exact AllReadyH.nil
          refine AllReadyH.cons (o := { dst := some 10, op := Op.alloc 107, type := 0, pos := "digest.go:49", after := #[], guard := none }) rfl (fun K hK => ?_) ?_
          ·
            rw [if_pos (by rfl)]
            go_simp
            refine hK.out _ _ ((one_old _ _ _ (lt_some a0)).trans a0) (fun _ => ?_)
            generalize hW : World.alloc W0 _ = W1
            have a1 := a_old hW a0
            have b1 := a_old hW b0
            have c1 := a_old hW c0
            have p1 := a_new hW
            have l1 := a_bl hW l0
            have hp : w.heap.size + 1 + 1 < W0.heap.size := lt_some c0
            generalize W0.heap.size = p at *
            clear hK K hW a0 b0 c0 l0
            try simp only [Act.put, List.setIfInBounds_toArray, List.set_cons_zero, List.set_cons_succ]
            refine wpAnyH_ready (rs := [1, 3]) (by kernel_rfl) (by simp) ?_
            refine AllReadyH.cons (o := { dst := some 80, op := Op.call { callee := Callee.value (Operand.func 94), args := #[], argTypes := #[] }, type := 129, pos := "digest.go:49", after := #[], guard := none }) rfl (fun K hK => ?_) ?_
            ·
              rw [if_pos (by rfl)]
              go_simp
              go_at_call 94
              refine (constants_any _).mono ?_
              rintro e W2 ⟨rfl, hbl⟩
              refine hK.out _ _ ((hbl.block _ (lt_some a1)).trans a1) (fun _ => ?_)
              have a2 := (hbl.block _ (lt_some a1)).trans a1
              have b2 := (hbl.block _ (lt_some b1)).trans b1
              have c2 := (hbl.block _ (lt_some c1)).trans c1
              have p2 := (hbl.block _ (lt_some p1)).trans p1
              have l2 := bl_trans l1 hbl
              clear hK K hbl a1 b1 c1 p1 l1
              try simp only [Act.put, List.setIfInBounds_toArray, List.set_cons_zero, List.set_cons_succ]
              refine wpAnyH_ready (rs := [3]) (by kernel_rfl) (by simp) ?_
              refine AllReadyH.cons (o := { dst := some 11, op := Op.alloc 129, type := 0, pos := "digest.go:49", after := #[], guard := none }) rfl (fun K hK => ?_) ?_
              ·
                rw [if_pos (by rfl)]
                go_simp
                refine hK.out _ _ ((one_old _ _ _ (lt_some a2)).trans a2) (fun _ => ?_)
                generalize hW : World.alloc W2 _ = W3
                have a3 := a_old hW a2
                have b3 := a_old hW b2
                have c3 := a_old hW c2
                have p3 := a_old hW p2
                have q3 := a_new hW
                have l3 := a_bl hW l2
                have hq : w.heap.size + 1 + 1 < W2.heap.size := lt_some c2
                have hpq0 : p < W2.heap.size := lt_some p2
                generalize W2.heap.size = q at *
                have hpq : p ≠ q := by omega
                clear hK K hW a2 b2 c2 p2 l2
                try simp only [Act.put, List.setIfInBounds_toArray, List.set_cons_zero, List.set_cons_succ]
                refine wpAnyH_ready (rs := [4]) (by kernel_rfl) (by simp) ?_
                refine AllReadyH.cons (o := { dst := none, op := Op.store 107 (Operand.tmp 10) (Operand.tmp 79), type := 0, pos := "digest.go:49", after := #[{ on := 2, ground := Ground.data }, { on := 0, ground := Ground.data }, { on := 1, ground := Ground.chain }, { on := 0, ground := Ground.phase }, { on := 1, ground := Ground.phase }, { on := 2, ground := Ground.phase }, { on := 3, ground := Ground.phase }], guard := none }) rfl (fun K hK => ?_) ?_
                ·
                  rw [if_pos (by rfl)]
                  refine wp_store_row 107 _ _ rfl p (([s0, s1, s2, s3, s4, s5, s6, s7] : List U32).map W32).toArray rfl rfl 107 _ p3 (by rw [state_n]; rfl) rfl (all_oneCell_toArray (one_w _)) ?_
                  refine hK.out _ _ ((setRow_other _ _ _ _ (by omega)).trans a3) (fun _ => ?_)
                  generalize hW : World.setRow W3 _ _ = W4
                  have a4 := s_old hW (by omega) a3
                  have b4 := s_old hW (by omega) b3
                  have c4 := s_old hW (by omega) c3
                  have p4 := s_same hW p3
                  have q4 := s_old hW (by omega) q3
                  have l4 := s_bl hW l3 (by omega)
                  clear hK K hW a3 b3 c3 p3 q3 l3
                  try simp only [Act.put, List.setIfInBounds_toArray, List.set_cons_zero, List.set_cons_succ]
                  refine wpAnyH_ready (rs := [5]) (by kernel_rfl) (by simp) ?_
                  refine AllReadyH.cons (o := { dst := none, op := Op.store 129 (Operand.tmp 11) (Operand.tmp 80), type := 0, pos := "digest.go:49", after := #[{ on := 3, ground := Ground.data }, { on := 1, ground := Ground.data }, { on := 4, ground := Ground.chain }, { on := 0, ground := Ground.phase }, { on := 1, ground := Ground.phase }, { on := 2, ground := Ground.phase }, { on := 3, ground := Ground.phase }, { on := 4, ground := Ground.phase }], guard := none }) rfl (fun K hK => ?_) ?_
                  ·
                    rw [if_pos (by rfl)]
                    refine wp_store_row 129 _ _ rfl q (kk.map W32).toArray rfl rfl 129 _ q4 (by rw [type64_n, List.size_toArray, lenK]) (size_k zs64_size) (all_oneCell_toArray (one_w _)) ?_
                    refine hK.out _ _ ((setRow_other _ _ _ _ (by omega)).trans a4) (fun _ => ?_)
                    generalize hW : World.setRow W4 _ _ = W5
                    have a5 := s_old hW (by omega) a4
                    have b5 := s_old hW (by omega) b4
                    have c5 := s_old hW (by omega) c4
                    have p5 := s_old hW (by omega) p4
                    have q5 := s_same hW q4
                    have l5 := s_bl hW l4 (by omega)
                    clear hK K hW a4 b4 c4 p4 q4 l4
                    try simp only [Act.put, List.setIfInBounds_toArray, List.set_cons_zero, List.set_cons_succ]
                    refine wpAnyH_done (by kernel_rfl) ?_ _
                    go_wp2_with fail
                    go_meet
                    exact ⟨p, q, rfl, rfl, a5, b5, c5, p5, range_row q5, hp, hq, hpq, l5⟩
                  exact AllReadyH.nil
                exact AllReadyH.nil
              exact AllReadyH.nil
            refine AllReadyH.cons (o := { dst := some 11, op := Op.alloc 129, type := 0, pos := "digest.go:49", after := #[], guard := none }) rfl (fun K hK => ?_) ?_
            ·
              rw [if_pos (by rfl)]
              go_simp
              refine hK.out _ _ ((one_old _ _ _ (lt_some a1)).trans a1) (fun _ => ?_)
              generalize hW : World.alloc W1 _ = W2
              have a2 := a_old hW a1
              have b2 := a_old hW b1
              have c2 := a_old hW c1
              have p2 := a_old hW p1
              have q2 := a_new hW
              have l2 := a_bl hW l1
              have hq : w.heap.size + 1 + 1 < W1.heap.size := lt_some c1
              have hpq0 : p < W1.heap.size := lt_some p1
              generalize W1.heap.size = q at *
              have hpq : p ≠ q := by omega
              clear hK K hW a1 b1 c1 p1 l1
              try simp only [Act.put, List.setIfInBounds_toArray, List.set_cons_zero, List.set_cons_succ]
              refine wpAnyH_ready (rs := [1]) (by kernel_rfl) (by simp) ?_
              refine AllReadyH.cons (o := { dst := some 80, op := Op.call { callee := Callee.value (Operand.func 94), args := #[], argTypes := #[] }, type := 129, pos := "digest.go:49", after := #[], guard := none }) rfl (fun K hK => ?_) ?_
              ·
                rw [if_pos (by rfl)]
                go_simp
                go_at_call 94
                refine (constants_any _).mono ?_
                rintro e W3 ⟨rfl, hbl⟩
                refine hK.out _ _ ((hbl.block _ (lt_some a2)).trans a2) (fun _ => ?_)
                have a3 := (hbl.block _ (lt_some a2)).trans a2
                have b3 := (hbl.block _ (lt_some b2)).trans b2
                have c3 := (hbl.block _ (lt_some c2)).trans c2
                have p3 := (hbl.block _ (lt_some p2)).trans p2
                have q3 := (hbl.block _ (lt_some q2)).trans q2
                have l3 := bl_trans l2 hbl
                clear hK K hbl a2 b2 c2 p2 q2 l2
                try simp only [Act.put, List.setIfInBounds_toArray, List.set_cons_zero, List.set_cons_succ]
                refine wpAnyH_ready (rs := [4]) (by kernel_rfl) (by simp) ?_
                refine AllReadyH.cons (o := { dst := none, op := Op.store 107 (Operand.tmp 10) (Operand.tmp 79), type := 0, pos := "digest.go:49", after := #[{ on := 2, ground := Ground.data }, { on := 0, ground := Ground.data }, { on := 1, ground := Ground.chain }, { on := 0, ground := Ground.phase }, { on := 1, ground := Ground.phase }, { on := 2, ground := Ground.phase }, { on := 3, ground := Ground.phase }], guard := none }) rfl (fun K hK => ?_) ?_
                ·
                  rw [if_pos (by rfl)]
                  refine wp_store_row 107 _ _ rfl p (([s0, s1, s2, s3, s4, s5, s6, s7] : List U32).map W32).toArray rfl rfl 107 _ p3 (by rw [state_n]; rfl) rfl (all_oneCell_toArray (one_w _)) ?_
                  refine hK.out _ _ ((setRow_other _ _ _ _ (by omega)).trans a3) (fun _ => ?_)
                  generalize hW : World.setRow W3 _ _ = W4
                  have a4 := s_old hW (by omega) a3
                  have b4 := s_old hW (by omega) b3
                  have c4 := s_old hW (by omega) c3
                  have p4 := s_same hW p3
                  have q4 := s_old hW (by omega) q3
                  have l4 := s_bl hW l3 (by omega)
                  clear hK K hW a3 b3 c3 p3 q3 l3
                  try simp only [Act.put, List.setIfInBounds_toArray, List.set_cons_zero, List.set_cons_succ]
                  refine wpAnyH_ready (rs := [5]) (by kernel_rfl) (by simp) ?_
                  refine AllReadyH.cons (o := { dst := none, op := Op.store 129 (Operand.tmp 11) (Operand.tmp 80), type := 0, pos := "digest.go:49", after := #[{ on := 3, ground := Ground.data }, { on := 1, ground := Ground.data }, { on := 4, ground := Ground.chain }, { on := 0, ground := Ground.phase }, { on := 1, ground := Ground.phase }, { on := 2, ground := Ground.phase }, { on := 3, ground := Ground.phase }, { on := 4, ground := Ground.phase }], guard := none }) rfl (fun K hK => ?_) ?_
                  ·
                    rw [if_pos (by rfl)]
                    refine wp_store_row 129 _ _ rfl q (kk.map W32).toArray rfl rfl 129 _ q4 (by rw [type64_n, List.size_toArray, lenK]) (size_k zs64_size) (all_oneCell_toArray (one_w _)) ?_
                    refine hK.out _ _ ((setRow_other _ _ _ _ (by omega)).trans a4) (fun _ => ?_)
                    generalize hW : World.setRow W4 _ _ = W5
                    have a5 := s_old hW (by omega) a4
                    have b5 := s_old hW (by omega) b4
                    have c5 := s_old hW (by omega) c4
                    have p5 := s_old hW (by omega) p4
                    have q5 := s_same hW q4
                    have l5 := s_bl hW l4 (by omega)
                    clear hK K hW a4 b4 c4 p4 q4 l4
                    try simp only [Act.put, List.setIfInBounds_toArray, List.set_cons_zero, List.set_cons_succ]
                    refine wpAnyH_done (by kernel_rfl) ?_ _
                    go_wp2_with fail
                    go_meet
                    exact ⟨p, q, rfl, rfl, a5, b5, c5, p5, range_row q5, hp, hq, hpq, l5⟩
                  exact AllReadyH.nil
                exact AllReadyH.nil
              exact AllReadyH.nil
            exact AllReadyH.nil
          refine AllReadyH.cons (o := { dst := some 11, op := Op.alloc 129, type := 0, pos := "digest.go:49", after := #[], guard := none }) rfl (fun K hK => ?_) ?_
          ·
            rw [if_pos (by rfl)]
            go_simp
            refine hK.out _ _ ((one_old _ _ _ (lt_some a0)).trans a0) (fun _ => ?_)
            generalize hW : World.alloc W0 _ = W1
            have a1 := a_old hW a0
            have b1 := a_old hW b0
            have c1 := a_old hW c0
            have q1 := a_new hW
            have l1 := a_bl hW l0
            have hq : w.heap.size + 1 + 1 < W0.heap.size := lt_some c0
            generalize W0.heap.size = q at *
            clear hK K hW a0 b0 c0 l0
            try simp only [Act.put, List.setIfInBounds_toArray, List.set_cons_zero, List.set_cons_succ]
            refine wpAnyH_ready (rs := [1, 2]) (by kernel_rfl) (by simp) ?_
            refine AllReadyH.cons (o := { dst := some 80, op := Op.call { callee := Callee.value (Operand.func 94), args := #[], argTypes := #[] }, type := 129, pos := "digest.go:49", after := #[], guard := none }) rfl (fun K hK => ?_) ?_
            ·
              rw [if_pos (by rfl)]
              go_simp
              go_at_call 94
              refine (constants_any _).mono ?_
              rintro e W2 ⟨rfl, hbl⟩
              refine hK.out _ _ ((hbl.block _ (lt_some a1)).trans a1) (fun _ => ?_)
              have a2 := (hbl.block _ (lt_some a1)).trans a1
              have b2 := (hbl.block _ (lt_some b1)).trans b1
              have c2 := (hbl.block _ (lt_some c1)).trans c1
              have q2 := (hbl.block _ (lt_some q1)).trans q1
              have l2 := bl_trans l1 hbl
              clear hK K hbl a1 b1 c1 q1 l1
              try simp only [Act.put, List.setIfInBounds_toArray, List.set_cons_zero, List.set_cons_succ]
              refine wpAnyH_ready (rs := [2]) (by kernel_rfl) (by simp) ?_
              refine AllReadyH.cons (o := { dst := some 10, op := Op.alloc 107, type := 0, pos := "digest.go:49", after := #[], guard := none }) rfl (fun K hK => ?_) ?_
              ·
                rw [if_pos (by rfl)]
                go_simp
                refine hK.out _ _ ((one_old _ _ _ (lt_some a2)).trans a2) (fun _ => ?_)
                generalize hW : World.alloc W2 _ = W3
                have a3 := a_old hW a2
                have b3 := a_old hW b2
                have c3 := a_old hW c2
                have q3 := a_old hW q2
                have p3 := a_new hW
                have l3 := a_bl hW l2
                have hp : w.heap.size + 1 + 1 < W2.heap.size := lt_some c2
                have hpq0 : q < W2.heap.size := lt_some q2
                generalize W2.heap.size = p at *
                have hpq : p ≠ q := by omega
                clear hK K hW a2 b2 c2 q2 l2
                try simp only [Act.put, List.setIfInBounds_toArray, List.set_cons_zero, List.set_cons_succ]
                refine wpAnyH_ready (rs := [4]) (by kernel_rfl) (by simp) ?_
                refine AllReadyH.cons (o := { dst := none, op := Op.store 107 (Operand.tmp 10) (Operand.tmp 79), type := 0, pos := "digest.go:49", after := #[{ on := 2, ground := Ground.data }, { on := 0, ground := Ground.data }, { on := 1, ground := Ground.chain }, { on := 0, ground := Ground.phase }, { on := 1, ground := Ground.phase }, { on := 2, ground := Ground.phase }, { on := 3, ground := Ground.phase }], guard := none }) rfl (fun K hK => ?_) ?_
                ·
                  rw [if_pos (by rfl)]
                  refine wp_store_row 107 _ _ rfl p (([s0, s1, s2, s3, s4, s5, s6, s7] : List U32).map W32).toArray rfl rfl 107 _ p3 (by rw [state_n]; rfl) rfl (all_oneCell_toArray (one_w _)) ?_
                  refine hK.out _ _ ((setRow_other _ _ _ _ (by omega)).trans a3) (fun _ => ?_)
                  generalize hW : World.setRow W3 _ _ = W4
                  have a4 := s_old hW (by omega) a3
                  have b4 := s_old hW (by omega) b3
                  have c4 := s_old hW (by omega) c3
                  have p4 := s_same hW p3
                  have q4 := s_old hW (by omega) q3
                  have l4 := s_bl hW l3 (by omega)
                  clear hK K hW a3 b3 c3 p3 q3 l3
                  try simp only [Act.put, List.setIfInBounds_toArray, List.set_cons_zero, List.set_cons_succ]
                  refine wpAnyH_ready (rs := [5]) (by kernel_rfl) (by simp) ?_
                  refine AllReadyH.cons (o := { dst := none, op := Op.store 129 (Operand.tmp 11) (Operand.tmp 80), type := 0, pos := "digest.go:49", after := #[{ on := 3, ground := Ground.data }, { on := 1, ground := Ground.data }, { on := 4, ground := Ground.chain }, { on := 0, ground := Ground.phase }, { on := 1, ground := Ground.phase }, { on := 2, ground := Ground.phase }, { on := 3, ground := Ground.phase }, { on := 4, ground := Ground.phase }], guard := none }) rfl (fun K hK => ?_) ?_
                  ·
                    rw [if_pos (by rfl)]
                    refine wp_store_row 129 _ _ rfl q (kk.map W32).toArray rfl rfl 129 _ q4 (by rw [type64_n, List.size_toArray, lenK]) (size_k zs64_size) (all_oneCell_toArray (one_w _)) ?_
                    refine hK.out _ _ ((setRow_other _ _ _ _ (by omega)).trans a4) (fun _ => ?_)
                    generalize hW : World.setRow W4 _ _ = W5
                    have a5 := s_old hW (by omega) a4
                    have b5 := s_old hW (by omega) b4
                    have c5 := s_old hW (by omega) c4
                    have p5 := s_old hW (by omega) p4
                    have q5 := s_same hW q4
                    have l5 := s_bl hW l4 (by omega)
                    clear hK K hW a4 b4 c4 p4 q4 l4
                    try simp only [Act.put, List.setIfInBounds_toArray, List.set_cons_zero, List.set_cons_succ]
                    refine wpAnyH_done (by kernel_rfl) ?_ _
                    go_wp2_with fail
                    go_meet
                    exact ⟨p, q, rfl, rfl, a5, b5, c5, p5, range_row q5, hp, hq, hpq, l5⟩
                  exact AllReadyH.nil
                exact AllReadyH.nil
              exact AllReadyH.nil
            refine AllReadyH.cons (o := { dst := some 10, op := Op.alloc 107, type := 0, pos := "digest.go:49", after := #[], guard := none }) rfl (fun K hK => ?_) ?_
            ·
              rw [if_pos (by rfl)]
              go_simp
              refine hK.out _ _ ((one_old _ _ _ (lt_some a1)).trans a1) (fun _ => ?_)
              generalize hW : World.alloc W1 _ = W2
              have a2 := a_old hW a1
              have b2 := a_old hW b1
              have c2 := a_old hW c1
              have q2 := a_old hW q1
              have p2 := a_new hW
              have l2 := a_bl hW l1
              have hp : w.heap.size + 1 + 1 < W1.heap.size := lt_some c1
              have hpq0 : q < W1.heap.size := lt_some q1
              generalize W1.heap.size = p at *
              have hpq : p ≠ q := by omega
              clear hK K hW a1 b1 c1 q1 l1
              try simp only [Act.put, List.setIfInBounds_toArray, List.set_cons_zero, List.set_cons_succ]
              refine wpAnyH_ready (rs := [1]) (by kernel_rfl) (by simp) ?_
              refine AllReadyH.cons (o := { dst := some 80, op := Op.call { callee := Callee.value (Operand.func 94), args := #[], argTypes := #[] }, type := 129, pos := "digest.go:49", after := #[], guard := none }) rfl (fun K hK => ?_) ?_
              ·
                rw [if_pos (by rfl)]
                go_simp
                go_at_call 94
                refine (constants_any _).mono ?_
                rintro e W3 ⟨rfl, hbl⟩
                refine hK.out _ _ ((hbl.block _ (lt_some a2)).trans a2) (fun _ => ?_)
                have a3 := (hbl.block _ (lt_some a2)).trans a2
                have b3 := (hbl.block _ (lt_some b2)).trans b2
                have c3 := (hbl.block _ (lt_some c2)).trans c2
                have p3 := (hbl.block _ (lt_some p2)).trans p2
                have q3 := (hbl.block _ (lt_some q2)).trans q2
                have l3 := bl_trans l2 hbl
                clear hK K hbl a2 b2 c2 p2 q2 l2
                try simp only [Act.put, List.setIfInBounds_toArray, List.set_cons_zero, List.set_cons_succ]
                refine wpAnyH_ready (rs := [4]) (by kernel_rfl) (by simp) ?_
                refine AllReadyH.cons (o := { dst := none, op := Op.store 107 (Operand.tmp 10) (Operand.tmp 79), type := 0, pos := "digest.go:49", after := #[{ on := 2, ground := Ground.data }, { on := 0, ground := Ground.data }, { on := 1, ground := Ground.chain }, { on := 0, ground := Ground.phase }, { on := 1, ground := Ground.phase }, { on := 2, ground := Ground.phase }, { on := 3, ground := Ground.phase }], guard := none }) rfl (fun K hK => ?_) ?_
                ·
                  rw [if_pos (by rfl)]
                  refine wp_store_row 107 _ _ rfl p (([s0, s1, s2, s3, s4, s5, s6, s7] : List U32).map W32).toArray rfl rfl 107 _ p3 (by rw [state_n]; rfl) rfl (all_oneCell_toArray (one_w _)) ?_
                  refine hK.out _ _ ((setRow_other _ _ _ _ (by omega)).trans a3) (fun _ => ?_)
                  generalize hW : World.setRow W3 _ _ = W4
                  have a4 := s_old hW (by omega) a3
                  have b4 := s_old hW (by omega) b3
                  have c4 := s_old hW (by omega) c3
                  have p4 := s_same hW p3
                  have q4 := s_old hW (by omega) q3
                  have l4 := s_bl hW l3 (by omega)
                  clear hK K hW a3 b3 c3 p3 q3 l3
                  try simp only [Act.put, List.setIfInBounds_toArray, List.set_cons_zero, List.set_cons_succ]
                  refine wpAnyH_ready (rs := [5]) (by kernel_rfl) (by simp) ?_
                  refine AllReadyH.cons (o := { dst := none, op := Op.store 129 (Operand.tmp 11) (Operand.tmp 80), type := 0, pos := "digest.go:49", after := #[{ on := 3, ground := Ground.data }, { on := 1, ground := Ground.data }, { on := 4, ground := Ground.chain }, { on := 0, ground := Ground.phase }, { on := 1, ground := Ground.phase }, { on := 2, ground := Ground.phase }, { on := 3, ground := Ground.phase }, { on := 4, ground := Ground.phase }], guard := none }) rfl (fun K hK => ?_) ?_
                  ·
                    rw [if_pos (by rfl)]
                    refine wp_store_row 129 _ _ rfl q (kk.map W32).toArray rfl rfl 129 _ q4 (by rw [type64_n, List.size_toArray, lenK]) (size_k zs64_size) (all_oneCell_toArray (one_w _)) ?_
                    refine hK.out _ _ ((setRow_other _ _ _ _ (by omega)).trans a4) (fun _ => ?_)
                    generalize hW : World.setRow W4 _ _ = W5
                    have a5 := s_old hW (by omega) a4
                    have b5 := s_old hW (by omega) b4
                    have c5 := s_old hW (by omega) c4
                    have p5 := s_old hW (by omega) p4
                    have q5 := s_same hW q4
                    have l5 := s_bl hW l4 (by omega)
                    clear hK K hW a4 b4 c4 p4 q4 l4
                    try simp only [Act.put, List.setIfInBounds_toArray, List.set_cons_zero, List.set_cons_succ]
                    refine wpAnyH_done (by kernel_rfl) ?_ _
                    go_wp2_with fail
                    go_meet
                    exact ⟨p, q, rfl, rfl, a5, b5, c5, p5, range_row q5, hp, hq, hpq, l5⟩
                  exact AllReadyH.nil
                exact AllReadyH.nil
              exact AllReadyH.nil
            exact AllReadyH.nil
          exact AllReadyH.nil
        case rest =>
          obtain ⟨p, q, rfl, rfl, hB3⟩ := hcut
          have H3 := Lib.hid hB3
          clear hB3 HR SH h16 h64 hk HE
          go_wp2_with fail
          go_loopw [81] (fun v81 wt => ∃ k : Nat, k ≤ 64 ∧ v81 = .int .i64 k ∧ B3 [s0, s1, s2, s3, s4, s5, s6, s7] b w p q k wt) (fun v81 _ => 64 - (intOf v81).toNat)
          case atStart => exact ⟨0, by omega, rfl, H3.out⟩
          case round =>
            clear H3
            obtain ⟨k, hk, rfl, hrel⟩ := hrel
            have HR := Lib.hid hrel
            obtain ⟨h1, h2, h3, h4, h5, h6, h7, h8, h9⟩ := hrel
            obtain ⟨x0, x1, x2, x3, x4, x5, x6, x7, hv⟩ := eight (vs_length [s0, s1, s2, s3, s4, s5, s6, s7] rfl b k)
            rw [hv] at h4
            have HV := Lib.hid hv
            have a0 := h4.cell 0 (by simp)
            have a1 := h4.cell 1 (by simp)
            have a2 := h4.cell 2 (by simp)
            have a3 := h4.cell 3 (by simp)
            have a4 := h4.cell 4 (by simp)
            have a5 := h4.cell 5 (by simp)
            have a6 := h4.cell 6 (by simp)
            have a7 := h4.cell 7 (by simp)
            simp only [List.getD_cons_zero, List.getD_cons_succ] at a0 a1 a2 a3 a4 a5 a6 a7
            have hz := h9.size
            by_cases h65 : k < 64
            · have b0 := h3.cell k (by rw [ws_length]; exact h65)
              have b1 := h5 k (W32 (kk.getD k 0)) (by have := lenK; rw [List.length_map] at this; rw [List.getElem?_map, List.getElem?_eq_getElem (by omega), List.getD_eq_getElem?_getD, List.getElem?_eq_getElem (by omega)]; rfl)
              rw [Nat.zero_add] at b1
              unfold W32 at b1
              generalize hyw : (ws b 64).getD k 0 = yw at b0
              generalize hyk : kk.getD k 0 = yk at b1
              have YW := Lib.hid hyw
              have YK := Lib.hid hyk
              have p0 : (0 : Int) ≤ (k : Int) := by omega
              have p1 : (k : Int) < 64 := by omega
              have p2 : ((k : Int)).toNat = k := by omega
              clear h1 h2 h3 h4 h5 hv hyw hyk
              go_wp2_with fail
              go_quiet (fail)
              go_wp2_with fail
              go_quiet ((go_at_call 93; exact quiet_addE (right_any _ _ (by simp) _)))
              go_wp2_with fail
              go_quiet ((go_at_call 93; exact quiet_addE (right_any _ _ (by simp) _)))
              go_wp2_with fail
              rw [t_num, u_num]
              obtain ⟨tt, htt⟩ : ∃ tt : U32, tt = x7 + ((rotr x4 6 ^^^ rotr x4 11) ^^^ rotr x4 25) + (x6 ^^^ x4 &&& (x5 ^^^ x6)) + yk + yw := ⟨_, rfl⟩
              obtain ⟨uu, huu⟩ : ∃ uu : U32, uu = ((rotr x0 2 ^^^ rotr x0 13) ^^^ rotr x0 22) + (x0 &&& x1 ||| x2 &&& (x0 ||| x1)) := ⟨_, rfl⟩
              rw [← htt, ← huu]
              have TH := Lib.hid htt
              have UH := Lib.hid huu
              clear htt huu a0 a1 a2 a3 a4 a5 a6 a7 b0 b1
              generalize hX : World.drewN _ _ = X
              have hB : B3 [s0, s1, s2, s3, s4, s5, s6, s7] b w p q k X := by rw [← hX]; exact b3_drewN (b3_drewN (b3_drewN HR.out _) _) _
              clear hX HR
              have HB := Lib.hid hB
              have g4 := hB.2.2.2.1
              rw [HV.out] at g4
              clear hB
              have G4 := Lib.hid g4
              clear g4
              go_cut [15] from 84 to 141 (fun v15 wx => v15 = .int .u32 (tt.toNat : Int) ∧ RowW wx p 107 [x0, x0, x1, x2, x3, x4, x5, x6] ∧ BC [s0, s1, s2, s3, s4, s5, s6, s7] b w p q wx)
              case first =>
               go_region_law (refine step_copy_set rfl (.tmp 139) (.tmp 140) 83 83 rfl 82 (by kernel_rfl) (by kernel_rfl) p 1 _ _ ⟨p, 0, none⟩ _ _ rfl rfl (([x0, x1, x2, x3, x4, x5, x6, x7] : List U32).map W32) 107 G4.out (([x0, x1, x2, x3, x4, x5, x6] : List U32).map W32) rfl (copy_src G4.out) (by simp) (one_w _) ?_)
               go_wp2_with fail
               go_meet
               exact ⟨rfl, setRow_heap _ _ _ _ _ _ G4.out, bc_set HB.out _⟩
              case rest =>
              obtain ⟨rfl, hC, hD⟩ := hcut
              have e4 := hC.cell 4 (by simp)
              have e0 := hC.cell 0 (by simp)
              simp only [List.getD_cons_zero, List.getD_cons_succ] at e0 e4
              have f0 := hC.frozen 0
              have f4 := hC.frozen 4
              have HC := Lib.hid hC
              have HD := Lib.hid hD
              clear hC hD G4 HB
              go_upto_region 22 with fail
              refine wp_region_lit ?_
              refine wpList_plain rfl (fun K hK => ?_)
              have HK := Lib.hid hK
              clear hK
              go_simp
              refine HK.out _ _ ?_
              clear HK K
              refine wpList_plain rfl (fun K hK => ?_)
              have HK := Lib.hid hK
              clear hK
              go_simp
              refine HK.out _ _ ?_
              clear HK K
              refine wpList_plain rfl (fun K hK => ?_)
              have HK := Lib.hid hK
              clear hK
              go_simp
              refine HK.out _ _ ?_
              clear HK K
              refine wpList_plain rfl (fun K hK => ?_)
              have HK := Lib.hid hK
              clear hK
              go_simp
              refine HK.out _ _ ?_
              clear HK K
              refine wpList_plain rfl (fun K hK => ?_)
              have HK := Lib.hid hK
              clear hK
              go_simp
              refine HK.out _ _ ?_
              clear HK K
              refine wpList_plain rfl (fun K hK => ?_)
              have HK := Lib.hid hK
              clear hK
              go_simp
              refine HK.out _ _ ?_
              clear HK K
              refine wpList_plain rfl (fun K hK => ?_)
              have HK := Lib.hid hK
              clear hK
              go_simp
              refine HK.out _ _ ?_
              clear HK K
              refine wpList_plain rfl (fun K hK => ?_)
              have HK := Lib.hid hK
              clear hK
              go_simp
              refine HK.out _ _ ?_
              clear HK K
              refine wpList_plain rfl (fun K hK => ?_)
              have HK := Lib.hid hK
              clear hK
              go_simp
              refine HK.out _ _ ?_
              clear HK K
              refine wpList_plain rfl (fun K hK => ?_)
              have HK := Lib.hid hK
              clear hK
              go_simp
              refine HK.out _ _ ?_
              clear HK K
              refine wpList_plain rfl (fun K hK => ?_)
              have HK := Lib.hid hK
              clear hK
              go_simp
              refine HK.out _ _ ?_
              clear HK K
              go_wp2_with fail
              refine ⟨⟨k + 1, by omega, by go_num, b3_next HD.out HC.out (tt + uu) (x3 + tt) _ _ ?_ ?_ ?_⟩, by simp [intOf]; omega⟩
              · exact b_add tt uu
              · exact b_add x3 tt
              · show rnd b k (vs _ b k) = _
                rw [HV.out]
                show [_ + kk.getD k 0 + (ws b 64).getD k 0 + _, x0, x1, x2, x3 + (_ + kk.getD k 0 + (ws b 64).getD k 0), x4, x5, x6] = _
                rw [YK.out, YW.out, TH.out, UH.out]
                rfl
            · have e : k = 64 := by omega
              have HE := Lib.hid e
              clear e
              clear a0 a1 a2 a3 a4 a5 a6 a7 h1 h2 h3 h4 h5 hv
              go_wp2_with fail
              go_loopw [152] (fun v152 wt => ∃ i : Nat, i ≤ 8 ∧ v152 = .int .i64 i ∧ B4 [s0, s1, s2, s3, s4, s5, s6, s7] b w p i wt) (fun v152 _ => 8 - (intOf v152).toNat)
              case atStart => exact ⟨0, by omega, rfl, b4_start (HE.out ▸ HR.out)⟩
              case round =>
                obtain ⟨i, hi, rfl, hrel⟩ := hrel
                have HB := Lib.hid hrel
                have hz := hrel.2.2.2.2.size
                have l0 := outs_length [s0, s1, s2, s3, s4, s5, s6, s7] (vs [s0, s1, s2, s3, s4, s5, s6, s7] b 64) i
                have l1 := vs_length [s0, s1, s2, s3, s4, s5, s6, s7] rfl b 64
                by_cases h8 : i < 8
                · have a0 := hrel.1.cell i (by rw [l0]; exact h8)
                  have a1 := hrel.2.2.1.cell i (by rw [l1]; exact h8)
                  have f0 := hrel.1.frozen i
                  generalize hy : (outs [s0, s1, s2, s3, s4, s5, s6, s7] (vs [s0, s1, s2, s3, s4, s5, s6, s7] b 64) i).getD i 0 = y at a0
                  generalize hx : (vs [s0, s1, s2, s3, s4, s5, s6, s7] b 64).getD i 0 = x at a1
                  have HY := Lib.hid hy
                  have HX := Lib.hid hx
                  clear hrel l0 l1 hx hy
                  have p0 : (0 : Int) ≤ (i : Int) := by omega
                  have p1 : (i : Int) < 8 := by omega
                  have p2 : ((i : Int)).toNat = i := by omega
                  go_wp2_with fail
                  go_region
                  all_goals go_wp2_with fail
                  all_goals exact ⟨⟨i + 1, by omega, by go_num, b4_next HB.out _ ((b_add y x).trans (by rw [HY.out, HX.out]))⟩, by simp [intOf]; omega⟩
                · have e : i = 8 := by omega
                  have HE := Lib.hid e
                  clear e hrel l0 l1
                  go_upto_region 29 with fail
                  have HF := b4_done (HE.out ▸ HB.out)
                  refine wp_region_lit ?_
                  refine wpList_load_mid rfl 107 _ rfl w.heap.size 0 rfl _ _ (range_row HF.1) state_u rfl (by rw [state_n, List.length_map, blockF_length _ rfl]) ?_
                  refine wpList_store_row rfl 107 _ _ rfl (w.heap.size + 1) _ rfl rfl 107 _ HF.2.1 (by rw [state_n, List.size_toArray, List.length_map, blockF_length _ rfl]) (by simp [blockF_length]) (all_oneCell_toArray (one_w _)) ?_
                  generalize hW : World.setRow _ _ _ = W3
                  have hr : W3.heap[w.heap.size + 1]? = some (.cells ((blockF [s0, s1, s2, s3, s4, s5, s6, s7] b).map W32).toArray 107 (0, 0)) := by rw [← hW]; exact setRow_heap _ _ _ _ _ _ HF.2.1
                  have hb : Below w.heap.size w W3 := by rw [← hW]; exact below_setRow HF.2.2 (by omega) _
                  clear hW
                  go_wp2_with fail
                  have ld : (loadVar 107 ⟨w.heap.size + 1, 0, none⟩).run Tryd.prog W3 = .ok (.agg ((blockF [s0, s1, s2, s3, s4, s5, s6, s7] b).map W32).toArray) W3 := run_loadVar_row W3 (w.heap.size + 1) _ 107 _ _ _ hr state_u rfl (by rw [state_n, List.size_toArray, List.length_map, blockF_length _ rfl])
                  refine bodyPost_ret (v := .agg ((blockF [s0, s1, s2, s3, s4, s5, s6, s7] b).map W32).toArray) ?_ rfl ⟨rfl, hb⟩
                  simp [results, Tryd.results75, Act.put, asAddr, ld]

end Go.Proofs.YtlanhogdeiiecaaDoor
