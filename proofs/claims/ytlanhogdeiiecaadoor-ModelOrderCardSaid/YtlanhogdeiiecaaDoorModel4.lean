/-
  The model (layer 16) at this program, on: get, remove and stat as a whole.
-/
import Derived.Test.YtlanhogdeiiecaaDoorModel3
set_option linter.unusedVariables false
set_option linter.unusedSimpArgs false
namespace Go.Proofs.YtlanhogdeiiecaaDoor
open Go.RowKit Go.Shelf Go.Lib Go.Maps

theorem nw22 (w : World) (a b : Obj) : ((w.alloc a).alloc b).heap[w.heap.size + 1]? = some b := by
  show ((w.heap.push a).push b)[w.heap.size + 1]? = some b
  rw [Array.getElem?_push, if_pos (by simp)]
theorem nw31 (w : World) (a b c : Obj) : (((w.alloc a).alloc b).alloc c).heap[w.heap.size]? = some a := new_at1 w a b c
theorem nw32 (w : World) (a b c : Obj) : (((w.alloc a).alloc b).alloc c).heap[w.heap.size + 1]? = some b := new_at2 w a b c
theorem nw33 (w : World) (a b c : Obj) : (((w.alloc a).alloc b).alloc c).heap[w.heap.size + 1 + 1]? = some c := by
  show (((w.heap.push a).push b).push c)[w.heap.size + 1 + 1]? = some c
  rw [Array.getElem?_push, if_pos (by simp)]

theorem isM_below {w W : World} {p bk n : Nat} {D : DataW Unit} (h : IsM w p bk n D) (hb : Below w.heap.size w W) : IsM W p bk n D :=
  ⟨(hb.block p (Array.getElem?_eq_some_iff.1 h.1).1).trans h.1, OwnsK.same h.2 (hb.block bk h.2.lt)⟩

/-- What an answer of 'there' is behind a few new blocks. -/
theorem answers_later {w W w' : World} {bk n : Nat} {D : DataW Unit} {c : Int} {v : ByteArray} {e : Ending} (hb : Below w.heap.size w W) (h : Answers W bk n D c v e w') : Answers w bk n D c v e w' :=
  ⟨h.1, h.2.1, gr_trans (bl_grown hb _) h.2.2⟩

set_option maxRecDepth 100000 in
set_option maxHeartbeats 1000000 in
theorem get_via (w : World) (p bk n : Nat) (D D2 : DataW Unit) (kind : Int) (k v : ByteArray) (c : Int) (a : ByteArray) (hbk : bk < w.heap.size)
    (hth : ∀ W, Below w.heap.size w W → Calls Tryd.prog 40 #[.pointer (some ⟨p, 0, none⟩), .agg #[.int .i64 kind, .string k, .string v], .func (.func 41) #[] #[]] W (Answers W bk n D2 c a)) :
    Calls Tryd.prog 22 #[.pointer (some ⟨p, 0, none⟩), .agg #[.int .i64 kind, .string k, .string v]] w (Answers w bk n D2 c a) := by
  have HT := Lib.hid hth
  clear hth
  go_enter Tryd.func22, Tryd.ntmps22
  go_wp2_with fail
  generalize hW : World.alloc _ _ = W
  have q4 : W.heap[w.heap.size + 1]? = some (.cells #[.int .i64 0, .string ⟨#[]⟩, .slice none 0 0] 37 (0, 0)) := by rw [← hW]; exact nw22 _ _ _
  have q5 : Below w.heap.size w W := by rw [← hW]; exact bl_alloc (bl_alloc (Below.refl _ w) _) _
  have Q4 := Lib.hid q4
  clear hW q4
  refine (HT.out W q5).mono ?_
  rintro e w1 ⟨rfl, hown1, hgrow1⟩
  obtain ⟨⟨s0, s1, s2⟩, f0, f1, f2⟩ := res_cells ((hgrow1.block (w.heap.size + 1) ((Array.getElem?_eq_some_iff.1 Q4.out).1) (fun e => by have := Option.some.inj e; omega)).trans Q4.out)
  go_wp2
  refine bodyPost_ret (v := .agg #[.int .i64 c, .string a, .slice none 0 0]) (by simp [results, Tryd.results22, go_sem, *]) rfl ⟨rfl, ?_, ?_⟩
  · repeat (with_reducible first | exact hown1 | refine own_set ?_ (by simp; omega) _)
  · repeat (with_reducible refine gr_set ?_ (by simp) _)
    exact gr_trans (bl_grown q5 _) hgrow1

set_option maxRecDepth 100000 in
set_option maxHeartbeats 1000000 in
theorem stat_via (w : World) (p bk n : Nat) (D D2 : DataW Unit) (kind : Int) (k v : ByteArray) (c : Int) (a : ByteArray) (hbk : bk < w.heap.size)
    (hth : ∀ W, Below w.heap.size w W → Calls Tryd.prog 40 #[.pointer (some ⟨p, 0, none⟩), .agg #[.int .i64 kind, .string k, .string v], .func (.func 43) #[] #[]] W (Answers W bk n D2 c a)) :
    Calls Tryd.prog 24 #[.pointer (some ⟨p, 0, none⟩), .agg #[.int .i64 kind, .string k, .string v]] w (Answers w bk n D2 c a) := by
  have HT := Lib.hid hth
  clear hth
  go_enter Tryd.func24, Tryd.ntmps24
  go_wp2_with fail
  generalize hW : World.alloc _ _ = W
  have q4 : W.heap[w.heap.size + 1]? = some (.cells #[.int .i64 0, .string ⟨#[]⟩, .slice none 0 0] 37 (0, 0)) := by rw [← hW]; exact nw22 _ _ _
  have q5 : Below w.heap.size w W := by rw [← hW]; exact bl_alloc (bl_alloc (Below.refl _ w) _) _
  have Q4 := Lib.hid q4
  clear hW q4
  refine (HT.out W q5).mono ?_
  rintro e w1 ⟨rfl, hown1, hgrow1⟩
  obtain ⟨⟨s0, s1, s2⟩, f0, f1, f2⟩ := res_cells ((hgrow1.block (w.heap.size + 1) ((Array.getElem?_eq_some_iff.1 Q4.out).1) (fun e => by have := Option.some.inj e; omega)).trans Q4.out)
  go_wp2
  refine bodyPost_ret (v := .agg #[.int .i64 c, .string a, .slice none 0 0]) (by simp [results, Tryd.results24, go_sem, *]) rfl ⟨rfl, ?_, ?_⟩
  · repeat (with_reducible first | exact hown1 | refine own_set ?_ (by simp; omega) _)
  · repeat (with_reducible refine gr_set ?_ (by simp) _)
    exact gr_trans (bl_grown q5 _) hgrow1

/-- remove's three boxes in the world in which it calls 'there'. -/
def Boxes (w W : World) (p : Nat) (k : ByteArray) : Prop :=
  W.cell? ⟨w.heap.size, 0, none⟩ = some (.pointer (some ⟨p, 0, none⟩)) ∧ W.cell? ⟨w.heap.size + 1, 1, none⟩ = some (.string k)

set_option maxRecDepth 100000 in
set_option maxHeartbeats 1000000 in
theorem remove_via (w : World) (p bk n : Nat) (D D2 : DataW Unit) (kind : Int) (k v : ByteArray) (c : Int) (a : ByteArray) (hbk : bk < w.heap.size)
    (hth : ∀ W, Below w.heap.size w W → Boxes w W p k → Calls Tryd.prog 40 #[.pointer (some ⟨p, 0, none⟩), .agg #[.int .i64 kind, .string k, .string v], .func (.func 42) #[] #[.pointer (some ⟨w.heap.size, 0, none⟩), .pointer (some ⟨w.heap.size + 1, 0, none⟩)]] W (Answers W bk n D2 c a)) :
    Calls Tryd.prog 23 #[.pointer (some ⟨p, 0, none⟩), .agg #[.int .i64 kind, .string k, .string v]] w (Answers w bk n D2 c a) := by
  have HT := Lib.hid hth
  clear hth
  go_enter Tryd.func23, Tryd.ntmps23
  go_wp2_with fail
  generalize hW : World.alloc _ _ = W
  have q4 : W.heap[w.heap.size + 1 + 1]? = some (.cells #[.int .i64 0, .string ⟨#[]⟩, .slice none 0 0] 37 (0, 0)) := by rw [← hW]; exact nw33 _ _ _ _
  have q5 : Below w.heap.size w W := by rw [← hW]; exact bl_alloc (bl_alloc (bl_alloc (Below.refl _ w) _) _) _
  have q6 : Boxes w W p k := by
    refine ⟨?_, ?_⟩
    · rw [← hW, Lib.cell_of_heap (nw31 w _ _ _)]; rfl
    · rw [← hW, Lib.cell_of_heap (nw32 w _ _ _)]; rfl
  have Q4 := Lib.hid q4
  have Q6 := Lib.hid q6
  clear hW q4 q6
  refine (HT.out W q5 Q6.out).mono ?_
  rintro e w1 ⟨rfl, hown1, hgrow1⟩
  obtain ⟨⟨s0, s1, s2⟩, f0, f1, f2⟩ := res_cells ((hgrow1.block (w.heap.size + 1 + 1) ((Array.getElem?_eq_some_iff.1 Q4.out).1) (fun e => by have := Option.some.inj e; omega)).trans Q4.out)
  go_wp2
  refine bodyPost_ret (v := .agg #[.int .i64 c, .string a, .slice none 0 0]) (by simp [results, Tryd.results23, go_sem, *]) rfl ⟨rfl, ?_, ?_⟩
  · repeat (with_reducible first | exact hown1 | refine own_set ?_ (by simp; omega) _)
  · repeat (with_reducible refine gr_set ?_ (by simp; omega) _)
    exact gr_trans (bl_grown q5 _) hgrow1

/-! ### as functions of what the map reads as -/
theorem get_any (w : World) (p bk n : Nat) (D : DataW Unit) (kind : Int) (k v : ByteArray) (hk : k.size ≤ maxLen) (h : IsM w p bk n D) :
    Calls Tryd.prog 22 #[.pointer (some ⟨p, 0, none⟩), .agg #[.int .i64 kind, .string k, .string v]] w
      (Answers w bk n D (if thereD D k.data.toList then 0 else 9) (if thereD D k.data.toList then ⟨(look D k.data.toList).1.toArray⟩ else ⟨#[]⟩)) := by
  refine get_via w p bk n D D kind k v _ _ h.2.lt (fun W hb => ?_)
  cases ht : thereD D k.data.toList with
  | false => exact there_no W p bk n D kind k v _ hk (isM_below h hb) ht
  | true =>
    exact there_yes W p bk n D D kind k v _ #[] 0 _ hk (isM_below h hb) ht (enters_of (P := Tryd.prog) Tryd.func41 (by kernel_rfl) rfl) (fun W' hb' ho => get1_any _ W' bk n D ho)

theorem remove_any (w : World) (p bk n : Nat) (D : DataW Unit) (kind : Int) (k v : ByteArray) (hk : k.size ≤ maxLen) (hn : n < maxLen) (h : IsM w p bk n D) :
    Calls Tryd.prog 23 #[.pointer (some ⟨p, 0, none⟩), .agg #[.int .i64 kind, .string k, .string v]] w
      (Answers w bk n (if thereD D k.data.toList then D.put (.string k.data.toList) (kd [] true) else D) (if thereD D k.data.toList then 0 else 9) ⟨#[]⟩) := by
  refine remove_via w p bk n D _ kind k v _ _ h.2.lt (fun W hb hx => ?_)
  cases ht : thereD D k.data.toList with
  | false => exact there_no W p bk n D kind k v _ hk (isM_below h hb) ht
  | true =>
    refine there_yes W p bk n D _ kind k v _ #[.pointer (some ⟨w.heap.size, 0, none⟩), .pointer (some ⟨w.heap.size + 1, 0, none⟩)] 0 _ hk (isM_below h hb) ht (enters_of (P := Tryd.prog) Tryd.func42 (by kernel_rfl) rfl) (fun W' hb' ho => ?_)
    have hM := isM_below (isM_below h hb) hb'
    exact remove1_any _ k hk W' p w.heap.size (w.heap.size + 1) bk n hn D ho
      ((hb'.cell (p := ⟨w.heap.size, 0, none⟩) (World.block_lt_of_cell? W _ hx.1)).trans hx.1)
      ((hb'.cell (p := ⟨w.heap.size + 1, 1, none⟩) (World.block_lt_of_cell? W _ hx.2)).trans hx.2)
      (by rw [Lib.cell_of_heap hM.1]; rfl)

theorem stat_any {F : ByteArray → ByteArray} (hF : SumOk F) (w : World) (htab : Tab w) (p bk n : Nat) (D : DataW Unit) (kind : Int) (k v : ByteArray) (hk : k.size ≤ maxLen) (hv : (look D k.data.toList).1.length < 16384) (h : IsM w p bk n D) :
    Calls Tryd.prog 24 #[.pointer (some ⟨p, 0, none⟩), .agg #[.int .i64 kind, .string k, .string v]] w
      (Answers w bk n D (if thereD D k.data.toList then 0 else 9) (if thereD D k.data.toList then statV F ⟨(look D k.data.toList).1.toArray⟩ else ⟨#[]⟩)) := by
  refine stat_via w p bk n D D kind k v _ _ h.2.lt (fun W hb => ?_)
  cases ht : thereD D k.data.toList with
  | false => exact there_no W p bk n D kind k v _ hk (isM_below h hb) ht
  | true =>
    exact there_yes W p bk n D D kind k v _ #[] 0 _ hk (isM_below h hb) ht (enters_of (P := Tryd.prog) Tryd.func43 (by kernel_rfl) rfl) (fun W' hb' ho => stat1_any hF ⟨(look D k.data.toList).1.toArray⟩ (by simpa [bsz] using hv) W' (tab_below (tab_below htab hb) hb') bk n D ho)

end Go.Proofs.YtlanhogdeiiecaaDoor
