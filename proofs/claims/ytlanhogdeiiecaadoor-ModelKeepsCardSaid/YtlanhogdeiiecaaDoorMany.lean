/-
  Several models beside one another: what is kept between two calls; a model's copy; the calls at nil.
-/
import Derived.Test.YtlanhogdeiiecaaDoorSame
import Derived.Test.YtlanhogdeiiecaaDoorRep
import Derived.Test.YtlanhogdeiiecaaDoorArgs
import Derived.Shelf.SlMaps.Clone
set_option linter.unusedVariables false
set_option linter.unusedSimpArgs false
namespace Go.Proofs.YtlanhogdeiiecaaDoor
open Go.RowKit Go.Shelf Go.Lib Go.Maps Go.Sort

/-- A model: its block, its map's, a bound on its writes, what it reads as. -/
structure Mod where
  p : Nat
  bk : Nat
  n : Nat
  D : DataW Unit
structure Blk where
  b : Nat
  cs : Array Value
  t : TypeId
structure Txt where
  v : Value
  ks : List (List UInt8)

/-- What is kept between two calls: models, blocks of cells, lists of texts. -/
structure MW (w W : World) (ms : List Mod) (bs : List Blk) (ss : List Txt) : Prop where
  below : Below w.heap.size w W
  tab : Tab W
  isM : ∀ m ∈ ms, IsM W m.p m.bk m.n m.D
  new : ∀ m ∈ ms, w.heap.size ≤ m.bk
  apart : ms.Pairwise fun a b => a.bk ≠ b.bk
  blk : ∀ b ∈ bs, W.heap[b.b]? = some (.cells b.cs b.t (0, 0))
  txt : ∀ s ∈ ss, StrsAt W s.v s.ks

section
variable {w W W' : World} {ms : List Mod} {bs : List Blk} {ss : List Txt}
theorem MW.start (hb : Below w.heap.size w W) (ht : Tab W) : MW w W [] [] [] := ⟨hb, ht, by simp, by simp, List.Pairwise.nil, by simp, by simp⟩
theorem MW.later (h : MW w W ms bs ss) (hb : Below W.heap.size W W') : MW w W' ms bs ss :=
  ⟨bl_trans h.below hb, tab_below h.tab hb, fun m hm => isM_below (h.isM m hm) hb, h.new, h.apart, fun b hbb => (hb.block _ (lt_some' (h.blk b hbb))).trans (h.blk b hbb), fun s hs => (h.txt s hs).below hb⟩
where lt_some' {W : World} {b : Nat} {x : Obj} (h : W.heap[b]? = some x) : b < W.heap.size := (Array.getElem?_eq_some_iff.1 h).1
theorem lt_some2 {W : World} {b : Nat} {x : Obj} (h : W.heap[b]? = some x) : b < W.heap.size := (Array.getElem?_eq_some_iff.1 h).1
theorem ownsK_obj {W : World} {bk n : Nat} {D : DataW Unit} (h : OwnsK W bk n D) : ∃ es clock, W.heap[bk]? = some (.map es clock) := by
  obtain ⟨es, clock, hm, _⟩ := h
  exact ⟨es, clock, hm⟩
theorem cells_kept {bk n : Nat} {D : DataW Unit} (ho : OwnsK W bk n D) (hg : W.grownBy W' (some bk)) {b : Nat} {cs : Array Value} {t : TypeId} {fr : Nat × Nat} (hb : W.heap[b]? = some (.cells cs t fr)) : W'.heap[b]? = some (.cells cs t fr) := by
  obtain ⟨es, clock, hm⟩ := ownsK_obj ho
  refine (hg.block b (lt_some2 hb) (fun e => ?_)).trans hb
  rw [Option.some.inj e, hm] at hb
  cases hb
theorem MW.do {m : Mod} {D2 : DataW Unit} {kv : Value} {ks : List (List UInt8)} {base : Nat} (h : MW w W (m :: ms) bs ss) (hk : OwnsS W' base kv ks) (ho : OwnsK W' m.bk (m.n + 1) D2) (hg : W.grownBy W' (some m.bk)) :
    MW w W' (⟨m.p, m.bk, m.n + 1, D2⟩ :: ms) bs (⟨kv, ks⟩ :: ss) := by
  have hm := h.isM m (by simp)
  have hn := h.new m (by simp)
  obtain ⟨ap1, ap2⟩ := List.pairwise_cons.1 h.apart
  refine ⟨h.below.grown hg h.below.size (fun k e => by cases e; exact hn), tab_grown h.tab hm.2 hg, ?_, ?_, ?_, fun b hb => cells_kept hm.2 hg (h.blk b hb), ?_⟩
  · intro m' hm'
    rcases List.mem_cons.1 hm' with rfl | hm'
    · exact isM_after hm ho hg
    · have h' := h.isM m' (by simp [hm'])
      refine ⟨cells_kept hm.2 hg h'.1, OwnsK.same h'.2 (hg.block _ h'.2.lt (fun e => ap1 m' hm' (Option.some.inj e).symm))⟩
  · intro m' hm'
    rcases List.mem_cons.1 hm' with rfl | hm'
    · exact hn
    · exact h.new m' (by simp [hm'])
  · exact List.pairwise_cons.2 ⟨ap1, ap2⟩
  · intro s hs
    rcases List.mem_cons.1 hs with rfl | hs
    · exact strsAt_of_own hk
    · exact (h.txt s hs).grown hm.2 hg
theorem MW.rot {m1 m2 : Mod} (h : MW w W (m1 :: m2 :: ms) bs ss) : MW w W (m2 :: m1 :: ms) bs ss := by
  obtain ⟨a1, a2⟩ := List.pairwise_cons.1 h.apart
  obtain ⟨b1, b2⟩ := List.pairwise_cons.1 a2
  refine ⟨h.below, h.tab, fun m hm => h.isM m (by simp only [List.mem_cons] at hm ⊢; rcases hm with h | h | h <;> simp [h]), fun m hm => h.new m (by simp only [List.mem_cons] at hm ⊢; rcases hm with h | h | h <;> simp [h]), ?_, h.blk, h.txt⟩
  refine List.pairwise_cons.2 ⟨fun m hm => ?_, List.pairwise_cons.2 ⟨fun m hm => a1 m (by simp [hm]), b2⟩⟩
  rcases List.mem_cons.1 hm with rfl | hm
  · exact (a1 m2 (by simp)).symm
  · exact b1 m hm
theorem MW.box (h : MW w W ms bs ss) (cs : Array Value) (t : TypeId) : MW w (W.alloc (.cells cs t)) ms (⟨W.heap.size, cs, t⟩ :: bs) ss := by
  have h' := h.later (W' := W.alloc (.cells cs t)) (bl_alloc (Below.refl _ W) _)
  refine ⟨h'.below, h'.tab, h'.isM, h'.new, h'.apart, fun b hb => ?_, h'.txt⟩
  rcases List.mem_cons.1 hb with rfl | hb
  · exact heap_alloc_new W _
  · exact h'.blk b hb
theorem MW.model {m : Mod} (h : MW w W ms bs ss) (hm : IsM W m.p m.bk m.n m.D) (hn : w.heap.size ≤ m.bk) (ha : ∀ m' ∈ ms, m.bk ≠ m'.bk) : MW w W (m :: ms) bs ss :=
  ⟨h.below, h.tab, fun m' hm' => by
    rcases List.mem_cons.1 hm' with rfl | hm'
    · exact hm
    · exact h.isM m' hm', fun m' hm' => by
    rcases List.mem_cons.1 hm' with rfl | hm'
    · exact hn
    · exact h.new m' hm', List.pairwise_cons.2 ⟨ha, h.apart⟩, h.blk, h.txt⟩
theorem MW.cell (h : MW w W ms bs ss) {b : Nat} {cs : Array Value} {t : TypeId} (hb : ⟨b, cs, t⟩ ∈ bs) (j : Nat) : W.cell? ⟨b, j, none⟩ = cs[j]? := Lib.cell_of_heap (h.blk _ hb) j
theorem MW.bare (h : MW w W ms bs ss) : MW w W ms [] [] := ⟨h.below, h.tab, h.isM, h.new, h.apart, by simp, by simp⟩
end

theorem mw_start {w wb w0 : World} (hb : Below w.heap.size w wb) (htab : Tab wb) (hw0 : w0 = (wb.alloc (.map #[] 0)).alloc (.cells #[.map (some wb.heap.size)] 48)) : Below wb.heap.size wb w0 ∧ IsM w0 (wb.heap.size + 1) wb.heap.size 0 (.map []) := by
  rw [hw0]
  refine ⟨bl_alloc (bl_alloc (Below.refl _ wb) (.map #[] 0)) (.cells #[.map (some wb.heap.size)] 48), nw22 _ _ _, ?_⟩
  exact OwnsK.same (World.ownsMap_made wb Tryd.prog 9 RK) (one_old _ _ _ (by simp))

set_option maxRecDepth 100000 in
theorem copy_any (w : World) (p bk n : Nat) (D : DataW Unit) (h : IsM w p bk n D) :
    Calls Tryd.prog 16 #[.pointer (some ⟨p, 0, none⟩)] w fun e w' => ∃ pc bc, e = .returned (.pointer (some ⟨pc, 0, none⟩)) ∧ w.heap.size ≤ bc ∧ IsM w' pc bc n D ∧ Below w.heap.size w w' := by
  obtain ⟨hp, hown⟩ := h
  have cp : w.cell? ⟨p, 0, none⟩ = some (.map (some bk)) := by rw [Lib.cell_of_heap hp]; rfl
  have HO := Lib.hid hown
  clear hown hp
  go_enter Tryd.func16, Tryd.ntmps16
  go_wp2_with fail
  refine (AnyW.maps_Clone_owns Tryd.clone38 9 RK bk n D w HO.out).mono ?_
  rintro e w1 ⟨rfl, h1, _, hb1⟩
  have H1 := Lib.hid h1
  clear h1
  go_wp2_with fail
  go_ret
  refine ⟨w1.heap.size, w.heap.size, rfl, Nat.le_refl _, ⟨heap_alloc_new w1 _, ?_⟩, bl_alloc hb1 _⟩
  exact OwnsK.same H1.out (one_old w1 _ _ H1.out.lt)

set_option maxRecDepth 100000 in
theorem copy_nil (w : World) : Calls Tryd.prog 16 #[.pointer none] w fun e w' => e = .returned (.pointer none) ∧ w' = w := by
  go_enter Tryd.func16, Tryd.ntmps16
  go_wp2
  go_ret
  exact ⟨rfl, rfl⟩
set_option maxRecDepth 100000 in
theorem state_nil (w : World) : Calls Tryd.prog 14 #[.pointer none] w fun e w' => e = .returned (.string ⟨#[]⟩) ∧ w' = w := by
  go_enter Tryd.func14, Tryd.ntmps14
  go_wp2
  go_ret
  exact ⟨rfl, rfl⟩
set_option maxRecDepth 100000 in
theorem do_nil (q : Req) (w : World) : Calls Tryd.prog 12 #[.pointer none, .agg #[.int .i64 q.kind, .string q.key, .string q.val]] w (RetBelow (.agg #[.int .i64 1, .string ⟨#[]⟩, .slice none 0 0]) w) := by
  go_enter Tryd.func12, Tryd.ntmps12
  go_wp2
  refine bodyPost_ret (v := .agg #[.int .i64 1, .string ⟨#[]⟩, .slice none 0 0]) (by simp [results, Tryd.results12, go_sem]) rfl ⟨rfl, ?_⟩
  repeat (with_reducible first | exact Below.refl _ _ | refine Below.drew ?_ | refine bl_alloc ?_ _ | refine bl_set ?_ (by simp) _)
end Go.Proofs.YtlanhogdeiiecaaDoor
