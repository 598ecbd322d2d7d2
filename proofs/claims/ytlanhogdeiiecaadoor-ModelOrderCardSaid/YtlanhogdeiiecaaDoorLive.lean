/-
  The statements' own 'live' of layer 16 at this program: it answers true.
-/
import Derived.Test.YtlanhogdeiiecaaDoorDo
import Derived.Deep.CutBlock
import Derived.Deep.DeepCutAuto
set_option linter.unusedVariables false
set_option linter.unusedSimpArgs false
namespace Go.Proofs.YtlanhogdeiiecaaDoor
open Go.RowKit Go.Shelf Go.Lib Go.Maps Go.Sort

def lD0 : DataW Unit := .map []
def lD1 : DataW Unit := .map [(.string [97], kd [104, 105] false)]
def lD2 : DataW Unit := .map [(.string [97], kd [] true)]

theorem look_none {l : List (Lit × DataW Unit)} {k : List UInt8} (h : ∀ p ∈ l, p.1.sameKey (.string k) = false) : look (.map l) k = ([], false) := by
  have : l.find? (fun p => p.1.sameKey (.string k)) = none := by
    rw [List.find?_eq_none]
    intro p hp
    rw [h p hp]
    simp
  simp only [look, DataW.atKey, this]
  rfl

theorem fine0 : Fine lD0 := ⟨by simp [lD0, strKeys], fun k => by rw [lD0, look_none (by simp)]; simp, by simp [lD0, Maps.size]⟩
theorem fine_one (a : List UInt8) (u : List UInt8) (g : Bool) (ha : a.length ≤ 1000) (hu : u.length < 16384) : Fine (.map [(.string a, kd u g)]) := by
  refine ⟨by simpa [strKeys, strOf] using ha, fun k => ?_, by simp [Maps.size]⟩
  by_cases h : a = k
  · subst h
    have : look (.map [(.string a, kd u g)]) a = (u, g) := by simp [look, DataW.atKey, Lit.sameKey, kd]
    rw [this]
    exact hu
  · rw [look_none (by simpa [Lit.sameKey] using h)]
    simp
theorem fine1 : Fine lD1 := fine_one _ _ _ (by decide) (by decide)
theorem fine2 : Fine lD2 := fine_one _ _ _ (by decide) (by decide)

section
variable (F : ByteArray → ByteArray)
theorem req_a : reqErr 0 ⟨#[97]⟩ ⟨#[104, 105]⟩ = 0 := by unfold reqErr; rw [Lib.toList_data, Lib.toList_data]; decide +kernel
theorem req_b : reqErr 1 ⟨#[97]⟩ ⟨#[]⟩ = 0 := by unfold reqErr; rw [Lib.toList_data, Lib.toList_data]; decide +kernel
theorem req_c : reqErr 2 ⟨#[97]⟩ ⟨#[]⟩ = 0 := by unfold reqErr; rw [Lib.toList_data, Lib.toList_data]; decide +kernel
theorem req_d : reqErr 0 ⟨#[97]⟩ ⟨#[]⟩ = 0 := by unfold reqErr; rw [Lib.toList_data, Lib.toList_data]; decide +kernel
theorem req_f : reqErr 9 ⟨#[]⟩ ⟨#[]⟩ = 1 := by unfold reqErr; rw [if_pos (by decide)]
theorem ans0 : doA F lD0 0 ⟨#[97]⟩ ⟨#[104, 105]⟩ = ⟨lD1, 0, ⟨#[]⟩, []⟩ := by unfold doA; rw [req_a]; rfl
theorem ans1 : doA F lD1 1 ⟨#[97]⟩ ⟨#[]⟩ = ⟨lD1, 0, ⟨#[104, 105]⟩, []⟩ := by unfold doA; rw [req_b]; rfl
theorem ans2 : doA F lD1 2 ⟨#[97]⟩ ⟨#[]⟩ = ⟨lD2, 0, ⟨#[]⟩, []⟩ := by unfold doA; rw [req_c]; rfl
theorem ans3 : doA F lD2 0 ⟨#[97]⟩ ⟨#[]⟩ = ⟨lD2, 13, ⟨#[]⟩, []⟩ := by unfold doA; rw [req_d]; rfl
theorem ans4 : doA F lD2 1 ⟨#[97]⟩ ⟨#[]⟩ = ⟨lD2, 9, ⟨#[]⟩, []⟩ := by unfold doA; rw [req_b]; rfl
theorem ans5 : doA F lD2 9 ⟨#[]⟩ ⟨#[]⟩ = ⟨lD2, 1, ⟨#[]⟩, []⟩ := by unfold doA; rw [req_f]; rfl
end
theorem st1 : stateS lD1 = ⟨#[97, 61, 54, 56, 54, 57, 32]⟩ := by rfl
theorem st2 : stateS lD2 = ⟨#[97, 33, 32]⟩ := by rfl

/-- Do at a request that is written out, with an answer without keys. -/
theorem do_lit {F : ByteArray → ByteArray} (hF : SumOk F) (w : World) (htab : Tab w) (p bk n : Nat) (D D2 : DataW Unit) (kind : Int) (k v : ByteArray) (c : Int) (a : ByteArray)
    (hk : k.size < 16384) (hv : v.size < 16384) (hn : n < 1000000) (h : IsM w p bk n D) (hf : Fine D) (he : doA F D kind k v = ⟨D2, c, a, []⟩) :
    Calls Tryd.prog 12 #[.pointer (some ⟨p, 0, none⟩), .agg #[.int .i64 kind, .string k, .string v]] w fun e w' =>
      ∃ ao cp, e = .returned (.agg #[.int .i64 c, .string a, .slice ao 0 cp]) ∧ OwnsK w' bk (n + 1) D2 ∧ w.grownBy w' (some bk) := by
  have := do_any hF w htab p bk n D kind k v hk hv hn h hf
  rw [he] at this
  refine this.mono ?_
  rintro e w' ⟨kv, rfl, g1, g2, g3⟩
  obtain ⟨ao, cp, rfl⟩ : ∃ ao cp, kv = .slice ao 0 cp := by
    rcases g1.2 with ⟨hv, h0⟩ | ⟨g', c', cur, hv, _⟩
    · exact ⟨none, 0, hv⟩
    · exact ⟨_, _, hv⟩
  exact ⟨ao, cp, rfl, g2, g3⟩

theorem state_lit (w : World) (p bk n : Nat) (D : DataW Unit) (h : IsM w p bk n D) (hf : Fine D) {s : ByteArray} (e : stateS D = s) :
    Calls Tryd.prog 14 #[.pointer (some ⟨p, 0, none⟩)] w (RetBelow (.string s) w) := by
  rw [← e]
  exact state_any w p bk n D h hf

/-- What holds in 'live' between two calls. -/
structure LiveW (w W : World) (p bk n : Nat) (D : DataW Unit) (rs : List (Nat × Int × ByteArray)) : Prop where
  below : Below w.heap.size w W
  isM : IsM W p bk n D
  tab : Tab W
  hp : w.heap.size ≤ p
  hbk : w.heap.size ≤ bk
  res : ∀ r ∈ rs, ∃ kv, W.heap[r.1]? = some (.cells #[.int .i64 r.2.1, .string r.2.2, kv] 37 (0, 0))

theorem LiveW.later {w W W' : World} {p bk n : Nat} {D : DataW Unit} {rs : List (Nat × Int × ByteArray)} (h : LiveW w W p bk n D rs) (hb : Below W.heap.size W W') : LiveW w W' p bk n D rs :=
  ⟨bl_trans h.below hb, isM_below h.isM hb, tab_below h.tab hb, h.hp, h.hbk, fun r hr => by
    obtain ⟨kv, hk⟩ := h.res r hr
    exact ⟨kv, (hb.block _ (Array.getElem?_eq_some_iff.1 hk).1).trans hk⟩⟩

theorem LiveW.step {w W W' : World} {p bk n : Nat} {D D2 : DataW Unit} {rs : List (Nat × Int × ByteArray)} (h : LiveW w W p bk n D rs) (ho : OwnsK W' bk (n + 1) D2) (hg : W.grownBy W' (some bk)) (kv : Value) {c : Int} {v : ByteArray} :
    LiveW w (W'.alloc (.cells #[.int .i64 c, .string v, kv] 37)) p bk (n + 1) D2 ((W'.heap.size, c, v) :: rs) := by
  have hB : Below w.heap.size w W' := h.below.grown hg h.below.size (fun k e => by cases e; exact h.hbk)
  have hM := isM_after h.isM ho hg
  have hA : Below W'.heap.size W' (W'.alloc (.cells #[.int .i64 c, .string v, kv] 37)) := bl_alloc (Below.refl _ _) _
  refine ⟨bl_trans hB hA, isM_below hM hA, tab_below (tab_grown h.tab h.isM.2 hg) hA, h.hp, h.hbk, ?_⟩
  intro r hr
  rcases List.mem_cons.1 hr with rfl | hr
  · exact ⟨kv, (MapKept.heap_alloc W' _).1⟩
  · obtain ⟨kv', hk⟩ := h.res r hr
    have hlt := (Array.getElem?_eq_some_iff.1 hk).1
    have h2 := (hg.block _ hlt (fun e => by
      obtain ⟨es, clock, hm, _⟩ := h.isM.2
      rw [Option.some.inj e, hm] at hk
      cases hk)).trans hk
    exact ⟨kv', (one_old W' _ _ (Array.getElem?_eq_some_iff.1 h2).1).trans h2⟩

theorem silent8 (w : World) : Calls Tryd.prog 17 #[.int .i64 8] w fun e w' => e = .returned (.bool true) ∧ w' = w := by
  go_enter Tryd.func17, Tryd.ntmps17
  go_wp2
  go_ret
  exact ⟨rfl, rfl⟩
theorem silent9 (w : World) : Calls Tryd.prog 17 #[.int .i64 9] w fun e w' => e = .returned (.bool false) ∧ w' = w := by
  go_enter Tryd.func17, Tryd.ntmps17
  go_wp2
  go_ret
  exact ⟨rfl, rfl⟩

set_option maxRecDepth 100000 in
set_option maxHeartbeats 4000000 in
theorem live_any {F : ByteArray → ByteArray} (hF : SumOk F) (w : World) (htab : Tab w) : Calls Tryd.prog 8 #[] w (RetBelow (.bool true) w) := by
  go_enter Tryd.func8, Tryd.ntmps8
  go_wp2_with fail
  refine (new_any _).mono ?_
  rintro e w0 ⟨rfl, hw0⟩
  have L0 : LiveW w w0 (w.heap.size + 1) w.heap.size 0 lD0 [] := by
    rw [hw0]
    have hb := bl_alloc (bl_alloc (Below.refl _ w) (.map #[] 0)) (.cells #[.map (some w.heap.size)] 48)
    refine ⟨hb, ⟨nw22 _ _ _, ?_⟩, tab_below htab hb, by omega, by omega, by simp⟩
    exact OwnsK.same (World.ownsMap_made w Tryd.prog 9 RK) (one_old _ _ _ (by simp))
  clear hw0
  go_wp2_with fail
  refine (do_lit hF _ L0.tab _ _ 0 lD0 lD1 0 ⟨#[97]⟩ ⟨#[104, 105]⟩ 0 ⟨#[]⟩ (by decide) (by decide) (by decide) L0.isM fine0 (ans0 F)).mono ?_
  rintro e w1 ⟨ao, cp, rfl, g1, g2⟩
  have L' := L0.step (c := 0) (v := ⟨#[]⟩) g1 g2 (.slice ao 0 cp)
  clear g1 g2 L0
  go_wp2_with fail
  generalize World.alloc w1 _ = W1 at L' ⊢
  generalize w1.heap.size = b1 at L' ⊢
  have L1 := L'
  clear L' w1
  refine (do_lit hF _ L1.tab _ _ 1 lD1 lD1 1 ⟨#[97]⟩ ⟨#[]⟩ 0 ⟨#[104, 105]⟩ (by decide) (by decide) (by decide) L1.isM fine1 (ans1 F)).mono ?_
  rintro e w2 ⟨ao, cp, rfl, g1, g2⟩
  have L' := L1.step (c := 0) (v := ⟨#[104, 105]⟩) g1 g2 (.slice ao 0 cp)
  clear g1 g2 L1
  go_wp2_with fail
  generalize World.alloc w2 _ = W2 at L' ⊢
  generalize w2.heap.size = b2 at L' ⊢
  have L2 := L'
  clear L' w2
  refine (state_lit _ _ _ _ _ L2.isM fine1 st1).mono ?_
  rintro e w2s ⟨rfl, hbs⟩
  have Ls := L2.later hbs
  clear hbs L2
  have L2 := Ls
  clear Ls
  go_wp2_with fail
  refine (do_lit hF _ L2.tab _ _ 2 lD1 lD2 2 ⟨#[97]⟩ ⟨#[]⟩ 0 ⟨#[]⟩ (by decide) (by decide) (by decide) L2.isM fine1 (ans2 F)).mono ?_
  rintro e w3 ⟨ao, cp, rfl, g1, g2⟩
  have L' := L2.step (c := 0) (v := ⟨#[]⟩) g1 g2 (.slice ao 0 cp)
  clear g1 g2 L2
  go_wp2_with fail
  generalize World.alloc w3 _ = W3 at L' ⊢
  generalize w3.heap.size = b3 at L' ⊢
  have L3 := L'
  clear L' w3
  refine (do_lit hF _ L3.tab _ _ 3 lD2 lD2 0 ⟨#[97]⟩ ⟨#[]⟩ 13 ⟨#[]⟩ (by decide) (by decide) (by decide) L3.isM fine2 (ans3 F)).mono ?_
  rintro e w4 ⟨ao, cp, rfl, g1, g2⟩
  have L' := L3.step (c := 13) (v := ⟨#[]⟩) g1 g2 (.slice ao 0 cp)
  clear g1 g2 L3
  go_wp2_with fail
  generalize World.alloc w4 _ = W4 at L' ⊢
  generalize w4.heap.size = b4 at L' ⊢
  have L4 := L'
  clear L' w4
  refine (do_lit hF _ L4.tab _ _ 4 lD2 lD2 1 ⟨#[97]⟩ ⟨#[]⟩ 9 ⟨#[]⟩ (by decide) (by decide) (by decide) L4.isM fine2 (ans4 F)).mono ?_
  rintro e w5 ⟨ao, cp, rfl, g1, g2⟩
  have L' := L4.step (c := 9) (v := ⟨#[]⟩) g1 g2 (.slice ao 0 cp)
  clear g1 g2 L4
  go_wp2_with fail
  generalize World.alloc w5 _ = W5 at L' ⊢
  generalize w5.heap.size = b5 at L' ⊢
  have L5 := L'
  clear L' w5
  refine (do_lit hF _ L5.tab _ _ 5 lD2 lD2 9 ⟨#[]⟩ ⟨#[]⟩ 1 ⟨#[]⟩ (by decide) (by decide) (by decide) L5.isM fine2 (ans5 F)).mono ?_
  rintro e w6 ⟨ao, cp, rfl, g1, g2⟩
  have L' := L5.step (c := 1) (v := ⟨#[]⟩) g1 g2 (.slice ao 0 cp)
  clear g1 g2 L5
  go_upto_region 11 with (fail)
  generalize World.alloc w6 _ = W6 at L' ⊢
  generalize w6.heap.size = b6 at L' ⊢
  have L6 := L'
  clear L' w6
  obtain ⟨k6, h6⟩ := L6.res (b6, 1, ⟨#[]⟩) (by simp)
  obtain ⟨k5, h5⟩ := L6.res (b5, 9, ⟨#[]⟩) (by simp)
  obtain ⟨k4, h4⟩ := L6.res (b4, 13, ⟨#[]⟩) (by simp)
  obtain ⟨k3, h3⟩ := L6.res (b3, 0, ⟨#[]⟩) (by simp)
  obtain ⟨k2, h2⟩ := L6.res (b2, 0, ⟨#[104, 105]⟩) (by simp)
  obtain ⟨k1, h1⟩ := L6.res (b1, 0, ⟨#[]⟩) (by simp)
  have r6 : W6.cell? ⟨b6, 0, none⟩ = some (.int .i64 1) := by rw [Lib.cell_of_heap h6]; rfl
  have r5 : W6.cell? ⟨b5, 0, none⟩ = some (.int .i64 9) := by rw [Lib.cell_of_heap h5]; rfl
  have r4 : W6.cell? ⟨b4, 0, none⟩ = some (.int .i64 13) := by rw [Lib.cell_of_heap h4]; rfl
  have r3 : W6.cell? ⟨b3, 0, none⟩ = some (.int .i64 0) := by rw [Lib.cell_of_heap h3]; rfl
  have r2 : W6.cell? ⟨b2, 1, none⟩ = some (.string ⟨#[104, 105]⟩) := by rw [Lib.cell_of_heap h2]; rfl
  have r1 : W6.cell? ⟨b1, 0, none⟩ = some (.int .i64 0) := by rw [Lib.cell_of_heap h1]; rfl
  clear h1 h2 h3 h4 h5 h6
  go_wp2_with fail
  refine (state_lit _ _ _ _ _ L6.isM fine2 st2).mono ?_
  rintro e w7 ⟨rfl, hb7⟩
  go_wp2_with fail
  refine (silent8 _).mono ?_
  rintro e w8 ⟨rfl, rfl⟩
  go_wp2_with fail
  refine (silent9 _).mono ?_
  rintro e w9 ⟨rfl, rfl⟩
  go_wp2
  go_ret
  exact ⟨rfl, bl_trans L6.below hb7⟩

end Go.Proofs.YtlanhogdeiiecaaDoor
