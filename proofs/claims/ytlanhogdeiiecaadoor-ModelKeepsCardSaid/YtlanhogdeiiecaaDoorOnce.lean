/-
  ModelOnce at this program: the walk.
-/
import Derived.Test.YtlanhogdeiiecaaDoorLive
import Derived.Test.YtlanhogdeiiecaaDoorPure
import Derived.Test.YtlanhogdeiiecaaDoorArgs
set_option linter.unusedVariables false
set_option linter.unusedSimpArgs false
namespace Go.Proofs.YtlanhogdeiiecaaDoor
open Go.RowKit Go.Shelf Go.Lib Go.Maps Go.Sort

/-- A request as the calls take it. -/
abbrev reqV (q : Req) : Value := .agg #[.int .i64 q.kind, .string q.key, .string q.val]
def smallQ (q : Req) : Prop := q.key.size ≤ 100 ∧ q.val.size ≤ 500

set_option maxRecDepth 100000 in
theorem small_yes (q : Req) (h : smallQ q) (w : World) : Calls Tryd.prog 10 #[.agg #[.int .i64 q.kind, .string q.key, .string q.val]] w (RetBelow (.bool true) w) := by
  obtain ⟨h1, h2⟩ := h
  have h1' : (q.key.size : Int) ≤ 100 := by omega
  have h2' : (q.val.size : Int) ≤ 500 := by omega
  go_enter Tryd.func10, Tryd.ntmps10
  go_wp2
  go_ret
  exact ⟨rfl, bl_alloc (Below.refl _ w) _⟩
set_option maxRecDepth 100000 in
theorem small_no (q : Req) (h : ¬ smallQ q) (w : World) : Calls Tryd.prog 10 #[.agg #[.int .i64 q.kind, .string q.key, .string q.val]] w (RetBelow (.bool false) w) := by
  unfold smallQ at h
  by_cases h1 : q.key.size ≤ 100
  · have h1' : (q.key.size : Int) ≤ 100 := by omega
    have h2' : ¬ (q.val.size : Int) ≤ 500 := by omega
    go_enter Tryd.func10, Tryd.ntmps10
    go_wp2
    go_ret
    exact ⟨rfl, bl_alloc (Below.refl _ w) _⟩
  · have h1' : ¬ (q.key.size : Int) ≤ 100 := by omega
    clear h
    go_enter Tryd.func10, Tryd.ntmps10
    go_wp2
    go_ret
    exact ⟨rfl, bl_alloc (Below.refl _ w) _⟩

theorem LiveW.bare {w W : World} {p bk n : Nat} {D : DataW Unit} {rs : List (Nat × Int × ByteArray)} (h : LiveW w W p bk n D rs) : LiveW w W p bk n D [] := ⟨h.below, h.isM, h.tab, h.hp, h.hbk, by simp⟩
theorem live_after {F : ByteArray → ByteArray} (hF : SumOk F) {w W : World} (hb : Below w.heap.size w W) (ht : Tab W) : Calls Tryd.prog 8 #[] W fun e w' => e = .returned (.bool true) ∧ Below w.heap.size w w' :=
  (live_any hF W ht).mono fun _ _ h => ⟨h.1, bl_trans hb h.2⟩

theorem liveW_start {w w0 : World} (htab : Tab w) (hw0 : w0 = (w.alloc (.map #[] 0)).alloc (.cells #[.map (some w.heap.size)] 48)) : LiveW w w0 (w.heap.size + 1) w.heap.size 0 (.map []) [] := by
  rw [hw0]
  have hb := bl_alloc (bl_alloc (Below.refl _ w) (.map #[] 0)) (.cells #[.map (some w.heap.size)] 48)
  refine ⟨hb, ⟨nw22 _ _ _, ?_⟩, tab_below htab hb, by omega, by omega, by simp⟩
  exact OwnsK.same (World.ownsMap_made w Tryd.prog 9 RK) (one_old _ _ _ (by simp))

section
variable {F : ByteArray → ByteArray} {D : DataW Unit} {kind : Int} {k v key val : ByteArray} {puts gone : Int} {a : Ans}
theorem key_eq (hk : k.toList = key.toList) : k.data.toList = key.data.toList := by rw [← Lib.toList_data, ← Lib.toList_data, hk]
theorem key_ne (hk : ¬ k.toList = key.toList) : k.data.toList ≠ key.data.toList := fun e => hk (by rw [Lib.toList_data, Lib.toList_data, e])
theorem way_put (h : Once D key.data.toList puts gone val.data.toList) (hD : IsMap D) (ha : doA F D kind k v = a) (hk : k.toList = key.toList) (hc : (a.c != 0) = false) (h0 : (kind == 0) = true) : Once a.D key.data.toList (puts + 1) gone v.data.toList := by
  obtain rfl : kind = 0 := by simpa using h0
  subst ha
  rw [← key_eq hk] at h ⊢
  exact (once_put F hD h (by simpa using hc)).2.2
theorem way_gone (h : Once D key.data.toList puts gone val.data.toList) (hD : IsMap D) (ha : doA F D kind k v = a) (hk : k.toList = key.toList) (hc : (a.c != 0) = false) (h0 : (kind == 2) = true) : Once a.D key.data.toList puts (gone + 1) val.data.toList := by
  obtain rfl : kind = 2 := by simpa using h0
  subst ha
  rw [← key_eq hk] at h ⊢
  exact (once_gone F hD h (by simpa using hc)).2.2
theorem way_get (h : Once D key.data.toList puts gone val.data.toList) (ha : doA F D kind k v = a) (hk : k.toList = key.toList) (hc : (a.c != 0) = false) (h0 : (kind == 1) = true) : puts = 1 ∧ gone = 0 ∧ a.v.toList = val.toList ∧ Once a.D key.data.toList puts gone val.data.toList := by
  obtain rfl : kind = 1 := by simpa using h0
  subst ha
  rw [← key_eq hk] at h ⊢
  obtain ⟨h1, h2, h3, h4⟩ := once_get F h (by simpa using hc)
  refine ⟨h1, h2, ?_, ?_⟩
  · rw [h3, Lib.toList_data]
  · rw [h4]; exact h
theorem way_still (h : Once D key.data.toList puts gone val.data.toList) (ha : doA F D kind k v = a) (h0 : (kind == 0) = false) (h2 : (kind == 2) = false) : Once a.D key.data.toList puts gone val.data.toList := by
  subst ha
  exact once_still F h (by simpa using h0) (by simpa using h2)
end

set_option maxRecDepth 100000 in
set_option maxHeartbeats 8000000 in
theorem once_any {F : ByteArray → ByteArray} (hF : SumOk F) (w : World) (htab : Tab w) (v0 : Value) (qs : List Req) (hv : ReqsAt w v0 qs) (key : ByteArray) :
    Calls Tryd.prog 4 #[v0, .string key] w (RetBelow (.bool true) w) := by
  have HV := Lib.hid hv
  obtain ⟨hmax, A, c, rfl, _⟩ := hv
  unfold maxLen at hmax
  by_cases h30 : qs.length ≤ 30
  · have h30' : ¬ (30 : Int) < (qs.length : Int) := by omega
    go_enter Tryd.func4, Tryd.ntmps4
    go_wp2_with fail
    refine (new_any _).mono ?_
    rintro e w0 ⟨rfl, hw0⟩
    have L0 := liveW_start htab hw0
    clear hw0
    go_wp2_with fail
    go_loopw [6, 7, 8, 9] (fun v6 v7 v8 v9 wr => ∃ (i : Nat) (puts gone : Int) (val : ByteArray) (D : DataW Unit), i ≤ qs.length ∧ v9 = .int .i64 i ∧ v6 = .int .i64 puts ∧ v7 = .int .i64 gone ∧ v8 = .string val ∧ LiveW w wr (w.heap.size + 1) w.heap.size i D [] ∧ Lens D i ∧ Once D key.data.toList puts gone val.data.toList)
      (fun _ _ _ v9 _ => qs.length - (intOf v9).toNat)
    case atStart => exact ⟨0, 0, 0, ⟨#[]⟩, .map [], Nat.zero_le _, rfl, rfl, rfl, rfl, L0, lens_empty, .inl ⟨rfl, rfl, rfl⟩⟩
    case round =>
      obtain ⟨i, puts, gone, val, D, hi, rfl, rfl, rfl, rfl, hL, hLens, hOnce⟩ := hrel
      obtain ⟨p0, p1, p2, p3⟩ := once_le hOnce
      have HL := Lib.hid hL
      have HLens := Lib.hid hLens
      have HO := Lib.hid hOnce
      clear hL hLens hOnce L0
      by_cases hlt : i < qs.length
      · have hlt' : (i : Int) < (qs.length : Int) := by omega
        obtain ⟨_, A', c', hA, hrq⟩ := HV.out
        obtain ⟨rfl, _⟩ : A' = A ∧ c' = c := by injection hA with h1 _ h3; exact ⟨h1.symm, h3.symm⟩
        obtain ⟨b, o, rfl, hblt, hcs⟩ := hrq (by omega)
        obtain ⟨q0, q1, q2⟩ := hcs i hlt
        clear hcs hrq hA
        obtain ⟨q, hq⟩ : ∃ q, qs[i] = q := ⟨_, rfl⟩
        rw [hq] at q0 q1 q2
        obtain ⟨kind, k, v⟩ := q
        simp only at q0 q1 q2
        have HQ := Lib.hid hq
        clear hq
        have Q0 := Lib.hid q0
        have Q1 := Lib.hid q1
        have Q2 := Lib.hid q2
        clear q0 q1 q2
        have q0 := (HL.out.below.cell (p := ⟨b, o + i * 3, none⟩) hblt).trans Q0.out
        have q1 := (HL.out.below.cell (p := ⟨b, o + i * 3 + 1, none⟩) hblt).trans Q1.out
        have q2 := (HL.out.below.cell (p := ⟨b, o + i * 3 + 2, none⟩) hblt).trans Q2.out
        by_cases hsm : smallQ ⟨kind, k, v⟩
        · go_wp2_with fail
          refine (small_yes ⟨kind, k, v⟩ hsm _).mono ?_
          rintro e w1 ⟨rfl, hb1⟩
          have L1 := HL.out.later hb1
          have g0 := (L1.below.cell (p := ⟨b, o + i * 3, none⟩) hblt).trans Q0.out
          have g1 := (L1.below.cell (p := ⟨b, o + i * 3 + 1, none⟩) hblt).trans Q1.out
          have g2 := (L1.below.cell (p := ⟨b, o + i * 3 + 2, none⟩) hblt).trans Q2.out
          have hkz : k.size ≤ 100 := hsm.1
          have hvz : v.size ≤ 500 := hsm.2
          clear q0 q1 q2 hb1
          go_wp2_with fail
          have hT := canon_tidy (L1.isM.2.canon lawK)
          refine (do_any hF _ L1.tab _ _ i D kind k v (by omega) (by omega) (by omega) L1.isM (lens_fine L1.isM.2 HLens.out (by omega))).mono ?_
          have N2 : Lens (doA F D kind k v).D (i + 1) := lens_do F HLens.out hT hkz hvz
          generalize ha : doA F D kind k v = a at N2 ⊢
          rintro e w2 ⟨kv, rfl, gks, gown, ggr⟩
          obtain ⟨ao, cp, rfl⟩ : ∃ ao cp, kv = .slice ao a.ks.length cp := by
            rcases gks.2 with ⟨hv, h0⟩ | ⟨g', c', cur, hv, _⟩
            · exact ⟨none, 0, by rw [hv, h0]⟩
            · exact ⟨_, _, hv⟩
          have L2 := L1.step (c := a.c) (v := a.v) gown ggr (.slice ao a.ks.length cp)
          have HA := Lib.hid ha
          clear g0 g1 g2
          have g0 := (L2.below.cell (p := ⟨b, o + i * 3, none⟩) hblt).trans Q0.out
          have g1 := (L2.below.cell (p := ⟨b, o + i * 3 + 1, none⟩) hblt).trans Q1.out
          have g2 := (L2.below.cell (p := ⟨b, o + i * 3 + 2, none⟩) hblt).trans Q2.out
          have HL2 := Lib.hid L2
          clear ha gks gown ggr L2
          go_wp2
          · rename_i hk hc
            go_roundw
            case rel => exact ⟨i + 1, puts, gone, val, a.D, by omega, by go_num, rfl, rfl, rfl, HL2.out.bare, N2, by have := once_err F (kind := kind) (k := k) (v := v) HO.out (by rw [HA.out]; simpa using hc); rw [HA.out] at this; exact this⟩
            case measure => simp [intOf]; omega
          · rename_i hk hc h0
            go_roundw
            case rel => exact ⟨i + 1, puts + 1, gone, v, a.D, by omega, by go_num, rfl, rfl, rfl, HL2.out.bare, N2, way_put HO.out hT.isMap HA.out hk hc h0⟩
            case measure => simp [intOf]; omega
          · rename_i hk hc _ h0
            go_roundw
            case rel => exact ⟨i + 1, puts, gone + 1, val, a.D, by omega, by go_num, rfl, rfl, rfl, HL2.out.bare, N2, way_gone HO.out hT.isMap HA.out hk hc h0⟩
            case measure => simp [intOf]; omega
          · rename_i hk hc _ _ h0 _ _ hv
            exfalso
            obtain ⟨_, _, h3, _⟩ := way_get HO.out HA.out hk hc h0
            simp [h3] at hv
          · rename_i hk hc _ _ h0 _ _ hv
            obtain ⟨e1, e2, _, e4⟩ := way_get HO.out HA.out hk hc h0
            have E4 := Lib.hid (show Once a.D key.data.toList 1 0 val.data.toList by rw [← e1, ← e2]; exact e4)
            clear e4
            go_roundw
            case rel => exact ⟨i + 1, 1, 0, val, a.D, by omega, by go_num, by first | rfl | rw [e1], by first | rfl | rw [e2], rfl, HL2.out.bare, N2, E4.out⟩
            case measure => simp [intOf]; omega
          · rename_i hk hc _ _ h0 _ hv
            exfalso
            exact hv (way_get HO.out HA.out hk hc h0).2.1
          · rename_i hk hc _ _ h0 hv
            exfalso
            exact hv (way_get HO.out HA.out hk hc h0).1
          · rename_i hk hc h0 h2 _
            go_roundw
            case rel => exact ⟨i + 1, puts, gone, val, a.D, by omega, by go_num, rfl, rfl, rfl, HL2.out.bare, N2, way_still HO.out HA.out h0 h2⟩
            case measure => simp [intOf]; omega
          · rename_i hk
            go_roundw
            case rel => exact ⟨i + 1, puts, gone, val, a.D, by omega, by go_num, rfl, rfl, rfl, HL2.out.bare, N2, by have := once_other F (kind := kind) (k := k) (v := v) HO.out (key_ne hk); rw [HA.out] at this; exact this⟩
            case measure => simp [intOf]; omega
        · go_wp2_with fail
          refine (small_no ⟨kind, k, v⟩ hsm _).mono ?_
          rintro e w1 ⟨rfl, hb1⟩
          have L1 := HL.out.later hb1
          go_wp2_with fail
          refine (live_after hF L1.below L1.tab).mono ?_
          rintro e w2 ⟨rfl, hb2⟩
          go_wp2
          go_ret
          exact ⟨rfl, hb2⟩
      · go_wp2_with fail
        refine (live_after hF HL.out.below HL.out.tab).mono ?_
        rintro e w1 ⟨rfl, hb1⟩
        go_wp2
        go_ret
        exact ⟨rfl, hb1⟩
  · have h30' : (30 : Int) < (qs.length : Int) := by omega
    go_enter Tryd.func4, Tryd.ntmps4
    go_wp2_with fail
    refine (live_after hF (Below.refl _ w) htab).mono ?_
    rintro e w1 ⟨rfl, hb1⟩
    go_wp2
    go_ret
    exact ⟨rfl, hb1⟩

end Go.Proofs.YtlanhogdeiiecaaDoor
