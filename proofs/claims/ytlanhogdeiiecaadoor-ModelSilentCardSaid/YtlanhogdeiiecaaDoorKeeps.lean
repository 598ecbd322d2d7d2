/-
  ModelKeeps at this program: the walk.
-/
import Derived.Test.YtlanhogdeiiecaaDoorMany
import Derived.Test.YtlanhogdeiiecaaDoorOnce
set_option linter.unusedVariables false
set_option linter.unusedSimpArgs false
namespace Go.Proofs.YtlanhogdeiiecaaDoor
open Go.RowKit Go.Shelf Go.Lib Go.Maps Go.Sort

/-- What is kept of one model in a loop over requests. -/
structure OneM (w W : World) (p bk i : Nat) (bs : List Blk) (D : DataW Unit) (L : List Ent) : Prop where
  mw : MW w W [⟨p, bk, i, D⟩] bs []
  lens : Lens D i
  rep : Rep D L

theorem live_mw {F : ByteArray → ByteArray} (hF : SumOk F) {w W : World} {ms : List Mod} {bs : List Blk} {ss : List Txt} (h : MW w W ms bs ss) : Calls Tryd.prog 8 #[] W fun e w' => e = .returned (.bool true) ∧ Below w.heap.size w w' := live_after hF h.below h.tab

theorem MW.dropTxt {w W : World} {ms : List Mod} {bs : List Blk} {ss : List Txt} (h : MW w W ms bs ss) : MW w W ms bs [] := ⟨h.below, h.tab, h.isM, h.new, h.apart, h.blk, by simp⟩
theorem doA_ks (F : ByteArray → ByteArray) (D : DataW Unit) (kind : Int) (k v : ByteArray) : (doA F D kind k v).ks.length ≤ 16 := by
  unfold doA
  repeat' split
  all_goals first | (simp; done) | exact listK_le _ _ _
theorem kv_form {W : World} {base : Nat} {kv : Value} {ks : List (List UInt8)} (h : OwnsS W base kv ks) : ∃ ao cp, kv = .slice ao ks.length cp := by
  rcases h.2 with ⟨hv, h0⟩ | ⟨g', c', cur, hv, _⟩
  · exact ⟨none, 0, by rw [hv, h0]⟩
  · exact ⟨_, _, hv⟩

/-- Do on the first of some models, as the laws take it. -/
theorem do_mw {F : ByteArray → ByteArray} (hF : SumOk F) {w W : World} {m : Mod} {ms : List Mod} {bs : List Blk} {ss : List Txt} (h : MW w W (m :: ms) bs ss) {N : Nat} (hl : Lens m.D N) (hN : N ≤ 100000) (hn : m.n ≤ 100000) (kind : Int) (k v : ByteArray) (hk : k.size ≤ 100) (hv : v.size ≤ 500) :
    Calls Tryd.prog 12 #[.pointer (some ⟨m.p, 0, none⟩), .agg #[.int .i64 kind, .string k, .string v]] W fun e w' =>
      ∃ ao cp, e = .returned (.agg #[.int .i64 (doA F m.D kind k v).c, .string (doA F m.D kind k v).v, .slice ao (doA F m.D kind k v).ks.length cp]) ∧
        MW w w' (⟨m.p, m.bk, m.n + 1, (doA F m.D kind k v).D⟩ :: ms) bs (⟨.slice ao (doA F m.D kind k v).ks.length cp, (doA F m.D kind k v).ks⟩ :: ss) ∧ Lens (doA F m.D kind k v).D (N + 1) := by
  have hm := h.isM m (by simp)
  have hT := canon_tidy (hm.2.canon lawK)
  refine (do_any hF W h.tab m.p m.bk m.n m.D kind k v (by omega) (by omega) (by omega) hm (lens_fine hm.2 hl (by omega))).mono ?_
  rintro e w2 ⟨kv, rfl, gks, gown, ggr⟩
  obtain ⟨ao, cp, rfl⟩ := kv_form gks
  exact ⟨ao, cp, rfl, h.do gks gown ggr, lens_do F hl hT hk hv⟩
theorem state_mw {w W : World} {m : Mod} {ms : List Mod} {bs : List Blk} {ss : List Txt} (h : MW w W (m :: ms) bs ss) {N : Nat} (hl : Lens m.D N) (hN : N ≤ 100000) :
    Calls Tryd.prog 14 #[.pointer (some ⟨m.p, 0, none⟩)] W fun e w' => e = .returned (.string (stateS m.D)) ∧ MW w w' (m :: ms) bs ss := by
  have hm := h.isM m (by simp)
  exact (state_any W m.p m.bk m.n m.D hm (lens_fine hm.2 hl (by omega))).mono fun e w' ⟨he, hb⟩ => ⟨he, h.later hb⟩
theorem copy_mw {w W : World} {m : Mod} {bs : List Blk} {ss : List Txt} (h : MW w W [m] bs ss) :
    Calls Tryd.prog 16 #[.pointer (some ⟨m.p, 0, none⟩)] W fun e w' => ∃ pc bc, e = .returned (.pointer (some ⟨pc, 0, none⟩)) ∧ MW w w' [⟨pc, bc, m.n, m.D⟩, m] bs ss := by
  have hm := h.isM m (by simp)
  refine (copy_any W m.p m.bk m.n m.D hm).mono ?_
  rintro e w' ⟨pc, bc, rfl, hbc, hM, hb⟩
  refine ⟨pc, bc, rfl, (h.later hb).model (m := ⟨pc, bc, m.n, m.D⟩) hM (Nat.le_trans h.below.size hbc) ?_⟩
  intro m' hm'
  obtain rfl : m' = m := by simpa using hm'
  have := hm.2.lt
  show bc ≠ m'.bk
  omega

set_option maxRecDepth 100000 in
set_option maxHeartbeats 8000000 in
theorem keeps_any {F : ByteArray → ByteArray} (hF : SumOk F) (w : World) (htab : Tab w) (v0 : Value) (qs : List Req) (hv : ReqsAt w v0 qs) (q : Req) :
    Calls Tryd.prog 5 #[v0, .agg #[.int .i64 q.kind, .string q.key, .string q.val]] w (RetBelow (.bool true) w) := by
  obtain ⟨kind, k, v⟩ := q
  simp only
  have HV := Lib.hid hv
  obtain ⟨hmax, A, c, rfl, _⟩ := hv
  unfold maxLen at hmax
  have Mb := (MW.start (Below.refl _ w) htab).box #[.int .i64 kind, .string k, .string v] 32
  have HMb := Lib.hid Mb
  clear Mb
  by_cases h30 : qs.length ≤ 30
  · have h30' : ¬ (30 : Int) < (qs.length : Int) := by omega
    by_cases hq : smallQ ⟨kind, k, v⟩
    · have hqk : k.size ≤ 100 := hq.1
      have hqv : v.size ≤ 500 := hq.2
      go_enter Tryd.func5, Tryd.ntmps5
      go_wp2_with fail
      refine (small_yes ⟨kind, k, v⟩ hq _).mono ?_
      rintro e w1 ⟨rfl, hb1⟩
      have M1 := Lib.hid (HMb.out.later hb1)
      clear hb1
      go_wp2_with fail
      refine (new_any _).mono ?_
      rintro e w0 ⟨rfl, hw0⟩
      obtain ⟨hb0, hM0⟩ := mw_start M1.out.below M1.out.tab hw0
      have M0 : Hid (OneM w w0 (w1.heap.size + 1) w1.heap.size 0 [⟨w.heap.size, #[.int .i64 kind, .string k, .string v], 32⟩] (.map []) []) :=
        ⟨(M1.out.later hb0).model (m := ⟨_, _, _, _⟩) hM0 M1.out.below.size (by simp), lens_empty, rep_empty⟩
      clear hw0 hM0 hb0
      obtain ⟨bk, hbk⟩ : ∃ bk, bk = w1.heap.size := ⟨_, rfl⟩
      rw [← hbk] at M0 ⊢
      clear hbk M1 HMb
      go_wp2_with fail
      go_loopw [6] (fun v6 wr => ∃ (i : Nat) (D : DataW Unit) (L : List Ent), i ≤ qs.length ∧ v6 = .int .i64 i ∧ OneM w wr (bk + 1) bk i [⟨w.heap.size, #[.int .i64 kind, .string k, .string v], 32⟩] D L) (fun v6 _ => qs.length - (intOf v6).toNat)
      case atStart => exact ⟨0, _, _, Nat.zero_le _, rfl, M0.out⟩
      case round =>
        clear M0
        obtain ⟨i, D, L, hi, rfl, hM⟩ := hrel
        have HM := Lib.hid hM
        clear hM
        by_cases hlt : i < qs.length
        · have hlt' : (i : Int) < (qs.length : Int) := by omega
          obtain ⟨_, A', c', hA, hrq⟩ := HV.out
          obtain ⟨rfl, _⟩ : A' = A ∧ c' = c := by injection hA with h1 _ h3; exact ⟨h1.symm, h3.symm⟩
          obtain ⟨b, o, rfl, hblt, hcs⟩ := hrq (by omega)
          obtain ⟨q0, q1, q2⟩ := hcs i hlt
          clear hcs hrq hA
          obtain ⟨q, hq⟩ : ∃ q, qs[i] = q := ⟨_, rfl⟩
          rw [hq] at q0 q1 q2
          obtain ⟨kind', k', v'⟩ := q
          simp only at q0 q1 q2
          clear hq
          have Q0 := Lib.hid q0
          have Q1 := Lib.hid q1
          have Q2 := Lib.hid q2
          clear q0 q1 q2
          have q0 := (HM.out.mw.below.cell (p := ⟨b, o + i * 3, none⟩) hblt).trans Q0.out
          have q1 := (HM.out.mw.below.cell (p := ⟨b, o + i * 3 + 1, none⟩) hblt).trans Q1.out
          have q2 := (HM.out.mw.below.cell (p := ⟨b, o + i * 3 + 2, none⟩) hblt).trans Q2.out
          by_cases hsm : smallQ ⟨kind', k', v'⟩
          · go_wp2_with fail
            refine (small_yes ⟨kind', k', v'⟩ hsm _).mono ?_
            rintro e w1 ⟨rfl, hb1⟩
            have M2 := Lib.hid (HM.out.mw.later hb1)
            have g0 := (M2.out.below.cell (p := ⟨b, o + i * 3, none⟩) hblt).trans Q0.out
            have g1 := (M2.out.below.cell (p := ⟨b, o + i * 3 + 1, none⟩) hblt).trans Q1.out
            have g2 := (M2.out.below.cell (p := ⟨b, o + i * 3 + 2, none⟩) hblt).trans Q2.out
            clear q0 q1 q2 hb1
            go_wp2_with fail
            obtain ⟨L', hL'⟩ := rep_do F HM.out.rep kind' k' v'
            obtain ⟨a, ha⟩ : ∃ a, doA F D kind' k' v' = a := ⟨_, rfl⟩
            have d2 := do_mw hF M2.out HM.out.lens (by omega) (by show i ≤ _; omega) kind' k' v' hsm.1 hsm.2
            simp only [ha] at d2 hL'
            clear ha
            refine d2.mono ?_
            rintro e w2 ⟨ao, cp, rfl, m3, l3⟩
            have M3 : Hid (OneM w w2 (bk + 1) bk (i + 1) [⟨w.heap.size, #[.int .i64 kind, .string k, .string v], 32⟩] a.D L') := ⟨m3.dropTxt, l3, hL'⟩
            clear m3 l3 hL' d2 g0 g1 g2
            go_wp2_with fail
            go_roundw
            case rel => exact ⟨i + 1, _, _, by omega, by go_num, M3.out⟩
            case measure => simp [intOf]; omega
          · go_wp2_with fail
            refine (small_no ⟨kind', k', v'⟩ hsm _).mono ?_
            rintro e w1 ⟨rfl, hb1⟩
            have M2 := HM.out.mw.later hb1
            go_wp2_with fail
            refine (live_mw hF M2).mono ?_
            rintro e w2 ⟨rfl, hb2⟩
            go_wp2
            go_ret
            exact ⟨rfl, hb2⟩
        · have hN : i ≤ 100000 := by omega
          go_wp2_with fail
          refine (state_mw HM.out.mw HM.out.lens hN).mono ?_
          rintro e w1 ⟨rfl, m1⟩
          have M1 := Lib.hid m1
          clear m1
          obtain ⟨sD, hsD⟩ : ∃ sD, stateS D = sD := ⟨_, rfl⟩
          have HSD := Lib.hid hsD
          simp only [hsD]
          clear hsD
          go_wp2_with fail
          refine (copy_mw M1.out).mono ?_
          rintro e w2 ⟨pc, bc, rfl, m2⟩
          have M2 := Lib.hid m2
          clear m2 M1
          have b0 := M2.out.cell (b := w.heap.size) (cs := #[.int .i64 kind, .string k, .string v]) (t := 32) (by simp) 0
          have b1 := M2.out.cell (b := w.heap.size) (cs := #[.int .i64 kind, .string k, .string v]) (t := 32) (by simp) 1
          have b2 := M2.out.cell (b := w.heap.size) (cs := #[.int .i64 kind, .string k, .string v]) (t := 32) (by simp) 2
          go_wp2_with fail
          have hD := HM.out.rep
          have hch := changes_state F hD kind k v
          obtain ⟨a, ha⟩ : ∃ a, doA F D kind k v = a := ⟨_, rfl⟩
          have l2 := HM.out.lens
          have d2 := do_mw hF M2.out l2 hN (by show i ≤ _; omega) kind k v hqk hqv
          simp only [ha] at d2
          have HCH := Lib.hid hch
          have HAA := Lib.hid ha
          clear hch ha hD
          refine d2.mono ?_
          rintro e w3 ⟨ao, cp, rfl, m3, l3⟩
          have M3 := Lib.hid ((m3.box #[.int .i64 a.c, .string a.v, .slice ao a.ks.length cp] 37).rot)
          clear m3 d2 M2 b0 b1 b2
          go_wp2_with fail
          generalize hW3 : World.alloc w3 _ = W3 at M3 ⊢
          obtain ⟨n3, hn3⟩ : ∃ n3, n3 = w3.heap.size := ⟨_, rfl⟩
          rw [← hn3] at M3 ⊢
          clear hW3 hn3
          refine (state_mw M3.out l2 hN).mono ?_
          rintro e w4 ⟨rfl, m4⟩
          have M4 := Lib.hid m4
          clear m4 M3
          simp only [HSD.out]
          have b0 := M4.out.cell (b := w.heap.size) (cs := #[.int .i64 kind, .string k, .string v]) (t := 32) (by simp) 0
          have b1 := M4.out.cell (b := w.heap.size) (cs := #[.int .i64 kind, .string k, .string v]) (t := 32) (by simp) 1
          have b2 := M4.out.cell (b := w.heap.size) (cs := #[.int .i64 kind, .string k, .string v]) (t := 32) (by simp) 2
          go_wp2_with fail
          have d4 := do_mw hF M4.out l2 hN (by show i ≤ _; omega) kind k v hqk hqv
          simp only [HAA.out] at d4
          refine d4.mono ?_
          rintro e w5 ⟨ao2, cp2, rfl, m5, l5⟩
          have M5 := Lib.hid (m5.box #[.int .i64 a.c, .string a.v, .slice ao2 a.ks.length cp2] 37)
          clear m5 d4 M4 b0 b1 b2
          have b0 := M5.out.cell (b := w.heap.size) (cs := #[.int .i64 kind, .string k, .string v]) (t := 32) (by simp) 0
          have x0 := M5.out.cell (b := n3) (cs := #[.int .i64 a.c, .string a.v, .slice ao a.ks.length cp]) (t := 37) (by simp) 0
          have x1 := M5.out.cell (b := n3) (cs := #[.int .i64 a.c, .string a.v, .slice ao a.ks.length cp]) (t := 37) (by simp) 1
          have x2 := M5.out.cell (b := n3) (cs := #[.int .i64 a.c, .string a.v, .slice ao a.ks.length cp]) (t := 37) (by simp) 2
          have hks : a.ks.length ≤ 1000000 := by
            have := doA_ks F D kind k v
            rw [HAA.out] at this
            omega
          have hsb : sameB a.c a.c a.v a.v a.ks a.ks = true := by simp [sameB]
          have HSB := Lib.hid hsb
          clear hsb
          have hcb : changesB F D kind k v = (decide (a.c = 0) && (decide (kind = 0) || decide (kind = 2))) := by unfold changesB; rw [HAA.out]
          obtain ⟨sA, hsA⟩ : ∃ sA, stateS a.D = sA := ⟨_, rfl⟩
          have HSA := Lib.hid hsA
          have still : (decide (a.c = 0) && (decide (kind = 0) || decide (kind = 2))) = false → sA = sD := fun h => by
            have := (HCH.out.2 (hcb.trans h))
            rw [HAA.out] at this
            rw [← hsA, this, HSD.out]
          have turned : (decide (a.c = 0) && (decide (kind = 0) || decide (kind = 2))) = true → (sA.toList == sD.toList) = false := fun h => by
            have h2 : ¬ stateL a.D = stateL D := fun e => by
              have h3 := HCH.out.1.1 (by rw [HAA.out]; exact e)
              rw [hcb, h] at h3
              cases h3
            have e1 : sA.toList = stateL a.D := by rw [← hsA]; exact toList_mk _
            have e2 : sD.toList = stateL D := by rw [← HSD.out]; exact toList_mk _
            rw [e1, e2]
            simpa using h2
          have STILL := Lib.hid still
          have TURNED := Lib.hid turned
          clear hcb hsA still turned
          cases hc : (a.c == 0) with
          | false =>
            have hc' : decide (a.c = 0) = false := by simpa using hc
            obtain rfl := STILL.out (by rw [hc']; rfl)
            clear hc'
            go_wp2_with fail
            have s1 := M5.out.txt ⟨.slice ao a.ks.length cp, a.ks⟩ (by simp)
            have s2 := M5.out.txt ⟨.slice ao2 a.ks.length cp2, a.ks⟩ (by simp)
            have c6 := same16_any _ a.c a.c a.v a.v _ _ a.ks a.ks s1 s2 hks
            simp only [HSB.out] at c6
            refine c6.mono ?_
            rintro e w6 ⟨rfl, hb6⟩
            have M6 := Lib.hid (M5.out.later hb6)
            clear c6 s1 s2 hb6 M5 x0 x1 x2 b0
            go_wp2_with fail
            have t6 := state_mw M6.out l5 (by omega)
            simp only [HSA.out] at t6
            refine t6.mono ?_
            rintro e w7 ⟨rfl, m7⟩
            have M7 := Lib.hid m7.rot
            clear m7 M6 t6
            go_wp2_with fail
            have t7 := state_mw M7.out l5 (by omega)
            simp only [HSA.out] at t7
            refine t7.mono ?_
            rintro e w8 ⟨rfl, m8⟩
            have M8 := Lib.hid m8.rot
            clear m8 M7 t7
            go_wp2_with fail
            have t8 := state_mw M8.out l5 (by omega)
            simp only [HSA.out] at t8
            refine t8.mono ?_
            rintro e w9 ⟨rfl, m9⟩
            have M9 := Lib.hid m9
            clear m9 M8 t8
            go_wp2_with fail
            refine (live_mw hF M9.out).mono ?_
            rintro e w10 ⟨rfl, hb10⟩
            go_wp2
            go_ret
            exact ⟨rfl, hb10⟩
          | true =>
            have hc' : decide (a.c = 0) = true := by simpa using hc
            cases hk0 : (kind == 0) with
            | true =>
              have hk0' : decide (kind = 0) = true := by simpa using hk0
              have hne := TURNED.out (by rw [hc', hk0']; rfl)
              clear hc' hk0'
              go_wp2_with fail
              have s1 := M5.out.txt ⟨.slice ao a.ks.length cp, a.ks⟩ (by simp)
              have s2 := M5.out.txt ⟨.slice ao2 a.ks.length cp2, a.ks⟩ (by simp)
              have c6 := same16_any _ a.c a.c a.v a.v _ _ a.ks a.ks s1 s2 hks
              simp only [HSB.out] at c6
              refine c6.mono ?_
              rintro e w6 ⟨rfl, hb6⟩
              have M6 := Lib.hid (M5.out.later hb6)
              clear c6 s1 s2 hb6 M5 x0 x1 x2 b0
              go_wp2_with fail
              have t6 := state_mw M6.out l5 (by omega)
              simp only [HSA.out] at t6
              refine t6.mono ?_
              rintro e w7 ⟨rfl, m7⟩
              have M7 := Lib.hid m7.rot
              clear m7 M6 t6
              go_wp2_with fail
              have t7 := state_mw M7.out l5 (by omega)
              simp only [HSA.out] at t7
              refine t7.mono ?_
              rintro e w8 ⟨rfl, m8⟩
              have M8 := Lib.hid m8.rot
              clear m8 M7 t7
              go_wp2_with fail
              have t8 := state_mw M8.out l5 (by omega)
              simp only [HSA.out] at t8
              refine t8.mono ?_
              rintro e w9 ⟨rfl, m9⟩
              have M9 := Lib.hid m9
              clear m9 M8 t8
              go_wp2_with fail
              refine (live_mw hF M9.out).mono ?_
              rintro e w10 ⟨rfl, hb10⟩
              go_wp2
              go_ret
              exact ⟨rfl, hb10⟩
            | false =>
              have hk0' : decide (kind = 0) = false := by simpa using hk0
              cases hk2 : (kind == 2) with
              | true =>
                have hk2' : decide (kind = 2) = true := by simpa using hk2
                have hne := TURNED.out (by rw [hc', hk0', hk2']; rfl)
                clear hc' hk0' hk2'
                go_wp2_with fail
                have s1 := M5.out.txt ⟨.slice ao a.ks.length cp, a.ks⟩ (by simp)
                have s2 := M5.out.txt ⟨.slice ao2 a.ks.length cp2, a.ks⟩ (by simp)
                have c6 := same16_any _ a.c a.c a.v a.v _ _ a.ks a.ks s1 s2 hks
                simp only [HSB.out] at c6
                refine c6.mono ?_
                rintro e w6 ⟨rfl, hb6⟩
                have M6 := Lib.hid (M5.out.later hb6)
                clear c6 s1 s2 hb6 M5 x0 x1 x2 b0
                go_wp2_with fail
                have t6 := state_mw M6.out l5 (by omega)
                simp only [HSA.out] at t6
                refine t6.mono ?_
                rintro e w7 ⟨rfl, m7⟩
                have M7 := Lib.hid m7.rot
                clear m7 M6 t6
                go_wp2_with fail
                have t7 := state_mw M7.out l5 (by omega)
                simp only [HSA.out] at t7
                refine t7.mono ?_
                rintro e w8 ⟨rfl, m8⟩
                have M8 := Lib.hid m8.rot
                clear m8 M7 t7
                go_wp2_with fail
                have t8 := state_mw M8.out l5 (by omega)
                simp only [HSA.out] at t8
                refine t8.mono ?_
                rintro e w9 ⟨rfl, m9⟩
                have M9 := Lib.hid m9
                clear m9 M8 t8
                go_wp2_with fail
                refine (live_mw hF M9.out).mono ?_
                rintro e w10 ⟨rfl, hb10⟩
                go_wp2
                go_ret
                exact ⟨rfl, hb10⟩
              | false =>
                have hk2' : decide (kind = 2) = false := by simpa using hk2
                obtain rfl := STILL.out (by rw [hc', hk0', hk2']; rfl)
                clear hc' hk0' hk2'
                go_wp2_with fail
                have s1 := M5.out.txt ⟨.slice ao a.ks.length cp, a.ks⟩ (by simp)
                have s2 := M5.out.txt ⟨.slice ao2 a.ks.length cp2, a.ks⟩ (by simp)
                have c6 := same16_any _ a.c a.c a.v a.v _ _ a.ks a.ks s1 s2 hks
                simp only [HSB.out] at c6
                refine c6.mono ?_
                rintro e w6 ⟨rfl, hb6⟩
                have M6 := Lib.hid (M5.out.later hb6)
                clear c6 s1 s2 hb6 M5 x0 x1 x2 b0
                go_wp2_with fail
                have t6 := state_mw M6.out l5 (by omega)
                simp only [HSA.out] at t6
                refine t6.mono ?_
                rintro e w7 ⟨rfl, m7⟩
                have M7 := Lib.hid m7.rot
                clear m7 M6 t6
                go_wp2_with fail
                have t7 := state_mw M7.out l5 (by omega)
                simp only [HSA.out] at t7
                refine t7.mono ?_
                rintro e w8 ⟨rfl, m8⟩
                have M8 := Lib.hid m8.rot
                clear m8 M7 t7
                go_wp2_with fail
                have t8 := state_mw M8.out l5 (by omega)
                simp only [HSA.out] at t8
                refine t8.mono ?_
                rintro e w9 ⟨rfl, m9⟩
                have M9 := Lib.hid m9
                clear m9 M8 t8
                go_wp2_with fail
                refine (live_mw hF M9.out).mono ?_
                rintro e w10 ⟨rfl, hb10⟩
                go_wp2
                go_ret
                exact ⟨rfl, hb10⟩
    · go_enter Tryd.func5, Tryd.ntmps5
      go_wp2_with fail
      refine (small_no ⟨kind, k, v⟩ hq _).mono ?_
      rintro e w1 ⟨rfl, hb1⟩
      have M1 := HMb.out.later hb1
      go_wp2_with fail
      refine (live_mw hF M1).mono ?_
      rintro e w2 ⟨rfl, hb2⟩
      go_wp2
      go_ret
      exact ⟨rfl, hb2⟩
  · have h30' : (30 : Int) < (qs.length : Int) := by omega
    go_enter Tryd.func5, Tryd.ntmps5
    go_wp2_with fail
    refine (live_mw hF HMb.out).mono ?_
    rintro e w2 ⟨rfl, hb2⟩
    go_wp2
    go_ret
    exact ⟨rfl, hb2⟩
end Go.Proofs.YtlanhogdeiiecaaDoor
