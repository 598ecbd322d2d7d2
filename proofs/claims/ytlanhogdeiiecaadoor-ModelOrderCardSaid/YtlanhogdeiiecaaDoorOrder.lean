/-
  ModelOrder at this program: the walk.
-/
import Derived.Test.YtlanhogdeiiecaaDoorKeeps
set_option linter.unusedVariables false
set_option linter.unusedSimpArgs false
namespace Go.Proofs.YtlanhogdeiiecaaDoor
open Go.RowKit Go.Shelf Go.Lib Go.Maps Go.Sort

set_option maxRecDepth 100000 in
set_option maxHeartbeats 8000000 in
theorem order_mw {F : ByteArray → ByteArray} (hF : SumOk F) (w : World) (htab : Tab w) (v0 : Value) (qs : List Req) (hv : ReqsAt w v0 qs) (ka kb : Int) (a va b vb : ByteArray)
    (h20 : qs.length ≤ 20) (hqa : smallQ ⟨ka, a, va⟩) (hqb : smallQ ⟨kb, b, vb⟩) (hab : (a.toList == b.toList) = false) (h4a : (ka == 4) = false) (h4b : (kb == 4) = false) :
    Calls Tryd.prog 7 #[v0, .agg #[.int .i64 ka, .string a, .string va], .agg #[.int .i64 kb, .string b, .string vb]] w (RetBelow (.bool true) w) := by
  have HV := Lib.hid hv
  obtain ⟨hmax, A, c, rfl, _⟩ := hv
  unfold maxLen at hmax
  have Mb := ((MW.start (Below.refl _ w) htab).box #[.int .i64 ka, .string a, .string va] 32).box #[.int .i64 kb, .string b, .string vb] 32
  have e1 : (w.alloc (.cells #[.int .i64 ka, .string a, .string va] 32)).heap.size = w.heap.size + 1 := by simp
  rw [e1] at Mb
  have HMb := Lib.hid Mb
  clear e1
  clear Mb
  have h20' : ¬ (20 : Int) < (qs.length : Int) := by omega
  have hak : a.size ≤ 100 := hqa.1
  have hav : va.size ≤ 500 := hqa.2
  have hbk : b.size ≤ 100 := hqb.1
  have hbv : vb.size ≤ 500 := hqb.2
  go_enter Tryd.func7, Tryd.ntmps7
  go_wp2_with fail
  refine (small_yes ⟨ka, a, va⟩ hqa _).mono ?_
  rintro e w1 ⟨rfl, hb1⟩
  have M1 := Lib.hid (HMb.out.later hb1)
  clear hb1
  have a0 := M1.out.cell (b := w.heap.size) (cs := #[.int .i64 ka, .string a, .string va]) (t := 32) (by simp) 0
  have a1 := M1.out.cell (b := w.heap.size) (cs := #[.int .i64 ka, .string a, .string va]) (t := 32) (by simp) 1
  have b0 := M1.out.cell (b := w.heap.size + 1) (cs := #[.int .i64 kb, .string b, .string vb]) (t := 32) (by simp) 0
  have b1 := M1.out.cell (b := w.heap.size + 1) (cs := #[.int .i64 kb, .string b, .string vb]) (t := 32) (by simp) 1
  have b2 := M1.out.cell (b := w.heap.size + 1) (cs := #[.int .i64 kb, .string b, .string vb]) (t := 32) (by simp) 2
  go_wp2_with fail
  refine (small_yes ⟨kb, b, vb⟩ hqb _).mono ?_
  rintro e w2 ⟨rfl, hb2⟩
  have M2 := Lib.hid (M1.out.later hb2)
  clear hb2 a0 a1 b0 b1 b2
  have a0 := M2.out.cell (b := w.heap.size) (cs := #[.int .i64 ka, .string a, .string va]) (t := 32) (by simp) 0
  have a1 := M2.out.cell (b := w.heap.size) (cs := #[.int .i64 ka, .string a, .string va]) (t := 32) (by simp) 1
  have b0 := M2.out.cell (b := w.heap.size + 1) (cs := #[.int .i64 kb, .string b, .string vb]) (t := 32) (by simp) 0
  have b1 := M2.out.cell (b := w.heap.size + 1) (cs := #[.int .i64 kb, .string b, .string vb]) (t := 32) (by simp) 1
  go_wp2_with fail
  refine (new_any _).mono ?_
  rintro e w0 ⟨rfl, hw0⟩
  obtain ⟨hb0, hM0⟩ := mw_start M2.out.below M2.out.tab hw0
  have M0 : Hid (OneM w w0 (w2.heap.size + 1) w2.heap.size 0 [⟨w.heap.size + 1, #[.int .i64 kb, .string b, .string vb], 32⟩, ⟨w.heap.size, #[.int .i64 ka, .string a, .string va], 32⟩] (.map []) []) :=
    ⟨(M2.out.later hb0).model (m := ⟨_, _, _, _⟩) hM0 M2.out.below.size (by simp), lens_empty, rep_empty⟩
  clear hw0 hM0 hb0 a0 a1 b0 b1
  obtain ⟨bk, hbk⟩ : ∃ bk, bk = w2.heap.size := ⟨_, rfl⟩
  rw [← hbk] at M0 ⊢
  clear hbk M1 M2 HMb
  go_wp2_with fail
  go_loopw [8] (fun v6 wr => ∃ (i : Nat) (D : DataW Unit) (L : List Ent), i ≤ qs.length ∧ v6 = .int .i64 i ∧ OneM w wr (bk + 1) bk i [⟨w.heap.size + 1, #[.int .i64 kb, .string b, .string vb], 32⟩, ⟨w.heap.size, #[.int .i64 ka, .string a, .string va], 32⟩] D L) (fun v6 _ => qs.length - (intOf v6).toNat)
  case atStart => exact ⟨0, _, _, Nat.zero_le _, rfl, M0.out⟩
  case round =>
    clear M0
    obtain ⟨i, D, L, hi, rfl, hM⟩ := hrel
    have HM := Lib.hid hM
    clear hM
    by_cases hlt : i < qs.length
    · have hlt' : (i : Int) < (qs.length : Int) := by omega
      obtain ⟨_, A', c', hA, hrq⟩ := HV.out
      obtain ⟨rfl, _⟩ : A' = A ∧ c' = c := by injection hA with h1 _ h3; exact ⟨h1.symm, h3.symm⟩
      obtain ⟨bq, o, rfl, hblt, hcs⟩ := hrq (by omega)
      obtain ⟨q0, q1, q2⟩ := hcs i hlt
      clear hcs hrq hA
      obtain ⟨q, hq⟩ : ∃ q, qs[i] = q := ⟨_, rfl⟩
      rw [hq] at q0 q1 q2
      obtain ⟨kind', k', v'⟩ := q
      simp only at q0 q1 q2
      clear hq
      have Q0 := Lib.hid q0
      have Q1 := Lib.hid q1
      have Q2 := Lib.hid q2
      clear q0 q1 q2
      have q0 := (HM.out.mw.below.cell (p := ⟨bq, o + i * 3, none⟩) hblt).trans Q0.out
      have q1 := (HM.out.mw.below.cell (p := ⟨bq, o + i * 3 + 1, none⟩) hblt).trans Q1.out
      have q2 := (HM.out.mw.below.cell (p := ⟨bq, o + i * 3 + 2, none⟩) hblt).trans Q2.out
      by_cases hsm : smallQ ⟨kind', k', v'⟩
      · go_wp2_with fail
        refine (small_yes ⟨kind', k', v'⟩ hsm _).mono ?_
        rintro e w1 ⟨rfl, hb1⟩
        have M2 := Lib.hid (HM.out.mw.later hb1)
        have g0 := (M2.out.below.cell (p := ⟨bq, o + i * 3, none⟩) hblt).trans Q0.out
        have g1 := (M2.out.below.cell (p := ⟨bq, o + i * 3 + 1, none⟩) hblt).trans Q1.out
        have g2 := (M2.out.below.cell (p := ⟨bq, o + i * 3 + 2, none⟩) hblt).trans Q2.out
        clear q0 q1 q2 hb1
        go_wp2_with fail
        obtain ⟨L', hL'⟩ := rep_do F HM.out.rep kind' k' v'
        obtain ⟨aa, ha⟩ : ∃ aa, doA F D kind' k' v' = aa := ⟨_, rfl⟩
        have d2 := do_mw hF M2.out HM.out.lens (by omega) (by show i ≤ _; omega) kind' k' v' hsm.1 hsm.2
        simp only [ha] at d2 hL'
        clear ha
        refine d2.mono ?_
        rintro e w2 ⟨ao, cp, rfl, m3, l3⟩
        have M3 : Hid (OneM w w2 (bk + 1) bk (i + 1) [⟨w.heap.size + 1, #[.int .i64 kb, .string b, .string vb], 32⟩, ⟨w.heap.size, #[.int .i64 ka, .string a, .string va], 32⟩] aa.D L') := ⟨m3.dropTxt, l3, hL'⟩
        clear m3 l3 hL' d2 g0 g1 g2
        go_wp2_with fail
        go_roundw
        case rel => exact ⟨i + 1, _, _, by omega, by go_num, M3.out⟩
        case measure => simp [intOf]; omega
      · go_wp2_with fail
        refine (small_no ⟨kind', k', v'⟩ hsm _).mono ?_
        rintro e w1 ⟨rfl, hb1⟩
        have M2 := HM.out.mw.later hb1
        go_wp2_with fail
        refine (live_mw hF M2).mono ?_
        rintro e w2 ⟨rfl, hb2⟩
        go_wp2
        go_ret
        exact ⟨rfl, hb2⟩
    · have hN : i ≤ 100000 := by omega
      have l0 := HM.out.lens
      have hO := order_any F HM.out.rep (k1 := ka) (k2 := kb) (a := a) (u := va) (b := b) (v := vb) (by simpa using h4a) (by simpa using h4b) (by rw [← Lib.toList_data, ← Lib.toList_data]; simpa using hab)
      obtain ⟨A1, hA1⟩ : ∃ A1, doA F D ka a va = A1 := ⟨_, rfl⟩
      obtain ⟨A3, hA3⟩ : ∃ A3, doA F D kb b vb = A3 := ⟨_, rfl⟩
      simp only [hA1, hA3] at hO
      obtain ⟨A2, hA2⟩ : ∃ A2, doA F A1.D kb b vb = A2 := ⟨_, rfl⟩
      obtain ⟨A4, hA4⟩ : ∃ A4, doA F A3.D ka a va = A4 := ⟨_, rfl⟩
      simp only [hA2, hA4] at hO
      have k1 : A1.ks.length ≤ 1000000 := by have := doA_ks F D ka a va; rw [hA1] at this; omega
      have k2 : A2.ks.length ≤ 1000000 := by have := doA_ks F A1.D kb b vb; rw [hA2] at this; omega
      have HA1 := Lib.hid hA1
      have HA2 := Lib.hid hA2
      have HA3 := Lib.hid hA3
      have HA4 := Lib.hid hA4
      have HO := Lib.hid hO
      clear hA1 hA2 hA3 hA4 hO
      go_wp2_with fail
      refine (copy_mw HM.out.mw).mono ?_
      rintro e w1 ⟨pc, bc, rfl, m1⟩
      have M1 := Lib.hid m1.rot
      clear m1
      have a0 := M1.out.cell (b := w.heap.size) (cs := #[.int .i64 ka, .string a, .string va]) (t := 32) (by simp) 0
      have a1 := M1.out.cell (b := w.heap.size) (cs := #[.int .i64 ka, .string a, .string va]) (t := 32) (by simp) 1
      have a2 := M1.out.cell (b := w.heap.size) (cs := #[.int .i64 ka, .string a, .string va]) (t := 32) (by simp) 2
      have b0 := M1.out.cell (b := w.heap.size + 1) (cs := #[.int .i64 kb, .string b, .string vb]) (t := 32) (by simp) 0
      have b1 := M1.out.cell (b := w.heap.size + 1) (cs := #[.int .i64 kb, .string b, .string vb]) (t := 32) (by simp) 1
      have b2 := M1.out.cell (b := w.heap.size + 1) (cs := #[.int .i64 kb, .string b, .string vb]) (t := 32) (by simp) 2
      go_wp2_with fail
      have d := do_mw hF M1.out l0 (by omega) (by first | (show i ≤ 100000; omega) | (show i + 1 ≤ 100000; omega)) ka a va hak hav
      simp only [HA1.out] at d
      refine d.mono ?_
      rintro e w2 ⟨ao2, cp2, rfl, m2, l2⟩
      have M2 := Lib.hid ((m2.box #[.int .i64 A1.c, .string A1.v, .slice ao2 A1.ks.length cp2] 37))
      clear m2 d M1 a0 a1 a2 b0 b1 b2
      have a0 := M2.out.cell (b := w.heap.size) (cs := #[.int .i64 ka, .string a, .string va]) (t := 32) (by simp) 0
      have a1 := M2.out.cell (b := w.heap.size) (cs := #[.int .i64 ka, .string a, .string va]) (t := 32) (by simp) 1
      have a2 := M2.out.cell (b := w.heap.size) (cs := #[.int .i64 ka, .string a, .string va]) (t := 32) (by simp) 2
      have b0 := M2.out.cell (b := w.heap.size + 1) (cs := #[.int .i64 kb, .string b, .string vb]) (t := 32) (by simp) 0
      have b1 := M2.out.cell (b := w.heap.size + 1) (cs := #[.int .i64 kb, .string b, .string vb]) (t := 32) (by simp) 1
      have b2 := M2.out.cell (b := w.heap.size + 1) (cs := #[.int .i64 kb, .string b, .string vb]) (t := 32) (by simp) 2
      obtain ⟨n2, hn2⟩ : ∃ n2, n2 = w2.heap.size := ⟨_, rfl⟩
      go_wp2_with fail
      have d := do_mw hF M2.out l2 (by omega) (by first | (show i ≤ 100000; omega) | (show i + 1 ≤ 100000; omega)) kb b vb hbk hbv
      simp only [HA2.out] at d
      refine d.mono ?_
      rintro e w3 ⟨ao3, cp3, rfl, m3, l3⟩
      have M3 := Lib.hid (((m3.box #[.int .i64 A2.c, .string A2.v, .slice ao3 A2.ks.length cp3] 37)).rot)
      clear m3 d M2 a0 a1 a2 b0 b1 b2
      have a0 := M3.out.cell (b := w.heap.size) (cs := #[.int .i64 ka, .string a, .string va]) (t := 32) (by simp) 0
      have a1 := M3.out.cell (b := w.heap.size) (cs := #[.int .i64 ka, .string a, .string va]) (t := 32) (by simp) 1
      have a2 := M3.out.cell (b := w.heap.size) (cs := #[.int .i64 ka, .string a, .string va]) (t := 32) (by simp) 2
      have b0 := M3.out.cell (b := w.heap.size + 1) (cs := #[.int .i64 kb, .string b, .string vb]) (t := 32) (by simp) 0
      have b1 := M3.out.cell (b := w.heap.size + 1) (cs := #[.int .i64 kb, .string b, .string vb]) (t := 32) (by simp) 1
      have b2 := M3.out.cell (b := w.heap.size + 1) (cs := #[.int .i64 kb, .string b, .string vb]) (t := 32) (by simp) 2
      go_wp2_with fail
      have d := do_mw hF M3.out l0 (by omega) (by first | (show i ≤ 100000; omega) | (show i + 1 ≤ 100000; omega)) kb b vb hbk hbv
      simp only [HA3.out] at d
      refine d.mono ?_
      rintro e w4 ⟨ao4, cp4, rfl, m4, l4⟩
      have M4 := Lib.hid ((m4.box #[.int .i64 A3.c, .string A3.v, .slice ao4 A3.ks.length cp4] 37))
      clear m4 d M3 a0 a1 a2 b0 b1 b2
      have a0 := M4.out.cell (b := w.heap.size) (cs := #[.int .i64 ka, .string a, .string va]) (t := 32) (by simp) 0
      have a1 := M4.out.cell (b := w.heap.size) (cs := #[.int .i64 ka, .string a, .string va]) (t := 32) (by simp) 1
      have a2 := M4.out.cell (b := w.heap.size) (cs := #[.int .i64 ka, .string a, .string va]) (t := 32) (by simp) 2
      have b0 := M4.out.cell (b := w.heap.size + 1) (cs := #[.int .i64 kb, .string b, .string vb]) (t := 32) (by simp) 0
      have b1 := M4.out.cell (b := w.heap.size + 1) (cs := #[.int .i64 kb, .string b, .string vb]) (t := 32) (by simp) 1
      have b2 := M4.out.cell (b := w.heap.size + 1) (cs := #[.int .i64 kb, .string b, .string vb]) (t := 32) (by simp) 2
      go_wp2_with fail
      have d := do_mw hF M4.out l4 (by omega) (by first | (show i ≤ 100000; omega) | (show i + 1 ≤ 100000; omega)) ka a va hak hav
      simp only [HA4.out] at d
      refine d.mono ?_
      rintro e w5 ⟨ao5, cp5, rfl, m5, l5⟩
      have M5 := Lib.hid (((m5.box #[.int .i64 A4.c, .string A4.v, .slice ao5 A4.ks.length cp5] 37)).rot)
      clear m5 d M4 a0 a1 a2 b0 b1 b2
      have x0 := M5.out.cell (b := w2.heap.size) (cs := #[.int .i64 A1.c, .string A1.v, .slice ao2 A1.ks.length cp2]) (t := 37) (by simp) 0
      have x1 := M5.out.cell (b := w2.heap.size) (cs := #[.int .i64 A1.c, .string A1.v, .slice ao2 A1.ks.length cp2]) (t := 37) (by simp) 1
      have x2 := M5.out.cell (b := w2.heap.size) (cs := #[.int .i64 A1.c, .string A1.v, .slice ao2 A1.ks.length cp2]) (t := 37) (by simp) 2
      have y0 := M5.out.cell (b := w3.heap.size) (cs := #[.int .i64 A2.c, .string A2.v, .slice ao3 A2.ks.length cp3]) (t := 37) (by simp) 0
      have y1 := M5.out.cell (b := w3.heap.size) (cs := #[.int .i64 A2.c, .string A2.v, .slice ao3 A2.ks.length cp3]) (t := 37) (by simp) 1
      have y2 := M5.out.cell (b := w3.heap.size) (cs := #[.int .i64 A2.c, .string A2.v, .slice ao3 A2.ks.length cp3]) (t := 37) (by simp) 2
      have z0 := M5.out.cell (b := w4.heap.size) (cs := #[.int .i64 A3.c, .string A3.v, .slice ao4 A3.ks.length cp4]) (t := 37) (by simp) 0
      have z1 := M5.out.cell (b := w4.heap.size) (cs := #[.int .i64 A3.c, .string A3.v, .slice ao4 A3.ks.length cp4]) (t := 37) (by simp) 1
      have z2 := M5.out.cell (b := w4.heap.size) (cs := #[.int .i64 A3.c, .string A3.v, .slice ao4 A3.ks.length cp4]) (t := 37) (by simp) 2
      have u0 := M5.out.cell (b := w5.heap.size) (cs := #[.int .i64 A4.c, .string A4.v, .slice ao5 A4.ks.length cp5]) (t := 37) (by simp) 0
      have u1 := M5.out.cell (b := w5.heap.size) (cs := #[.int .i64 A4.c, .string A4.v, .slice ao5 A4.ks.length cp5]) (t := 37) (by simp) 1
      have u2 := M5.out.cell (b := w5.heap.size) (cs := #[.int .i64 A4.c, .string A4.v, .slice ao5 A4.ks.length cp5]) (t := 37) (by simp) 2
      go_wp2_with fail
      obtain ⟨e1, e2, e3, e4, e5, e6, e7⟩ := HO.out
      have sx := M5.out.txt ⟨.slice ao2 A1.ks.length cp2, A1.ks⟩ (by simp)
      have su := M5.out.txt ⟨.slice ao5 A4.ks.length cp5, A4.ks⟩ (by simp)
      have c6 := same16_any _ A1.c A4.c A1.v A4.v _ _ A1.ks A4.ks sx su k1
      have hs1 : sameB A1.c A4.c A1.v A4.v A1.ks A4.ks = true := by simp [sameB, e4, e5, e6]
      have hs2 : sameB A2.c A3.c A2.v A3.v A2.ks A3.ks = true := by simp [sameB, e1, e2, e3]
      have HS2 := Lib.hid hs2
      have E7 := Lib.hid e7
      simp only [hs1] at c6
      clear hs1 hs2 e1 e2 e3 e4 e5 e6 e7
      refine c6.mono ?_
      rintro e w6 ⟨rfl, hb6⟩
      have M6 := Lib.hid (M5.out.later hb6)
      clear c6 sx su hb6 M5 x0 x1 x2 y0 y1 y2 z0 z1 z2 u0 u1 u2
      have y0 := M6.out.cell (b := w3.heap.size) (cs := #[.int .i64 A2.c, .string A2.v, .slice ao3 A2.ks.length cp3]) (t := 37) (by simp) 0
      have y1 := M6.out.cell (b := w3.heap.size) (cs := #[.int .i64 A2.c, .string A2.v, .slice ao3 A2.ks.length cp3]) (t := 37) (by simp) 1
      have y2 := M6.out.cell (b := w3.heap.size) (cs := #[.int .i64 A2.c, .string A2.v, .slice ao3 A2.ks.length cp3]) (t := 37) (by simp) 2
      have z0 := M6.out.cell (b := w4.heap.size) (cs := #[.int .i64 A3.c, .string A3.v, .slice ao4 A3.ks.length cp4]) (t := 37) (by simp) 0
      have z1 := M6.out.cell (b := w4.heap.size) (cs := #[.int .i64 A3.c, .string A3.v, .slice ao4 A3.ks.length cp4]) (t := 37) (by simp) 1
      have z2 := M6.out.cell (b := w4.heap.size) (cs := #[.int .i64 A3.c, .string A3.v, .slice ao4 A3.ks.length cp4]) (t := 37) (by simp) 2
      go_wp2_with fail
      have sy := M6.out.txt ⟨.slice ao3 A2.ks.length cp3, A2.ks⟩ (by simp)
      have sz := M6.out.txt ⟨.slice ao4 A3.ks.length cp4, A3.ks⟩ (by simp)
      have c7 := same16_any _ A2.c A3.c A2.v A3.v _ _ A2.ks A3.ks sy sz k2
      simp only [HS2.out] at c7
      refine c7.mono ?_
      rintro e w7 ⟨rfl, hb7⟩
      have M7 := Lib.hid (M6.out.later hb7)
      clear c7 sy sz hb7 M6 y0 y1 y2 z0 z1 z2
      go_wp2_with fail
      have t7 := state_mw M7.out l3 (by omega)
      refine t7.mono ?_
      rintro e w8 ⟨rfl, m8⟩
      have M8 := Lib.hid m8.rot
      clear m8 M7 t7
      go_wp2_with fail
      have t8 := state_mw M8.out l5 (by omega)
      simp only [← E7.out] at t8
      refine t8.mono ?_
      rintro e w9 ⟨rfl, m9⟩
      have M9 := Lib.hid m9
      clear m9 M8 t8
      go_wp2_with fail
      refine (live_mw hF M9.out).mono ?_
      rintro e w10 ⟨rfl, hb10⟩
      go_wp2
      go_ret
      exact ⟨rfl, hb10⟩
theorem mb_start {w : World} (ka kb : Int) (a va b vb : ByteArray) (htab : Tab w) :
    Hid (MW w ((w.alloc (.cells #[.int .i64 ka, .string a, .string va] 32)).alloc (.cells #[.int .i64 kb, .string b, .string vb] 32)) [] [⟨w.heap.size + 1, #[.int .i64 kb, .string b, .string vb], 32⟩, ⟨w.heap.size, #[.int .i64 ka, .string a, .string va], 32⟩] []) := by
  have Mb := ((MW.start (Below.refl _ w) htab).box #[.int .i64 ka, .string a, .string va] 32).box #[.int .i64 kb, .string b, .string vb] 32
  have e1 : (w.alloc (.cells #[.int .i64 ka, .string a, .string va] 32)).heap.size = w.heap.size + 1 := by simp
  rw [e1] at Mb
  exact Mb

set_option maxRecDepth 100000 in
set_option maxHeartbeats 8000000 in
theorem order_out {F : ByteArray → ByteArray} (hF : SumOk F) (w : World) (htab : Tab w) (v0 : Value) (qs : List Req) (hv : ReqsAt w v0 qs) (ka kb : Int) (a va b vb : ByteArray)
    (h20 : qs.length ≤ 20) (hqa : smallQ ⟨ka, a, va⟩) (hqb : smallQ ⟨kb, b, vb⟩) (hor : (a.toList == b.toList) = true ∨ ((a.toList == b.toList) = false ∧ (ka == 4) = true) ∨ ((a.toList == b.toList) = false ∧ (ka == 4) = false ∧ (kb == 4) = true)) :
    Calls Tryd.prog 7 #[v0, .agg #[.int .i64 ka, .string a, .string va], .agg #[.int .i64 kb, .string b, .string vb]] w (RetBelow (.bool true) w) := by
  obtain ⟨hmax, A, c, rfl, _⟩ := hv
  unfold maxLen at hmax
  have h20' : ¬ (20 : Int) < (qs.length : Int) := by omega
  have HMb := mb_start ka kb a va b vb htab
  have HOR := Lib.hid hor
  clear hor
  go_enter Tryd.func7, Tryd.ntmps7
  go_wp2_with fail
  refine (small_yes ⟨ka, a, va⟩ hqa _).mono ?_
  rintro e w1 ⟨rfl, hb1⟩
  have M1 := Lib.hid (HMb.out.later hb1)
  clear hb1
  have b0 := M1.out.cell (b := w.heap.size + 1) (cs := #[.int .i64 kb, .string b, .string vb]) (t := 32) (by simp) 0
  have b1 := M1.out.cell (b := w.heap.size + 1) (cs := #[.int .i64 kb, .string b, .string vb]) (t := 32) (by simp) 1
  have b2 := M1.out.cell (b := w.heap.size + 1) (cs := #[.int .i64 kb, .string b, .string vb]) (t := 32) (by simp) 2
  go_wp2_with fail
  refine (small_yes ⟨kb, b, vb⟩ hqb _).mono ?_
  rintro e w2 ⟨rfl, hb2⟩
  have M2 := Lib.hid (M1.out.later hb2)
  clear hb2 b0 b1 b2
  have a0 := M2.out.cell (b := w.heap.size) (cs := #[.int .i64 ka, .string a, .string va]) (t := 32) (by simp) 0
  have a1 := M2.out.cell (b := w.heap.size) (cs := #[.int .i64 ka, .string a, .string va]) (t := 32) (by simp) 1
  have b0 := M2.out.cell (b := w.heap.size + 1) (cs := #[.int .i64 kb, .string b, .string vb]) (t := 32) (by simp) 0
  have b1 := M2.out.cell (b := w.heap.size + 1) (cs := #[.int .i64 kb, .string b, .string vb]) (t := 32) (by simp) 1
  rcases HOR.out with hab | ⟨hab, h4a⟩ | ⟨hab, h4a, h4b⟩
  all_goals
    go_wp2_with fail
    refine (live_mw hF M2.out).mono ?_
    rintro e w9 ⟨rfl, hb9⟩
    go_wp2
    go_ret
    exact ⟨rfl, hb9⟩

set_option maxRecDepth 100000 in
set_option maxHeartbeats 8000000 in
theorem order_law {F : ByteArray → ByteArray} (hF : SumOk F) (w : World) (htab : Tab w) (v0 : Value) (qs : List Req) (hv : ReqsAt w v0 qs) (p q : Req) :
    Calls Tryd.prog 7 #[v0, .agg #[.int .i64 p.kind, .string p.key, .string p.val], .agg #[.int .i64 q.kind, .string q.key, .string q.val]] w (RetBelow (.bool true) w) := by
  obtain ⟨ka, a, va⟩ := p
  obtain ⟨kb, b, vb⟩ := q
  simp only
  by_cases h20 : qs.length ≤ 20
  · by_cases hqa : smallQ ⟨ka, a, va⟩
    · by_cases hqb : smallQ ⟨kb, b, vb⟩
      · cases hab : (a.toList == b.toList) with
        | false =>
          cases h4a : (ka == 4) with
          | false =>
            cases h4b : (kb == 4) with
            | false => exact order_mw hF w htab v0 qs hv ka kb a va b vb h20 hqa hqb hab h4a h4b
            | true => exact order_out hF w htab v0 qs hv ka kb a va b vb h20 hqa hqb (.inr (.inr ⟨hab, h4a, h4b⟩))
          | true => exact order_out hF w htab v0 qs hv ka kb a va b vb h20 hqa hqb (.inr (.inl ⟨hab, h4a⟩))
        | true => exact order_out hF w htab v0 qs hv ka kb a va b vb h20 hqa hqb (.inl hab)
      · obtain ⟨hmax, A, c, rfl, _⟩ := hv
        unfold maxLen at hmax
        have h20' : ¬ (20 : Int) < (qs.length : Int) := by omega
        have HMb := mb_start ka kb a va b vb htab
        go_enter Tryd.func7, Tryd.ntmps7
        go_wp2_with fail
        refine (small_yes ⟨ka, a, va⟩ hqa _).mono ?_
        rintro e w1 ⟨rfl, hb1⟩
        have M1 := Lib.hid (HMb.out.later hb1)
        clear hb1
        have b0 := M1.out.cell (b := w.heap.size + 1) (cs := #[.int .i64 kb, .string b, .string vb]) (t := 32) (by simp) 0
        have b1 := M1.out.cell (b := w.heap.size + 1) (cs := #[.int .i64 kb, .string b, .string vb]) (t := 32) (by simp) 1
        have b2 := M1.out.cell (b := w.heap.size + 1) (cs := #[.int .i64 kb, .string b, .string vb]) (t := 32) (by simp) 2
        go_wp2_with fail
        refine (small_no ⟨kb, b, vb⟩ hqb _).mono ?_
        rintro e w2 ⟨rfl, hb2⟩
        have M2 := M1.out.later hb2
        go_wp2_with fail
        refine (live_mw hF M2).mono ?_
        rintro e w9 ⟨rfl, hb9⟩
        go_wp2
        go_ret
        exact ⟨rfl, hb9⟩
    · obtain ⟨hmax, A, c, rfl, _⟩ := hv
      unfold maxLen at hmax
      have h20' : ¬ (20 : Int) < (qs.length : Int) := by omega
      have HMb := mb_start ka kb a va b vb htab
      go_enter Tryd.func7, Tryd.ntmps7
      go_wp2_with fail
      refine (small_no ⟨ka, a, va⟩ hqa _).mono ?_
      rintro e w1 ⟨rfl, hb1⟩
      have M1 := HMb.out.later hb1
      go_wp2_with fail
      refine (live_mw hF M1).mono ?_
      rintro e w9 ⟨rfl, hb9⟩
      go_wp2
      go_ret
      exact ⟨rfl, hb9⟩
  · obtain ⟨hmax, A, c, rfl, _⟩ := hv
    unfold maxLen at hmax
    have h20' : (20 : Int) < (qs.length : Int) := by omega
    have HMb := mb_start ka kb a va b vb htab
    go_enter Tryd.func7, Tryd.ntmps7
    go_wp2_with fail
    refine (live_mw hF HMb.out).mono ?_
    rintro e w9 ⟨rfl, hb9⟩
    go_wp2
    go_ret
    exact ⟨rfl, hb9⟩

end Go.Proofs.YtlanhogdeiiecaaDoor
