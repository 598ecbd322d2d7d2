/-
  ModelSilent at this program: the walk.
-/
import Derived.Test.YtlanhogdeiiecaaDoorKeeps
set_option linter.unusedVariables false
set_option linter.unusedSimpArgs false
namespace Go.Proofs.YtlanhogdeiiecaaDoor
open Go.RowKit Go.Shelf Go.Lib Go.Maps Go.Sort

/-- Which errors are silent. -/
def silB (e : Int) : Bool := decide (e = 2 ∨ e = 7 ∨ e = 8 ∨ e = 10)

set_option maxRecDepth 100000 in
set_option maxHeartbeats 1000000 in
theorem silent_any (e : Int) (w : World) : Calls Tryd.prog 17 #[.int .i64 e] w fun en w' => en = .returned (.bool (silB e)) ∧ w' = w := by
  go_enter Tryd.func17, Tryd.ntmps17
  go_wp2
  all_goals go_ret
  all_goals refine ⟨?_, rfl⟩
  all_goals (unfold silB; simp_all)
set_option maxRecDepth 100000 in
set_option maxHeartbeats 1000000 in
theorem silent16_any (e : Int) (w : World) : Calls Tryd.prog 18 #[.int .i64 e] w fun en w' => en = .returned (.bool (silB e)) ∧ w' = w := by
  go_enter Tryd.func18, Tryd.ntmps18
  go_wp2
  all_goals go_ret
  all_goals refine ⟨?_, rfl⟩
  all_goals (unfold silB; by_cases e2 : e = 2 <;> by_cases e7 : e = 7 <;> by_cases e8 : e = 8 <;> by_cases e10 : e = 10 <;> simp_all)

theorem field_code (c : Int) (v : ByteArray) (kv : Value) (w : World) : (Instr.field 37 (.agg #[.int .i64 c, .string v, kv]) 0).run Tryd.prog w = .ok (.int .i64 c) w := by kernel_rfl
theorem reqErr_cases (kind : Int) (k v : ByteArray) : reqErr kind k v = 0 ∨ reqErr kind k v = 1 ∨ reqErr kind k v = 11 ∨ reqErr kind k v = 12 := by
  unfold reqErr needleErr lenErr
  repeat' split
  all_goals simp
theorem doA_loud (F : ByteArray → ByteArray) (D : DataW Unit) (kind : Int) (k v : ByteArray) : silB (doA F D kind k v).c = false := by
  have h := reqErr_cases kind k v
  unfold doA
  repeat' split
  all_goals (unfold silB; simp)
  omega

set_option maxRecDepth 100000 in
set_option maxHeartbeats 8000000 in
theorem msilent_any {F : ByteArray → ByteArray} (hF : SumOk F) (w : World) (htab : Tab w) (er : Int) (v0 : Value) (qs : List Req) (hv : ReqsAt w v0 qs) :
    Calls Tryd.prog 6 #[.int .i64 er, v0] w (RetBelow (.bool true) w) := by
  have HV := Lib.hid hv
  obtain ⟨hmax, A, c, rfl, _⟩ := hv
  unfold maxLen at hmax
  by_cases h30 : qs.length ≤ 30
  · have h30' : ¬ (30 : Int) < (qs.length : Int) := by omega
    obtain ⟨sb, hsb⟩ : ∃ sb, silB er = sb := ⟨_, rfl⟩
    have hc1 := fun W => silent_any er W
    have hc2 := fun W => silent16_any er W
    rw [hsb] at hc1 hc2
    have HC1 := Lib.hid hc1
    have HC2 := Lib.hid hc2
    clear hc1 hc2 hsb
    go_enter Tryd.func6, Tryd.ntmps6
    go_wp2_with fail
    refine (HC1.out _).mono ?_
    rintro e w1 ⟨rfl, rfl⟩
    go_wp2_with fail
    refine (HC2.out _).mono ?_
    rintro e w1 ⟨rfl, rfl⟩
    have hsn : (sb != sb) = false := by simp
    go_wp2_with fail
    clear hsn
    refine (new_any _).mono ?_
    rintro e w0 ⟨rfl, hw0⟩
    obtain ⟨hb0, hM0⟩ := mw_start (Below.refl _ _) htab hw0
    have M0 : Hid (MW w1 w0 [⟨w1.heap.size + 1, w1.heap.size, 0, .map []⟩] [] []) := ((MW.start (Below.refl _ _) htab).later hb0).model (m := ⟨_, _, _, _⟩) hM0 (Nat.le_refl _) (by simp)
    clear hw0 hM0 hb0
    obtain ⟨bk, hbk⟩ : ∃ bk, bk = w1.heap.size := ⟨_, rfl⟩
    rw [← hbk] at M0 ⊢
    clear hbk
    go_wp2_with fail
    go_loopw [6] (fun v6 wr => ∃ (i : Nat) (D : DataW Unit), i ≤ qs.length ∧ v6 = .int .i64 i ∧ MW w1 wr [⟨bk + 1, bk, i, D⟩] [] [] ∧ Lens D i) (fun v6 _ => qs.length - (intOf v6).toNat)
    case atStart => exact ⟨0, _, Nat.zero_le _, rfl, M0.out, lens_empty⟩
    case round =>
      clear M0
      obtain ⟨i, D, hi, rfl, hM, hL⟩ := hrel
      have HM := Lib.hid hM
      have HL := Lib.hid hL
      clear hM hL
      by_cases hlt : i < qs.length
      · have hlt' : (i : Int) < (qs.length : Int) := by omega
        obtain ⟨_, A', c', hA, hrq⟩ := HV.out
        obtain ⟨rfl, _⟩ : A' = A ∧ c' = c := by injection hA with h1 _ h3; exact ⟨h1.symm, h3.symm⟩
        obtain ⟨b, o, rfl, hblt, hcs⟩ := hrq (by omega)
        obtain ⟨q0, q1, q2⟩ := hcs i hlt
        clear hcs hrq hA
        obtain ⟨q, hq⟩ : ∃ q, qs[i] = q := ⟨_, rfl⟩
        rw [hq] at q0 q1 q2
        obtain ⟨kind', k', v'⟩ := q
        simp only at q0 q1 q2
        clear hq
        have Q0 := Lib.hid q0
        have Q1 := Lib.hid q1
        have Q2 := Lib.hid q2
        clear q0 q1 q2
        have q0 := (HM.out.below.cell (p := ⟨b, o + i * 3, none⟩) hblt).trans Q0.out
        have q1 := (HM.out.below.cell (p := ⟨b, o + i * 3 + 1, none⟩) hblt).trans Q1.out
        have q2 := (HM.out.below.cell (p := ⟨b, o + i * 3 + 2, none⟩) hblt).trans Q2.out
        by_cases hsm : smallQ ⟨kind', k', v'⟩
        · go_wp2_with fail
          refine (small_yes ⟨kind', k', v'⟩ hsm _).mono ?_
          rintro e w2 ⟨rfl, hb1⟩
          have M2 := Lib.hid (HM.out.later hb1)
          have g0 := (M2.out.below.cell (p := ⟨b, o + i * 3, none⟩) hblt).trans Q0.out
          have g1 := (M2.out.below.cell (p := ⟨b, o + i * 3 + 1, none⟩) hblt).trans Q1.out
          have g2 := (M2.out.below.cell (p := ⟨b, o + i * 3 + 2, none⟩) hblt).trans Q2.out
          clear q0 q1 q2 hb1
          go_wp2_with fail
          obtain ⟨a, ha⟩ : ∃ a, doA F D kind' k' v' = a := ⟨_, rfl⟩
          have d2 := do_mw hF M2.out HL.out (by omega) (by show i ≤ _; omega) kind' k' v' hsm.1 hsm.2
          have hloud := doA_loud F D kind' k' v'
          simp only [ha] at d2 hloud
          clear ha
          have hs := fun W => silent_any a.c W
          simp only [hloud] at hs
          have HS := Lib.hid hs
          clear hs hloud
          refine d2.mono ?_
          rintro e w3 ⟨ao, cp, rfl, m3, l3⟩
          have M3 := Lib.hid m3.bare
          have L3 := Lib.hid l3
          clear m3 l3 d2 g0 g1 g2
          have hfd := field_code
          go_wp2_with fail
          clear hfd
          refine (HS.out _).mono ?_
          rintro e w4 ⟨rfl, rfl⟩
          go_wp2_with fail
          go_roundw
          case rel => exact ⟨i + 1, _, by omega, by go_num, M3.out, L3.out⟩
          case measure => simp [intOf]; omega
        · go_wp2_with fail
          refine (small_no ⟨kind', k', v'⟩ hsm _).mono ?_
          rintro e w2 ⟨rfl, hb1⟩
          have M2 := HM.out.later hb1
          go_wp2_with fail
          refine (live_mw hF M2).mono ?_
          rintro e w3 ⟨rfl, hb2⟩
          go_wp2
          go_ret
          exact ⟨rfl, hb2⟩
      · go_wp2_with fail
        refine (do_nil ⟨4, ⟨#[]⟩, ⟨#[]⟩⟩ _).mono ?_
        rintro e w2 ⟨rfl, hb2⟩
        have M2 := Lib.hid (HM.out.later hb2)
        clear hb2
        have hfd := field_code
        go_wp2_with fail
        clear hfd
        refine (state_nil _).mono ?_
        rintro e w3 ⟨rfl, rfl⟩
        go_wp2_with fail
        refine (copy_nil _).mono ?_
        rintro e w3 ⟨rfl, rfl⟩
        go_wp2_with fail
        refine (live_mw hF M2.out).mono ?_
        rintro e w3 ⟨rfl, hb3⟩
        go_wp2
        go_ret
        exact ⟨rfl, hb3⟩
  · have h30' : (30 : Int) < (qs.length : Int) := by omega
    go_enter Tryd.func6, Tryd.ntmps6
    go_wp2_with fail
    refine (live_after hF (Below.refl _ w) htab).mono ?_
    rintro e w3 ⟨rfl, hb3⟩
    go_wp2
    go_ret
    exact ⟨rfl, hb3⟩
end Go.Proofs.YtlanhogdeiiecaaDoor
