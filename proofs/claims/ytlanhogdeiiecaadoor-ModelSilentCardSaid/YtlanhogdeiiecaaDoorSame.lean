/-
  sluicegateref02.Same and sluicegateref16.Same at this program: two lists of texts, two answers.
-/
import Derived.Test.YtlanhogdeiiecaaDoorLive
set_option linter.unusedVariables false
set_option linter.unusedSimpArgs false
namespace Go.Proofs.YtlanhogdeiiecaaDoor
open Go.RowKit Go.Shelf Go.Lib Go.Maps Go.Sort

/-- A slice value that reads as these texts. -/
def StrsAt (W : World) (v : Value) (ks : List (List UInt8)) : Prop := ∃ A cap, v = .slice A ks.length cap ∧
  (0 < ks.length → ∃ b o, A = some ⟨b, o, none⟩ ∧ b < W.heap.size ∧ ∀ j (h : j < ks.length), W.cell? ⟨b, o + j, none⟩ = some (encS ks[j]))
theorem strsAt_nil (W : World) (cap : Nat) (A : Option Addr) : StrsAt W (.slice A 0 cap) [] := ⟨A, cap, rfl, fun h => absurd h (by simp)⟩
theorem strsAt_of_own {W : World} {base : Nat} {v : Value} {ks : List (List UInt8)} (h : OwnsS W base v ks) : StrsAt W v ks := by
  by_cases hne : ks = []
  · subst hne
    rcases h.2 with ⟨hv, _⟩ | ⟨g, cap, cur, hv, _⟩
    · rw [hv]; exact strsAt_nil _ _ _
    · rw [hv]; exact strsAt_nil _ _ _
  · obtain ⟨g, cap, rfl, _, hk⟩ := ownsS_some h hne
    exact ⟨_, cap, rfl, fun _ => ⟨g, 0, rfl, hk.lt, fun j hj => by rw [Nat.zero_add]; exact hk.cell j hj⟩⟩
theorem StrsAt.below {W W' : World} {v : Value} {ks : List (List UInt8)} (h : StrsAt W v ks) (hb : Below W.heap.size W W') : StrsAt W' v ks := by
  obtain ⟨A, cap, rfl, hr⟩ := h
  refine ⟨A, cap, rfl, fun h0 => ?_⟩
  obtain ⟨b, o, rfl, hlt, hc⟩ := hr h0
  exact ⟨b, o, rfl, Nat.lt_of_lt_of_le hlt hb.size, fun j hj => (hb.cell (p := ⟨b, _, none⟩) hlt).trans (hc j hj)⟩
theorem StrsAt.grown {W W' : World} {v : Value} {ks : List (List UInt8)} (h : StrsAt W v ks) {bk n : Nat} {D : DataW Unit} (ho : OwnsK W bk n D) (hg : W.grownBy W' (some bk)) : StrsAt W' v ks := by
  obtain ⟨A, cap, rfl, hr⟩ := h
  refine ⟨A, cap, rfl, fun h0 => ?_⟩
  obtain ⟨b, o, rfl, hlt, hc⟩ := hr h0
  have hne : b ≠ bk := by
    rintro rfl
    obtain ⟨es, clock, hm, _⟩ := ho
    have := hc 0 h0
    unfold World.cell? at this
    simp [hm] at this
  refine ⟨b, o, rfl, Nat.lt_of_lt_of_le hlt hg.size, fun j hj => ?_⟩
  rw [← hc j hj]
  unfold World.cell?
  rw [hg.block b hlt (fun e => hne (Option.some.inj e))]

theorem encS_inj {a b : List UInt8} (h : (⟨a.toArray⟩ : ByteArray) = ⟨b.toArray⟩) : a = b := by
  have : a.toArray = b.toArray := congrArg ByteArray.data h
  simpa using congrArg Array.toList this
theorem toList_mk (a : List UInt8) : (⟨a.toArray⟩ : ByteArray).toList = a := by rw [Lib.toList_data]

theorem bl_drewN2 {B : Nat} {w0 w : World} (h : Below B w0 w) (n : Nat) : Below B w0 (w.drewN n) := ⟨h.os, h.tape, h.output, h.size, h.block⟩
def Quiet2 (v : Value) (w : World) (e : Ending) (w' : World) : Prop := e = .returned v ∧ ∃ n, w' = w.drewN n
theorem quiet_below {v : Value} {w : World} {e : Ending} {w' : World} (h : Quiet2 v w e w') : RetBelow v w e w' := by
  obtain ⟨he, n, rfl⟩ := h
  exact ⟨he, bl_drewN2 (Below.refl _ w) n⟩

set_option maxRecDepth 100000 in
set_option maxHeartbeats 2000000 in
theorem same02_any (W : World) (v0 v1 : Value) (k0 k1 : List (List UInt8)) (h0 : StrsAt W v0 k0) (h1 : StrsAt W v1 k1) (hl : k0.length ≤ 1000000) :
    Calls Tryd.prog 19 #[v0, v1] W (Quiet2 (.bool (decide (k0 = k1))) W) := by
  obtain ⟨A0, c0, rfl, r0⟩ := h0
  obtain ⟨A1, c1, rfl, r1⟩ := h1
  have R0 := Lib.hid r0
  have R1 := Lib.hid r1
  clear r0 r1
  by_cases hlen : k0.length = k1.length
  · have hlen' : ((k0.length : Int) != (k1.length : Int)) = false := by simp [hlen]
    have HL := Lib.hid hlen
    have hll : k1.length ≤ k0.length := by omega
    have hll2 : k0.length ≤ k1.length := by omega
    clear hlen
    go_enter Tryd.func19, Tryd.ntmps19
    go_wp2_with fail
    clear hlen'
    go_loopw [5] (fun v5 wr => ∃ i : Nat, i ≤ k0.length ∧ v5 = .int .i64 i ∧ (∃ q, wr = W.drewN q) ∧ Hid (k0.take i = k1.take i)) (fun v5 _ => k0.length - (intOf v5).toNat)
    case atStart => exact ⟨0, by omega, rfl, ⟨0, rfl⟩, rfl⟩
    case round =>
      obtain ⟨i, hi, rfl, ⟨q, rfl⟩, HT⟩ := hrel
      by_cases hlt : i < k0.length
      · obtain ⟨b0, o0, rfl, _, hc0⟩ := R0.out (by omega)
        obtain ⟨b1, o1, rfl, _, hc1⟩ := R1.out (by omega)
        have e0 := hc0 i hlt
        have e1 := hc1 i (by omega)
        clear hc0 hc1
        obtain ⟨x0, hx0⟩ : ∃ x, k0[i] = x := ⟨_, rfl⟩
        obtain ⟨x1, hx1⟩ : ∃ x, k1[i] = x := ⟨_, rfl⟩
        rw [hx0] at e0
        rw [hx1] at e1
        unfold encS at e0 e1
        have X0 := Lib.hid hx0
        have X1 := Lib.hid hx1
        clear hx0 hx1
        have j0 : (i : Int) < (k0.length : Int) := by omega
        have j1 : (i : Int) < (k1.length : Int) := by omega
        by_cases hxx : x0 = x1
        · subst hxx
          go_wp2_with fail
          go_quiet (fail)
          go_wp2_with fail
          go_roundw
          case rel =>
            refine ⟨i + 1, by omega, by go_num, ⟨_, rfl⟩, ?_⟩
            unfold Hid
            rw [List.take_succ_eq_append_getElem (by omega), List.take_succ_eq_append_getElem (by omega), X0.out, X1.out, HT.out]
          case measure => simp [intOf]; omega
        · have hne : (x0 == x1) = false := by simpa using hxx
          go_wp2_with fail
          go_quiet (fail)
          go_wp2_with fail
          go_ret
          refine ⟨?_, _, World.drewN_drewN _ _ _⟩
          have : ¬ k0 = k1 := by
            rintro rfl
            exact hxx (X0.out.symm.trans X1.out)
          simp [this]
      · have e : i = k0.length := by omega
        have HE := Lib.hid e
        clear e
        go_wp2_with fail
        go_ret
        refine ⟨?_, _, rfl⟩
        have : k0 = k1 := by
          have h := HT.out
          rw [HE.out, List.take_length, HL.out, List.take_length] at h
          exact h
        simp [this]
  · have hlen' : ((k0.length : Int) != (k1.length : Int)) = true := by simp; omega
    have HL := Lib.hid hlen
    clear hlen
    go_enter Tryd.func19, Tryd.ntmps19
    go_wp2_with fail
    go_ret
    refine ⟨?_, 0, rfl⟩
    have : ¬ k0 = k1 := fun e => HL.out (by rw [e])
    simp [this]

/-- Are two answers the same? -/
def sameB (c0 c1 : Int) (a0 a1 : ByteArray) (k0 k1 : List (List UInt8)) : Bool := decide (c0 = c1) && (decide (a0 = a1) && decide (k0 = k1))

set_option maxRecDepth 100000 in
set_option maxHeartbeats 2000000 in
theorem same16_any (W : World) (c0 c1 : Int) (a0 a1 : ByteArray) (v0 v1 : Value) (k0 k1 : List (List UInt8)) (h0 : StrsAt W v0 k0) (h1 : StrsAt W v1 k1) (hl : k0.length ≤ 1000000) :
    Calls Tryd.prog 11 #[.agg #[.int .i64 c0, .string a0, v0], .agg #[.int .i64 c1, .string a1, v1]] W (RetBelow (.bool (sameB c0 c1 a0 a1 k0 k1)) W) := by
  have H0 := Lib.hid h0
  have H1 := Lib.hid h1
  obtain ⟨A0, p0, rfl, _⟩ := h0
  obtain ⟨A1, p1, rfl, _⟩ := h1
  by_cases hc : c0 = c1
  · subst hc
    by_cases ha : a0 = a1
    · subst ha
      go_enter Tryd.func11, Tryd.ntmps11
      go_wp2_with fail
      generalize hW : World.alloc (World.alloc _ _) _ = W2
      have hb : Below W.heap.size W W2 := by rw [← hW]; exact bl_alloc (bl_alloc (Below.refl _ W) _) _
      clear hW
      refine (same02_any W2 _ _ k0 k1 (H0.out.below hb) (H1.out.below hb) hl).mono ?_
      rintro e w3 h3
      obtain ⟨rfl, hb3⟩ := quiet_below h3
      go_wp2
      go_ret
      exact ⟨by simp [sameB], bl_trans hb hb3⟩
    · have ha' : ¬ a0.toList = a1.toList := fun e => ha (by
        rw [Lib.toList_data, Lib.toList_data] at e
        cases a0; cases a1
        congr 1
        exact Array.toList_inj.1 e)
      have HA := Lib.hid ha
      clear ha
      go_enter Tryd.func11, Tryd.ntmps11
      go_wp2
      go_ret
      exact ⟨by simp [sameB, HA.out], bl_alloc (bl_alloc (Below.refl _ W) _) _⟩
  · have HC := Lib.hid hc
    have hc' : (c0 == c1) = false := by simpa using hc
    clear hc
    go_enter Tryd.func11, Tryd.ntmps11
    go_wp2
    go_ret
    exact ⟨by simp [sameB, HC.out], bl_alloc (bl_alloc (Below.refl _ W) _) _⟩
end Go.Proofs.YtlanhogdeiiecaaDoor
