/-
  needle.Check's closure, needle.Check and request.Check at this program.
-/
import Derived.Test.YtlanhogdeiiecaaDoorPack
import Derived.Lib.DecodeN
import Derived.Lib.Strings
import Derived.IntWalk
import Derived.Lib.Hide
import Derived.Deep.QuietTactic
import Derived.BigQuiet
import Derived.Deep.RegionHeld3
import Derived.Deep.RegionWith
import Derived.Deep.DeepCutAuto
import Derived.Shelf.GgClosure.StringsRunes
import Derived.Deep.DeepFit
set_option linter.unusedVariables false
set_option linter.unusedSimpArgs false
namespace Go.Proofs.YtlanhogdeiiecaaDoor
open Go.RowKit Go.Shelf Go.Lib

/-- A rune that no key may have. -/
def odd (x : Nat) : Bool := decide (x < 33) || decide (126 < x)

set_option maxHeartbeats 400000 in
theorem odd_rune (x : Nat) (w : World) : Calls Tryd.prog 56 #[encR x] w fun e w' => e = .returned (.bool (odd x)) ∧ w' = w := by
  unfold encR
  by_cases h1 : x < 33
  · have hb : decide ((x : Int) < 33) = true := by simp; omega
    go_enter Tryd.func56, Tryd.ntmps56
    go_wp2
    go_ret
    exact ⟨by simp [odd, h1], rfl⟩
  · have hb : decide ((x : Int) < 33) = false := by simp; omega
    go_enter Tryd.func56, Tryd.ntmps56
    go_wp2
    go_ret
    exact ⟨by simp [odd, h1]; omega, rfl⟩

theorem odd_at (w : World) : PredAtRunes Tryd.prog 56 #[] odd w := fun W x _ _ =>
  (odd_rune x W).mono fun e w' ⟨he, hw⟩ => ⟨he, 0, hw⟩

/-- Every byte of a text from place i on may be in a key. -/
def plainFrom (s : ByteArray) (i : Nat) : Prop := ∀ j, i ≤ j → j < s.size → 33 ≤ (s.get! j).toNat ∧ (s.get! j).toNat ≤ 126

theorem odd_decode (s : ByteArray) (i : Nat) : odd (Utf8.decode s i).1 = !(decide (33 ≤ (s.get! i).toNat) && decide ((s.get! i).toNat ≤ 126)) ∧ (odd (Utf8.decode s i).1 = false → (Utf8.decode s i).2 = 1) := by
  rw [decode_at]
  generalize (s.get! i).toNat = b0
  unfold decodeN odd
  by_cases h : b0 < 128
  · rw [if_pos h]
    refine ⟨?_, fun _ => rfl⟩
    rw [Bool.eq_iff_iff]; simp
  · rw [if_neg h]
    have e : ∀ (p : Nat × Nat), 126 < p.1 → ((decide (p.1 < 33) || decide (126 < p.1)) = !(decide (33 ≤ b0) && decide (b0 ≤ 126)) ∧ ((decide (p.1 < 33) || decide (126 < p.1)) = false → p.2 = 1)) := by
      intro p hp
      refine ⟨?_, fun h2 => ?_⟩
      · rw [Bool.eq_iff_iff]; simp; omega
      · simp at h2; omega
    refine e _ ?_
    repeat' split
    all_goals first | (simp; done) | (simp only []; omega)

theorem idx_odd (s : ByteArray) : ∀ (f i : Nat), s.size ≤ i + f → (idxFuncFrom odd true s f i < 0 ↔ plainFrom s i)
  | 0, i, h => by
    unfold idxFuncFrom plainFrom
    exact ⟨fun _ j h1 h2 => by omega, fun _ => by decide⟩
  | f + 1, i, h => by
    unfold idxFuncFrom
    by_cases h1 : i < s.size
    · rw [if_pos h1]
      obtain ⟨o1, o2⟩ := odd_decode s i
      cases ho : odd (Utf8.decode s i).1 with
      | true =>
        rw [if_pos rfl]
        refine ⟨fun h2 => by omega, fun h2 => ?_⟩
        have := h2 i (Nat.le_refl _) h1
        rw [ho] at o1
        simp at o1
        omega
      | false =>
        rw [if_neg (by simp), o2 ho, idx_odd s f (i + 1) (by omega)]
        rw [ho] at o1
        simp at o1
        constructor
        · intro h2 j hj1 hj2
          rcases Nat.eq_or_lt_of_le hj1 with e | e
          · subst e; exact o1
          · exact h2 j e hj2
        · intro h2 j hj1 hj2
          exact h2 j (by omega) hj2
    · rw [if_neg h1]
      exact ⟨fun _ j hj1 hj2 => by omega, fun _ => by decide⟩

def lenErr (k v : ByteArray) : Int := if 384 < textLen k.size + textLen v.size + 32 then 12 else 0
def keyB (k : ByteArray) : Bool := decide (0 < k.size) && decide (k.size ≤ 32) && decide (idxFunc odd true k < 0)
/-- needle.Check's answer. -/
def needleErr (k v : ByteArray) : Int := if keyB k then lenErr k v else 11

theorem bcell {W w1 : World} (hb : Below W.heap.size W w1) : (∀ b o, b < W.heap.size → w1.cell? ⟨b, o, none⟩ = W.cell? ⟨b, o, none⟩) ∧ (∀ b o, b < W.heap.size → w1.frozen? ⟨b, o, none⟩ = W.frozen? ⟨b, o, none⟩) :=
  ⟨fun b o h => hb.cell (p := ⟨b, o, none⟩) h, fun b o h => hb.frozen (p := ⟨b, o, none⟩) h⟩

theorem ret_int {k : IntKind} {a b : Int} (h : a = b) : Ending.returned (.int k a) = .returned (.int k b) := by rw [h]

def RetBelow (v : Value) (w : World) (e : Ending) (w' : World) : Prop := e = .returned v ∧ Below w.heap.size w w'

theorem toList_nil {k : ByteArray} : k.toList = [] ↔ k.size = 0 := by
  constructor
  · intro h
    rw [Lib.toList_data] at h
    have := congrArg List.length h
    exact this
  · intro h
    rw [Lib.toList_data]
    exact List.eq_nil_of_length_eq_zero h

set_option maxHeartbeats 1000000 in
theorem needle_bad (k v : ByteArray) (hk : keyB k = false) (w : World) :
    Calls Tryd.prog 39 #[.agg #[.string k, .string v]] w (RetBelow (.int .i64 11) w) := by
  have eg := enters_of (P := Tryd.prog) Tryd.func56 (by kernel_rfl) rfl
  by_cases h1 : k.toList = []
  · clear hk
    go_enter Tryd.func39, Tryd.ntmps39
    go_wp2_with (go_at_call 55; refine (Tryd.strings_IndexFunc_runes 56 #[] eg odd k _ (odd_at _)).mono ?_; rintro e w1 ⟨rfl, hb⟩; obtain ⟨hc, hf⟩ := bcell hb)
    go_ret
    exact ⟨rfl, ((Below.refl _ w).alloc (Nat.le_refl _) _).trans (hb.mono (by simp))⟩
  · by_cases h2 : k.size ≤ 32
    · have hi : decide (idxFunc odd true k < 0) = false := by
        have : 0 < k.size := by
          rcases Nat.eq_zero_or_pos k.size with e | e
          · exact absurd (toList_nil.2 e) h1
          · exact e
        simpa [keyB, h2, this] using hk
      clear hk
      go_enter Tryd.func39, Tryd.ntmps39
      go_wp2_with (go_at_call 55; refine (Tryd.strings_IndexFunc_runes 56 #[] eg odd k _ (odd_at _)).mono ?_; rintro e w1 ⟨rfl, hb⟩; obtain ⟨hc, hf⟩ := bcell hb)
      go_ret
      exact ⟨rfl, ((Below.refl _ w).alloc (Nat.le_refl _) _).trans (hb.mono (by simp))⟩
    · clear hk
      have h2' : 32 < (k.size : Int) := by omega
      go_enter Tryd.func39, Tryd.ntmps39
      go_wp2_with (go_at_call 55; refine (Tryd.strings_IndexFunc_runes 56 #[] eg odd k _ (odd_at _)).mono ?_; rintro e w1 ⟨rfl, hb⟩; obtain ⟨hc, hf⟩ := bcell hb)
      go_ret
      exact ⟨rfl, ((Below.refl _ w).alloc (Nat.le_refl _) _).trans (hb.mono (by simp))⟩

set_option maxHeartbeats 2000000 in
theorem needle_good (k v : ByteArray) (hk : keyB k = true) (hk2 : k.size < 16384) (hv : v.size < 16384) (w : World) :
    Calls Tryd.prog 39 #[.agg #[.string k, .string v]] w (RetBelow (.int .i64 (lenErr k v)) w) := by
  have eg := enters_of (P := Tryd.prog) Tryd.func56 (by kernel_rfl) rfl
  simp only [keyB, Bool.and_eq_true, decide_eq_true_eq] at hk
  obtain ⟨⟨h0, h1⟩, h2⟩ := hk
  have h1' : k.toList.isEmpty = false := by
    cases hq : k.toList.isEmpty with
    | false => rfl
    | true => have := toList_nil.1 (List.isEmpty_iff.1 hq); omega
  have h2' : decide (idxFunc odd true k < 0) = true := by simpa using h2
  have h3 : (k.size : Int) ≤ 32 := by omega
  clear h2
  go_enter Tryd.func39, Tryd.ntmps39
  go_wp2_with (go_at_call 55; refine (Tryd.strings_IndexFunc_runes 56 #[] eg odd k _ (odd_at _)).mono ?_; rintro e w1 ⟨rfl, hb⟩; obtain ⟨hc, hf⟩ := bcell hb)
  have hz : w.heap.size < w1.heap.size := by have := hb.size; simp at this; omega
  have c0 : w1.drew.cell? ⟨w.heap.size, 0, none⟩ = some (.string k) := by rw [World.cell?_drew, hc _ _ (by simp)]; simp
  have c1 : w1.drew.cell? ⟨w.heap.size, 1, none⟩ = some (.string v) := by rw [World.cell?_drew, hc _ _ (by simp)]; simp
  go_region_held3 (fun w' => w'.cell? ⟨w.heap.size, 0, none⟩ = some (.string k) ∧ w'.cell? ⟨w.heap.size, 1, none⟩ = some (.string v))
    (go_keep)
    (first | (go_at_call_of 57 k; refine (text_any k hk2 _).mono ?_; rintro e w2 ⟨r2, rfl, hr2, hb2⟩; have hz2 : w.heap.size < w2.heap.size := Nat.lt_of_lt_of_le hz hb2.size; have c20 := (hb2.cell (p := ⟨w.heap.size, 0, none⟩) hz).trans c0; have c21 := (hb2.cell (p := ⟨w.heap.size, 1, none⟩) hz).trans c1)
           | (go_at_call 57; refine (text_any v hv _).mono ?_; rintro e w3 ⟨r3, rfl, hr3, hb3⟩; have c30 := (hb3.cell (p := ⟨w.heap.size, 0, none⟩) hz2).trans c20; have c31 := (hb3.cell (p := ⟨w.heap.size, 1, none⟩) hz2).trans c21))
  have hB : Below w.heap.size w w3 := by
    refine (((Below.refl _ w).alloc (Nat.le_refl _) _).trans (hb.mono (by simp))).trans ?_
    exact ((Below.drew (Below.refl w.heap.size w1)).trans (hb2.mono (Nat.le_of_lt hz))).trans (hb3.mono (Nat.le_of_lt hz2))
  have hl1 : textLen k.size ≤ k.size + 2 := by unfold textLen; split <;> omega
  have hl2 : textLen v.size ≤ v.size + 2 := by unfold textLen; split <;> omega
  have e1 : IntKind.i64.wrap ((textLen k.size : Int) + (textLen v.size : Int)) = (textLen k.size : Int) + (textLen v.size : Int) := IntWalk.i64_in _ (by omega)
  have e2 : IntKind.i64.wrap ((textLen k.size : Int) + (textLen v.size : Int) + 32) = (textLen k.size : Int) + (textLen v.size : Int) + 32 := IntWalk.i64_in _ (by omega)
  have E1 := Lib.hid e1
  have E2 := Lib.hid e2
  clear e1 e2
  go_wp2
  · rename_i hq
    rw [E1.out, E2.out] at hq
    go_ret
    exact ⟨ret_int (by rw [lenErr, if_pos (by omega)]), hB⟩
  · rename_i hq
    rw [E1.out, E2.out] at hq
    go_ret
    exact ⟨ret_int (by rw [lenErr, if_neg (by omega)]), hB⟩

theorem needle_any (k v : ByteArray) (hk2 : k.size < 16384) (hv : v.size < 16384) (w : World) :
    Calls Tryd.prog 39 #[.agg #[.string k, .string v]] w (RetBelow (.int .i64 (needleErr k v)) w) := by
  unfold needleErr
  cases hk : keyB k with
  | true => exact needle_good k v hk hk2 hv w
  | false => exact needle_bad k v hk w

/-- request.Check's answer. -/
def reqErr (kind : Int) (k v : ByteArray) : Int :=
  if kind < 0 ∨ 4 < kind ∨ (kind ≠ 0 ∧ v.toList.isEmpty = false) then 1 else if kind = 4 ∧ k.toList.isEmpty = true then 0 else needleErr k v

set_option maxHeartbeats 1000000 in
theorem req_any (kind : Int) (k v : ByteArray) (hk2 : k.size < 16384) (hv : v.size < 16384) (w : World) :
    Calls Tryd.prog 20 #[.agg #[.int .i64 kind, .string k, .string v]] w (RetBelow (.int .i64 (reqErr kind k v)) w) := by
  go_enter Tryd.func20, Tryd.ntmps20
  go_wp2_with (go_at_call 39; refine (needle_any k v hk2 hv _).mono ?_; rintro e w1 ⟨rfl, hb⟩)
  all_goals go_ret
  all_goals refine ⟨ret_int ?_, ?_⟩
  all_goals first
    | exact (Below.refl _ w).alloc (Nat.le_refl _) _
    | exact ((Below.refl _ w).alloc (Nat.le_refl _) _).trans (hb.mono (by simp))
    | skip
  all_goals unfold reqErr
  all_goals (split <;> first | rfl | (split <;> first | rfl | (exfalso; simp_all; done) | (exfalso; simp_all; omega)) | (exfalso; simp_all; done) | (exfalso; simp_all; omega))

end Go.Proofs.YtlanhogdeiiecaaDoor
