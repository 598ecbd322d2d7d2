/-
  The model's State at this program: one line out of what the map reads as.
-/
import Derived.Test.YtlanhogdeiiecaaDoorKeys
set_option linter.unusedVariables false
set_option linter.unusedSimpArgs false
namespace Go.Proofs.YtlanhogdeiiecaaDoor
open Go.RowKit Go.Shelf Go.Lib Go.Maps Go.Sort

/-- What State tells of one key. -/
def entryL (k : List UInt8) (x : List UInt8 × Bool) : List UInt8 := k ++ if x.2 then [33, 32] else ([61] ++ hexL x.1) ++ [32]
def stateK (D : DataW Unit) (ks : List (List UInt8)) : List UInt8 := ks.flatMap fun k => entryL k (look D k)
/-- What State tells. -/
def stateL (D : DataW Unit) : List UInt8 := stateK D (strKeys D)
def stateS (D : DataW Unit) : ByteArray := ⟨(stateL D).toArray⟩

/-- Keys and values are not too long, and not too many. -/
structure Fine (D : DataW Unit) : Prop where
  keys : ∀ k ∈ strKeys D, k.length ≤ 1000
  vals : ∀ k, (look D k).1.length < 16384
  size : Maps.size D ≤ 1000000

theorem stateK_le {D : DataW Unit} (hf : Fine D) : ∀ (ks : List (List UInt8)), (∀ k ∈ ks, k.length ≤ 1000) → (stateK D ks).length ≤ ks.length * 40000
  | [], _ => by simp [stateK]
  | k :: ks, h => by
    have ih := stateK_le hf ks (fun k' h' => h k' (by simp [h']))
    have h1 := h k (by simp)
    have h2 := hf.vals k
    have h3 : (entryL k (look D k)).length ≤ 40000 := by
      unfold entryL
      rw [List.length_append]
      split
      · simp; omega
      · simp only [List.length_append, hexL_length, List.length_cons, List.length_nil]; omega
    unfold stateK at ih ⊢
    rw [List.flatMap_cons, List.length_append]
    simp only [List.length_cons]
    omega

theorem stateK_snoc (D : DataW Unit) (ks : List (List UInt8)) (k : List UInt8) : stateK D (ks ++ [k]) = stateK D ks ++ entryL k (look D k) := by
  unfold stateK; rw [List.flatMap_append]; simp

theorem keys_len (D : DataW Unit) : (strKeys D).length = Maps.size D := by
  cases D <;> simp [strKeys, Maps.size]

set_option maxRecDepth 100000 in
set_option maxHeartbeats 1000000 in
theorem state_none (w : World) (p bk n : Nat) (D : DataW Unit) (h : IsM w p bk n D) (hf : Fine D) (hne : strKeys D = []) :
    Calls Tryd.prog 14 #[.pointer (some ⟨p, 0, none⟩)] w (RetBelow (.string (stateS D)) w) := by
  obtain ⟨hp, hown⟩ := h
  have hplt := (Array.getElem?_eq_some_iff.1 hp).1
  have hblt := hown.lt
  have cp : w.cell? ⟨p, 0, none⟩ = some (.map (some bk)) := by rw [Lib.cell_of_heap hp]; rfl
  have HO := Lib.hid hown
  have HN := Lib.hid hne
  clear hown hp hne
  go_enter Tryd.func14, Tryd.ntmps14
  go_wp2_with fail
  refine (keys_calls _ _).mono ?_
  rintro e w1 ⟨rfl, rfl⟩
  go_wp2_with fail
  refine (sorted_none (w := w.alloc (.cells #[.pointer none, .slice none 0 0] 62)) (by simp) (OwnsK.same HO.out (one_old w _ bk hblt)) hf.size HN.out).mono ?_
  rintro e w2 ⟨rfl, hb2⟩
  have hz := hb2.size
  have k0 : w2.heap[w.heap.size]? = some (.cells #[.pointer none, .slice none 0 0] 62 (0, 0)) := (hb2.block _ (by simp; omega)).trans ((one_old (w.alloc _) _ _ (by simp)).trans (MapKept.heap_alloc w _).1)
  have hB : IsBuilder 62 5 w.heap.size w.heap.size (byteCells []) w2 := .inl ⟨Nat.le_refl _, .slice none 0 0, k0, World.ownsRow_nil _ _ _ _, by simp [Value.ownBlock]⟩
  have hb := bl_trans (bl_alloc (bl_alloc (Below.refl _ w) (.cells #[.pointer none, .slice none 0 0] 62)) (.cells #[.map (some bk)] 46)) hb2
  clear k0
  go_wp2_with fail
  go_loopw [16] (fun v16 wr => v16 = .int .i64 0 ∧ wr = w2) (fun _ _ => 0)
  case atStart => exact ⟨rfl, rfl⟩
  case round =>
    obtain ⟨rfl, rfl⟩ := hrel
    go_wp2_with fail
    refine (Tryd.Builder_String_any _ _ _ _ hB hb.size).mono ?_
    rintro e w3 ⟨rfl, hb3⟩
    go_wp2
    go_ret
    exact ⟨ret_str (by simp [stateS, stateL, HN.out, stateK]), hb.trans hb3⟩

theorem isb_below {T e : TypeId} {B b : Nat} {bs : List Value} {w W : World} (h : IsBuilder T e B b bs w) (hb : Below w.heap.size w W) : IsBuilder T e B b bs W := by
  have key : ∀ q, BuilderAt T e B b q bs w → BuilderAt T e B b q bs W := by
    rintro q ⟨h1, v, h2, h3, h4⟩
    refine ⟨h1, v, (hb.block b (Array.getElem?_eq_some_iff.1 h2).1).trans h2, h3.kept (bl_grown hb none) ?_, h4⟩
    cases hv : v.ownBlock with
    | none => exact .inl rfl
    | some g => exact .inr (by simp)
  rcases h with h | h
  · exact .inl (key _ h)
  · exact .inr (key _ h)

theorem strCells_of (l : List UInt8) : strCells ⟨l.toArray⟩ = byteCells l := rfl
theorem keepB_below {b : Nat} {w W : World} (h : Below w.heap.size w W) : KeepB b w W := fun j hj _ _ => h.block j hj

def StRel (D : DataW Unit) (w : World) (g : Nat) (k : Nat) (wr : World) : Prop :=
  IsBuilder 62 5 w.heap.size w.heap.size (byteCells (stateK D ((strKeys D).take k))) wr ∧ Below w.heap.size w wr ∧ KeysAt wr g (strKeys D) ∧ w.heap.size + 2 ≤ g

theorem st_next {D : DataW Unit} {w wr w' : World} {g k : Nat} (hk : k < (strKeys D).length) (h : StRel D w g k wr)
    (hB : IsBuilder 62 5 w.heap.size w.heap.size (byteCells (stateK D ((strKeys D).take k) ++ entryL (strKeys D)[k] (look D (strKeys D)[k]))) w')
    (hb : Below w.heap.size wr w') (hkp : KeepB w.heap.size wr w') : StRel D w g (k + 1) w' := by
  obtain ⟨h1, h2, h3, h4⟩ := h
  refine ⟨?_, h2.trans hb, h3.keep hkp (by omega), h4⟩
  rw [List.take_succ_eq_append_getElem hk, stateK_snoc]
  exact hB

set_option maxRecDepth 100000 in
set_option maxHeartbeats 2000000 in
theorem state_some (w : World) (p bk n : Nat) (D : DataW Unit) (h : IsM w p bk n D) (hf : Fine D) (hne : strKeys D ≠ []) :
    Calls Tryd.prog 14 #[.pointer (some ⟨p, 0, none⟩)] w (RetBelow (.string (stateS D)) w) := by
  obtain ⟨hp, hown⟩ := h
  have hplt := (Array.getElem?_eq_some_iff.1 hp).1
  have hblt := hown.lt
  have cp : w.cell? ⟨p, 0, none⟩ = some (.map (some bk)) := by rw [Lib.cell_of_heap hp]; rfl
  have HO := Lib.hid hown
  have HN := Lib.hid hne
  have HL := Lib.hid (keys_len D)
  clear hown hp hne
  go_enter Tryd.func14, Tryd.ntmps14
  go_wp2_with fail
  refine (keys_calls _ _).mono ?_
  rintro e w1 ⟨rfl, rfl⟩
  go_wp2_with fail
  refine (sorted_some (w := w.alloc (.cells #[.pointer none, .slice none 0 0] 62)) (by simp) (OwnsK.same HO.out (one_old w _ bk hblt)) hf.size HN.out).mono ?_
  rintro e w2 ⟨g, cap, rfl, hg, hkeys, hb2⟩
  have hz := hb2.size
  have k0 : w2.heap[w.heap.size]? = some (.cells #[.pointer none, .slice none 0 0] 62 (0, 0)) := (hb2.block _ (by simp; omega)).trans ((one_old (w.alloc _) _ _ (by simp)).trans (MapKept.heap_alloc w _).1)
  have hB : IsBuilder 62 5 w.heap.size w.heap.size (byteCells []) w2 := .inl ⟨Nat.le_refl _, .slice none 0 0, k0, World.ownsRow_nil _ _ _ _, by simp [Value.ownBlock]⟩
  have hb := bl_trans (bl_alloc (bl_alloc (Below.refl _ w) (.cells #[.pointer none, .slice none 0 0] 62)) (.cells #[.map (some bk)] 46)) hb2
  have S0 : StRel D w g 0 w2 := ⟨by simpa [stateK] using hB, hb, hkeys, by simp at hg; omega⟩
  have SH := Lib.hid S0
  clear k0 hB hb hkeys S0 hb2 hg hz
  have hml : (strKeys D).length ≤ 1000000 := by rw [HL.out]; exact hf.size
  go_wp2_with fail
  go_loopw [16] (fun v16 wr => ∃ k : Nat, k ≤ (strKeys D).length ∧ v16 = .int .i64 k ∧ StRel D w g k wr) (fun v16 _ => (strKeys D).length - (intOf v16).toNat)
  case atStart => exact ⟨0, Nat.zero_le _, rfl, SH.out⟩
  case round =>
    obtain ⟨k, hk, rfl, hrel⟩ := hrel
    have HR := Lib.hid hrel
    obtain ⟨h1, h2, h3, h4⟩ := hrel
    have hwz := h2.size
    by_cases hlt : k < (strKeys D).length
    · have hcell := h3.cell k hlt
      obtain ⟨kk, hkk⟩ : ∃ kk, (strKeys D)[k] = kk := ⟨_, rfl⟩
      have hkl : kk.length ≤ 1000 := by rw [← hkk]; exact hf.keys _ (List.getElem_mem hlt)
      have hvl := hf.vals kk
      rw [hkk] at hcell
      unfold encS at hcell
      have HK := Lib.hid hkk
      have hlook := look_run0 HO.out ⟨kk.toArray⟩ (by unfold maxLen; rw [bsz]; simp; omega)
      have hsz := stateK_le hf ((strKeys D).take k) (fun q hq => hf.keys q (List.mem_of_mem_take hq))
      rw [List.length_take] at hsz
      have hsz2 : (stateK D ((strKeys D).take k)).length ≤ 50000000000 := by omega
      clear hkk hsz h3
      obtain ⟨v, hv⟩ : ∃ v, (look D kk).1 = v := ⟨_, rfl⟩
      obtain ⟨gone, hgone⟩ : ∃ gone, (look D kk).2 = gone := ⟨_, rfl⟩
      have HE : Hid (entryL kk (look D kk) = kk ++ if gone then [33, 32] else ([61] ++ hexL v) ++ [32]) := by unfold Hid entryL; rw [hv, hgone]
      simp only [List.toList_toArray] at hlook
      rw [hv] at hvl
      rw [hv, hgone] at hlook
      clear hv hgone
      have ksz : (⟨kk.toArray⟩ : ByteArray).size = kk.length := rfl
      have KS := Lib.hid ksz
      clear ksz
      go_wp2_with fail
      refine (writeString_any w.heap.size w.heap.size _ ⟨kk.toArray⟩ _ h1 (by rw [byteCells_length, KS.out]; omega) hwz).mono ?_
      rintro e w3 ⟨rfl, g1, g2, g3⟩
      have hz3 := g2.size
      have c3 : w3.cell? ⟨p, 0, none⟩ = some (.map (some bk)) := ((h2.trans g2).cell (p := ⟨p, 0, none⟩) hplt).trans cp
      have l3 := hlook w3 ((h2.trans g2).block bk hblt)
      have G3 := Lib.hid g3
      rw [strCells_of, ← byteCells_append] at g1
      clear g3 hlook cp
      cases gone with
      | true =>
        go_wp2_with fail
        generalize hW : World.alloc _ _ = W4
        have b4 : Below w3.heap.size w3 W4 := by rw [← hW]; exact bl_alloc (Below.refl _ _) _
        have i4 := isb_below (.inr g1) b4
        have z4 := b4.size
        have B4 := Lib.hid b4
        clear hW g1 b4
        refine (writeString_any w.heap.size w.heap.size _ ⟨#[33, 32]⟩ _ i4 (by rw [byteCells_length, List.length_append, bsz]; simp; omega) (by omega)).mono ?_
        rintro e w5 ⟨rfl, k1, k2, k3⟩
        have K3 := Lib.hid k3
        have z5 := k2.size
        clear k3
        go_wp2_with fail
        go_roundw
        case rel =>
          refine ⟨k + 1, by omega, by go_num, st_next hlt HR.out ?_ ((g2.trans (B4.out.mono (by omega))).trans k2) ((G3.out.trans (keepB_below B4.out) (by omega)).trans K3.out (by omega))⟩
          rw [HK.out, HE.out, ← List.append_assoc, byteCells_append]
          exact .inr k1
        case measure => simp [intOf]; omega
      | false =>
        go_wp2_with fail
        generalize hW : World.alloc _ _ = W4
        have b4 : Below w3.heap.size w3 W4 := by rw [← hW]; exact bl_alloc (Below.refl _ _) _
        have z4 := b4.size
        have B4 := Lib.hid b4
        have vsz : (⟨v.toArray⟩ : ByteArray).size = v.length := rfl
        have VS := Lib.hid vsz
        clear hW b4 vsz
        refine (hex_any ⟨v.toArray⟩ (by rw [VS.out]; omega) _).mono ?_
        rintro e w6 ⟨rfl, b6⟩
        have b7 := bl_trans B4.out b6
        have i4 := isb_below (.inr g1) b7
        have z6 := b6.size
        have B7 := Lib.hid b7
        have hx : (hexS ⟨v.toArray⟩).size ≤ 32768 := by rw [hexS_size, VS.out]; omega
        clear g1 b7 b6
        go_wp2_with fail
        refine (writeString_any w.heap.size w.heap.size _ ((ByteArray.mk #[61] ++ hexS (ByteArray.mk v.toArray)) ++ ByteArray.mk #[32]) _ i4 ?_ (by omega)).mono ?_
        · have e1 : (ByteArray.mk #[61]).size = 1 := rfl
          have e2 : (ByteArray.mk #[32]).size = 1 := rfl
          rw [byteCells_length, List.length_append, ByteArray.size_append, ByteArray.size_append, e1, e2]
          omega
        rintro e w5 ⟨rfl, k1, k2, k3⟩
        have K3 := Lib.hid k3
        have z5 := k2.size
        clear k3
        go_wp2_with fail
        go_roundw
        case rel =>
          refine ⟨k + 1, by omega, by go_num, st_next hlt HR.out ?_ ((g2.trans (B7.out.mono (by omega))).trans k2) ((G3.out.trans (keepB_below B7.out) (by omega)).trans K3.out (by omega))⟩
          rw [HK.out, HE.out, ← List.append_assoc, byteCells_append]
          have e8 : strCells ((ByteArray.mk #[61] ++ hexS (ByteArray.mk v.toArray)) ++ ByteArray.mk #[32]) = byteCells (([61] ++ hexL v) ++ [32]) := by
            unfold strCells hexS
            simp [byteCells]
          rw [e8] at k1
          exact .inr k1
        case measure => simp [intOf]; omega
    · have e : k = (strKeys D).length := by omega
      have HE := Lib.hid e
      clear e
      go_wp2_with fail
      refine (Tryd.Builder_String_any _ _ _ _ h1 hwz).mono ?_
      rintro e w3 ⟨rfl, hb3⟩
      go_wp2
      go_ret
      exact ⟨ret_str (by rw [stateS, stateL, HE.out, List.take_length]), h2.trans hb3⟩

end Go.Proofs.YtlanhogdeiiecaaDoor
