/-
  The model's list at this program: the first keys that are there, from a key on.
-/
import Derived.Test.YtlanhogdeiiecaaDoorState
import Derived.Maps.AppendAt
import Derived.WalkLawsBesides
set_option linter.unusedVariables false
set_option linter.unusedSimpArgs false
namespace Go.Proofs.YtlanhogdeiiecaaDoor
open Go.RowKit Go.Shelf Go.Lib Go.Maps Go.Sort

/-- Is a key listed? -/
def inc (D : DataW Unit) (fr : List UInt8) (k : List UInt8) : Bool := !(look D k).2 && !Op.bytesLess k fr
def listK (D : DataW Unit) (fr : List UInt8) (ks : List (List UInt8)) : List (List UInt8) := (ks.filter (inc D fr)).take 16
/-- What List tells. -/
def listD (D : DataW Unit) (fr : List UInt8) : List (List UInt8) := listK D fr (strKeys D)

theorem listK_no {D : DataW Unit} {fr : List UInt8} {ks : List (List UInt8)} {k : List UInt8} (h : inc D fr k = false) : listK D fr (ks ++ [k]) = listK D fr ks := by
  unfold listK; rw [List.filter_append]; simp [h]
theorem listK_full {D : DataW Unit} {fr : List UInt8} {ks : List (List UInt8)} {k : List UInt8} (h : ¬ (listK D fr ks).length < 16) : listK D fr (ks ++ [k]) = listK D fr ks := by
  unfold listK at h ⊢
  rw [List.length_take] at h
  rw [List.filter_append, List.take_append_of_le_length (by omega)]
theorem listK_yes {D : DataW Unit} {fr : List UInt8} {ks : List (List UInt8)} {k : List UInt8} (h : inc D fr k = true) (h2 : (listK D fr ks).length < 16) : listK D fr (ks ++ [k]) = listK D fr ks ++ [k] := by
  unfold listK at h2 ⊢
  rw [List.length_take] at h2
  rw [List.filter_append, List.take_of_length_le (by simp [h]; omega), List.take_of_length_le (by omega)]
  simp [h]
theorem listK_le (D : DataW Unit) (fr : List UInt8) (ks : List (List UInt8)) : (listK D fr ks).length ≤ 16 := by
  unfold listK; rw [List.length_take]; omega

/-- An answer with keys, and what became of the map. -/
def AnswersL (w : World) (bk n : Nat) (D : DataW Unit) (c : Int) (v : ByteArray) (ks : List (List UInt8)) (e : Ending) (w' : World) : Prop :=
  ∃ kv, e = .returned (.agg #[.int .i64 c, .string v, kv]) ∧ OwnsS w' w.heap.size kv ks ∧ OwnsK w' bk (n + 1) D ∧ w.grownBy w' (some bk)

theorem infoStr : (Tryd.prog.info? 9).map (fun i => (i.zero, i.size, i.bytes)) = some (some (.string ⟨#[]⟩), 1, 16) := by kernel_rfl

def LiRel (D : DataW Unit) (fr : List UInt8) (w : World) (g k : Nat) (v5 : Value) (wr : World) : Prop :=
  OwnsS wr w.heap.size v5 (listK D fr ((strKeys D).take k)) ∧ Below w.heap.size w wr ∧ KeysAt wr g (strKeys D) ∧ v5.ownBlock ≠ some g ∧ wr.heap[w.heap.size]? = some (.cells #[.int .i64 4, .string ⟨fr.toArray⟩, .string ⟨#[]⟩] 32 (0, 0)) ∧ wr.heap[w.heap.size + 1]? = some (.cells #[.int .i64 0, .string ⟨#[]⟩, .slice none 0 0] 37 (0, 0))

theorem own_ne {w : World} {base n : Nat} {v : Value} {xs cs : List Value} {c : Array Value} {b : Nat} {t : TypeId} {fr : Nat × Nat} (h : w.ownsRow base 9 1 v n xs) (hb : w.heap[b]? = some (.cells c t fr)) (ht : t ≠ 9) : v.ownBlock ≠ some b := by
  intro e
  obtain ⟨cur, hc⟩ := own_plain h b e
  rw [hc] at hb
  simp only [Option.some.injEq, Obj.cells.injEq] at hb
  exact ht hb.2.1.symm
theorem ownsS_set {W : World} {base : Nat} {v : Value} {ks : List (List UInt8)} (h : OwnsS W base v ks) {q : Addr} (hq : v.ownBlock ≠ some q.block) (u : Value) : OwnsS (W.setCell q u) base v ks :=
  World.ownsRow.kept h (row := some q.block) ⟨rfl, rfl, rfl, by simp [World.setCell], fun i _ hn => Below.heap_setCell W q u i (fun e => hn (by rw [e]))⟩ (.inr hq)

theorem li_same {D : DataW Unit} {fr : List UInt8} {w : World} {g k : Nat} {v5 : Value} {wr : World} (h : LiRel D fr w g k v5 wr) (hk : k < (strKeys D).length)
    (e : listK D fr ((strKeys D).take k ++ [(strKeys D)[k]]) = listK D fr ((strKeys D).take k)) : LiRel D fr w g (k + 1) v5 wr := by
  obtain ⟨h1, h2⟩ := h
  refine ⟨?_, h2⟩
  rw [List.take_succ_eq_append_getElem hk, e]
  exact h1

theorem li_app {D : DataW Unit} {fr : List UInt8} {w : World} {g k : Nat} {v5 v' : Value} {wr w3 : World} {o : Obj} (h : LiRel D fr w g k v5 wr) (hk : k < (strKeys D).length)
    (e : listK D fr ((strKeys D).take k ++ [(strKeys D)[k]]) = listK D fr ((strKeys D).take k) ++ [(strKeys D)[k]])
    (hown : w3.ownsRow w.heap.size 9 1 v' ((listK D fr ((strKeys D).take k)).length + 1) ((listK D fr ((strKeys D).take k)).map encS ++ [encS (strKeys D)[k]]))
    (hg : (wr.alloc o).grownBy w3 v5.ownBlock) (hat : v'.ownBlock = v5.ownBlock ∨ v'.ownBlock = some (wr.alloc o).heap.size) : LiRel D fr w g (k + 1) v' w3 := by
  obtain ⟨h1, h2, h3, h4, h5, h6⟩ := h
  have hz := h2.size
  have l5 := (Array.getElem?_eq_some_iff.1 h5).1
  have l6 := (Array.getElem?_eq_some_iff.1 h6).1
  have l3 := h3.lt
  have n5 := own_ne (cs := []) h1 h5 (by decide)
  have n6 := own_ne (cs := []) h1 h6 (by decide)
  refine ⟨?_, (bl_alloc h2 o).grown hg (by simp; omega) (fun q hq => (World.ownsRow.lt h1 q hq).1), h3.same ?_, ?_, ?_, ?_⟩
  · rw [List.take_succ_eq_append_getElem hk, e]
    unfold OwnsS
    simpa using hown
  · rw [hg.block g (by simp; omega) (Ne.symm h4), one_old _ _ _ l3]
  · rcases hat with hq | hq
    · rw [hq]; exact h4
    · rw [hq]; intro e2; have := Option.some.inj e2; simp at this; omega
  · rw [hg.block _ (by simp; omega) (Ne.symm n5), one_old _ _ _ l5]; exact h5
  · rw [hg.block _ (by simp; omega) (Ne.symm n6), one_old _ _ _ l6]; exact h6

set_option maxRecDepth 100000 in
set_option maxHeartbeats 2000000 in
theorem list_some (w : World) (p bk n : Nat) (D : DataW Unit) (fr : List UInt8) (h : IsM w p bk n D) (hf : Fine D) (hne : strKeys D ≠ []) :
    Calls Tryd.prog 25 #[.pointer (some ⟨p, 0, none⟩), .agg #[.int .i64 4, .string ⟨fr.toArray⟩, .string ⟨#[]⟩]] w (AnswersL w bk n D 0 ⟨#[]⟩ (listD D fr)) := by
  obtain ⟨i0, hi, hz0, hz1, hz2⟩ := info_parts infoStr
  obtain ⟨hp, hown⟩ := h
  have hplt := (Array.getElem?_eq_some_iff.1 hp).1
  have hblt := hown.lt
  have cp : w.cell? ⟨p, 0, none⟩ = some (.map (some bk)) := by rw [Lib.cell_of_heap hp]; rfl
  have HO := Lib.hid hown
  have HN := Lib.hid hne
  have HL := Lib.hid (keys_len D)
  have cp2 : ((w.alloc (.cells #[.int .i64 4, .string ⟨fr.toArray⟩, .string ⟨#[]⟩] 32)).alloc (.cells #[.int .i64 0, .string ⟨#[]⟩, .slice none 0 0] 37)).cell? ⟨p, 0, none⟩ = some (.map (some bk)) := (cell_same (two_old w _ _ p hplt) 0).trans cp
  clear hown hp hne
  go_enter Tryd.func25, Tryd.ntmps25
  go_wp2_with fail
  generalize hW : World.alloc _ _ = W
  have q4 : W.heap[w.heap.size + 1]? = some (.cells #[.int .i64 0, .string ⟨#[]⟩, .slice none 0 0] 37 (0, 0)) := by rw [← hW]; exact nw22 _ _ _
  have q3 : W.heap[w.heap.size]? = some (.cells #[.int .i64 4, .string ⟨fr.toArray⟩, .string ⟨#[]⟩] 32 (0, 0)) := by rw [← hW, one_old _ _ _ (by simp)]; exact (MapKept.heap_alloc w _).1
  have q5 : Below w.heap.size w W := by rw [← hW]; exact bl_alloc (bl_alloc (Below.refl _ w) _) _
  have q6 : W.heap.size = w.heap.size + 2 := by rw [← hW]; simp
  have Q3 := Lib.hid q3
  have Q4 := Lib.hid q4
  have Q6 := Lib.hid q6
  clear hW q3 q4 q6 cp2
  refine (keys_calls _ _).mono ?_
  rintro e w1 ⟨rfl, rfl⟩
  go_wp2_with fail
  refine (sorted_some (w := W) rfl (OwnsK.same HO.out (q5.block bk hblt)) hf.size HN.out).mono ?_
  rintro e w2 ⟨g, cap, rfl, hg, hkeys, hb2⟩
  have hb := bl_trans (bl_alloc q5 (.cells #[.map (some bk)] 46)) hb2
  have S0 : LiRel D fr w g 0 (.slice none 0 0) w2 := by
    have hq := Q6.out
    refine ⟨World.ownsRow_nil _ _ _ _, hb, hkeys, by simp [Value.ownBlock], ?_, ?_⟩
    · rw [hb2.block _ (by simp; omega), one_old _ _ _ (by omega)]; exact Q3.out
    · rw [hb2.block _ (by simp; omega), one_old _ _ _ (by omega)]; exact Q4.out
  have SH := Lib.hid S0
  clear hb hkeys S0 hb2
  have hml : (strKeys D).length ≤ 1000000 := by rw [HL.out]; exact hf.size
  go_wp2_with fail
  go_loopw [5, 15] (fun v5 v15 wr => ∃ k : Nat, k ≤ (strKeys D).length ∧ v15 = .int .i64 k ∧ LiRel D fr w g k v5 wr) (fun _ v15 _ => (strKeys D).length - (intOf v15).toNat)
  case atStart => exact ⟨0, Nat.zero_le _, rfl, SH.out⟩
  case round =>
    obtain ⟨k, hk, rfl, hrel⟩ := hrel
    have HR := Lib.hid hrel
    obtain ⟨h1, h2, h3, h4, h5, h6⟩ := hrel
    have hwz := h2.size
    obtain ⟨ao, cap5, rfl⟩ : ∃ ao cap5, u5 = .slice ao (listK D fr ((strKeys D).take k)).length cap5 := by
      rcases h1.2 with ⟨hv, h0⟩ | ⟨g', c', cur, hv, _⟩
      · exact ⟨none, 0, by rw [hv, h0]⟩
      · exact ⟨_, _, hv⟩
    by_cases hlt : k < (strKeys D).length
    · have hcell := h3.cell k hlt
      obtain ⟨kk, hkk⟩ : ∃ kk, (strKeys D)[k] = kk := ⟨_, rfl⟩
      have hkl : kk.length ≤ 1000 := by rw [← hkk]; exact hf.keys _ (List.getElem_mem hlt)
      rw [hkk] at hcell
      unfold encS at hcell
      have HK := Lib.hid hkk
      have hlook := look_run0 HO.out ⟨kk.toArray⟩ (by unfold maxLen; rw [bsz]; simp; omega)
      have hl16 := listK_le D fr ((strKeys D).take k)
      clear hkk h3
      obtain ⟨v, hv⟩ : ∃ v, (look D kk).1 = v := ⟨_, rfl⟩
      obtain ⟨gone, hgone⟩ : ∃ gone, (look D kk).2 = gone := ⟨_, rfl⟩
      have HE : Hid (inc D fr kk = (!gone && !Op.bytesLess kk fr)) := by unfold Hid inc; rw [hgone]
      simp only [List.toList_toArray] at hlook
      rw [hv, hgone] at hlook
      clear hv hgone
      have c3 : wr.cell? ⟨p, 0, none⟩ = some (.map (some bk)) := (h2.cell (p := ⟨p, 0, none⟩) hplt).trans cp
      have l3 := hlook wr (h2.block bk hblt)
      have c1 : wr.cell? ⟨w.heap.size, 1, none⟩ = some (.string ⟨fr.toArray⟩) := by rw [Lib.cell_of_heap h5]; rfl
      have hfd : ∀ W : World, (Instr.field 68 (.agg #[.string ⟨v.toArray⟩, .bool gone]) 1).run Tryd.prog W = .ok (.bool gone) W := fun _ => by kernel_rfl
      clear hlook cp h5 h6
      cases gone with
      | true =>
        go_wp2_with fail
        go_roundw
        case rel => exact ⟨k + 1, by omega, by go_num, li_same HR.out hlt (listK_no (by rw [HK.out, HE.out]; rfl))⟩
        case measure => simp [intOf]; omega
      | false =>
        cases hb : Op.bytesLess kk fr with
        | true =>
          go_wp2_with fail
          go_roundw
          case rel => exact ⟨k + 1, by omega, by go_num, li_same HR.out hlt (listK_no (by rw [HK.out, HE.out, hb]; rfl))⟩
          case measure => simp [intOf]; omega
        | false =>
          by_cases h16 : (listK D fr ((strKeys D).take k)).length < 16
          · have h16' : decide (((listK D fr ((strKeys D).take k)).length : Int) < 16) = true := by simp; omega
            go_wp2_with (at_builtin; refine wpList_append_own_at _ rfl _ _ 35 rfl w.heap.size 9 i0 (.string ⟨#[]⟩) 1 16 Tryd.underlying35 hi hz0 hz1 hz2 rfl (by decide) _ _ _ rfl (h1.alloc _) ⟨wr.heap.size, 0, none⟩ 1 1 [.string ⟨kk.toArray⟩] rfl rfl (cell_one_new _ _ _) (by simp [Value.oneCell']) (by unfold maxLen; omega) (by omega) (by simp; omega) ?_; intro v' w3 hown' hgrow _ hat)
            go_roundw
            case rel => exact ⟨k + 1, by omega, by go_num, li_app HR.out hlt (listK_yes (by rw [HK.out, HE.out, hb]; rfl) h16) (by rw [HK.out]; exact hown') hgrow hat⟩
            case measure => simp [intOf]; omega
          · have h16' : decide (((listK D fr ((strKeys D).take k)).length : Int) < 16) = false := by simp; omega
            go_wp2_with fail
            go_roundw
            case rel => exact ⟨k + 1, by omega, by go_num, li_same HR.out hlt (listK_full h16)⟩
            case measure => simp [intOf]; omega
    · have e : k = (strKeys D).length := by omega
      have HE := Lib.hid e
      obtain ⟨⟨s0, s1, s2⟩, f0, f1, f2⟩ := res_cells h6
      have n6 := own_ne (cs := []) h1 h6 (by decide)
      clear e
      go_wp2
      refine bodyPost_ret (v := .agg #[.int .i64 0, .string ⟨#[]⟩, .slice ao (listK D fr ((strKeys D).take k)).length cap5]) (by simp [results, Tryd.results25, go_sem, *]) rfl ⟨_, rfl, ?_, ?_, ?_⟩
      · have e3 : listD D fr = listK D fr ((strKeys D).take k) := by rw [HE.out, List.take_length]; rfl
        rw [e3]
        repeat (with_reducible refine ownsS_set ?_ n6 _)
        exact h1
      · repeat (with_reducible refine own_set ?_ (by simp; omega) _)
        exact (OwnsK.same HO.out (h2.block bk hblt)).mono (by omega)
      · repeat (with_reducible refine gr_set ?_ (by simp) _)
        exact bl_grown h2 _

set_option maxRecDepth 100000 in
set_option maxHeartbeats 2000000 in
theorem list_none (w : World) (p bk n : Nat) (D : DataW Unit) (fr : List UInt8) (h : IsM w p bk n D) (hf : Fine D) (hne : strKeys D = []) :
    Calls Tryd.prog 25 #[.pointer (some ⟨p, 0, none⟩), .agg #[.int .i64 4, .string ⟨fr.toArray⟩, .string ⟨#[]⟩]] w (AnswersL w bk n D 0 ⟨#[]⟩ (listD D fr)) := by
  obtain ⟨hp, hown⟩ := h
  have hplt := (Array.getElem?_eq_some_iff.1 hp).1
  have hblt := hown.lt
  have cp : w.cell? ⟨p, 0, none⟩ = some (.map (some bk)) := by rw [Lib.cell_of_heap hp]; rfl
  have HO := Lib.hid hown
  have HN := Lib.hid hne
  have cp2 : ((w.alloc (.cells #[.int .i64 4, .string ⟨fr.toArray⟩, .string ⟨#[]⟩] 32)).alloc (.cells #[.int .i64 0, .string ⟨#[]⟩, .slice none 0 0] 37)).cell? ⟨p, 0, none⟩ = some (.map (some bk)) := (cell_same (two_old w _ _ p hplt) 0).trans cp
  clear hown hp hne
  go_enter Tryd.func25, Tryd.ntmps25
  go_wp2_with fail
  generalize hW : World.alloc _ _ = W
  have q4 : W.heap[w.heap.size + 1]? = some (.cells #[.int .i64 0, .string ⟨#[]⟩, .slice none 0 0] 37 (0, 0)) := by rw [← hW]; exact nw22 _ _ _
  have q5 : Below w.heap.size w W := by rw [← hW]; exact bl_alloc (bl_alloc (Below.refl _ w) _) _
  have q6 : W.heap.size = w.heap.size + 2 := by rw [← hW]; simp
  have Q4 := Lib.hid q4
  have Q6 := Lib.hid q6
  clear hW q4 q6 cp2
  refine (keys_calls _ _).mono ?_
  rintro e w1 ⟨rfl, rfl⟩
  go_wp2_with fail
  refine (sorted_none (w := W) rfl (OwnsK.same HO.out (q5.block bk hblt)) hf.size HN.out).mono ?_
  rintro e w2 ⟨rfl, hb2⟩
  have hb := bl_trans (bl_alloc q5 (.cells #[.map (some bk)] 46)) hb2
  have h6 : w2.heap[w.heap.size + 1]? = some (.cells #[.int .i64 0, .string ⟨#[]⟩, .slice none 0 0] 37 (0, 0)) := by
    have hq := Q6.out
    rw [hb2.block _ (by simp; omega), one_old _ _ _ (by omega)]; exact Q4.out
  obtain ⟨⟨s0, s1, s2⟩, f0, f1, f2⟩ := res_cells h6
  clear h6 hb2
  go_wp2_with fail
  go_loopw [5, 15] (fun v5 v15 wr => v5 = .slice none 0 0 ∧ v15 = .int .i64 0 ∧ wr = w2) (fun _ _ _ => 0)
  case atStart => exact ⟨rfl, rfl, rfl⟩
  case round =>
    obtain ⟨rfl, rfl, rfl⟩ := hrel
    go_wp2
    refine bodyPost_ret (v := .agg #[.int .i64 0, .string ⟨#[]⟩, .slice none 0 0]) (by simp [results, Tryd.results25, go_sem, *]) rfl ⟨_, rfl, ?_, ?_, ?_⟩
    · have e3 : listD D fr = [] := by unfold listD listK; rw [HN.out]; rfl
      rw [e3]
      exact World.ownsRow_nil _ _ _ _
    · repeat (with_reducible refine own_set ?_ (by simp; omega) _)
      exact (OwnsK.same HO.out (hb.block bk hblt)).mono (by omega)
    · repeat (with_reducible refine gr_set ?_ (by simp) _)
      exact bl_grown hb _

theorem list_any (w : World) (p bk n : Nat) (D : DataW Unit) (fr : List UInt8) (h : IsM w p bk n D) (hf : Fine D) :
    Calls Tryd.prog 25 #[.pointer (some ⟨p, 0, none⟩), .agg #[.int .i64 4, .string ⟨fr.toArray⟩, .string ⟨#[]⟩]] w (AnswersL w bk n D 0 ⟨#[]⟩ (listD D fr)) := by
  by_cases hne : strKeys D = []
  · exact list_none w p bk n D fr h hf hne
  · exact list_some w p bk n D fr h hf hne

end Go.Proofs.YtlanhogdeiiecaaDoor
