/-
  The model's Do at this program, as a whole: what is answered, and what is known then.
-/
import Derived.Test.YtlanhogdeiiecaaDoorList
set_option linter.unusedVariables false
set_option linter.unusedSimpArgs false
namespace Go.Proofs.YtlanhogdeiiecaaDoor
open Go.RowKit Go.Shelf Go.Lib Go.Maps Go.Sort

theorem lawI : Keyed Tryd.prog 3 := int_keyed Tryd.underlying3
theorem keyI (k : Int) (h0 : 0 ≤ k) (h1 : k ≤ 100) : keyOf Tryd.prog 3 (.int .i64 k) = some (.int .i64 k) := keyOf_int_mk Tryd.underlying3 (WalkArith.wf_i64 (by omega))

/-- A small map of functions: its entries' keys are small numbers. -/
def Smalls (es : Array MapEntry) : Prop := ∀ e ∈ es.toList, ∃ j : Int, e.key = .int .i64 j ∧ 0 ≤ j ∧ j ≤ 100


set_option maxRecDepth 100000 in
theorem run_ins (W : World) (es : Array MapEntry) (clock : Nat) (k : Int) (v : Value) (h0 : 0 ≤ k) (h1 : k ≤ 100) (hs : Smalls es) (hf : ∀ e ∈ es.toList, e.key ≠ .int .i64 k) :
    (Instr.mapUpdate 51 (.map (some W.heap.size)) (.int .i64 k) v).run Tryd.prog (W.alloc (.map es clock)) = .ok () (W.alloc (.map (es.push ⟨.int .i64 k, v, clock⟩) (clock + 1))) := by
  have hb := (MapKept.heap_alloc W (.map es clock)).1
  have hset : { (W.alloc (.map es clock)) with heap := (W.alloc (.map es clock)).heap.setIfInBounds W.heap.size (.map (es.push ⟨.int .i64 k, v, clock⟩) (clock + 1)) } = W.alloc (.map (es.push ⟨.int .i64 k, v, clock⟩) (clock + 1)) := by
    have e1 : (W.heap.push (.map es clock)).setIfInBounds W.heap.size (.map (es.push ⟨.int .i64 k, v, clock⟩) (clock + 1)) = W.heap.push (.map (es.push ⟨.int .i64 k, v, clock⟩) (clock + 1)) := by
      apply Array.ext'
      simp
    show { W with heap := (W.heap.push (.map es clock)).setIfInBounds W.heap.size _ } = _
    rw [e1]
    rfl
  have hc := lawI.check (W.alloc (.map es clock)) false (keyI k h0 h1)
  rcases lawI.find (W.alloc (.map es clock)) (keyI k h0 h1) es.toList (fun e he => by obtain ⟨j, hj, j0, j1⟩ := hs e he; exact ⟨_, by rw [hj]; exact keyI j j0 j1⟩) with ⟨hfk, _⟩ | ⟨j, e0, _, hj, hk0⟩
  · simp only [Instr.mapUpdate, Sem.run_bind, run_underlying Tryd.underlying51, MapKept.run_getObj_map hb, hc, hfk, Result.andThen, MapKept.run_setObj_map _ hb]
    rw [hset]
  · exact absurd hk0 (hf e0 (List.mem_of_getElem? hj))

set_option maxRecDepth 100000 in
theorem run_get (W : World) (es : Array MapEntry) (clock : Nat) (k : Int) (v : Value) (h0 : 0 ≤ k) (h1 : k ≤ 100) (hs : Smalls es) (hu : ∀ e ∈ es.toList, e.key = .int .i64 k → e.val = v) (hin : ∃ e ∈ es.toList, e.key = .int .i64 k) :
    (Instr.lookup 51 (.map (some W.heap.size)) (.int .i64 k) false).run Tryd.prog (W.alloc (.map es clock)) = .ok v (W.alloc (.map es clock)) := by
  have hb := (MapKept.heap_alloc W (.map es clock)).1
  have hc := fun em => lawI.check (W.alloc (.map es clock)) em (keyI k h0 h1)
  rcases lawI.find (W.alloc (.map es clock)) (keyI k h0 h1) es.toList (fun e he => by obtain ⟨j, hj, j0, j1⟩ := hs e he; exact ⟨_, by rw [hj]; exact keyI j j0 j1⟩) with ⟨hfk, hno⟩ | ⟨j, e0, hfk, hj, hk0⟩
  · obtain ⟨e, he, hk⟩ := hin
    exact absurd hk (hno e he)
  · have hv := hu e0 (List.mem_of_getElem? hj) hk0
    simp [Instr.lookup, run_underlying Tryd.underlying51, MapKept.run_getObj_map hb, hc, hfk, Result.andThen, hv]

/-- What Do answers, and what the map reads as then. -/
structure Ans where
  D : DataW Unit
  c : Int
  v : ByteArray
  ks : List (List UInt8)

def doA (F : ByteArray → ByteArray) (D : DataW Unit) (kind : Int) (k v : ByteArray) : Ans :=
  if reqErr kind k v ≠ 0 then ⟨D, reqErr kind k v, ⟨#[]⟩, []⟩
  else if kind = 0 then (if isK D k.data.toList then ⟨D, 13, ⟨#[]⟩, []⟩ else ⟨D.put (.string k.data.toList) (kd v.data.toList false), 0, ⟨#[]⟩, []⟩)
  else if kind = 4 then ⟨D, 0, ⟨#[]⟩, listD D k.data.toList⟩
  else if thereD D k.data.toList then
    (if kind = 1 then ⟨D, 0, ⟨(look D k.data.toList).1.toArray⟩, []⟩
     else if kind = 2 then ⟨D.put (.string k.data.toList) (kd [] true), 0, ⟨#[]⟩, []⟩
     else ⟨D, 0, statV F ⟨(look D k.data.toList).1.toArray⟩, []⟩)
  else ⟨D, 9, ⟨#[]⟩, []⟩

theorem answersL_of {w : World} {bk n : Nat} {D : DataW Unit} {c : Int} {v : ByteArray} {e : Ending} {w' : World} (h : Answers w bk n D c v e w') : AnswersL w bk n D c v [] e w' :=
  ⟨_, h.1, World.ownsRow_nil _ _ _ _, h.2.1, h.2.2⟩
theorem answersL_later {w W : World} {bk n : Nat} {D : DataW Unit} {c : Int} {v : ByteArray} {ks : List (List UInt8)} {e : Ending} {w' : World} (hb : Below w.heap.size w W) (h : AnswersL W bk n D c v ks e w') : AnswersL w bk n D c v ks e w' := by
  obtain ⟨kv, h1, h2, h3, h4⟩ := h
  refine ⟨kv, h1, ?_, h3, gr_trans (bl_grown hb _) h4⟩
  have hz := hb.size
  refine ⟨h2.1, ?_⟩
  rcases h2.2 with h | ⟨g, cap, cur, e1, e2, r⟩
  · exact .inl h
  · exact .inr ⟨g, cap, cur, e1, by omega, r⟩

set_option maxRecDepth 100000 in
set_option maxHeartbeats 2000000 in
theorem do_err (w : World) (p bk n : Nat) (D : DataW Unit) (kind : Int) (k v : ByteArray) (hk : k.size < 16384) (hv : v.size < 16384) (h : IsM w p bk n D) (he : reqErr kind k v ≠ 0) :
    Calls Tryd.prog 12 #[.pointer (some ⟨p, 0, none⟩), .agg #[.int .i64 kind, .string k, .string v]] w (Answers w bk n D (reqErr kind k v) ⟨#[]⟩) := by
  obtain ⟨hp, hown⟩ := h
  have HO := Lib.hid hown
  clear hown hp
  generalize hr : reqErr kind k v = r at he
  have HR := Lib.hid hr
  clear hr
  have hr0 : (r != 0) = true := by simpa using he
  clear he
  go_enter Tryd.func12, Tryd.ntmps12
  go_wp2_with fail
  generalize hW : World.alloc _ _ = W
  have q4 : W.heap[w.heap.size + 1]? = some (.cells #[.int .i64 0, .string ⟨#[]⟩, .slice none 0 0] 37 (0, 0)) := by rw [← hW]; exact nw22 _ _ _
  have q5 : Below w.heap.size w W := by rw [← hW]; exact bl_alloc (bl_alloc (Below.refl _ w) _) _
  have Q4 := Lib.hid q4
  clear hW q4
  refine (req_any kind k v hk hv _).mono ?_
  rw [HR.out]
  rintro e w1 ⟨rfl, hb1⟩
  have q1 := (hb1.block _ (Array.getElem?_eq_some_iff.1 Q4.out).1).trans Q4.out
  obtain ⟨⟨s0, s1, s2⟩, f0, f1, f2⟩ := res_cells q1
  have hb := bl_trans q5 hb1
  clear q1
  go_wp2
  refine bodyPost_ret (v := .agg #[.int .i64 r, .string ⟨#[]⟩, .slice none 0 0]) (by simp [results, Tryd.results12, go_sem, *]) rfl (answers_of HO.out ?_)
  repeat (with_reducible refine bl_set ?_ (by simp) _)
  exact hb

/-- A method of the model in block p as a value. -/
def meth (p f : Nat) : Value := .func (.func f) #[.pointer (some ⟨p, 0, none⟩)] #[]
def ent (p : Nat) (k : Int) (f born : Nat) : MapEntry := ⟨.int .i64 k, meth p f, born⟩

theorem ins_all (W : World) (p : Nat) :
    (Instr.mapUpdate 51 (.map (some W.heap.size)) (.int .i64 0) (meth p 21)).run Tryd.prog (W.alloc (.map #[] 0)) = .ok () (W.alloc (.map #[ent p 0 21 0] 1)) ∧
    (Instr.mapUpdate 51 (.map (some W.heap.size)) (.int .i64 1) (meth p 22)).run Tryd.prog (W.alloc (.map #[ent p 0 21 0] 1)) = .ok () (W.alloc (.map #[ent p 0 21 0, ent p 1 22 1] 2)) ∧
    (Instr.mapUpdate 51 (.map (some W.heap.size)) (.int .i64 2) (meth p 23)).run Tryd.prog (W.alloc (.map #[ent p 0 21 0, ent p 1 22 1] 2)) = .ok () (W.alloc (.map #[ent p 0 21 0, ent p 1 22 1, ent p 2 23 2] 3)) ∧
    (Instr.mapUpdate 51 (.map (some W.heap.size)) (.int .i64 3) (meth p 24)).run Tryd.prog (W.alloc (.map #[ent p 0 21 0, ent p 1 22 1, ent p 2 23 2] 3)) = .ok () (W.alloc (.map #[ent p 0 21 0, ent p 1 22 1, ent p 2 23 2, ent p 3 24 3] 4)) ∧
    (Instr.mapUpdate 51 (.map (some W.heap.size)) (.int .i64 4) (meth p 25)).run Tryd.prog (W.alloc (.map #[ent p 0 21 0, ent p 1 22 1, ent p 2 23 2, ent p 3 24 3] 4)) = .ok () (W.alloc (.map #[ent p 0 21 0, ent p 1 22 1, ent p 2 23 2, ent p 3 24 3, ent p 4 25 4] 5)) := by
  refine ⟨?_, ?_, ?_, ?_, ?_⟩
  · exact run_ins W #[] 0 0 _ (by decide) (by decide) (by simp [Smalls]) (by simp)
  · exact run_ins W #[ent p 0 21 0] 1 1 _ (by decide) (by decide) (by simp [Smalls, ent]) (by simp [ent])
  · exact run_ins W #[ent p 0 21 0, ent p 1 22 1] 2 2 _ (by decide) (by decide) (by simp [Smalls, ent]) (by simp [ent])
  · exact run_ins W #[ent p 0 21 0, ent p 1 22 1, ent p 2 23 2] 3 3 _ (by decide) (by decide) (by simp [Smalls, ent]) (by simp [ent])
  · exact run_ins W #[ent p 0 21 0, ent p 1 22 1, ent p 2 23 2, ent p 3 24 3] 4 4 _ (by decide) (by decide) (by simp [Smalls, ent]) (by simp [ent])

def allEnts (p : Nat) : Array MapEntry := #[ent p 0 21 0, ent p 1 22 1, ent p 2 23 2, ent p 3 24 3, ent p 4 25 4]

/-- Which method a kind of request is handed to. -/
def Method (kind : Int) (f : Nat) : Prop :=
  (kind = 0 ∧ f = 21) ∨ (kind = 1 ∧ f = 22) ∨ (kind = 2 ∧ f = 23) ∨ (kind = 3 ∧ f = 24) ∨ (kind = 4 ∧ f = 25)

theorem get_all (W : World) (p : Nat) {kind : Int} {f : Nat} (h : Method kind f) :
    (Instr.lookup 51 (.map (some W.heap.size)) (.int .i64 kind) false).run Tryd.prog (W.alloc (.map (allEnts p) 5)) = .ok (meth p f) (W.alloc (.map (allEnts p) 5)) := by
  rcases h with ⟨rfl, rfl⟩ | ⟨rfl, rfl⟩ | ⟨rfl, rfl⟩ | ⟨rfl, rfl⟩ | ⟨rfl, rfl⟩ <;>
    exact run_get W _ _ _ _ (by decide) (by decide) (by simp [Smalls, allEnts, ent]) (by simp [allEnts, ent]) (by simp [allEnts, ent])

theorem meth_enters {kind : Int} {f : Nat} (h : Method kind f) : ∀ args w, (callFunc f args).run Tryd.prog w = .ok (.enter f args) w := by
  rcases h with ⟨_, rfl⟩ | ⟨_, rfl⟩ | ⟨_, rfl⟩ | ⟨_, rfl⟩ | ⟨_, rfl⟩
  · exact enters_of (P := Tryd.prog) Tryd.func21 (by kernel_rfl) rfl
  · exact enters_of (P := Tryd.prog) Tryd.func22 (by kernel_rfl) rfl
  · exact enters_of (P := Tryd.prog) Tryd.func23 (by kernel_rfl) rfl
  · exact enters_of (P := Tryd.prog) Tryd.func24 (by kernel_rfl) rfl
  · exact enters_of (P := Tryd.prog) Tryd.func25 (by kernel_rfl) rfl

set_option maxRecDepth 100000 in
set_option maxHeartbeats 2000000 in
theorem do_via (w : World) (p bk n : Nat) (D D2 : DataW Unit) (kind : Int) (k v : ByteArray) (c : Int) (a : ByteArray) (ks : List (List UInt8)) (f : Nat) (hm : Method kind f)
    (hk : k.size < 16384) (hv : v.size < 16384) (hbk : bk < w.heap.size) (he : reqErr kind k v = 0)
    (hcl : ∀ W, Below w.heap.size w W → Calls Tryd.prog f #[.pointer (some ⟨p, 0, none⟩), .agg #[.int .i64 kind, .string k, .string v]] W (AnswersL W bk n D2 c a ks)) :
    Calls Tryd.prog 12 #[.pointer (some ⟨p, 0, none⟩), .agg #[.int .i64 kind, .string k, .string v]] w (AnswersL w bk n D2 c a ks) := by
  have HC := Lib.hid hcl
  have HR := Lib.hid he
  have HM := Lib.hid hm
  clear hcl he hm
  go_enter Tryd.func12, Tryd.ntmps12
  go_wp2_with fail
  generalize hW : World.alloc _ _ = W
  have q4 : W.heap[w.heap.size + 1]? = some (.cells #[.int .i64 0, .string ⟨#[]⟩, .slice none 0 0] 37 (0, 0)) := by rw [← hW]; exact nw22 _ _ _
  have q3 : W.heap[w.heap.size]? = some (.cells #[.int .i64 kind, .string k, .string v] 32 (0, 0)) := by rw [← hW, one_old _ _ _ (by simp)]; exact (MapKept.heap_alloc w _).1
  have q5 : Below w.heap.size w W := by rw [← hW]; exact bl_alloc (bl_alloc (Below.refl _ w) _) _
  have Q4 := Lib.hid q4
  have Q3 := Lib.hid q3
  clear hW q4 q3
  refine (req_any kind k v hk hv _).mono ?_
  rw [HR.out]
  rintro e w1 ⟨rfl, hb1⟩
  have q1 := (hb1.block _ (Array.getElem?_eq_some_iff.1 Q4.out).1).trans Q4.out
  have q3 := (hb1.block _ (Array.getElem?_eq_some_iff.1 Q3.out).1).trans Q3.out
  have hb := bl_trans q5 hb1
  have Q4' := Lib.hid q1
  have l3 := (Array.getElem?_eq_some_iff.1 q3).1
  have l1 := (Array.getElem?_eq_some_iff.1 q1).1
  have b3 := (one_old w1 (.map (allEnts p) 5) _ l3).trans q3
  have r0 : (w1.alloc (.map (allEnts p) 5)).cell? ⟨w.heap.size, 0, none⟩ = some (.int .i64 kind) := by rw [Lib.cell_of_heap b3]; rfl
  have r1 : (w1.alloc (.map (allEnts p) 5)).cell? ⟨w.heap.size, 1, none⟩ = some (.string k) := by rw [Lib.cell_of_heap b3]; rfl
  have r2 : (w1.alloc (.map (allEnts p) 5)).cell? ⟨w.heap.size, 2, none⟩ = some (.string v) := by rw [Lib.cell_of_heap b3]; rfl
  obtain ⟨i0, i1, i2, i3, i4⟩ := ins_all w1 p
  have hg := get_all w1 p HM.out
  have hmm := @run_makeMap Tryd.prog
  have eg := meth_enters HM.out
  unfold meth allEnts ent meth at *
  clear q1 q3 b3 l1 l3
  go_wp2_with fail
  have hbW := bl_alloc hb (.map (allEnts p) 5)
  have q1 := (one_old w1 (.map (allEnts p) 5) _ (Array.getElem?_eq_some_iff.1 Q4'.out).1).trans Q4'.out
  unfold allEnts ent meth at hbW q1
  refine (HC.out _ hbW).mono ?_
  rintro e w2 ⟨kv, rfl, g1, g2, g3⟩
  have q2 := (g3.block _ (Array.getElem?_eq_some_iff.1 q1).1 (fun e => by have := Option.some.inj e; omega)).trans q1
  obtain ⟨⟨s0, s1, s2⟩, f0, f1, f2⟩ := res_cells q2
  obtain ⟨ao, cap5, rfl⟩ : ∃ ao cap5, kv = .slice ao ks.length cap5 := by
    rcases g1.2 with ⟨hv, h0⟩ | ⟨g', c', cur, hv, _⟩
    · exact ⟨none, 0, by rw [hv, h0]⟩
    · exact ⟨_, _, hv⟩
  have G1 := Lib.hid g1
  have n2 : (Value.slice ao ks.length cap5).ownBlock ≠ some (w.heap.size + 1) := own_ne (cs := []) g1 q2 (by decide)
  have hz := hbW.size
  clear i0 i1 i2 i3 i4 hg hmm eg q1 q2 g1
  go_wp2
  refine bodyPost_ret (v := .agg #[.int .i64 c, .string a, .slice ao ks.length cap5]) (by simp [results, Tryd.results12, go_sem, *]) rfl ⟨_, rfl, ?_, ?_, ?_⟩
  · repeat (with_reducible refine ownsS_set ?_ n2 _)
    refine ⟨G1.out.1, ?_⟩
    rcases G1.out.2 with h | ⟨g, cap, cur, e1, e2, r⟩
    · exact .inl h
    · exact .inr ⟨g, cap, cur, e1, by omega, r⟩
  · repeat (with_reducible refine own_set ?_ (by simp; omega) _)
    exact g2
  · repeat (with_reducible refine gr_set ?_ (by simp) _)
    exact gr_trans (bl_grown hbW _) g3

theorem req_ok {kind : Int} {k v : ByteArray} (h : reqErr kind k v = 0) : 0 ≤ kind ∧ kind ≤ 4 ∧ (kind ≠ 0 → v = ⟨#[]⟩) := by
  unfold reqErr at h
  split at h
  · cases h
  · rename_i hn
    refine ⟨by omega, by omega, fun hk => ?_⟩
    have hv : v.toList.isEmpty = true := by
      cases hq : v.toList.isEmpty with
      | true => rfl
      | false => exact absurd (.inr (.inr ⟨hk, hq⟩)) hn
    have h0 := toList_nil.1 (List.isEmpty_iff.1 hv)
    cases v with
    | mk a =>
      have : a = #[] := Array.eq_empty_of_size_eq_zero h0
      rw [this]

theorem ba_eta (k : ByteArray) : (⟨k.data.toList.toArray⟩ : ByteArray) = k := by cases k; simp

/-- WHAT Do ANSWERS, AND WHAT THE MAP READS AS THEN. -/
theorem do_any {F : ByteArray → ByteArray} (hF : SumOk F) (w : World) (htab : Tab w) (p bk n : Nat) (D : DataW Unit) (kind : Int) (k v : ByteArray)
    (hk : k.size < 16384) (hv : v.size < 16384) (hn : n < 1000000) (h : IsM w p bk n D) (hf : Fine D) :
    Calls Tryd.prog 12 #[.pointer (some ⟨p, 0, none⟩), .agg #[.int .i64 kind, .string k, .string v]] w
      (AnswersL w bk n (doA F D kind k v).D (doA F D kind k v).c (doA F D kind k v).v (doA F D kind k v).ks) := by
  have hkm : k.size ≤ maxLen := by unfold maxLen; omega
  have hnm : n < maxLen := by unfold maxLen; omega
  unfold doA
  by_cases he : reqErr kind k v = 0
  · rw [if_neg (by simpa using he)]
    obtain ⟨k0, k4, kv⟩ := req_ok he
    by_cases h0 : kind = 0
    · rw [if_pos h0]
      cases hh : isK D k.data.toList with
      | true =>
        refine do_via w p bk n D _ kind k v _ _ _ _ (.inl ⟨h0, rfl⟩) hk hv h.2.lt he (fun W hb => ?_)
        exact (put_held W p bk n D kind k v hkm (isM_below h hb) hh).mono fun _ _ a => answersL_of a
      | false =>
        refine do_via w p bk n D _ kind k v _ _ _ _ (.inl ⟨h0, rfl⟩) hk hv h.2.lt he (fun W hb => ?_)
        exact (put_new W p bk n D kind k v hkm hnm (isM_below h hb) hh).mono fun _ _ a => answersL_of a
    · rw [if_neg h0]
      by_cases h4 : kind = 4
      · rw [if_pos h4]
        obtain rfl := kv h0
        subst h4
        refine do_via w p bk n D _ _ k _ _ _ _ _ (.inr (.inr (.inr (.inr ⟨rfl, rfl⟩)))) hk hv h.2.lt he (fun W hb => ?_)
        have := list_any W p bk n D k.data.toList (isM_below h hb) hf
        rw [ba_eta] at this
        exact this
      · rw [if_neg h4]
        by_cases h1 : kind = 1
        · refine do_via w p bk n D _ kind k v _ _ _ _ (.inr (.inl ⟨h1, rfl⟩)) hk hv h.2.lt he (fun W hb => ?_)
          refine (get_any W p bk n D kind k v hkm (isM_below h hb)).mono fun _ _ a => ?_
          cases ht : thereD D k.data.toList with
          | true => rw [ht] at a; simp only [if_true, h1] at a ⊢; exact answersL_of a
          | false => rw [ht] at a; simp at a ⊢; exact answersL_of a
        · by_cases h2 : kind = 2
          · refine do_via w p bk n D _ kind k v _ _ _ _ (.inr (.inr (.inl ⟨h2, rfl⟩))) hk hv h.2.lt he (fun W hb => ?_)
            refine (remove_any W p bk n D kind k v hkm hnm (isM_below h hb)).mono fun _ _ a => ?_
            cases ht : thereD D k.data.toList with
            | true => rw [ht] at a; simp [h2] at a ⊢; exact answersL_of a
            | false => rw [ht] at a; simp at a ⊢; exact answersL_of a
          · have h3 : kind = 3 := by omega
            refine do_via w p bk n D _ kind k v _ _ _ _ (.inr (.inr (.inr (.inl ⟨h3, rfl⟩)))) hk hv h.2.lt he (fun W hb => ?_)
            refine (stat_any hF W (tab_below htab hb) p bk n D kind k v hkm (hf.vals _) (isM_below h hb)).mono fun _ _ a => ?_
            cases ht : thereD D k.data.toList with
            | true => rw [ht] at a; simp [h3] at a ⊢; exact answersL_of a
            | false => rw [ht] at a; simp at a ⊢; exact answersL_of a
  · rw [if_pos (by simpa using he)]
    exact (do_err w p bk n D kind k v hk hv h he).mono fun _ _ a => answersL_of a

/-- The model is one still. -/
theorem isM_after {w w' : World} {p bk n m : Nat} {D D' : DataW Unit} (h : IsM w p bk n D) (ho : OwnsK w' bk m D') (hg : w.grownBy w' (some bk)) : IsM w' p bk m D' := by
  obtain ⟨hp, es, clock, hm, _⟩ := h
  refine ⟨(hg.block p (Array.getElem?_eq_some_iff.1 hp).1 (fun e => ?_)).trans hp, ho⟩
  rw [Option.some.inj e, hm] at hp
  cases hp

theorem state_any (w : World) (p bk n : Nat) (D : DataW Unit) (h : IsM w p bk n D) (hf : Fine D) :
    Calls Tryd.prog 14 #[.pointer (some ⟨p, 0, none⟩)] w (RetBelow (.string (stateS D)) w) := by
  by_cases hne : strKeys D = []
  · exact state_none w p bk n D h hf hne
  · exact state_some w p bk n D h hf hne

end Go.Proofs.YtlanhogdeiiecaaDoor
