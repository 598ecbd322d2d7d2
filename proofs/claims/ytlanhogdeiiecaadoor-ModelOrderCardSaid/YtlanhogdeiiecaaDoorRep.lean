/-
  What the model's map reads as, as a list of keys that rise: puts, state, lists over it (plain).
-/
import Derived.Test.YtlanhogdeiiecaaDoorPure
set_option linter.unusedVariables false
set_option linter.unusedSimpArgs false
namespace Go.Proofs.YtlanhogdeiiecaaDoor
open Go.RowKit Go.Shelf Go.Lib Go.Maps Go.Sort

abbrev Ent := List UInt8 × List UInt8 × Bool
def toD (L : List Ent) : DataW Unit := .map (L.map fun e => (.string e.1, kd e.2.1 e.2.2))
def Rising (L : List Ent) : Prop := L.Pairwise fun a b => a.1 < b.1
def putL (x : Ent) : List Ent → List Ent
  | [] => [x]
  | e :: r => if x.1 < e.1 then x :: e :: r else if x.1 = e.1 then x :: r else e :: putL x r

theorem lt_irr (a : List UInt8) : ¬ a < a := List.lt_irrefl a
theorem lt_tr {a b c : List UInt8} (h : a < b) (k : b < c) : a < c := List.lt_trans h k
theorem lt_neq {a b : List UInt8} (h : a < b) : a ≠ b := fun e => by subst e; exact lt_irr _ h

theorem lt_total {a b : List UInt8} (h : ¬ a < b) (hne : a ≠ b) : b < a := Std.lt_of_le_of_ne (List.not_lt.1 h) (fun e => hne e.symm)

def encE (e : Ent) : Lit × DataW Unit := (.string e.1, kd e.2.1 e.2.2)
theorem toD_eq (L : List Ent) : toD L = .map (L.map encE) := rfl
theorem same_enc (e : Ent) (k : List UInt8) : (encE e).1.sameKey (.string k) = (e.1 == k) := rfl
theorem filt_all {k : List UInt8} {r : List Ent} (h : ∀ e ∈ r, e.1 ≠ k) : (r.map encE).filter (fun p => !p.1.sameKey (.string k)) = r.map encE := by
  rw [List.filter_eq_self]
  intro p hp
  obtain ⟨e, he, rfl⟩ := List.mem_map.1 hp
  rw [same_enc]
  simpa using h e he
theorem ins_front {x : Ent} : ∀ {r : List Ent}, (∀ e ∈ r, x.1 < e.1) → DataW.insert (encE x) (r.map encE) = encE x :: r.map encE
  | [], _ => rfl
  | e :: r, h => by
    have : (encE x).1.before (encE e).1 = true := (before_lt _ _).2 (h e (by simp))
    simp only [List.map_cons, DataW.insert, this, if_true]

theorem ins_putL {x : Ent} : ∀ {L : List Ent}, Rising L → DataW.insert (encE x) ((L.map encE).filter (fun p => !p.1.sameKey (.string x.1))) = (putL x L).map encE
  | [], _ => rfl
  | e :: r, h => by
    obtain ⟨h1, h2⟩ := List.pairwise_cons.1 h
    by_cases hlt : x.1 < e.1
    · have hall : ∀ e' ∈ e :: r, e'.1 ≠ x.1 := fun e' he' => by
        rcases List.mem_cons.1 he' with rfl | he'
        · exact (lt_neq hlt).symm
        · exact (lt_neq (lt_tr hlt (h1 e' he'))).symm
      rw [filt_all hall, putL, if_pos hlt]
      exact ins_front (fun e' he' => by
        rcases List.mem_cons.1 he' with rfl | he'
        · exact hlt
        · exact lt_tr hlt (h1 e' he'))
    · by_cases heq : x.1 = e.1
      · rw [putL, if_neg hlt, if_pos heq]
        have : (encE e).1.sameKey (.string x.1) = true := by rw [same_enc]; simpa using heq.symm
        rw [List.map_cons, List.filter_cons, this]
        simp only [Bool.not_true, Bool.false_eq_true, if_false]
        rw [filt_all (fun e' he' => by rw [heq]; exact (lt_neq (h1 e' he')).symm)]
        exact ins_front (fun e' he' => by rw [heq]; exact h1 e' he')
      · rw [putL, if_neg hlt, if_neg heq]
        have hs : (encE e).1.sameKey (.string x.1) = false := by rw [same_enc]; simpa using fun h => heq h.symm
        have hb : (encE x).1.before (encE e).1 = false := by
          cases hq : (encE x).1.before (encE e).1 with
          | false => rfl
          | true => exact absurd ((before_lt _ _).1 hq) hlt
        rw [List.map_cons, List.filter_cons, hs]
        simp only [Bool.not_false, if_true, DataW.insert, hb, List.map_cons]
        rw [ins_putL h2]
        simp

theorem toD_put {x : Ent} {L : List Ent} (h : Rising L) : (toD L).put (.string x.1) (kd x.2.1 x.2.2) = toD (putL x L) := by
  rw [toD_eq, toD_eq]
  show DataW.map (DataW.insert (encE x) _) = _
  rw [ins_putL h]

theorem mem_putL {x y : Ent} : ∀ {L : List Ent}, y ∈ putL x L → y = x ∨ y ∈ L
  | [], h => by simp [putL] at h; exact .inl h
  | e :: r, h => by
    unfold putL at h
    split at h
    · simpa using h
    · split at h
      · rcases List.mem_cons.1 h with h | h
        · exact .inl h
        · exact .inr (by simp [h])
      · rcases List.mem_cons.1 h with h | h
        · exact .inr (by simp [h])
        · rcases mem_putL h with h | h
          · exact .inl h
          · exact .inr (by simp [h])

theorem rising_putL {x : Ent} : ∀ {L : List Ent}, Rising L → Rising (putL x L)
  | [], _ => by simp [putL, Rising]
  | e :: r, h => by
    obtain ⟨h1, h2⟩ := List.pairwise_cons.1 h
    unfold putL
    split
    · rename_i hlt
      refine List.pairwise_cons.2 ⟨fun e' he' => ?_, h⟩
      rcases List.mem_cons.1 he' with rfl | he'
      · exact hlt
      · exact lt_tr hlt (h1 e' he')
    · split
      · rename_i heq
        exact List.pairwise_cons.2 ⟨fun e' he' => by rw [heq]; exact h1 e' he', h2⟩
      · rename_i hlt heq
        refine List.pairwise_cons.2 ⟨fun e' he' => ?_, rising_putL h2⟩
        rcases mem_putL he' with rfl | he'
        · exact lt_total hlt heq
        · exact h1 e' he'

theorem strKeys_toD (L : List Ent) : strKeys (toD L) = L.map (·.1) := by
  rw [toD_eq]
  simp only [strKeys, List.map_map]
  rfl

theorem isK_toD (L : List Ent) (k : List UInt8) : isK (toD L) k = L.any (fun e => e.1 == k) := by
  unfold isK
  rw [toD_eq, has_eq, List.any_map]
  rfl

def lookL (L : List Ent) (k : List UInt8) : List UInt8 × Bool := match L.find? (fun e => e.1 == k) with
  | some e => e.2
  | none => ([], false)
theorem look_toD (L : List Ent) (k : List UInt8) : look (toD L) k = lookL L k := by
  have e : (L.map encE).find? (fun p => p.1.sameKey (.string k)) = (L.find? (fun e => e.1 == k)).map encE := by
    rw [List.find?_map]
    rfl
  unfold look lookL
  rw [toD_eq]
  simp only [DataW.atKey, e]
  cases L.find? (fun e => e.1 == k) with
  | none => rfl
  | some x => rfl

theorem lookL_mem {L : List Ent} (h : Rising L) {e : Ent} (he : e ∈ L) : lookL L e.1 = e.2 := by
  have : L.find? (fun x => x.1 == e.1) = some e := by
    induction L with
    | nil => simp at he
    | cons x r ih =>
      obtain ⟨h1, h2⟩ := List.pairwise_cons.1 h
      rcases List.mem_cons.1 he with rfl | he
      · simp
      · have hne : (x.1 == e.1) = false := by simpa using lt_neq (h1 e he)
        rw [List.find?_cons, hne]
        exact ih h2 he
  unfold lookL
  rw [this]

def entE (e : Ent) : List UInt8 := entryL e.1 e.2
theorem stateL_toD {L : List Ent} (h : Rising L) : stateL (toD L) = L.flatMap entE := by
  unfold stateL stateK
  rw [strKeys_toD, List.flatMap_map]
  have : ∀ (M : List Ent), (∀ e ∈ M, e ∈ L) → (M.flatMap fun e => entryL e.1 (look (toD L) e.1)) = M.flatMap entE := by
    intro M hM
    induction M with
    | nil => rfl
    | cons x r ih =>
      rw [List.flatMap_cons, List.flatMap_cons, ih (fun e he => hM e (by simp [he])), look_toD, lookL_mem h (hM x (by simp))]
      rfl
  exact this L (fun e he => he)

theorem listD_toD {L : List Ent} (h : Rising L) (fr : List UInt8) : listD (toD L) fr = ((L.filter fun e => !e.2.2 && !Op.bytesLess e.1 fr).map (·.1)).take 16 := by
  unfold listD listK
  rw [strKeys_toD]
  congr 1
  have : ∀ (M : List Ent), (∀ e ∈ M, e ∈ L) → ((M.map (·.1)).filter (inc (toD L) fr)) = (M.filter fun e => !e.2.2 && !Op.bytesLess e.1 fr).map (·.1) := by
    intro M hM
    induction M with
    | nil => rfl
    | cons x r ih =>
      have hx : inc (toD L) fr x.1 = (!x.2.2 && !Op.bytesLess x.1 fr) := by
        unfold inc
        rw [look_toD, lookL_mem h (hM x (by simp))]
      rw [List.map_cons, List.filter_cons, List.filter_cons, hx, ih (fun e he => hM e (by simp [he]))]
      split <;> simp
  exact this L (fun e he => he)

/-- What a map reads as is such a list. -/
def Rep (D : DataW Unit) (L : List Ent) : Prop := D = toD L ∧ Rising L
theorem rep_empty : Rep (.map []) [] := ⟨rfl, List.Pairwise.nil⟩
theorem rep_put {D : DataW Unit} {L : List Ent} (h : Rep D L) (k v : List UInt8) (g : Bool) : Rep (D.put (.string k) (kd v g)) (putL (k, v, g) L) := by
  obtain ⟨rfl, hr⟩ := h
  exact ⟨toD_put (x := (k, v, g)) hr, rising_putL hr⟩
theorem rep_do (F : ByteArray → ByteArray) {D : DataW Unit} {L : List Ent} (h : Rep D L) (kind : Int) (k v : ByteArray) : ∃ L', Rep (doA F D kind k v).D L' := by
  rcases doA_cases F (D := D) (kind := kind) (k := k) (v := v) with ⟨_, e, _⟩ | ⟨_, _, e⟩ | ⟨_, e⟩ | ⟨_, _, e⟩ | ⟨_, _, e⟩ | ⟨_, _, e⟩
  · rw [e]; exact ⟨L, h⟩
  · rw [e]; exact ⟨_, rep_put h _ _ _⟩
  · rw [e]; exact ⟨L, h⟩
  · rw [e]; exact ⟨L, h⟩
  · rw [e]; exact ⟨_, rep_put h _ _ _⟩
  · rw [e]; exact ⟨L, h⟩
theorem rep_tidy {D : DataW Unit} {L : List Ent} (h : Rep D L) : Tidy D := by
  obtain ⟨rfl, hr⟩ := h
  refine ⟨_, rfl, ?_⟩
  rw [List.pairwise_map]
  exact hr.imp fun hab => lit_ne (lt_neq hab)

/-! ### what changes the state -/
theorem putL_split {x : Ent} : ∀ {L : List Ent}, (∀ e ∈ L, e.1 ≠ x.1) → ∃ a b, L = a ++ b ∧ putL x L = a ++ x :: b
  | [], _ => ⟨[], [], rfl, rfl⟩
  | e :: r, h => by
    by_cases hlt : x.1 < e.1
    · exact ⟨[], e :: r, rfl, by rw [putL, if_pos hlt]; rfl⟩
    · obtain ⟨a, b, h1, h2⟩ := putL_split (x := x) (L := r) (fun e' he' => h e' (by simp [he']))
      exact ⟨e :: a, b, by rw [h1]; rfl, by rw [putL, if_neg hlt, if_neg (fun q => h e (by simp) q.symm), h2]; rfl⟩
theorem putL_over {x : Ent} : ∀ {L : List Ent}, Rising L → ∀ {y : Ent}, y ∈ L → y.1 = x.1 → ∃ a b, L = a ++ y :: b ∧ putL x L = a ++ x :: b
  | [], _, _, h, _ => by simp at h
  | e :: r, h, y, hy, hk => by
    obtain ⟨h1, h2⟩ := List.pairwise_cons.1 h
    rcases List.mem_cons.1 hy with rfl | hy
    · exact ⟨[], r, rfl, by rw [putL, if_neg (by rw [hk]; exact lt_irr _), if_pos hk.symm]; rfl⟩
    · have hlt := h1 y hy
      rw [hk] at hlt
      obtain ⟨a, b, e1, e2⟩ := putL_over h2 hy hk
      exact ⟨e :: a, b, by rw [e1]; rfl, by rw [putL, if_neg (fun q => lt_irr _ (lt_tr q hlt)), if_neg (fun q => lt_neq hlt q.symm), e2]; rfl⟩

theorem entE_len (e : Ent) : 1 ≤ (entE e).length := by
  unfold entE entryL
  split <;> simp <;> omega
theorem state_put_ne {D : DataW Unit} {L : List Ent} (h : Rep D L) {k : List UInt8} (hk : isK D k = false) (v : List UInt8) (g : Bool) : stateL (D.put (.string k) (kd v g)) ≠ stateL D := by
  obtain ⟨e2, hr2⟩ := rep_put h k v g
  obtain ⟨rfl, hr⟩ := h
  rw [e2, stateL_toD hr2, stateL_toD hr]
  have hno : ∀ e ∈ L, e.1 ≠ k := by
    rw [isK_toD, List.any_eq_false] at hk
    intro e he
    simpa using hk e he
  obtain ⟨a, b, h1, h2⟩ := putL_split (x := (k, v, g)) hno
  rw [h2, h1]
  intro e
  have := congrArg List.length e
  simp only [List.flatMap_append, List.flatMap_cons, List.length_append] at this
  have := entE_len (k, v, g)
  omega
theorem there_mem {L : List Ent} {k : List UInt8} (h : thereD (toD L) k = true) : ∃ v, (k, v, false) ∈ L := by
  simp only [thereD, Bool.and_eq_true, Bool.not_eq_true'] at h
  rw [look_toD] at h
  obtain ⟨h1, h2⟩ := h
  rw [isK_toD, List.any_eq_true] at h1
  obtain ⟨e, he, hk⟩ := h1
  have hs : (L.find? (fun e => e.1 == k)).isSome = true := by rw [List.find?_isSome]; exact ⟨e, he, hk⟩
  cases hf : L.find? (fun e => e.1 == k) with
  | none => rw [hf] at hs; cases hs
  | some x =>
    have hx := List.find?_some hf
    have hm := List.mem_of_find?_eq_some hf
    unfold lookL at h2
    rw [hf] at h2
    obtain ⟨a, b, c⟩ := x
    simp only at h2 hx
    have hx' : a = k := by simpa using hx
    subst hx' h2
    exact ⟨b, hm⟩
theorem state_gone_ne {D : DataW Unit} {L : List Ent} (h : Rep D L) {k : List UInt8} (hk : thereD D k = true) : stateL (D.put (.string k) (kd [] true)) ≠ stateL D := by
  obtain ⟨e2, hr2⟩ := rep_put h k [] true
  obtain ⟨rfl, hr⟩ := h
  rw [e2, stateL_toD hr2, stateL_toD hr]
  obtain ⟨v, hm⟩ := there_mem hk
  obtain ⟨a, b, h1, h2⟩ := putL_over (x := (k, [], true)) hr hm rfl
  rw [h2, h1]
  intro e
  simp only [List.flatMap_append, List.flatMap_cons] at e
  have e' := List.append_cancel_left e
  unfold entE entryL at e'
  simp only [List.append_assoc, if_true, Bool.false_eq_true, if_false] at e'
  have e3 := List.append_cancel_left e'
  simp at e3

/-- Does a request change what is known? -/
def changesB (F : ByteArray → ByteArray) (D : DataW Unit) (kind : Int) (k v : ByteArray) : Bool := decide ((doA F D kind k v).c = 0) && (decide (kind = 0) || decide (kind = 2))
theorem changes_state (F : ByteArray → ByteArray) {D : DataW Unit} {L : List Ent} (h : Rep D L) (kind : Int) (k v : ByteArray) :
    (stateL (doA F D kind k v).D = stateL D ↔ changesB F D kind k v = false) ∧ (changesB F D kind k v = false → (doA F D kind k v).D = D) := by
  unfold changesB
  rcases doA_cases F (D := D) (kind := kind) (k := k) (v := v) with ⟨e0, e, _⟩ | ⟨e0, hi, e⟩ | ⟨e0, e⟩ | ⟨e0, _, e⟩ | ⟨e0, ht, e⟩ | ⟨e0, _, e⟩
  · rw [e]; simp [e0]
  · rw [e]; simp only [e0]
    have := state_put_ne h hi v.data.toList false
    simp [this]
  · rw [e]; simp [e0]
  · rw [e]; simp [e0]
  · rw [e]; simp only [e0]
    have := state_gone_ne h ht
    simp [this]
  · rw [e]; simp [e0]

/-! ### two requests of two keys -/
theorem put_comm {D : DataW Unit} {L : List Ent} (h : Rep D L) {k k' : List UInt8} (hne : k ≠ k') (v v' : List UInt8) (g g' : Bool) :
    (D.put (.string k) (kd v g)).put (.string k') (kd v' g') = (D.put (.string k') (kd v' g')).put (.string k) (kd v g) := by
  have r1 := rep_put (rep_put h k v g) k' v' g'
  have r2 := rep_put (rep_put h k' v' g') k v g
  have c1 : ∀ {D : DataW Unit} {L : List Ent}, Rep D L → Canon D := by
    rintro D L ⟨rfl, hr⟩
    refine ⟨_, rfl, ?_, ?_⟩
    · rw [List.pairwise_map]
      exact hr.imp fun hab => (before_lt _ _).2 hab
    · intro p hp
      obtain ⟨e, _, rfl⟩ := List.mem_map.1 hp
      exact isKeyS _
  have im := (rep_tidy h).isMap
  have im1 := (rep_tidy (rep_put h k v g)).isMap
  have im2 := (rep_tidy (rep_put h k' v' g')).isMap
  refine Maps.ext (c1 r1) (c1 r2) (fun x => ?_) (fun x z _ => ?_)
  · by_cases e1 : x = .string k
    · subst e1
      rw [has_put_other (lit_ne hne), has_put_same im (isKeyS k), has_put_same im2 (isKeyS k)]
    · by_cases e2 : x = .string k'
      · subst e2
        rw [has_put_same im1 (isKeyS k'), has_put_other e1, has_put_same im (isKeyS k')]
      · rw [has_put_other e2, has_put_other e1, has_put_other e1, has_put_other e2]
  · by_cases e1 : x = .string k
    · subst e1
      rw [atKey_put_other (lit_ne hne), atKey_put_same im (isKeyS k), atKey_put_same im2 (isKeyS k)]
    · by_cases e2 : x = .string k'
      · subst e2
        rw [atKey_put_same im1 (isKeyS k'), atKey_put_other e1, atKey_put_same im (isKeyS k')]
      · rw [atKey_put_other e2, atKey_put_other e1, atKey_put_other e1, atKey_put_other e2]

/-- What a request but a list does to its own key alone. -/
theorem doA_far (F : ByteArray → ByteArray) {D D' : DataW Unit} {kind : Int} {k v : ByteArray} (hk4 : kind ≠ 4) (hi : isK D' k.data.toList = isK D k.data.toList) (hl : look D' k.data.toList = look D k.data.toList) :
    (doA F D' kind k v).c = (doA F D kind k v).c ∧ (doA F D' kind k v).v = (doA F D kind k v).v ∧ (doA F D' kind k v).ks = (doA F D kind k v).ks ∧
    (((doA F D' kind k v).D = D' ∧ (doA F D kind k v).D = D) ∨ ∃ u g, (doA F D' kind k v).D = D'.put (.string k.data.toList) (kd u g) ∧ (doA F D kind k v).D = D.put (.string k.data.toList) (kd u g)) := by
  have ht : thereD D' k.data.toList = thereD D k.data.toList := by unfold thereD; rw [hi, hl]
  unfold doA
  rw [hi, hl, ht]
  repeat' split
  all_goals first | exact ⟨rfl, rfl, rfl, .inl ⟨rfl, rfl⟩⟩ | exact ⟨rfl, rfl, rfl, .inr ⟨_, _, rfl, rfl⟩⟩ | (exfalso; omega)
theorem order_any (F : ByteArray → ByteArray) {D : DataW Unit} {L : List Ent} (h : Rep D L) {k1 k2 : Int} {a u b v : ByteArray} (h1 : k1 ≠ 4) (h2 : k2 ≠ 4) (hne : a.data.toList ≠ b.data.toList) :
    (doA F (doA F D k1 a u).D k2 b v).c = (doA F D k2 b v).c ∧ (doA F (doA F D k1 a u).D k2 b v).v = (doA F D k2 b v).v ∧ (doA F (doA F D k1 a u).D k2 b v).ks = (doA F D k2 b v).ks ∧
    (doA F (doA F D k2 b v).D k1 a u).c = (doA F D k1 a u).c ∧ (doA F (doA F D k2 b v).D k1 a u).v = (doA F D k1 a u).v ∧ (doA F (doA F D k2 b v).D k1 a u).ks = (doA F D k1 a u).ks ∧
    (doA F (doA F D k1 a u).D k2 b v).D = (doA F (doA F D k2 b v).D k1 a u).D := by
  have hne' : b.data.toList ≠ a.data.toList := fun e => hne e.symm
  have far : ∀ {kind : Int} {k w : ByteArray} {x : List UInt8}, kind ≠ 4 → x ≠ k.data.toList → isK (doA F D kind k w).D x = isK D x ∧ look (doA F D kind k w).D x = look D x := by
    intro kind k w x hk hx
    obtain ⟨_, _, _, ⟨_, e⟩ | ⟨u, g, _, e⟩⟩ := doA_far F (D := D) (D' := D) (kind := kind) (k := k) (v := w) hk rfl rfl
    · rw [e]; exact ⟨rfl, rfl⟩
    · rw [e]; exact ⟨isK_put_other hx _, look_put_other hx _ _⟩
  obtain ⟨i1, l1⟩ := far (w := u) h1 hne'
  obtain ⟨i2, l2⟩ := far (w := v) h2 hne
  obtain ⟨c1, v1, s1, d1⟩ := doA_far F (D := D) (kind := k2) (k := b) (v := v) h2 i1 l1
  obtain ⟨c2, v2, s2, d2⟩ := doA_far F (D := D) (kind := k1) (k := a) (v := u) h1 i2 l2
  refine ⟨c1, v1, s1, c2, v2, s2, ?_⟩
  rcases d1 with ⟨e1, f1⟩ | ⟨u1, g1, e1, f1⟩ <;> rcases d2 with ⟨e2, f2⟩ | ⟨u2, g2, e2, f2⟩
  · rw [e1, e2, f1, f2]
  · rw [e1, e2, f1, f2]
  · rw [e1, e2, f1, f2]
  · rw [e1, e2, f1, f2]
    exact put_comm h hne _ _ _ _
end Go.Proofs.YtlanhogdeiiecaaDoor
