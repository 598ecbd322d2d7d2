/-
  What the model answers, in plain words: lengths are kept small; a key is put once and deleted once; requests of two keys do not hang on one another.
-/
import Derived.Test.YtlanhogdeiiecaaDoorDo
set_option linter.unusedVariables false
set_option linter.unusedSimpArgs false
namespace Go.Proofs.YtlanhogdeiiecaaDoor
open Go.RowKit Go.Shelf Go.Lib Go.Maps Go.Sort

theorem isKeyS (k : List UInt8) : WideAt.IsKeyLit (.string k) := by trivial
theorem lit_ne {a b : List UInt8} (h : a ≠ b) : (Lit.string a) ≠ .string b := fun e => h (by injection e)
section
variable {D : DataW Unit} {k : List UInt8}
theorem look_put_same (hD : IsMap D) (v : List UInt8) (g : Bool) : look (D.put (.string k) (kd v g)) k = (v, g) := by
  unfold look
  rw [atKey_put_same hD (isKeyS k)]
  rfl
theorem look_put_other {k' : List UInt8} (h : k' ≠ k) (v : List UInt8) (g : Bool) : look (D.put (.string k) (kd v g)) k' = look D k' := by
  unfold look
  rw [atKey_put_other (lit_ne h)]
theorem isK_put_same (hD : IsMap D) (d : DataW Unit) : isK (D.put (.string k) d) k = true := has_put_same hD (isKeyS k) d
theorem isK_put_other {k' : List UInt8} (h : k' ≠ k) (d : DataW Unit) : isK (D.put (.string k) d) k' = isK D k' := has_put_other (lit_ne h) d
end

/-- Keys and values are short, and m keys at most. -/
structure Lens (D : DataW Unit) (m : Nat) : Prop where
  keys : ∀ k, isK D k = true → k.length ≤ 100
  vals : ∀ k, (look D k).1.length ≤ 500
  size : Maps.size D ≤ m

theorem lens_empty : Lens (.map []) 0 := ⟨(fun k h => by cases h), (fun k => by rw [show look (.map []) k = ([], false) from rfl]; simp), by simp [Maps.size]⟩
theorem lens_more {D : DataW Unit} {m n : Nat} (h : Lens D m) (hn : m ≤ n) : Lens D n := ⟨h.keys, h.vals, Nat.le_trans h.size hn⟩
theorem lens_put {D : DataW Unit} {m : Nat} (h : Lens D m) (hT : Tidy D) {k v : List UInt8} (hk : k.length ≤ 100) (hv : v.length ≤ 500) (g : Bool) : Lens (D.put (.string k) (kd v g)) (m + 1) := by
  refine ⟨fun k' h' => ?_, fun k' => ?_, ?_⟩
  · by_cases e : k' = k
    · rw [e]; exact hk
    · rw [isK_put_other e] at h'
      exact h.keys k' h'
  · by_cases e : k' = k
    · rw [e, look_put_same hT.isMap]; exact hv
    · rw [look_put_other e]
      exact h.vals k'
  · rw [size_put hT]
    have := h.size
    split <;> omega

theorem canon_tidy {D : DataW Unit} (h : Canon D) : Tidy D := by
  obtain ⟨es, e, hp, _⟩ := h
  exact ⟨es, e, apart_of_rising hp⟩

theorem mem_isK {D : DataW Unit} (hs : ∀ es, D = .map es → ∀ p ∈ es, ∃ x, p.1 = .string x) {k : List UInt8} (h : k ∈ strKeys D) : isK D k = true := by
  cases D with
  | map es =>
    simp only [strKeys, List.mem_map] at h
    obtain ⟨p, hp, rfl⟩ := h
    obtain ⟨x, hx⟩ := hs es rfl p hp
    unfold isK
    rw [has_eq, List.any_eq_true]
    refine ⟨p, hp, ?_⟩
    rw [hx]
    simp [strOf, Lit.sameKey]
  | _ => simp [strKeys] at h

theorem lens_fine {w : World} {bk n m : Nat} {D : DataW Unit} (ho : OwnsK w bk n D) (h : Lens D m) (hm : m ≤ 1000000) : Fine D :=
  ⟨fun k hk => by have := h.keys k (mem_isK (own_keys ho) hk); omega, fun k => by have := h.vals k; omega, by have := h.size; omega⟩

section
variable (F : ByteArray → ByteArray) {D : DataW Unit} {kind : Int} {k v : ByteArray}
theorem lens_do {m : Nat} (h : Lens D m) (hT : Tidy D) (hk : k.size ≤ 100) (hv : v.size ≤ 500) : Lens (doA F D kind k v).D (m + 1) := by
  have h1 : k.data.toList.length ≤ 100 := by simpa using hk
  have h2 : v.data.toList.length ≤ 500 := by simpa using hv
  have h0 := lens_more h (Nat.le_succ m)
  unfold doA
  repeat' split
  all_goals first | exact h0 | exact lens_put h hT h1 h2 _ | exact lens_put h hT h1 (by simp) _

theorem doA_cases :
    ((doA F D kind k v).c ≠ 0 ∧ (doA F D kind k v).D = D ∧ (doA F D kind k v).v = ⟨#[]⟩ ∧ (doA F D kind k v).ks = []) ∨
    (kind = 0 ∧ isK D k.data.toList = false ∧ doA F D kind k v = ⟨D.put (.string k.data.toList) (kd v.data.toList false), 0, ⟨#[]⟩, []⟩) ∨
    (kind = 4 ∧ doA F D kind k v = ⟨D, 0, ⟨#[]⟩, listD D k.data.toList⟩) ∨
    (kind = 1 ∧ thereD D k.data.toList = true ∧ doA F D kind k v = ⟨D, 0, ⟨(look D k.data.toList).1.toArray⟩, []⟩) ∨
    (kind = 2 ∧ thereD D k.data.toList = true ∧ doA F D kind k v = ⟨D.put (.string k.data.toList) (kd [] true), 0, ⟨#[]⟩, []⟩) ∨
    (kind = 3 ∧ thereD D k.data.toList = true ∧ doA F D kind k v = ⟨D, 0, statV F ⟨(look D k.data.toList).1.toArray⟩, []⟩) := by
  unfold doA
  by_cases he : reqErr kind k v = 0
  · rw [if_neg (by simpa using he)]
    obtain ⟨k0, k4, _⟩ := req_ok he
    by_cases h0 : kind = 0
    · rw [if_pos h0]
      cases hh : isK D k.data.toList with
      | true => exact .inl ⟨by simp, by simp, by simp, by simp⟩
      | false => exact .inr (.inl ⟨h0, rfl, by simp⟩)
    · rw [if_neg h0]
      by_cases h4 : kind = 4
      · rw [if_pos h4]
        exact .inr (.inr (.inl ⟨h4, rfl⟩))
      · rw [if_neg h4]
        cases ht : thereD D k.data.toList with
        | false => exact .inl ⟨by simp, by simp, by simp, by simp⟩
        | true =>
          rw [if_pos rfl]
          by_cases h1 : kind = 1
          · rw [if_pos h1]; exact .inr (.inr (.inr (.inl ⟨h1, rfl, rfl⟩)))
          · rw [if_neg h1]
            by_cases h2 : kind = 2
            · rw [if_pos h2]; exact .inr (.inr (.inr (.inr (.inl ⟨h2, rfl, rfl⟩))))
            · rw [if_neg h2]; exact .inr (.inr (.inr (.inr (.inr ⟨by omega, rfl, rfl⟩))))
  · rw [if_pos (by simpa using he)]
    exact .inl ⟨he, rfl, rfl, rfl⟩
end

/-! ### each key once -/
def Once (D : DataW Unit) (key : List UInt8) (puts gone : Int) (val : List UInt8) : Prop :=
  (puts = 0 ∧ gone = 0 ∧ isK D key = false) ∨ (puts = 1 ∧ gone = 0 ∧ isK D key = true ∧ look D key = (val, false)) ∨ (puts = 1 ∧ gone = 1 ∧ isK D key = true ∧ (look D key).2 = true)

section
variable (F : ByteArray → ByteArray) {D : DataW Unit} {kind : Int} {k v : ByteArray} {key val : List UInt8} {puts gone : Int}
theorem once_other (h : Once D key puts gone val) (hk : k.data.toList ≠ key) : Once (doA F D kind k v).D key puts gone val := by
  have hne : key ≠ k.data.toList := fun e => hk e.symm
  rcases doA_cases F (D := D) (kind := kind) (k := k) (v := v) with ⟨_, e, _⟩ | ⟨_, _, e⟩ | ⟨_, e⟩ | ⟨_, _, e⟩ | ⟨_, _, e⟩ | ⟨_, _, e⟩
  · rw [e]; exact h
  · rw [e]; simp only [Once, isK_put_other hne, look_put_other hne]; exact h
  · rw [e]; exact h
  · rw [e]; exact h
  · rw [e]; simp only [Once, isK_put_other hne, look_put_other hne]; exact h
  · rw [e]; exact h
theorem once_err (h : Once D key puts gone val) (hc : (doA F D kind k v).c ≠ 0) : Once (doA F D kind k v).D key puts gone val := by
  rcases doA_cases F (D := D) (kind := kind) (k := k) (v := v) with ⟨_, e, _⟩ | ⟨_, _, e⟩ | ⟨_, e⟩ | ⟨_, _, e⟩ | ⟨_, _, e⟩ | ⟨_, _, e⟩
  · rw [e]; exact h
  all_goals rw [e] at hc; exact absurd rfl hc
theorem once_put (hD : IsMap D) (h : Once D k.data.toList puts gone val) (hc : (doA F D 0 k v).c = 0) : puts + 1 = 1 ∧ gone = 0 ∧ Once (doA F D 0 k v).D k.data.toList (puts + 1) gone v.data.toList := by
  rcases doA_cases F (D := D) (kind := 0) (k := k) (v := v) with ⟨e, _⟩ | ⟨_, hi, e⟩ | ⟨e, _⟩ | ⟨e, _⟩ | ⟨e, _⟩ | ⟨e, _⟩
  · exact absurd hc e
  · rw [e]
    rcases h with ⟨h1, h2, h3⟩ | ⟨_, _, h3, _⟩ | ⟨_, _, h3, _⟩
    · refine ⟨by omega, h2, .inr (.inl ⟨by omega, h2, isK_put_same hD _, look_put_same hD _ _⟩)⟩
    · rw [h3] at hi; cases hi
    · rw [h3] at hi; cases hi
  all_goals cases e
theorem once_gone (hD : IsMap D) (h : Once D k.data.toList puts gone val) (hc : (doA F D 2 k v).c = 0) : puts = 1 ∧ gone + 1 = 1 ∧ Once (doA F D 2 k v).D k.data.toList puts (gone + 1) val := by
  rcases doA_cases F (D := D) (kind := 2) (k := k) (v := v) with ⟨e, _⟩ | ⟨e, _⟩ | ⟨e, _⟩ | ⟨e, _⟩ | ⟨_, ht, e⟩ | ⟨e, _⟩
  · exact absurd hc e
  · cases e
  · cases e
  · cases e
  · rw [e]
    simp only [thereD, Bool.and_eq_true, Bool.not_eq_true'] at ht
    rcases h with ⟨_, _, h3⟩ | ⟨h1, h2, _, _⟩ | ⟨_, _, _, h4⟩
    · rw [h3] at ht; cases ht.1
    · refine ⟨h1, by omega, .inr (.inr ⟨h1, by omega, isK_put_same hD _, by rw [look_put_same hD]⟩)⟩
    · rw [h4] at ht; cases ht.2
  · cases e
theorem once_get (h : Once D k.data.toList puts gone val) (hc : (doA F D 1 k v).c = 0) : puts = 1 ∧ gone = 0 ∧ (doA F D 1 k v).v = ⟨val.toArray⟩ ∧ (doA F D 1 k v).D = D := by
  rcases doA_cases F (D := D) (kind := 1) (k := k) (v := v) with ⟨e, _⟩ | ⟨e, _⟩ | ⟨e, _⟩ | ⟨_, ht, e⟩ | ⟨e, _⟩ | ⟨e, _⟩
  · exact absurd hc e
  · cases e
  · cases e
  · rw [e]
    simp only [thereD, Bool.and_eq_true, Bool.not_eq_true'] at ht
    rcases h with ⟨_, _, h3⟩ | ⟨h1, h2, _, h4⟩ | ⟨_, _, _, h4⟩
    · rw [h3] at ht; cases ht.1
    · exact ⟨h1, h2, by rw [h4], rfl⟩
    · rw [h4] at ht; cases ht.2
  · cases e
  · cases e
theorem once_still (h : Once D key puts gone val) (h0 : kind ≠ 0) (h2 : kind ≠ 2) : Once (doA F D kind k v).D key puts gone val := by
  rcases doA_cases F (D := D) (kind := kind) (k := k) (v := v) with ⟨_, e, _⟩ | ⟨e0, _, e⟩ | ⟨_, e⟩ | ⟨_, _, e⟩ | ⟨e2, _, e⟩ | ⟨_, _, e⟩
  · rw [e]; exact h
  · exact absurd e0 h0
  · rw [e]; exact h
  · rw [e]; exact h
  · exact absurd e2 h2
  · rw [e]; exact h
theorem once_le (h : Once D key puts gone val) : 0 ≤ puts ∧ puts ≤ 1 ∧ 0 ≤ gone ∧ gone ≤ puts := by
  rcases h with ⟨a, b, _⟩ | ⟨a, b, _⟩ | ⟨a, b, _⟩ <;> omega
end
end Go.Proofs.YtlanhogdeiiecaaDoor
