/-
  A map's keys in their order: what slices.Sorted(maps.Keys(m)) hands back is what the map reads as, in its own order.
-/
import Derived.Test.YtlanhogdeiiecaaDoorModel4
import Derived.Test.YtlanhogdeiiecaaDoorIter
import Derived.Maps.Ext
import Derived.Sort.KeysCollected
set_option linter.unusedVariables false
set_option linter.unusedSimpArgs false
namespace Go.Proofs.YtlanhogdeiiecaaDoor
open Go.RowKit Go.Shelf Go.Lib Go.Maps Go.Sort

theorem before_lt : ∀ (a b : List UInt8), bytesBefore a b = true ↔ a < b
  | a, [] => by cases a <;> simp [bytesBefore]
  | [], b :: r => by simp [bytesBefore]
  | a :: r, b :: s => by
    unfold bytesBefore
    rw [List.cons_lt_cons_iff]
    simp [before_lt r s]

theorem strKeys_rising {D : DataW Unit} (h : Canon D) (hs : ∀ es, D = .map es → ∀ p ∈ es, ∃ x, p.1 = .string x) : (strKeys D).Pairwise (fun a b => a < b) := by
  obtain ⟨es, rfl, hp, _⟩ := h
  have hk := hs es rfl
  unfold strKeys
  rw [List.pairwise_map]
  refine List.Pairwise.imp_of_mem ?_ hp
  intro p q hpm hqm hpq
  obtain ⟨x, hx⟩ := hk p hpm
  obtain ⟨y, hy⟩ := hk q hqm
  rw [hx, hy] at hpq ⊢
  exact (before_lt x y).1 hpq

theorem own_keys {w : World} {bk n : Nat} {D : DataW Unit} (h : OwnsK w bk n D) : ∀ es, D = .map es → ∀ p ∈ es, ∃ x, p.1 = .string x := by
  intro es he p hp
  obtain ⟨es', he', hk⟩ := World.ownsMap.keysOf h
  rw [he] at he'
  cases he'
  obtain ⟨v, hv⟩ := hk p hp
  obtain ⟨x, _, hx, _⟩ := Maps.keyOf_str Tryd.underlying9 hv
  exact ⟨x, hx⟩

theorem sorted_keys {w : World} {bk n : Nat} {D : DataW Unit} (h : OwnsK w bk n D) {ss : List (List UInt8)} (hp : ss.Perm (strKeys D)) : ss.mergeSort (fun x y => decide (x ≤ y)) = strKeys D := by
  rw [mergeSort_of_perm hp]
  have hr := strKeys_rising (h.canon lawK) (own_keys h)
  refine List.mergeSort_of_pairwise (hr.imp ?_)
  intro a b hab
  simp only [decide_eq_true_eq]
  exact List.le_of_lt hab

def encS (l : List UInt8) : Value := .string ⟨l.toArray⟩

theorem keys_calls (mb : Option Nat) (W : World) : Calls Tryd.prog 34 #[.map mb] W fun e w' => e = .returned (.func (.func 51) #[] #[.pointer (some ⟨W.heap.size, 0, none⟩)]) ∧ w' = W.alloc (.cells #[.map mb] 46) :=
  callsIn_wide.1 (Tryd.maps_KeysK mb W)

/-- A slice value that holds these texts, of the call's own from base on. -/
def OwnsS (w : World) (base : Nat) (v : Value) (ks : List (List UInt8)) : Prop := w.ownsRow base 9 1 v ks.length (ks.map encS)

theorem sorted_calls {w : World} {bk n : Nat} {D : DataW Unit} (h : OwnsK w bk n D) (hmax : Maps.size D ≤ 1000000) :
    Calls Tryd.prog 33 #[.func (.func 51) #[] #[.pointer (some ⟨w.heap.size, 0, none⟩)]] (w.alloc (.cells #[.map (some bk)] 46)) fun e w' =>
      ∃ v, e = .returned v ∧ OwnsS w' (w.heap.size + 1) v (strKeys D) ∧ Below (w.alloc (.cells #[.map (some bk)] 46)).heap.size (w.alloc (.cells #[.map (some bk)] 46)) w' := by
  refine (callsIn_wide.1 (Tryd.sorted_keysK bk n D RK w h (by unfold maxLen; omega) (by omega))).mono ?_
  rintro e w' ⟨v, ss, rfl, hp, hrow, _, hb⟩
  refine ⟨v, rfl, ?_, hb⟩
  have e1 := sorted_keys h hp
  rw [e1, hp.length_eq] at hrow
  have e2 : (w.alloc (.cells #[.map (some bk)] 46)).heap.size = w.heap.size + 1 := by simp
  rw [e2] at hrow
  exact hrow

/-- Block g is a row of these texts. -/
def KeysAt (w : World) (g : Nat) (ks : List (List UInt8)) : Prop := ∃ cur, w.heap[g]? = some (.cells cur 9 (0, 0)) ∧ ∀ j (h : j < ks.length), cur[j]? = some (encS ks[j])

theorem KeysAt.cell {w : World} {g : Nat} {ks : List (List UInt8)} (h : KeysAt w g ks) (j : Nat) (hj : j < ks.length) : w.cell? ⟨g, j, none⟩ = some (encS ks[j]) := by
  obtain ⟨cur, hc, ha⟩ := h
  rw [Lib.cell_of_heap hc]
  exact ha j hj
theorem KeysAt.same {w W : World} {g : Nat} {ks : List (List UInt8)} (h : KeysAt w g ks) (e : W.heap[g]? = w.heap[g]?) : KeysAt W g ks := by
  obtain ⟨cur, hc, ha⟩ := h
  exact ⟨cur, e.trans hc, ha⟩
theorem KeysAt.lt {w : World} {g : Nat} {ks : List (List UInt8)} (h : KeysAt w g ks) : g < w.heap.size := by
  obtain ⟨cur, hc, _⟩ := h
  exact (Array.getElem?_eq_some_iff.1 hc).1
theorem KeysAt.keep {w W : World} {g b : Nat} {ks : List (List UInt8)} (h : KeysAt w g ks) (hk : KeepB b w W) (hb : g ≠ b) : KeysAt W g ks :=
  h.same (hk g h.lt hb (fun cur e => by obtain ⟨c, hc, _⟩ := h; rw [hc] at e; simp at e))

theorem ownsS_some {w : World} {base : Nat} {v : Value} {ks : List (List UInt8)} (h : OwnsS w base v ks) (hne : ks ≠ []) : ∃ g cap, v = .slice (some ⟨g, 0, none⟩) ks.length cap ∧ base ≤ g ∧ KeysAt w g ks := by
  rcases h.2 with ⟨_, h0⟩ | ⟨g, cap, cur, rfl, hg, hh, _, _, _, ht⟩
  · exact absurd (List.eq_nil_of_length_eq_zero h0) hne
  · refine ⟨g, cap, rfl, hg, cur, hh, fun j hj => ?_⟩
    have e : cur.toList[j]? = (ks.map encS)[j]? := by
      rw [← ht, List.getElem?_take_of_lt (by omega)]
    rw [← Array.getElem?_toList, e]
    simp [hj]

theorem sorted_some {w : World} {bk n N : Nat} {D : DataW Unit} (hN : N = w.heap.size) (h : OwnsK w bk n D) (hmax : Maps.size D ≤ 1000000) (hne : strKeys D ≠ []) :
    Calls Tryd.prog 33 #[.func (.func 51) #[] #[.pointer (some ⟨N, 0, none⟩)]] (w.alloc (.cells #[.map (some bk)] 46)) fun e w' =>
      ∃ g cap, e = .returned (.slice (some ⟨g, 0, none⟩) (strKeys D).length cap) ∧ w.heap.size + 1 ≤ g ∧ KeysAt w' g (strKeys D) ∧ Below (w.alloc (.cells #[.map (some bk)] 46)).heap.size (w.alloc (.cells #[.map (some bk)] 46)) w' := by
  subst hN
  refine (sorted_calls h hmax).mono ?_
  rintro e w' ⟨v, rfl, ho, hb⟩
  obtain ⟨g, cap, rfl, hg, hk⟩ := ownsS_some ho hne
  exact ⟨g, cap, rfl, hg, hk, hb⟩

theorem sorted_none {w : World} {bk n N : Nat} {D : DataW Unit} (hN : N = w.heap.size) (h : OwnsK w bk n D) (hmax : Maps.size D ≤ 1000000) (hne : strKeys D = []) :
    Calls Tryd.prog 33 #[.func (.func 51) #[] #[.pointer (some ⟨N, 0, none⟩)]] (w.alloc (.cells #[.map (some bk)] 46)) fun e w' =>
      e = .returned (.slice none 0 0) ∧ Below (w.alloc (.cells #[.map (some bk)] 46)).heap.size (w.alloc (.cells #[.map (some bk)] 46)) w' := by
  subst hN
  refine (callsIn_wide.1 (Tryd.sorted_keysK bk n D RK w h (by unfold maxLen; omega) (by omega))).mono ?_
  rintro e w' ⟨v, ss, rfl, hp, _, hnil, hb⟩
  rw [hne] at hp
  rw [hnil.2 (List.perm_nil.1 hp)]
  exact ⟨rfl, hb⟩

theorem look_run0 {w : World} {bk n : Nat} {D : DataW Unit} (h : OwnsK w bk n D) (k : ByteArray) (hk : k.size ≤ maxLen) :
    ∀ W : World, W.heap[bk]? = w.heap[bk]? → (Instr.lookup 46 (.map (some bk)) (.string k) false).run Tryd.prog W = .ok (.agg #[.string ⟨(look D k.data.toList).1.toArray⟩, .bool (look D k.data.toList).2]) W := by
  intro W e
  have hW := OwnsK.same h e
  obtain ⟨v, ps, hrun, hv⟩ := hW.lookup lawK Tryd.underlying46 (zeroK W) (RK_mk ⟨#[]⟩ false) (WideMaps.keyOf_string_mk Tryd.underlying9 hk)
  obtain ⟨u, g, rfl, hz⟩ := RK_inv hv
  have hat : D.atKey (.string k.data.toList) (kd [] false) = kd u.data.toList g := congrArg Prod.fst hz
  have hl : look D k.data.toList = (u.data.toList, g) := by unfold look; rw [hat]; rfl
  rw [hl]
  exact hrun

end Go.Proofs.YtlanhogdeiiecaaDoor
