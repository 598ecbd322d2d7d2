/-
  A row of bytes that the call owns and that bears the mark of a conversion behind its cells: append of one byte, reading, slicing.
-/
import Derived.Lib.FrozenHead2
import Derived.Lib.ConvBytes
import Derived.Below
import Derived.Laws.AppendOwn
import Derived.OwnWalk
import Derived.WalkKit
set_option linter.unusedVariables false
set_option linter.unusedSimpArgs false
namespace Go.Proofs.YtlanhogdeiiecaaDoor
open Go.RowKit Go.Lib

/-- The slice value v owns these cells (one cell an element), nil shut out; its row may bear a mark behind its cells. -/
def OwnsM (w : World) (base : Nat) (e : TypeId) (v : Value) (xs : List Value) : Prop :=
  ∃ g cap cur fz, v = .slice (some ⟨g, 0, none⟩) xs.length cap ∧ base ≤ g ∧ w.heap[g]? = some (.cells cur e fz) ∧ (fz.2 = 0 ∨ cur.size ≤ fz.1) ∧ xs.length ≤ cap ∧ cap ≤ maxLen ∧ cur.size = cap ∧ cur.toList.take xs.length = xs

section
variable {w W : World} {base : Nat} {e : TypeId} {v : Value} {xs : List Value}
theorem OwnsM.kept {row : Option Nat} (h : OwnsM w base e v xs) (hg : w.grownBy W row) (hne : v.ownBlock ≠ row) : OwnsM W base e v xs := by
  obtain ⟨g, cap, cur, fz, rfl, hb, hh, r⟩ := h
  exact ⟨g, cap, cur, fz, rfl, hb, (hg.block g (Array.getElem?_eq_some_iff.1 hh).1 (by simpa [Value.ownBlock] using hne)).trans hh, r⟩
theorem OwnsM.lt (h : OwnsM w base e v xs) : ∀ k, v.ownBlock = some k → base ≤ k ∧ k < w.heap.size := by
  obtain ⟨g, cap, cur, fz, rfl, hb, hh, r⟩ := h
  intro k hk
  have : g = k := by simpa [Value.ownBlock] using hk
  subst this
  exact ⟨hb, (Array.getElem?_eq_some_iff.1 hh).1⟩
theorem OwnsM.below (h : OwnsM w base e v xs) (hg : Below w.heap.size w W) : OwnsM W base e v xs := by
  obtain ⟨g, cap, cur, fz, rfl, hb, hh, r⟩ := h
  exact ⟨g, cap, cur, fz, rfl, hb, (hg.block g (Array.getElem?_eq_some_iff.1 hh).1).trans hh, r⟩
theorem OwnsM.alloc (h : OwnsM w base e v xs) (o : Obj) : OwnsM (w.alloc o) base e v xs := h.below ((Below.refl _ _).alloc (Nat.le_refl _) o)
theorem OwnsM.cells (h : OwnsM w base e v xs) : ∃ g cap, v = .slice (some ⟨g, 0, none⟩) xs.length cap ∧ xs.length ≤ cap ∧ cap ≤ maxLen ∧ base ≤ g ∧ ∀ j u, xs[j]? = some u → w.cell? ⟨g, j, none⟩ = some u := by
  obtain ⟨g, cap, cur, fz, rfl, hb, hh, _, hn, hm, hz, ht⟩ := h
  refine ⟨g, cap, rfl, hn, hm, hb, fun j u hu => ?_⟩
  rw [cell_of_row w g j cur e fz hh]
  rw [← ht, List.getElem?_take] at hu
  split at hu
  · simpa using hu
  · cases hu
end

theorem ownsM_conv (w : World) (base : Nat) (hb : base ≤ w.heap.size) (e : TypeId) (s : ByteArray) (hs : s.size ≤ maxLen) : OwnsM (bytesWorld w e s) base e (.slice (some ⟨w.heap.size, 0, none⟩) s.size (grownCap w s.size 0 e)) (byteCells s.data.toList) := by
  have hl : (byteCells s.data.toList).length = s.size := by simp [byteCells]
  have hge := grownCap_ge w s.size 0 e
  have hz : (bytesCells w e s).size = grownCap w s.size 0 e := by
    simp only [bytesCells, Array.size_append, Array.size_map, Array.size_replicate]
    have : s.data.size = s.size := rfl
    omega
  refine ⟨w.heap.size, _, _, _, by rw [hl], hb, bytesWorld_at_new w e s, .inr (Nat.le_refl _), by rw [hl]; exact hge, grownCap_le_maxLen w s.size 0 e hs, hz, ?_⟩
  rw [hl]
  simp only [bytesCells, Array.toList_append, Array.toList_map]
  rw [List.take_append_of_le_length (by simp), List.take_of_length_le (by simp)]
  rfl

section
variable {P : Program} (w : World)
theorem run_append_ownM (base : Nat) (t ty e : TypeId) (i : TypeInfo) (z : Value) (ht : P.underlying t = some (.slice e)) (hi : P.info? e = some i) (hz : i.zero = some z)
    (hsize : i.size = 1) (hby : i.bytes = 1) (hzs : z.cells.size = 1)
    (v : Value) (xs : List Value) (hown : OwnsM w base e v xs)
    (a : Addr) (c : Nat) (u : Value) (hnews : w.cell? a = some u) (h1 : u.oneCell' = true)
    (h63 : xs.length + 1 ≤ 140737488355328) (hbase : base ≤ w.heap.size) :
    ∃ v' w', (Builtin.append_ #[t, t] ty #[v, .slice (some a) 1 c]).run P w = .ok v' w' ∧ OwnsM w' base e v' (xs ++ [u]) ∧ w.grownBy w' v.ownBlock := by
  obtain ⟨g, cap, cur, fz, rfl, hbg, hg, hfz, hnc, hcm, hcs, htake⟩ := hown
  have hla : (xs ++ [u]).length = xs.length + 1 := by simp
  have hcl : ∀ j x, [u][j]? = some x → w.cell? (a.add j) = some x := by
    intro j x hx
    match j, hx with
    | 0, hx => simp at hx; subst hx; simpa [Addr.add] using hnews
  by_cases hroom : xs.length + 1 ≤ cap
  · have hi' : xs.length < cur.size := by omega
    have hf := run_firstCells_some (P := P) w 1 1 a 1 c [u] rfl hcl
    have hcell : w.cell? ⟨g, xs.length, none⟩ = some cur[xs.length] := by simp [World.cell?, hg, hi']
    have hfro : w.frozen? ⟨g, xs.length, none⟩ = false := by
      obtain ⟨lo, hi2⟩ := fz
      simp only [World.frozen?, hg, Bool.and_eq_false_iff, decide_eq_false_iff_not]
      simp only at hfz
      omega
    have hst : (store ⟨g, xs.length, none⟩ u).run P w = .ok () (w.setRow g (cur.setIfInBounds xs.length u)) := by
      rw [run_store P w _ u _ h1, hcell]
      simp [hfro, setCell_eq_setRow w g xs.length cur e fz u hg]
    have hsc : (storeCells ⟨g, xs.length, none⟩ [u] 0).run P w = .ok () (w.setRow g (cur.setIfInBounds xs.length u)) := by
      have ea : (⟨g, xs.length, none⟩ : Addr).add 0 = ⟨g, xs.length, none⟩ := by simp [Addr.add]
      simp only [storeCells, Sem.run_bind, ea, hst, Result.andThen_ok]
      rfl
    have hr : (Builtin.append_ #[t, t] ty #[.slice (some ⟨g, 0, none⟩) xs.length cap, .slice (some a) 1 c]).run P w =
        .ok (.slice (some ⟨g, 0, none⟩) (xs.length + 1) cap) (w.setRow g (cur.setIfInBounds xs.length u)) := by
      simp [Builtin.append_, run_underlying ht, sizeOf, typeInfo, hi, hsize, Builtin.lenOf, hroom, hf, Addr.add_lit, hsc]
    refine ⟨_, _, hr, ⟨g, cap, _, fz, by rw [hla], hbg, setRow_heap w g cur _ e _ hg, by simpa using hfz, by rw [hla]; exact hroom, hcm, by simpa using hcs, ?_⟩, ⟨rfl, rfl, rfl, by simp, fun k _ hk => setRow_other w g k _ (fun e => hk (by simp [Value.ownBlock, e]))⟩⟩
    rw [hla, Array.toList_setIfInBounds, List.take_succ_eq_append_getElem (by simpa using hi'), List.getElem_set_self, List.take_set_of_le (Nat.le_refl _), htake]
  · have holds : ∀ j x, xs[j]? = some x → w.cell? ((⟨g, 0, none⟩ : Addr).add j) = some x := by
      intro j x hx
      have hadd : (⟨g, 0, none⟩ : Addr).add j = ⟨g, j, none⟩ := by unfold Addr.add; split <;> simp_all
      rw [hadd, cell_of_row w g j cur e fz hg]
      rw [← htake, List.getElem?_take] at hx
      split at hx
      · simpa using hx
      · cases hx
    have hr := run_append_grow (P := P) w t ty e i z ht hi hz ⟨g, 0, none⟩ xs.length cap xs (by rw [hsize]; omega) holds a 1 c [u] (by rw [hsize]; rfl) hcl (by omega) (by omega) (growslice_fits (by omega) (by rw [hby]; omega))
    have hge := grownCap_ge w (xs.length + 1) cap e
    have hcm2 : grownCap w (xs.length + 1) cap e ≤ maxLen := grownCap_le_maxLen w (xs.length + 1) cap e (by unfold maxLen; omega)
    refine ⟨_, _, hr, ⟨w.heap.size, _, _, (0, 0), by rw [hla], hbase, heap_alloc_new w.drew _, .inl rfl, by rw [hla]; exact hge, hcm2, ?_, ?_⟩, ⟨rfl, rfl, rfl, by simp, fun k hk _ => Below.heap_alloc w.drew _ k hk⟩⟩
    · simp only [Array.size_append, List.size_toArray, size_zeroCells, hzs, hsize]
      simp
      omega
    · simp only [Array.toList_append, List.append_assoc]
      rw [← List.append_assoc, List.take_left']
      simp

theorem wpList_append_ownM {ops : Array Oper} {rest : List Oper} {o : Oper} {a : Act} {Q : Exit → Act → World → Prop} (hgd : o.guard = none) (s x : Operand) (t : TypeId)
    (ho : o.op = .call { callee := .builtin .append, args := #[s, x], argTypes := #[t, t] })
    (base : Nat) (e : TypeId) (i : TypeInfo) (z : Value) (ht : P.underlying t = some (.slice e)) (hi : P.info? e = some i) (hz : i.zero = some z)
    (hsize : i.size = 1) (hby : i.bytes = 1) (hzs : z.cells.size = 1)
    (v : Value) (xs : List Value) (hs : a.eval s = v) (hown : OwnsM w base e v xs)
    (ad : Addr) (c : Nat) (u : Value) (hx : a.eval x = .slice (some ad) 1 c) (hnews : w.cell? ad = some u) (h1 : u.oneCell' = true)
    (h63 : xs.length + 1 ≤ 140737488355328) (hbase : base ≤ w.heap.size)
    (h : ∀ v' w', OwnsM w' base e v' (xs ++ [u]) → w.grownBy w' v.ownBlock → wpList P ops Q rest (a.put o.dst v') w') : wpList P ops Q (o :: rest) a w := by
  refine wpList_plain hgd fun K hK => ?_
  obtain ⟨v', w', hr, h2, h3⟩ := run_append_ownM (P := P) w base t o.type e i z ht hi hz hsize hby hzs v xs hown ad c u hnews h1 h63 hbase
  unfold Oper.wp execOp
  simp only [ho, resolve, invoke, builtin, Sem.run_bind, Sem.run_pure, Result.andThen_ok, List.map_toArray, List.map_cons, List.map_nil, hs, hx, hr]
  exact hK _ _ (h v' w' h2 h3)
end
end Go.Proofs.YtlanhogdeiiecaaDoor
