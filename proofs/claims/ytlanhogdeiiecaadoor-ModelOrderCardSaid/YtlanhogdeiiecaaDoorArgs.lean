/-
  An argument that is a slice of requests, opened to its cells.
-/
import Derived.Test.YtlanhogdeiiecaaDoorProg
import Derived.Deep.Slices
import Derived.Deep.Fields
import Derived.ChangeSame
import Derived.ProofKit
import Derived.Below
import Derived.Deep.Draws
set_option linter.unusedVariables false
set_option linter.unusedSimpArgs false
namespace Go.Proofs.YtlanhogdeiiecaaDoor
open Go.ChangeShapes Go.WideShapes Go.ChangeAt Go.Deep Go.RowKit

section
variable {H : Type} {enc : TypeId × Value → H} {P : Program} {w : World} {base : Nat} {spare : Nat → Bool} {held : Bool}
theorem open_slice_fields {t e : TypeId} {fs : Array Field} {fuel : Nat} {cs : List Value} {x : DataW H × List MemPlace} (ht : P.underlying t = some (.slice e)) (he : P.underlying e = some (.struct fs))
    (hone : oneCellFields P fs = true) (hC : P.cellsOf e = fs.size) (h : DataW.trod enc P w base spare held fuel t cs = some x) :
    (cs = [.slice none 0 0] ∧ x = (.nil, [])) ∨
    ∃ (a : Addr) (len cap m : Nat) (D : Nat → DataW H) (Pl : Nat → List MemPlace), cs = [.slice (some a) len cap] ∧ base ≤ a.block ∧ len ≤ cap ∧ cap ≤ maxLen ∧ m = (if spare a.block then cap else len) ∧
      x = (.slice ((List.range len).map D) ((List.range (m - len)).map fun j => D (len + j)), MemPlace.row a (m * fs.size) ++ (List.range m).flatMap Pl) ∧
      ∀ i, i < m → ∃ (ys : List (DataW H × List MemPlace)) (n : Nat), D i = .agg (ys.map (·.1)) ∧ Pl i = ys.flatMap (·.2) ∧ ys.length = fs.size ∧
        ∀ (j : Nat) (f : Field), fs[j]? = some f → ∃ (v : Value) (y : DataW H × List MemPlace), w.cell? (a.add (i * fs.size + j)) = some v ∧ ys[j]? = some y ∧ DataW.trod enc P w base spare held n f.type [v] = some y := by
  rcases open_slice ht h with h0 | ⟨a, len, cap, m, n, D, Pl, hcs, hb, hl, hm, hmm, hx, hi⟩
  · exact .inl h0
  · refine .inr ⟨a, len, cap, m, D, Pl, hcs, hb, hl, hm, hmm, by rw [hC] at hx; exact hx, fun i him => ?_⟩
    obtain ⟨cs', hc, ht'⟩ := hi i him
    rw [hC] at hc
    obtain ⟨ys, n', hn', hy, hlen, hyl, hf⟩ := DataW.trod_struct he ht'
    obtain ⟨_, hcl, hat⟩ := World.cells?_some hc
    simp only [Prod.mk.injEq] at hy
    refine ⟨ys, n', hy.1, hy.2, hyl, fun j f hj => ?_⟩
    obtain ⟨ho, hk⟩ := hone_of hone j f hj
    have hjl : j < fs.size := (Array.getElem?_eq_some_iff.1 hj).1
    have hcell := hat j hjl
    have hv : cs'[j]? = some (cs'[j]'(by omega)) := List.getElem?_eq_getElem (by omega)
    have h1 := hf j f hj
    rw [ho, hk] at h1
    have hone' : (cs'.drop j).take 1 = [cs'[j]'(by omega)] := by
      rw [List.drop_eq_getElem_cons (by omega)]
      rfl
    rw [hone'] at h1
    have hys : ys[j]? = some (ys[j]'(by omega)) := List.getElem?_eq_getElem (by omega)
    refine ⟨_, _, ?_, hys, h1.trans hys⟩
    rw [← Go.Deep.add_add, hcell, hv]
end

structure Req where
  kind : Int
  key : ByteArray
  val : ByteArray

/-- A slice value that reads as these requests. -/
def ReqsAt (W : World) (v : Value) (qs : List Req) : Prop := qs.length ≤ maxLen ∧ ∃ A c, v = .slice A qs.length c ∧
  (0 < qs.length → ∃ b o, A = some ⟨b, o, none⟩ ∧ b < W.heap.size ∧ ∀ i (h : i < qs.length), W.cell? ⟨b, o + i * 3, none⟩ = some (.int .i64 qs[i].kind) ∧ W.cell? ⟨b, o + i * 3 + 1, none⟩ = some (.string qs[i].key) ∧ W.cell? ⟨b, o + i * 3 + 2, none⟩ = some (.string qs[i].val))

theorem ReqsAt.below {W W' : World} {v : Value} {qs : List Req} (h : ReqsAt W v qs) (hb : Below W.heap.size W W') : ReqsAt W' v qs := by
  obtain ⟨hm, A, c, rfl, hr⟩ := h
  refine ⟨hm, A, c, rfl, fun h0 => ?_⟩
  obtain ⟨b, o, rfl, hlt, hc⟩ := hr h0
  refine ⟨b, o, rfl, Nat.lt_of_lt_of_le hlt hb.size, fun i hi => ?_⟩
  obtain ⟨c0, c1, c2⟩ := hc i hi
  exact ⟨(hb.cell (p := ⟨b, _, none⟩) hlt).trans c0, (hb.cell (p := ⟨b, _, none⟩) hlt).trans c1, (hb.cell (p := ⟨b, _, none⟩) hlt).trans c2⟩

theorem spot_none {w : World} {a : Addr} {k : Nat} {v : Value} (h : w.cell? (a.add k) = some v) : ∃ o, a.add k = ⟨a.block, o, none⟩ := by
  have hs : (a.add k).spot = none := by
    unfold World.cell? at h
    split at h
    · split at h
      · cases h
      · rename_i hn
        cases hq : (a.add k).spot with
        | none => rfl
        | some s => rw [hq] at hn; exact absurd rfl hn
    · cases h
  have hb : (a.add k).block = a.block := by unfold Addr.add; split <;> rfl
  refine ⟨(a.add k).off, ?_⟩
  rw [← hb, ← hs]

theorem add_at {b o : Nat} (k : Nat) : (⟨b, o, none⟩ : Addr).add k = ⟨b, o + k, none⟩ := by unfold Addr.add; split <;> simp_all

theorem req_cells : Tryd.prog.cellsOf 32 = 3 := by kernel_rfl
theorem reqs_open {H : Type} {enc : TypeId × Value → H} {w : World} {base : Nat} {spare : Nat → Bool} {held : Bool} {fuel : Nat} {cs : List Value} {x : DataW H × List MemPlace}
    (h : DataW.trod enc Tryd.prog w base spare held fuel 22 cs = some x) : ∃ v qs, cs = [v] ∧ ReqsAt w v qs := by
  rcases open_slice_fields Tryd.underlying22 Tryd.underlying32 (by kernel_rfl) req_cells h with ⟨rfl, _⟩ | ⟨a, len, cap, m, D, Pl, rfl, hb, hl, hm, hmm, hx, hi⟩
  · exact ⟨_, [], rfl, by simp, none, 0, rfl, fun h0 => absurd h0 (by simp)⟩
  · have hlm : len ≤ m := by rw [hmm]; split <;> omega
    have key : ∀ i, i < len → ∃ q : Req, w.cell? (a.add (i * 3)) = some (.int .i64 q.kind) ∧ w.cell? (a.add (i * 3 + 1)) = some (.string q.key) ∧ w.cell? (a.add (i * 3 + 2)) = some (.string q.val) := by
      intro i hil
      obtain ⟨ys, n, _, _, _, hf⟩ := hi i (by omega)
      obtain ⟨v0, y0, e0, _, t0⟩ := hf 0 _ rfl
      obtain ⟨v1, y1, e1, _, t1⟩ := hf 1 _ rfl
      obtain ⟨v2, y2, e2, _, t2⟩ := hf 2 _ rfl
      obtain ⟨z0, c0, _⟩ := DataW.trod_int Tryd.underlying3 t0
      obtain ⟨z1, c1, _⟩ := DataW.trod_string Tryd.underlying9 t1
      obtain ⟨z2, c2, _⟩ := DataW.trod_string Tryd.underlying9 t2
      simp only [List.cons.injEq, and_true] at c0 c1 c2
      subst c0 c1 c2
      exact ⟨⟨z0, z1, z2⟩, e0, e1, e2⟩
    obtain ⟨f, hf⟩ : ∃ f : Nat → Req, ∀ i, i < len → w.cell? (a.add (i * 3)) = some (.int .i64 (f i).kind) ∧ w.cell? (a.add (i * 3 + 1)) = some (.string (f i).key) ∧ w.cell? (a.add (i * 3 + 2)) = some (.string (f i).val) :=
      ⟨fun i => if h : i < len then (key i h).choose else ⟨0, ⟨#[]⟩, ⟨#[]⟩⟩, fun i hil => by simp only [dif_pos hil]; exact (key i hil).choose_spec⟩
    refine ⟨_, (List.range len).map f, rfl, by simp; omega, some a, cap, by simp, fun h0 => ?_⟩
    have h0' : 0 < len := by simpa using h0
    obtain ⟨o, ho⟩ := spot_none (hf 0 h0').1
    have ha : a = ⟨a.block, o, none⟩ := by rw [← ho]; simp [Addr.add]
    refine ⟨a.block, o, by rw [← ha], ?_, fun i hil => ?_⟩
    · have := World.block_lt_of_cell? w _ (hf 0 h0').1
      simpa [Addr.add] using this
    · have hil' : i < len := by simpa using hil
      obtain ⟨c0, c1, c2⟩ := hf i hil'
      rw [ha, add_at] at c0 c1 c2
      simp only [List.getElem_map, List.getElem_range]
      exact ⟨c0, c1, c2⟩
end Go.Proofs.YtlanhogdeiiecaaDoor
