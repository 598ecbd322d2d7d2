/-
  The model (layer 16) at this program: what each method does to the map, as a function of what the map reads as.
-/
import Derived.Test.YtlanhogdeiiecaaDoorHex
import Derived.Maps.OwnSet
import Derived.Maps.OwnOps
import Derived.BigRegion
import Derived.Deep.Fields
import Derived.StillTailTactics
set_option linter.unusedVariables false
set_option linter.unusedSimpArgs false
namespace Go.Proofs.YtlanhogdeiiecaaDoor
open Go.RowKit Go.Shelf Go.Lib Go.Maps

/-- How a key's value reads: its bytes, and whether it is gone. -/
def kd (v : List UInt8) (g : Bool) : DataW Unit := .agg [.lit (.string v), .lit (.bool g)]
def RK : Value → Option (DataW Unit × List MemPlace)
  | .agg cs => match cs.toList with
    | [.string v, .bool g] => some (kd v.data.toList g, [])
    | _ => none
  | _ => none
theorem RK_mk (v : ByteArray) (g : Bool) : RK (.agg #[.string v, .bool g]) = some (kd v.data.toList g, []) := rfl
theorem RK_inv {u : Value} {z : DataW Unit × List MemPlace} (h : RK u = some z) : ∃ v g, u = .agg #[.string v, .bool g] ∧ z = (kd v.data.toList g, []) := by
  unfold RK at h
  split at h
  · rename_i cs
    split at h
    · rename_i v g e
      cases h
      exact ⟨v, g, by rw [← e], rfl⟩
    · cases h
  · cases h

/-- What stands at a key. -/
def look (D : DataW Unit) (k : List UInt8) : List UInt8 × Bool := match D.atKey (.string k) (kd [] false) with
  | .agg [.lit (.string v), .lit (.bool g)] => (v, g)
  | _ => ([], false)
def isK (D : DataW Unit) (k : List UInt8) : Bool := Maps.has D (.string k)
def thereD (D : DataW Unit) (k : List UInt8) : Bool := isK D k && !(look D k).2

theorem lawK : Keyed Tryd.prog 9 := string_keyed Tryd.underlying9
theorem zeroK (w : World) : (zeroValue 68).run Tryd.prog w = .ok (.agg #[.string ⟨#[]⟩, .bool false]) w := by kernel_rfl

/-- The map's block reads as D. -/
abbrev OwnsK (w : World) (bk n : Nat) (D : DataW Unit) : Prop := w.ownsMap Tryd.prog 9 RK bk n D

theorem OwnsK.same {w W : World} {bk n : Nat} {D : DataW Unit} (h : OwnsK w bk n D) (e : W.heap[bk]? = w.heap[bk]?) : OwnsK W bk n D := by
  obtain ⟨es, clock, hb, r⟩ := h
  exact ⟨es, clock, e.trans hb, r⟩

theorem look_run {w : World} {bk n : Nat} {D : DataW Unit} (h : OwnsK w bk n D) (k : ByteArray) (hk : k.size ≤ maxLen) :
    ∀ W : World, W.heap[bk]? = w.heap[bk]? → (Instr.lookup 46 (.map (some bk)) (.string k) true).run Tryd.prog W = .ok (.tuple #[.agg #[.string ⟨(look D k.data.toList).1.toArray⟩, .bool (look D k.data.toList).2], .bool (isK D k.data.toList)]) W := by
  intro W e
  have hW := OwnsK.same h e
  obtain ⟨v, ps, hrun, hv⟩ := hW.look_ok lawK Tryd.underlying46 (zeroK W) (RK_mk ⟨#[]⟩ false) (WideMaps.keyOf_string_mk Tryd.underlying9 hk)
  obtain ⟨u, g, rfl, hz⟩ := RK_inv hv
  have hat : D.atKey (.string k.data.toList) (kd [] false) = kd u.data.toList g := congrArg Prod.fst hz
  have hl : look D k.data.toList = (u.data.toList, g) := by unfold look; rw [hat]; rfl
  rw [hl]
  exact hrun

/-- A model in block p: one cell, that holds the map of block bk. -/
def IsM (w : World) (p bk n : Nat) (D : DataW Unit) : Prop :=
  w.heap[p]? = some (.cells #[.map (some bk)] 48 (0, 0)) ∧ OwnsK w bk n D

theorem bl_alloc {w W : World} (h : Below w.heap.size w W) (o : Obj) : Below w.heap.size w (W.alloc o) := h.alloc h.size o
theorem bl_set {w W : World} (h : Below w.heap.size w W) {p : Addr} (hp : w.heap.size ≤ p.block) (u : Value) : Below w.heap.size w (W.setCell p u) := h.setCell hp u
theorem bl_trans {w W W' : World} (h : Below w.heap.size w W) (k : Below W.heap.size W W') : Below w.heap.size w W' := h.trans (k.mono h.size)
theorem bl_grown {w W : World} (h : Below w.heap.size w W) (row : Option Nat) : w.grownBy W row := ⟨h.os, h.tape, h.output, h.size, fun k hk _ => h.block k hk⟩

theorem one_old (w : World) (a : Obj) (j : Nat) (h : j < w.heap.size) : (w.alloc a).heap[j]? = w.heap[j]? := Below.heap_alloc _ _ _ h
theorem two_old (w : World) (a b : Obj) (j : Nat) (h : j < w.heap.size) : ((w.alloc a).alloc b).drew.heap[j]? = w.heap[j]? := by
  show ((w.alloc a).alloc b).heap[j]? = _
  rw [Below.heap_alloc _ _ _ (by simp; omega), Below.heap_alloc _ _ _ h]
theorem three_old (w : World) (a b c : Obj) (j : Nat) (h : j < w.heap.size) : (((w.alloc a).alloc b).alloc c).drew.heap[j]? = w.heap[j]? := by
  show (((w.alloc a).alloc b).alloc c).heap[j]? = _
  rw [Below.heap_alloc _ _ _ (by simp; omega)]
  exact two_old w a b j h
theorem new_at1 (w : World) (a b c : Obj) : (((w.alloc a).alloc b).alloc c).drew.heap[w.heap.size]? = some a := by
  show (((w.heap.push a).push b).push c)[w.heap.size]? = some a
  rw [Array.getElem?_push, if_neg (by simp; omega), Array.getElem?_push, if_neg (by simp), Array.getElem?_push, if_pos rfl]
theorem new_at2 (w : World) (a b c : Obj) : (((w.alloc a).alloc b).alloc c).drew.heap[w.heap.size + 1]? = some b := by
  show (((w.heap.push a).push b).push c)[w.heap.size + 1]? = some b
  rw [Array.getElem?_push, if_neg (by simp), Array.getElem?_push, if_pos (by simp)]
theorem res_cells {W : World} {b : Nat} {x0 x1 x2 : Value} {t : TypeId} (h : W.heap[b]? = some (.cells #[x0, x1, x2] t (0, 0))) :
    (W.cell? ⟨b, 0, none⟩ = some x0 ∧ W.cell? ⟨b, 1, none⟩ = some x1 ∧ W.cell? ⟨b, 2, none⟩ = some x2) ∧ W.frozen? ⟨b, 0, none⟩ = false ∧ W.frozen? ⟨b, 1, none⟩ = false ∧ W.frozen? ⟨b, 2, none⟩ = false :=
  ⟨⟨by rw [Lib.cell_of_heap h]; rfl, by rw [Lib.cell_of_heap h]; rfl, by rw [Lib.cell_of_heap h]; rfl⟩, Lib.frozen_of_heap h 0, Lib.frozen_of_heap h 1, Lib.frozen_of_heap h 2⟩
theorem gr_trans {w W W' : World} {row : Option Nat} (h : w.grownBy W row) (k : W.grownBy W' row) : w.grownBy W' row :=
  ⟨k.os.trans h.os, k.tape.trans h.tape, k.output.trans h.output, Nat.le_trans h.size k.size, fun i hi hn => (k.block i (Nat.lt_of_lt_of_le hi h.size) hn).trans (h.block i hi hn)⟩
theorem gr_drew (w : World) (row : Option Nat) : w.grownBy w.drew row := ⟨rfl, rfl, rfl, Nat.le_refl _, fun _ _ _ => rfl⟩
theorem gr_set {w W : World} {row : Option Nat} (h : w.grownBy W row) {q : Addr} (hq : w.heap.size ≤ q.block) (u : Value) : w.grownBy (W.setCell q u) row :=
  ⟨h.os, h.tape, h.output, by have := h.size; simpa [World.setCell] using this, fun i hi hn => (Below.heap_setCell W q u i (by omega)).trans (h.block i hi hn)⟩
theorem own_set {W : World} {bk n : Nat} {D : DataW Unit} (h : W.ownsMap Tryd.prog 9 RK bk n D) {q : Addr} (hq : bk ≠ q.block) (u : Value) : (W.setCell q u).ownsMap Tryd.prog 9 RK bk n D := h.setCell hq u
theorem cell_same {w W : World} {j : Nat} (h : W.heap[j]? = w.heap[j]?) (o : Nat) : W.cell? ⟨j, o, none⟩ = w.cell? ⟨j, o, none⟩ := by
  unfold World.cell?
  rw [h]

/-- What an answer without keys is, and what became of the map. -/
def Answers (w : World) (bk n : Nat) (D : DataW Unit) (c : Int) (v : ByteArray) (e : Ending) (w' : World) : Prop :=
  e = .returned (.agg #[.int .i64 c, .string v, .slice none 0 0]) ∧ OwnsK w' bk (n + 1) D ∧ w.grownBy w' (some bk)

theorem answers_of {w W : World} {bk n : Nat} {D : DataW Unit} {c : Int} {v : ByteArray} (h : OwnsK w bk n D) (hB : Below w.heap.size w W) :
    Answers w bk n D c v (.returned (.agg #[.int .i64 c, .string v, .slice none 0 0])) W :=
  ⟨rfl, (OwnsK.same h (hB.block bk h.lt)).mono (by omega), bl_grown hB _⟩

theorem new_any (w : World) : Calls Tryd.prog 9 #[] w fun e w' => e = .returned (.pointer (some ⟨w.heap.size + 1, 0, none⟩)) ∧ w' = (w.alloc (.map #[] 0)).alloc (.cells #[.map (some w.heap.size)] 48) := by
  have hmm := @run_makeMap Tryd.prog
  go_enter Tryd.func9, Tryd.ntmps9
  go_wp2
  go_ret
  exact ⟨rfl, rfl⟩

set_option maxRecDepth 100000 in
set_option maxHeartbeats 1000000 in
theorem put_held (w : World) (p bk n : Nat) (D : DataW Unit) (kind : Int) (k v : ByteArray) (hk : k.size ≤ maxLen) (h : IsM w p bk n D) (hh : isK D k.data.toList = true) :
    Calls Tryd.prog 21 #[.pointer (some ⟨p, 0, none⟩), .agg #[.int .i64 kind, .string k, .string v]] w (Answers w bk n D 13 ⟨#[]⟩) := by
  obtain ⟨hp, hown⟩ := h
  have hplt := (Array.getElem?_eq_some_iff.1 hp).1
  have hblt := hown.lt
  have cp : w.cell? ⟨p, 0, none⟩ = some (.map (some bk)) := by rw [Lib.cell_of_heap hp]; rfl
  have hlook := look_run hown k hk
  rw [hh] at hlook
  have HO := Lib.hid hown
  clear hown hp hh
  go_enter Tryd.func21, Tryd.ntmps21
  go_wp2
  have l1 := hlook _ ((two_old w (.cells #[.int .i64 kind, .string k, .string v] 32) (.cells #[.int .i64 0, .string ⟨#[]⟩, .slice none 0 0] 37) bk hblt))
  have l2 := hlook _ ((three_old w (.cells #[.int .i64 kind, .string k, .string v] 32) (.cells #[.int .i64 0, .string ⟨#[]⟩, .slice none 0 0] 37) (.cells #[.string ⟨#[]⟩, .bool false] 68) bk hblt))
  have c1 := (cell_same (two_old w (.cells #[.int .i64 kind, .string k, .string v] 32) (.cells #[.int .i64 0, .string ⟨#[]⟩, .slice none 0 0] 37) p hplt) 0).trans cp
  have c2 := (cell_same (three_old w (.cells #[.int .i64 kind, .string k, .string v] 32) (.cells #[.int .i64 0, .string ⟨#[]⟩, .slice none 0 0] 37) (.cells #[.string ⟨#[]⟩, .bool false] 68) p hplt) 0).trans cp
  clear hlook
  go_region
  all_goals go_wp2
  all_goals
    refine bodyPost_ret (v := .agg #[.int .i64 13, .string ⟨#[]⟩, .slice none 0 0]) (by simp [results, Tryd.results21, go_sem]) rfl (answers_of HO.out ?_)
    repeat (with_reducible first | exact Below.refl _ _ | refine Below.drew ?_ | refine bl_alloc ?_ _ | refine bl_set ?_ (by simp) _)

set_option maxRecDepth 100000 in
set_option maxHeartbeats 1000000 in
theorem put_new (w : World) (p bk n : Nat) (D : DataW Unit) (kind : Int) (k v : ByteArray) (hk : k.size ≤ maxLen) (hn : n < maxLen) (h : IsM w p bk n D) (hh : isK D k.data.toList = false) :
    Calls Tryd.prog 21 #[.pointer (some ⟨p, 0, none⟩), .agg #[.int .i64 kind, .string k, .string v]] w (Answers w bk n (D.put (.string k.data.toList) (kd v.data.toList false)) 0 ⟨#[]⟩) := by
  obtain ⟨hp, hown⟩ := h
  have hplt := (Array.getElem?_eq_some_iff.1 hp).1
  have hblt := hown.lt
  have cp : w.cell? ⟨p, 0, none⟩ = some (.map (some bk)) := by rw [Lib.cell_of_heap hp]; rfl
  have hlook := look_run hown k hk
  rw [hh] at hlook
  generalize (look D k.data.toList).1 = u at hlook
  generalize (look D k.data.toList).2 = g at hlook
  have HO := Lib.hid hown
  clear hown hp hh
  go_enter Tryd.func21, Tryd.ntmps21
  go_wp2
  have l1 := hlook _ ((two_old w (.cells #[.int .i64 kind, .string k, .string v] 32) (.cells #[.int .i64 0, .string ⟨#[]⟩, .slice none 0 0] 37) bk hblt))
  have l2 := hlook _ ((three_old w (.cells #[.int .i64 kind, .string k, .string v] 32) (.cells #[.int .i64 0, .string ⟨#[]⟩, .slice none 0 0] 37) (.cells #[.string ⟨#[]⟩, .bool false] 68) bk hblt))
  have c1 := (cell_same (two_old w (.cells #[.int .i64 kind, .string k, .string v] 32) (.cells #[.int .i64 0, .string ⟨#[]⟩, .slice none 0 0] 37) p hplt) 0).trans cp
  have c2 := (cell_same (three_old w (.cells #[.int .i64 kind, .string k, .string v] 32) (.cells #[.int .i64 0, .string ⟨#[]⟩, .slice none 0 0] 37) (.cells #[.string ⟨#[]⟩, .bool false] 68) p hplt) 0).trans cp
  clear hlook
  go_region
  all_goals go_wp2
  all_goals
    generalize hW : World.drew (World.alloc _ _) = W
    have q1 : W.heap[bk]? = w.heap[bk]? := by rw [← hW]; exact three_old _ _ _ _ _ hblt
    have q2 : W.cell? ⟨p, 0, none⟩ = some (.map (some bk)) := by rw [← hW]; exact (cell_same (three_old _ _ _ _ _ hplt) 0).trans cp
    have q3 : W.heap[w.heap.size]? = some (.cells #[.int .i64 kind, .string k, .string v] 32 (0, 0)) := by rw [← hW]; exact new_at1 _ _ _ _
    have q4 : W.heap[w.heap.size + 1]? = some (.cells #[.int .i64 0, .string ⟨#[]⟩, .slice none 0 0] 37 (0, 0)) := by rw [← hW]; exact new_at2 _ _ _ _
    have q5 : Below w.heap.size w W := by rw [← hW]; exact (bl_alloc (bl_alloc (bl_alloc (Below.refl _ w) _) _) _).drew
    have r1 : W.cell? ⟨w.heap.size, 1, none⟩ = some (.string k) := by rw [Lib.cell_of_heap q3]; rfl
    have r2 : W.cell? ⟨w.heap.size, 2, none⟩ = some (.string v) := by rw [Lib.cell_of_heap q3]; rfl
    have Q1 := Lib.hid q1
    have Q4 := Lib.hid q4
    clear hW l1 l2 c1 c2 cp q1 q3 q4
    have hz := q5.size
    go_still_tail 9, (by kernel_rfl)
    go_wp2_with (at_mapUpdate; refine wpList_mapUpdate_own _ rfl _ _ _ 46 rfl 9 68 lawK Tryd.underlying46 RK bk n D rfl (OwnsK.same HO.out Q1.out) hn _ _ (.string k.data.toList) rfl rfl (WideMaps.keyOf_string_mk Tryd.underlying9 hk) (kd v.data.toList false) [] rfl ?_; intro w1 hown1 hgrow1; obtain ⟨⟨s0, s1, s2⟩, f0, f1, f2⟩ := res_cells ((hgrow1.block (w.heap.size + 1) ((Array.getElem?_eq_some_iff.1 Q4.out).1) (fun e => by have := Option.some.inj e; omega)).trans Q4.out))
    refine bodyPost_ret (v := .agg #[.int .i64 0, .string ⟨#[]⟩, .slice none 0 0]) (by simp [results, Tryd.results21, go_sem, *]) rfl ⟨rfl, ?_, ?_⟩
    · repeat (with_reducible first | exact hown1 | refine own_set ?_ (by simp; omega) _)
    · repeat (with_reducible refine gr_set ?_ (by simp) _)
      exact gr_trans (gr_trans (bl_grown q5 _) (gr_drew W _)) hgrow1

end Go.Proofs.YtlanhogdeiiecaaDoor
