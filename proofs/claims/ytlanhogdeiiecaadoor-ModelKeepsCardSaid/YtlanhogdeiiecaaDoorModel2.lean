/-
  The model (layer 16) at this program, on: there and the methods that go through it.
-/
import Derived.Test.YtlanhogdeiiecaaDoorModel
set_option linter.unusedVariables false
set_option linter.unusedSimpArgs false
namespace Go.Proofs.YtlanhogdeiiecaaDoor
open Go.RowKit Go.Shelf Go.Lib Go.Maps

theorem four_old (w : World) (a b c : Obj) (j : Nat) (h : j < w.heap.size) : (((w.alloc a).alloc b).alloc c).drew.heap[j]? = w.heap[j]? := three_old w a b c j h

set_option maxRecDepth 100000 in
set_option maxHeartbeats 1000000 in
theorem there_no (w : World) (p bk n : Nat) (D : DataW Unit) (kind : Int) (k v : ByteArray) (fv : Value) (hk : k.size ≤ maxLen) (h : IsM w p bk n D) (hh : thereD D k.data.toList = false) :
    Calls Tryd.prog 40 #[.pointer (some ⟨p, 0, none⟩), .agg #[.int .i64 kind, .string k, .string v], fv] w (Answers w bk n D 9 ⟨#[]⟩) := by
  obtain ⟨hp, hown⟩ := h
  have hplt := (Array.getElem?_eq_some_iff.1 hp).1
  have hblt := hown.lt
  have cp : w.cell? ⟨p, 0, none⟩ = some (.map (some bk)) := by rw [Lib.cell_of_heap hp]; rfl
  have hlook := look_run hown k hk
  have HO := Lib.hid hown
  clear hown hp
  unfold thereD at hh
  generalize (look D k.data.toList).1 = u at hlook
  generalize (look D k.data.toList).2 = g at hlook hh
  generalize isK D k.data.toList = q at hlook hh
  have l1 := hlook _ ((two_old w (.cells #[.int .i64 kind, .string k, .string v] 32) (.cells #[.int .i64 0, .string ⟨#[]⟩, .slice none 0 0] 37) bk hblt))
  have l2 := hlook _ ((three_old w (.cells #[.int .i64 kind, .string k, .string v] 32) (.cells #[.int .i64 0, .string ⟨#[]⟩, .slice none 0 0] 37) (.cells #[.string ⟨#[]⟩, .bool false] 68) bk hblt))
  have c1 := (cell_same (two_old w (.cells #[.int .i64 kind, .string k, .string v] 32) (.cells #[.int .i64 0, .string ⟨#[]⟩, .slice none 0 0] 37) p hplt) 0).trans cp
  have c2 := (cell_same (three_old w (.cells #[.int .i64 kind, .string k, .string v] 32) (.cells #[.int .i64 0, .string ⟨#[]⟩, .slice none 0 0] 37) (.cells #[.string ⟨#[]⟩, .bool false] 68) p hplt) 0).trans cp
  clear hlook
  cases q with
  | false =>
    clear hh
    go_enter Tryd.func40, Tryd.ntmps40
    go_wp2
    go_region
    all_goals go_wp2
    all_goals
      refine bodyPost_ret (v := .agg #[.int .i64 9, .string ⟨#[]⟩, .slice none 0 0]) (by simp [results, Tryd.results40, go_sem]) rfl (answers_of HO.out ?_)
      repeat (with_reducible first | exact Below.refl _ _ | refine Below.drew ?_ | refine bl_alloc ?_ _ | refine bl_set ?_ (by simp) _)
  | true =>
    obtain rfl : g = true := by simpa using hh
    clear hh
    go_enter Tryd.func40, Tryd.ntmps40
    go_wp2
    go_region
    all_goals go_wp2
    all_goals
      refine bodyPost_ret (v := .agg #[.int .i64 9, .string ⟨#[]⟩, .slice none 0 0]) (by simp [results, Tryd.results40, go_sem]) rfl (answers_of HO.out ?_)
      repeat (with_reducible first | exact Below.refl _ _ | refine Below.drew ?_ | refine bl_alloc ?_ _ | refine bl_set ?_ (by simp) _)

set_option maxRecDepth 100000 in
set_option maxHeartbeats 1000000 in
theorem there_yes (w : World) (p bk n : Nat) (D D2 : DataW Unit) (kind : Int) (k v : ByteArray) (gf : Nat) (lb : Array Value) (c : Int) (a : ByteArray) (hk : k.size ≤ maxLen) (h : IsM w p bk n D) (hh : thereD D k.data.toList = true)
    (eg : ∀ args w, (callFunc gf args).run Tryd.prog w = .ok (.enter gf args) w)
    (hcl : ∀ W, Below w.heap.size w W → OwnsK W bk n D → Calls Tryd.prog gf (#[.string ⟨(look D k.data.toList).1.toArray⟩] ++ lb) W (Answers W bk n D2 c a)) :
    Calls Tryd.prog 40 #[.pointer (some ⟨p, 0, none⟩), .agg #[.int .i64 kind, .string k, .string v], .func (.func gf) #[] lb] w (Answers w bk n D2 c a) := by
  obtain ⟨hp, hown⟩ := h
  have hplt := (Array.getElem?_eq_some_iff.1 hp).1
  have hblt := hown.lt
  have cp : w.cell? ⟨p, 0, none⟩ = some (.map (some bk)) := by rw [Lib.cell_of_heap hp]; rfl
  have hlook := look_run hown k hk
  have HO := Lib.hid hown
  clear hown hp
  unfold thereD at hh
  generalize (look D k.data.toList).1 = u at hlook hcl
  generalize (look D k.data.toList).2 = g at hlook hh
  generalize isK D k.data.toList = q at hlook hh
  obtain ⟨rfl, hg⟩ : q = true ∧ g = false := by simpa using hh
  subst hg
  clear hh
  have l1 := hlook _ ((two_old w (.cells #[.int .i64 kind, .string k, .string v] 32) (.cells #[.int .i64 0, .string ⟨#[]⟩, .slice none 0 0] 37) bk hblt))
  have l2 := hlook _ ((three_old w (.cells #[.int .i64 kind, .string k, .string v] 32) (.cells #[.int .i64 0, .string ⟨#[]⟩, .slice none 0 0] 37) (.cells #[.string ⟨#[]⟩, .bool false] 68) bk hblt))
  have c1 := (cell_same (two_old w (.cells #[.int .i64 kind, .string k, .string v] 32) (.cells #[.int .i64 0, .string ⟨#[]⟩, .slice none 0 0] 37) p hplt) 0).trans cp
  have c2 := (cell_same (three_old w (.cells #[.int .i64 kind, .string k, .string v] 32) (.cells #[.int .i64 0, .string ⟨#[]⟩, .slice none 0 0] 37) (.cells #[.string ⟨#[]⟩, .bool false] 68) p hplt) 0).trans cp
  clear hlook
  have HC := Lib.hid hcl
  clear hcl
  go_enter Tryd.func40, Tryd.ntmps40
  go_wp2
  go_region
  all_goals go_wp2_with fail
  all_goals
    generalize hW : World.drew (World.alloc _ _) = W
    have q1 : W.heap[bk]? = w.heap[bk]? := by rw [← hW]; exact three_old _ _ _ _ _ hblt
    have q4 : W.heap[w.heap.size + 1]? = some (.cells #[.int .i64 0, .string ⟨#[]⟩, .slice none 0 0] 37 (0, 0)) := by rw [← hW]; exact new_at2 _ _ _ _
    have q5 : Below w.heap.size w W := by rw [← hW]; exact (bl_alloc (bl_alloc (bl_alloc (Below.refl _ w) _) _) _).drew
    have Q4 := Lib.hid q4
    have Q1 := Lib.hid q1
    clear hW l1 l2 c1 c2 cp q1 q4
    refine (HC.out W q5 (OwnsK.same HO.out Q1.out)).mono ?_
    rintro e w1 ⟨rfl, hown1, hgrow1⟩
    obtain ⟨⟨s0, s1, s2⟩, f0, f1, f2⟩ := res_cells ((hgrow1.block (w.heap.size + 1) ((Array.getElem?_eq_some_iff.1 Q4.out).1) (fun e => by have := Option.some.inj e; omega)).trans Q4.out)
    go_wp2
    refine bodyPost_ret (v := .agg #[.int .i64 c, .string a, .slice none 0 0]) (by simp [results, Tryd.results40, go_sem, *]) rfl ⟨rfl, ?_, ?_⟩
    · repeat (with_reducible first | exact hown1 | refine own_set ?_ (by simp; omega) _)
    · repeat (with_reducible refine gr_set ?_ (by simp) _)
      exact gr_trans (bl_grown q5 _) hgrow1

end Go.Proofs.YtlanhogdeiiecaaDoor
