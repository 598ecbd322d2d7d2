/-
  The model (layer 16) at this program, on: get, remove, stat.
-/
import Derived.Test.YtlanhogdeiiecaaDoorModel2
import Derived.Lib.LaidTab
import Derived.Lib.ItoaNum
set_option linter.unusedVariables false
set_option linter.unusedSimpArgs false
namespace Go.Proofs.YtlanhogdeiiecaaDoor
open Go.RowKit Go.Shelf Go.Lib Go.Maps

/-- What is known of digest.Sum: it hands back F of its argument. -/
structure SumOk (F : ByteArray → ByteArray) : Prop where
  calls : ∀ (s : ByteArray) (w : World), s.size < 16384 → Calls Tryd.prog 45 #[.string s] w (RetBelow (.string (F s)) w)
  size : ∀ s, (F s).size ≤ 1000

/-- The library's table of powers of ten is as it was laid. -/
def Tab (w : World) : Prop := TabIs Tryd.prog w "internal/strconv.uint64pow10" .u64 Lib.pow10Tab

theorem tab_cells {w : World} (h : Tab w) : ∃ (g : Nat) (cs : Array Value) (t : TypeId) (fr : Nat × Nat), w.heap[g]? = some (Obj.cells cs t fr) ∧ ∀ W : World, W.heap[g]? = w.heap[g]? → Tab W := by
  unfold Tab TabIs World.var? at *
  cases hg : Tryd.prog.globalNamed "internal/strconv.uint64pow10" with
  | none => rw [hg] at h; cases h
  | some g =>
    rw [hg] at h
    simp only [Option.bind_some] at h ⊢
    cases hb : w.heap[g]? with
    | none => rw [hb] at h; cases h
    | some o =>
      rw [hb] at h
      cases o with
      | cells cs t fr => exact ⟨g, cs, t, fr, hb, fun W hW => by rw [hW.trans hb]; exact h⟩
      | _ => cases h
theorem tab_below {w W : World} (h : Tab w) (hb : Below w.heap.size w W) : Tab W := by
  obtain ⟨g, cs, t, fr, hg, k⟩ := tab_cells h
  exact k W (hb.block g (Array.getElem?_eq_some_iff.1 hg).1)
theorem tab_grown {w W : World} {bk n : Nat} {D : DataW Unit} (h : Tab w) (ho : OwnsK w bk n D) (hb : w.grownBy W (some bk)) : Tab W := by
  obtain ⟨g, cs, t, fr, hg, k⟩ := tab_cells h
  obtain ⟨es, clock, hm, _⟩ := ho
  refine k W (hb.block g (Array.getElem?_eq_some_iff.1 hg).1 (fun e => ?_))
  rw [Option.some.inj e, hm] at hg
  cases hg

theorem below_grow (w : World) (k : Nat) (os : Array Obj) : Below w.heap.size w (Sort.grow (w.drewN k) os) :=
  ⟨rfl, rfl, rfl, by show w.heap.size ≤ (w.heap ++ os).size; rw [Array.size_append]; omega, fun j hj => by
    show (w.heap ++ os)[j]? = _
    rw [Array.getElem?_append, if_pos hj]⟩

/-- A number in digits. -/
def itoaB (n : Nat) : ByteArray := ⟨(Lib.itoa n).toArray⟩
theorem itoa_any (n : Nat) (hn : n < 16384) (w : World) (ht : Tab w) :
    Calls Tryd.prog 44 #[.int .i64 n] w (RetBelow (.string (itoaB n)) w) :=
  (Tryd.strconv_Itoa n (by omega) (by omega) w ht).mono fun e w' ⟨he, k, os, hw⟩ => ⟨he, hw ▸ below_grow w k os⟩

set_option maxRecDepth 100000 in
set_option maxHeartbeats 1000000 in
theorem get1_any (u : ByteArray) (W : World) (bk n : Nat) (D : DataW Unit) (ho : OwnsK W bk n D) :
    Calls Tryd.prog 41 #[.string u] W (Answers W bk n D 0 u) := by
  have HO := Lib.hid ho
  clear ho
  go_enter Tryd.func41, Tryd.ntmps41
  go_wp2
  refine bodyPost_ret (v := .agg #[.int .i64 0, .string u, .slice none 0 0]) (by simp [results, Tryd.results41, go_sem]) rfl (answers_of HO.out ?_)
  repeat (with_reducible first | exact Below.refl _ _ | refine Below.drew ?_ | refine bl_alloc ?_ _ | refine bl_set ?_ (by simp) _)

set_option maxRecDepth 100000 in
set_option maxHeartbeats 1000000 in
theorem remove1_any (u : ByteArray) (k : ByteArray) (hk : k.size ≤ maxLen) (W : World) (p b2 b3 bk n : Nat) (hn : n < maxLen) (D : DataW Unit) (ho : OwnsK W bk n D)
    (c2 : W.cell? ⟨b2, 0, none⟩ = some (.pointer (some ⟨p, 0, none⟩))) (c3 : W.cell? ⟨b3, 1, none⟩ = some (.string k)) (cp : W.cell? ⟨p, 0, none⟩ = some (.map (some bk))) :
    Calls Tryd.prog 42 #[.string u, .pointer (some ⟨b2, 0, none⟩), .pointer (some ⟨b3, 0, none⟩)] W (Answers W bk n (D.put (.string k.data.toList) (kd [] true)) 0 ⟨#[]⟩) := by
  have HO := Lib.hid ho
  have hlt := ho.lt
  have l2 := World.block_lt_of_cell? W _ c2
  have l3 := World.block_lt_of_cell? W _ c3
  have lp := World.block_lt_of_cell? W _ cp
  have d2 := (cell_same (one_old W (.cells #[.int .i64 0, .string ⟨#[]⟩, .slice none 0 0] 37) b2 l2) 0).trans c2
  have d3 := (cell_same (one_old W (.cells #[.int .i64 0, .string ⟨#[]⟩, .slice none 0 0] 37) b3 l3) 1).trans c3
  have dp := (cell_same (one_old W (.cells #[.int .i64 0, .string ⟨#[]⟩, .slice none 0 0] 37) p lp) 0).trans cp
  clear ho c2 c3 cp
  go_enter Tryd.func42, Tryd.ntmps42
  go_wp2
  generalize hW : World.alloc _ _ = W1
  have q1 : W1.heap[bk]? = W.heap[bk]? := by rw [← hW]; exact one_old _ _ _ hlt
  have q4 : W1.heap[W.heap.size]? = some (.cells #[.int .i64 0, .string ⟨#[]⟩, .slice none 0 0] 37 (0, 0)) := by rw [← hW]; exact (MapKept.heap_alloc W _).1
  have q5 : Below W.heap.size W W1 := by rw [← hW]; exact bl_alloc (Below.refl _ W) _
  have e2 : W1.cell? ⟨b2, 0, none⟩ = some (.pointer (some ⟨p, 0, none⟩)) := by rw [← hW]; exact d2
  have e3 : W1.cell? ⟨b3, 1, none⟩ = some (.string k) := by rw [← hW]; exact d3
  have ep : W1.cell? ⟨p, 0, none⟩ = some (.map (some bk)) := by rw [← hW]; exact dp
  have Q4 := Lib.hid q4
  have Q1 := Lib.hid q1
  clear hW q1 q4 d2 d3 dp
  go_still_tail 7, (by kernel_rfl)
  go_wp2_with (at_mapUpdate; refine wpList_mapUpdate_own _ rfl _ _ _ 46 rfl 9 68 lawK Tryd.underlying46 RK bk n D rfl (OwnsK.same HO.out Q1.out) hn _ _ (.string k.data.toList) rfl rfl (WideMaps.keyOf_string_mk Tryd.underlying9 hk) (kd [] true) [] rfl ?_; intro w1 hown1 hgrow1; obtain ⟨⟨s0, s1, s2⟩, f0, f1, f2⟩ := res_cells ((hgrow1.block (W.heap.size) ((Array.getElem?_eq_some_iff.1 Q4.out).1) (fun e => by have := Option.some.inj e; omega)).trans Q4.out))
  refine bodyPost_ret (v := .agg #[.int .i64 0, .string ⟨#[]⟩, .slice none 0 0]) (by simp [results, Tryd.results42, go_sem, *]) rfl ⟨rfl, ?_, ?_⟩
  · repeat (with_reducible first | exact hown1 | refine own_set ?_ (by simp; omega) _)
  · repeat (with_reducible refine gr_set ?_ (by simp) _)
    exact gr_trans (gr_trans (bl_grown q5 _) (gr_drew W1 _)) hgrow1

/-- What Stat tells of a value. -/
def statV (F : ByteArray → ByteArray) (v : ByteArray) : ByteArray := (itoaB v.size ++ ⟨#[32]⟩) ++ hexS (F v)

theorem itoa_len (n : Nat) (hn : n < 16384) : (itoaB n).size ≤ 100 := by
  have h : ∀ (m u : Nat), u < 10 ^ (m + 1) → (Lib.decDigits u).length ≤ m + 1 := by
    intro m
    induction m with
    | zero => intro u hu; rw [Lib.decDigits_one (by simpa using hu)]; simp
    | succ m ih =>
      intro u hu
      rw [Lib.decDigits]
      split
      · simp
      · have := ih (u / 10) (by rw [Nat.div_lt_iff_lt_mul (by omega)]; rw [Nat.pow_succ] at hu; exact hu)
        simp
        omega
  have h5 := h 4 n (by omega)
  show (Lib.itoa (n : Int)).length ≤ 100
  unfold Lib.itoa
  rw [if_neg (by omega)]
  simp
  omega

set_option maxRecDepth 100000 in
set_option maxHeartbeats 1000000 in
theorem stat1_any {F : ByteArray → ByteArray} (hF : SumOk F) (u : ByteArray) (hu : u.size < 16384) (W : World) (ht : Tab W) (bk n : Nat) (D : DataW Unit) (ho : OwnsK W bk n D) :
    Calls Tryd.prog 43 #[.string u] W (Answers W bk n D 0 (statV F u)) := by
  have HO := Lib.hid ho
  clear ho
  have hl := itoa_len u.size hu
  have hs := hF.size u
  have hh : (hexS (F u)).size ≤ 2000 := by rw [hexS_size]; omega
  go_enter Tryd.func43, Tryd.ntmps43
  go_wp2_with fail
  refine (itoa_any u.size hu _ (tab_below ht (bl_alloc (Below.refl _ W) _))).mono ?_
  rintro e w1 ⟨rfl, hb1⟩
  go_wp2_with fail
  refine (hF.calls u _ hu).mono ?_
  rintro e w2 ⟨rfl, hb2⟩
  go_wp2_with fail
  refine (hex_any (F u) (by omega) _).mono ?_
  rintro e w3 ⟨rfl, hb3⟩
  have k0 := (MapKept.heap_alloc W (.cells #[.int .i64 0, .string ⟨#[]⟩, .slice none 0 0] 37)).1
  have kz : W.heap.size < (W.alloc (.cells #[.int .i64 0, .string ⟨#[]⟩, .slice none 0 0] 37)).heap.size := by simp
  have k3 := ((hb3.block _ (Nat.lt_of_lt_of_le kz (Nat.le_trans hb1.size hb2.size))).trans ((hb2.block _ (Nat.lt_of_lt_of_le kz hb1.size)).trans ((hb1.block _ kz).trans k0)))
  obtain ⟨⟨s0, s1, s2⟩, f0, f1, f2⟩ := res_cells k3
  have hB := bl_trans (bl_trans (bl_trans (bl_alloc (Below.refl _ W) _) hb1) hb2) hb3
  clear k0 kz k3
  go_wp2
  refine bodyPost_ret (v := .agg #[.int .i64 0, .string (statV F u), .slice none 0 0]) (by simp [results, Tryd.results43, go_sem, *, statV]) rfl (answers_of HO.out ?_)
  repeat (with_reducible refine bl_set ?_ (by simp) _)
  exact hB

end Go.Proofs.YtlanhogdeiiecaaDoor
