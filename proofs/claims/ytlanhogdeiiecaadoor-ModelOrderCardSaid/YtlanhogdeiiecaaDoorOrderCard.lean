/-
  ModelOrder: requests of two keys do not hang on one another: for every input the law answers true, and its arguments read afterwards as before. Condition: the listed tables of the library hold what the program's text lays (tied by the card).
-/
import Derived.Test.YtlanhogdeiiecaaDoorOrder
import Derived.Test.YtlanhogdeiiecaaDoorSumOk
import Derived.Test.YtlanhogdeiiecaaDoorFrame
import Derived.Lib.SmallJoins
set_option linter.unusedVariables false
set_option linter.unusedSimpArgs false
namespace Go.Proofs.YtlanhogdeiiecaaDoor.modelOrder
open Go.ChangeShapes Go.WideShapes Go.ChangeAt Go.RowKit Go.Joins
open Go.ChangeMaps (open_string)

theorem cellsReq : Tryd.prog.cellsOf 32 = 3 := by kernel_rfl
set_option maxRecDepth 100000 in
theorem contract (H : Type) (enc : TypeId × Value → H) (W : World) (base : Nat) (args : Array Value) (ds gs : List (DataW H)) (before : List MemPlace)
    (hval : ∀ (j : Nat) t v, Tryd.f7.params[j]? = some t → args[j]? = some v → Value.okWide Tryd.prog W .any base t v)
    (hW : DataW.Whole enc Tryd.prog Tryd.f7.params.toList Rows.modelOrderSpec.vars false W args.toList ds gs before) (hL : laidMetH Tryd.prog laids W) :
    Calls Tryd.prog 7 args W fun e W' => ∃ v, e = .returned v ∧ Rows.modelOrderSpec.post enc Tryd.prog Tryd.f7 false true false false W args v W' := by
  have hW' := hW
  obtain ⟨p, q, hA0, hV, rfl, hfz, hnd⟩ := hW
  have hA : DataW.TrodAll enc Tryd.prog W 0 (fun _ => true) true Tryd.f7.params.toList args.toList ds p := hA0
  rw [Tryd.params7] at hA hval
  have hAk := hA
  obtain ⟨v0, vs0, d0, ds0, p0, q0, hargs, rfl, rfl, h0, r0⟩ := trodAll_cons hA
  obtain ⟨v1, vs1, d1, ds1, p1, q1, rfl, rfl, rfl, h1, r1⟩ := trodAll_cons r0
  obtain ⟨v2, vs2, d2, ds2, p2, q2, rfl, rfl, rfl, h2, r2⟩ := trodAll_cons r1
  obtain ⟨rfl, rfl, rfl⟩ := trodAll_nil r2
  obtain rfl : args = #[v0, v1, v2] := by cases args; simp_all
  obtain ⟨rfl, rfl⟩ := trodVars_none hV
  obtain ⟨a0, len0, cap0, rfl⟩ := okWide_slice Tryd.underlying22 (hval 0 22 v0 rfl rfl)
  obtain ⟨fuel0, hf0⟩ := h0
  obtain ⟨v0, qs0, hv0, hqs0⟩ := reqs_open (by simpa [Value.cells] using hf0)
  obtain rfl : v0 = .slice a0 len0 cap0 := by simpa using hv0.symm
  clear hf0 hv0
  obtain ⟨c10, c11, c12, y10, y11, y12, m1, rfl, rfl, rfl, g10, g11, g12⟩ := open_agg3 Tryd.underlying32 (by kernel_rfl) cellsReq (hval 1 32 v1 rfl rfl) h1
  obtain ⟨z10, e10, _⟩ := DataW.trod_int Tryd.underlying3 g10
  obtain ⟨z11, e11, _⟩ := DataW.trod_string Tryd.underlying9 g11
  obtain ⟨z12, e12, _⟩ := DataW.trod_string Tryd.underlying9 g12
  simp only [List.cons.injEq, and_true] at e10 e11 e12
  subst e10 e11 e12
  obtain ⟨c20, c21, c22, y20, y21, y22, m2, rfl, rfl, rfl, g20, g21, g22⟩ := open_agg3 Tryd.underlying32 (by kernel_rfl) cellsReq (hval 2 32 v2 rfl rfl) h2
  obtain ⟨z20, e20, _⟩ := DataW.trod_int Tryd.underlying3 g20
  obtain ⟨z21, e21, _⟩ := DataW.trod_string Tryd.underlying9 g21
  obtain ⟨z22, e22, _⟩ := DataW.trod_string Tryd.underlying9 g22
  simp only [List.cons.injEq, and_true] at e20 e21 e22
  subst e20 e21 e22
  clear hA0
  refine (order_law sumOk W (table hL) _ qs0 hqs0 ⟨z10, z11, z12⟩ ⟨z20, z21, z22⟩).mono fun e W' ⟨he, hb⟩ => ⟨_, he, ?_⟩
  exact post_of_below hW' (fun _ _ _ => trodAll_cons_mk (shut_bool Tryd.underlying4 _) trodAll_mk0)
    (fun sp hsp => args_stay laidOutP hb (by intro t ht; rcases List.mem_cons.1 ht with rfl | ht; exact ⟨by kernel_rfl, of_decide_eq_true (by kernel_rfl)⟩; rcases List.mem_cons.1 ht with rfl | ht; exact ⟨by kernel_rfl, of_decide_eq_true (by kernel_rfl)⟩; rcases List.mem_cons.1 ht with rfl | ht; exact ⟨by kernel_rfl, of_decide_eq_true (by kernel_rfl)⟩; cases ht) hAk (fun x hx => hW'.lt x (by simpa using hx)) (fun x hx => hsp x (by simpa using hx)))
    (fun _ _ => rfl) rfl hb (ok_one (by kernel_rfl) rfl (okWide_bool_mk Tryd.underlying4 _))

def wargs : Array Value := #[.slice none 0 0, .agg #[.int .i64 0, .string ⟨#[]⟩, .string ⟨#[]⟩], .agg #[.int .i64 0, .string ⟨#[]⟩, .string ⟨#[]⟩]]
theorem laid_met (os : Os) : laidMet Tryd.prog laids ((laidWorld os).forCall (fun _ _ => 0) ⟨#[], wargs, []⟩).memory :=
  laidMet_of_run' 8 (by kernel_rfl) (by kernel_rfl)
theorem reads (os : Os) {H : Type} (enc : TypeId × Value → H) : ∃ places, DataW.whole enc Tryd.prog ((laidWorld os).forCall (fun _ _ => 0) ⟨#[], wargs, []⟩).memory Tryd.f7.params.toList Rows.modelOrderSpec.vars false wargs.toList 8 = some ([.nil, .agg [.lit (.int .i64 0), .lit (.string []), .lit (.string [])], .agg [.lit (.int .i64 0), .lit (.string []), .lit (.string [])]], [], places) :=
  ⟨[], by kernel_rfl⟩

set_option maxRecDepth 100000 in
theorem lifted (os : Os) (started : os.Started) (H : Type) (enc : TypeId × Value → H) (F : Stop.Interp) :
    ReturnsInHanded {} Tryd.checked os 7 .any ((OpenSpec.ofChange Rows.modelOrderSpec).preRow enc Tryd.prog Tryd.f7 Rows.modelOrderRow.domain false Rows.modelOrderRow.laid) (((OpenSpec.ofChange Rows.modelOrderSpec).at F).post enc Tryd.prog Tryd.f7 false true false false) := by
  obtain ⟨places, hx⟩ := reads os enc
  refine returnsInHanded_of_row (C := Tryd.checked) (s := OpenSpec.ofChange Rows.modelOrderSpec) own started (by kernel_rfl) Tryd.func7
    (witness_row_at (enc := enc) (C := Tryd.checked) false (laidWorld os) wargs rfl (by kernel_rfl) (by kernel_rfl) (by kernel_rfl)
      (OpenSpec.preRow_of_cond 8 hx (by kernel_rfl) (fun k hk => by cases hk) (by kernel_rfl) (laid_met os))) ?_
  intro W base args ds gs before hval hW _ _ _ hL _ _
  exact contract H enc W base args ds gs before hval hW hL

theorem said : Rows.ModelOrderSaid :=
  OpenClaim.holds_of_cond 7 Tryd.f7 rfl rfl rfl rfl rfl rfl rfl ⟨rfl, rfl, rfl, rfl, rfl⟩ rfl rfl rfl rfl rfl (by kernel_rfl) Tryd.func7 (by kernel_rfl)
    (of_decide_eq_true (by kernel_rfl)) (by unfold Func.isWrapper; first | (rw [if_pos (by decide +kernel)]; kernel_rfl) | (rw [if_neg (by decide +kernel)]; exact ⟨rfl, rfl⟩))
    (fun os started H enc _ F => by rw [OpenClaim.pre_eq_preRow]; exact lifted os started H enc F)

theorem plain (f : FuncId) (fn : Func) (hf : Tryd.pinned.checked.prog.funcNamed "sluicegate/sluicegatelaw16.ModelOrder" = some f) (hfn : Tryd.pinned.checked.prog.funcs[f]? = some fn) :
    true = Tryd.pinned.checked.prog.looks [] ∧ ∀ (j : Nat) t, fn.params[j]? = some t → Tryd.pinned.checked.prog.wantsStandIn t = false := by
  obtain rfl : f = 7 := Option.some.inj ((show Tryd.prog.funcNamed "sluicegate/sluicegatelaw16.ModelOrder" = some 7 by kernel_rfl).symm.trans hf) |>.symm
  obtain rfl : fn = Tryd.f7 := (Option.some.inj (Tryd.func7.symm.trans hfn)).symm
  refine ⟨by kernel_rfl, fun j t ht => ?_⟩
  rw [Tryd.params7] at ht
  have hm : t ∈ [22, 32, 32] := by simpa using Array.mem_of_getElem? ht
  have hall : ([22, 32, 32].all fun u => !Tryd.prog.wantsStandIn u) = true := by kernel_rfl
  exact (show Tryd.prog.wantsStandIn t = false by simpa using List.all_eq_true.1 hall t hm)

/-- THE CARD -/
theorem card : Rows.ModelOrderCardSaid :=
  Claim7.holds_tied_plain_at .later [] _ _ _ _ said (fun _ h => by cases h) (by kernel_rfl) (fun _ h => by cases h) modelOrder_row_tie rfl ⟨rfl, rfl⟩ (by kernel_rfl) rfl plain (by kernel_rfl)
#print axioms card
end Go.Proofs.YtlanhogdeiiecaaDoor.modelOrder
