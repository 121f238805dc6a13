/- The row of the law PaceFormulas: whatever comes in, the call returns true and leaves what came in as it was. No conditions. -/
import Derived.Test.YtjgpcbednhoplaaPLaws2
import Derived.Test.YtjgpcbednhoplaaHRd
namespace Go.Proofs.Ytjgpcbednhoplaa.paceFormulas
open Go.ChangeShapes Go.WideShapes Go.ChangeAt Go.RowKit Go.Proofs.Ytjgpcbednhoplaa.H Go.Proofs.YtjgpcbednhoplaaW.PrintWords 
set_option linter.unusedVariables false
theorem own : ownKnob Try.prog.godebug = none := by kernel_rfl
theorem laidOut : laidOutB Try.prog = true := by kernel_rfl
set_option maxRecDepth 100000 in
theorem lifted (os : Os) (started : os.Started) (H : Type) (enc : TypeId × Value → H) :
    ReturnsInHanded {} Try.checked os 10 .any (Rows.paceFormulasSpec.pre6 enc Try.prog Try.f10 Rows.paceFormulasRow.domain false) (Rows.paceFormulasSpec.post enc Try.prog Try.f10 false true false false) := by
  refine returnsInHanded_of_change_sized (C := Try.checked) own started (by kernel_rfl) Try.func10
    (ChangeSpec.witness6 (enc := enc) (C := Try.checked) false ⟨#[], #[cfgV (exC 0), .int .i64 0, .int .i64 0], []⟩ 8 (by kernel_rfl) (by kernel_rfl) (by kernel_rfl) (by kernel_rfl)) ?_
  intro W base args ds gs before hval0 hW hcnd hsz0 _
  have hsz : (DataW.weightsEach Try.prog (Try.f10.params.toList ++ Rows.paceFormulasSpec.plain.varTypes Try.prog) (ds ++ gs)).all (· ≤ reachBytes) = true := hsz0
  have hval : ∀ (j : Nat) t v, Try.f10.params[j]? = some t → args[j]? = some v → Value.okWide Try.prog W .any base t v := hval0
  have hW' := hW
  obtain ⟨p, q, hA0, hV, rfl, hfz, hnd⟩ := hW
  have hA : DataW.TrodAll enc Try.prog W 0 (fun _ => true) true Try.f10.params.toList args.toList ds p := hA0
  rw [Try.params10] at hA hval hsz
  obtain ⟨v0, vs0, d0, ds0, p0, q0, hargs, rfl, rfl, h0, r0⟩ := trodAll_cons hA
  obtain ⟨v1, vs1, d1, ds1, p1, q1, rfl, rfl, rfl, h1, r1⟩ := trodAll_cons r0
  obtain ⟨v2, vs2, d2, ds2, p2, q2, rfl, rfl, rfl, h2, r2⟩ := trodAll_cons r1
  obtain ⟨rfl, rfl, rfl⟩ := trodAll_nil r2
  obtain rfl : args = #[v0, v1, v2] := by cases args; simp_all
  obtain ⟨rfl, rfl⟩ := trodVars_none hV
  have g0 := h0
  obtain ⟨cs0, y0, rfl, k0, q0⟩ := arg_struct Try.underlying23 (hval 0 23 v0 rfl rfl) (rd_cfg) h0 (weights_at hsz (j := 0) (t := 23) rfl rfl)
  obtain rfl := form_cfg k0
  have g1 := h1
  obtain ⟨a1, rfl, w1⟩ := arg_int Try.underlying3 (hval 1 3 v1 rfl rfl) h1 (weights_at hsz (j := 1) (t := 3) rfl rfl)
  have g2 := h2
  obtain ⟨a2, rfl, w2⟩ := arg_int Try.underlying3 (hval 2 3 v2 rfl rfl) h2 (weights_at hsz (j := 2) (t := 3) rfl rfl)
  refine (paceFormulas_c (cfgOf y0) (cfg_ok q0) a1 a2 (wf_i64 w1) (wf_i64 w2) W).mono fun e W' ⟨he, bel⟩ => ?_
  subst he
  exact ⟨_, rfl, _, _, _, [], _, [], hW', trodAll_mk1 (shut_bool (Try.underlying4) _), (trodAll_cons_mk (trod_back laidOut (by kernel_rfl) (of_decide_eq_true (by kernel_rfl)) g0 bel) (trodAll_cons_mk (trod_back laidOut (by kernel_rfl) (of_decide_eq_true (by kernel_rfl)) g1 bel) (trodAll_cons_mk (trod_back laidOut (by kernel_rfl) (of_decide_eq_true (by kernel_rfl)) g2 bel) trodAll_mk0))), rfl, bel.frame _, fun h => by cases h⟩
theorem over : Rows.paceFormulasRow.holds Try.pinned (OpenSpec.ofChange Rows.paceFormulasSpec) :=
  OpenClaim.holds_of_wide 10 Try.f10 rfl rfl rfl rfl rfl rfl rfl ⟨rfl, rfl, rfl, rfl, rfl⟩ rfl rfl rfl rfl rfl (by kernel_rfl) Try.func10 (by kernel_rfl)
    (of_decide_eq_true (by kernel_rfl)) (by unfold Func.isWrapper; first | (rw [if_pos (by decide +kernel)]; kernel_rfl) | (rw [if_neg (by decide +kernel)]; exact ⟨rfl, rfl⟩))
    (fun os started H enc _ => lifted os started H enc)
theorem proved : Rows.PaceFormulasSaid := over
#print axioms proved
end Go.Proofs.Ytjgpcbednhoplaa.paceFormulas
namespace Go.Proofs.Ytjgpcbednhoplaa
/-- The row, under a short name, for the claim. -/
theorem paceFormulas_holds : Rows.PaceFormulasSaid := paceFormulas.proved
end Go.Proofs.Ytjgpcbednhoplaa
