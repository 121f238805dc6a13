/- The row of the law PaceLine: whatever comes in, the call returns true and leaves what came in as it was. No conditions. -/
import Derived.Test.YtjgpcbednhoplaaPLine
import Derived.Test.YtjgpcbednhoplaaHRd
namespace Go.Proofs.Ytjgpcbednhoplaa.paceLine
open Go.ChangeShapes Go.WideShapes Go.ChangeAt Go.RowKit Go.Proofs.Ytjgpcbednhoplaa.H Go.Proofs.YtjgpcbednhoplaaW.PrintWords 
set_option linter.unusedVariables false
theorem own : ownKnob Try.prog.godebug = none := by kernel_rfl
theorem laidOut : laidOutB Try.prog = true := by kernel_rfl
set_option maxRecDepth 100000 in
theorem lifted (os : Os) (started : os.Started) (H : Type) (enc : TypeId × Value → H) :
    ReturnsInHanded {} Try.checked os 6 .any (Rows.paceLineSpec.pre6 enc Try.prog Try.f6 Rows.paceLineRow.domain false) (Rows.paceLineSpec.post enc Try.prog Try.f6 false true false false) := by
  refine returnsInHanded_of_change_sized (C := Try.checked) own started (by kernel_rfl) Try.func6
    (ChangeSpec.witness6 (enc := enc) (C := Try.checked) false ⟨#[], #[.int .i64 0, .int .i64 0, .int .i64 0, .slice none 0 0], []⟩ 8 (by kernel_rfl) (by kernel_rfl) (by kernel_rfl) (by kernel_rfl)) ?_
  intro W base args ds gs before hval0 hW hcnd hsz0 _
  have hsz : (DataW.weightsEach Try.prog (Try.f6.params.toList ++ Rows.paceLineSpec.plain.varTypes Try.prog) (ds ++ gs)).all (· ≤ reachBytes) = true := hsz0
  have hval : ∀ (j : Nat) t v, Try.f6.params[j]? = some t → args[j]? = some v → Value.okWide Try.prog W .any base t v := hval0
  have hW' := hW
  obtain ⟨p, q, hA0, hV, rfl, hfz, hnd⟩ := hW
  have hA : DataW.TrodAll enc Try.prog W 0 (fun _ => true) true Try.f6.params.toList args.toList ds p := hA0
  rw [Try.params6] at hA hval hsz
  obtain ⟨v0, vs0, d0, ds0, p0, q0, hargs, rfl, rfl, h0, r0⟩ := trodAll_cons hA
  obtain ⟨v1, vs1, d1, ds1, p1, q1, rfl, rfl, rfl, h1, r1⟩ := trodAll_cons r0
  obtain ⟨v2, vs2, d2, ds2, p2, q2, rfl, rfl, rfl, h2, r2⟩ := trodAll_cons r1
  obtain ⟨v3, vs3, d3, ds3, p3, q3, rfl, rfl, rfl, h3, r3⟩ := trodAll_cons r2
  obtain ⟨rfl, rfl, rfl⟩ := trodAll_nil r3
  obtain rfl : args = #[v0, v1, v2, v3] := by cases args; simp_all
  obtain ⟨rfl, rfl⟩ := trodVars_none hV
  have g0 := h0
  obtain ⟨a0, rfl, w0⟩ := arg_int Try.underlying3 (hval 0 3 v0 rfl rfl) h0 (weights_at hsz (j := 0) (t := 3) rfl rfl)
  have g1 := h1
  obtain ⟨a1, rfl, w1⟩ := arg_int Try.underlying3 (hval 1 3 v1 rfl rfl) h1 (weights_at hsz (j := 1) (t := 3) rfl rfl)
  have g2 := h2
  obtain ⟨a2, rfl, w2⟩ := arg_int Try.underlying3 (hval 2 3 v2 rfl rfl) h2 (weights_at hsz (j := 2) (t := 3) rfl rfl)
  have g3 := h3
  obtain ⟨A3, c3, l3, rfl, hc3, hr3, q3⟩ := arg_slice Try.underlying40 (hval 3 40 v3 rfl rfl) (rd_ints) h3 (weights_at hsz (j := 3) (t := 40) rfl rfl)
  refine (paceLine_c a0 a1 a2 (wf_i64 w0) (wf_i64 w1) (wf_i64 w2) A3 c3 l3 W (sl_ints hr3) q3.2).mono fun e W' ⟨he, bel⟩ => ?_
  subst he
  exact ⟨_, rfl, _, _, _, [], _, [], hW', trodAll_mk1 (shut_bool (Try.underlying4) _), (trodAll_cons_mk (trod_back laidOut (by kernel_rfl) (of_decide_eq_true (by kernel_rfl)) g0 bel) (trodAll_cons_mk (trod_back laidOut (by kernel_rfl) (of_decide_eq_true (by kernel_rfl)) g1 bel) (trodAll_cons_mk (trod_back laidOut (by kernel_rfl) (of_decide_eq_true (by kernel_rfl)) g2 bel) (trodAll_cons_mk (trod_back laidOut (by kernel_rfl) (of_decide_eq_true (by kernel_rfl)) g3 bel) trodAll_mk0)))), rfl, bel.frame _, fun h => by cases h⟩
theorem over : Rows.paceLineRow.holds Try.pinned (OpenSpec.ofChange Rows.paceLineSpec) :=
  OpenClaim.holds_of_wide 6 Try.f6 rfl rfl rfl rfl rfl rfl rfl ⟨rfl, rfl, rfl, rfl, rfl⟩ rfl rfl rfl rfl rfl (by kernel_rfl) Try.func6 (by kernel_rfl)
    (of_decide_eq_true (by kernel_rfl)) (by unfold Func.isWrapper; first | (rw [if_pos (by decide +kernel)]; kernel_rfl) | (rw [if_neg (by decide +kernel)]; exact ⟨rfl, rfl⟩))
    (fun os started H enc _ => lifted os started H enc)
theorem proved : Rows.PaceLineSaid := over
#print axioms proved
end Go.Proofs.Ytjgpcbednhoplaa.paceLine
namespace Go.Proofs.Ytjgpcbednhoplaa
/-- The row, under a short name, for the claim. -/
theorem paceLine_holds : Rows.PaceLineSaid := paceLine.proved
end Go.Proofs.Ytjgpcbednhoplaa
