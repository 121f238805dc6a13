/- The row of the law MergeParts: whatever comes in, the call returns true and leaves what came in as it was. No conditions. -/
import Derived.Test.YtdpijhpjicbecaaGPart
import Derived.Test.YtdpijhpjicbecaaHRd
namespace Go.Proofs.Ytdpijhpjicbecaa.mergeParts
open Go.ChangeShapes Go.WideShapes Go.ChangeAt Go.RowKit Go.Proofs.Ytdpijhpjicbecaa.H Go.Proofs.YtdpijhpjicbecaaW.PrintWords 
set_option linter.unusedVariables false
theorem own : ownKnob Try.prog.godebug = none := by kernel_rfl
theorem laidOut : laidOutB Try.prog = true := by kernel_rfl
set_option maxRecDepth 100000 in
theorem lifted (os : Os) (started : os.Started) (H : Type) (enc : TypeId × Value → H) :
    ReturnsInHanded {} Try.checked os 6 .any (Rows.mergePartsSpec.pre6 enc Try.prog Try.f6 Rows.mergePartsRow.domain false) (Rows.mergePartsSpec.post enc Try.prog Try.f6 false true false false) := by
  refine returnsInHanded_of_change_sized (C := Try.checked) own started (by kernel_rfl) Try.func6
    (ChangeSpec.witness6 (enc := enc) (C := Try.checked) false ⟨#[], #[.slice none 0 0, .slice none 0 0, .slice none 0 0], []⟩ 8 (by kernel_rfl) (by kernel_rfl) (by kernel_rfl) (by kernel_rfl)) ?_
  intro W base args ds gs before hval0 hW hcnd hsz0 _
  have hsz : (DataW.weightsEach Try.prog (Try.f6.params.toList ++ Rows.mergePartsSpec.plain.varTypes Try.prog) (ds ++ gs)).all (· ≤ reachBytes) = true := hsz0
  have hval : ∀ (j : Nat) t v, Try.f6.params[j]? = some t → args[j]? = some v → Value.okWide Try.prog W .any base t v := hval0
  have hW' := hW
  obtain ⟨p, q, hA0, hV, rfl, hfz, hnd⟩ := hW
  have hA : DataW.TrodAll enc Try.prog W 0 (fun _ => true) true Try.f6.params.toList args.toList ds p := hA0
  rw [Try.params6] at hA hval hsz
  obtain ⟨v0, vs0, d0, ds0, p0, q0, hargs, rfl, rfl, h0, r0⟩ := trodAll_cons hA
  obtain ⟨v1, vs1, d1, ds1, p1, q1, rfl, rfl, rfl, h1, r1⟩ := trodAll_cons r0
  obtain ⟨v2, vs2, d2, ds2, p2, q2, rfl, rfl, rfl, h2, r2⟩ := trodAll_cons r1
  obtain ⟨rfl, rfl, rfl⟩ := trodAll_nil r2
  obtain rfl : args = #[v0, v1, v2] := by cases args; simp_all
  obtain ⟨rfl, rfl⟩ := trodVars_none hV
  have g0 := h0
  obtain ⟨A0, c0, l0, rfl, hc0, hr0, q0⟩ := arg_slice Try.underlying27 (hval 0 27 v0 rfl rfl) (rd_entries) h0 (weights_at hsz (j := 0) (t := 27) rfl rfl)
  have g1 := h1
  obtain ⟨A1, c1, l1, rfl, hc1, hr1, q1⟩ := arg_slice Try.underlying27 (hval 1 27 v1 rfl rfl) (rd_entries) h1 (weights_at hsz (j := 1) (t := 27) rfl rfl)
  have g2 := h2
  obtain ⟨A2, c2, l2, rfl, hc2, hr2, q2⟩ := arg_slice Try.underlying27 (hval 2 27 v2 rfl rfl) (rd_entries) h2 (weights_at hsz (j := 2) (t := 27) rfl rfl)
  refine (mergeParts_w A0 c0 l0 A1 c1 l1 A2 c2 l2 W (sl_entries hr0) (sl_entries hr1) (sl_entries hr2) q0.2 q1.2 q2.2).mono fun e W' ⟨he, bel⟩ => ?_
  subst he
  exact ⟨_, rfl, _, _, _, [], _, [], hW', trodAll_mk1 (shut_bool (Try.underlying4) _), (trodAll_cons_mk (trod_back laidOut (by kernel_rfl) (of_decide_eq_true (by kernel_rfl)) g0 bel) (trodAll_cons_mk (trod_back laidOut (by kernel_rfl) (of_decide_eq_true (by kernel_rfl)) g1 bel) (trodAll_cons_mk (trod_back laidOut (by kernel_rfl) (of_decide_eq_true (by kernel_rfl)) g2 bel) trodAll_mk0))), rfl, bel.frame _, fun h => by cases h⟩
theorem over : Rows.mergePartsRow.holds Try.pinned (OpenSpec.ofChange Rows.mergePartsSpec) :=
  OpenClaim.holds_of_wide 6 Try.f6 rfl rfl rfl rfl rfl rfl rfl ⟨rfl, rfl, rfl, rfl, rfl⟩ rfl rfl rfl rfl rfl (by kernel_rfl) Try.func6 (by kernel_rfl)
    (of_decide_eq_true (by kernel_rfl)) (by unfold Func.isWrapper; first | (rw [if_pos (by decide +kernel)]; kernel_rfl) | (rw [if_neg (by decide +kernel)]; exact ⟨rfl, rfl⟩))
    (fun os started H enc _ => lifted os started H enc)
theorem proved : Rows.MergePartsSaid := over
#print axioms proved
end Go.Proofs.Ytdpijhpjicbecaa.mergeParts
namespace Go.Proofs.Ytdpijhpjicbecaa
/-- The row, under a short name, for the claim. -/
theorem mergeParts_holds : Rows.MergePartsSaid := mergeParts.proved
end Go.Proofs.Ytdpijhpjicbecaa
