/- The row of the law SieveLeaves: whatever comes in, the call returns true and leaves what came in as it was. No conditions. -/
import Derived.Test.YtdpijhpjicbecaaVH
import Derived.Test.YtdpijhpjicbecaaHRd
namespace Go.Proofs.Ytdpijhpjicbecaa.sieveLeaves
open Go.ChangeShapes Go.WideShapes Go.ChangeAt Go.RowKit Go.Proofs.Ytdpijhpjicbecaa.H Go.Proofs.YtdpijhpjicbecaaW.PrintWords 
set_option linter.unusedVariables false
theorem own : ownKnob Try.prog.godebug = none := by kernel_rfl
theorem laidOut : laidOutB Try.prog = true := by kernel_rfl
set_option maxRecDepth 100000 in
theorem lifted (os : Os) (started : os.Started) (H : Type) (enc : TypeId × Value → H) :
    ReturnsInHanded {} Try.checked os 10 .any (Rows.sieveLeavesSpec.pre6 enc Try.prog Try.f10 Rows.sieveLeavesRow.domain false) (Rows.sieveLeavesSpec.post enc Try.prog Try.f10 false true false false) := by
  refine returnsInHanded_of_change_sized (C := Try.checked) own started (by kernel_rfl) Try.func10
    (ChangeSpec.witness6 (enc := enc) (C := Try.checked) false ⟨#[], #[.slice none 0 0, .agg #[.slice none 0 0, .slice none 0 0, .bool false], .int .i64 0], []⟩ 8 (by kernel_rfl) (by kernel_rfl) (by kernel_rfl) (by kernel_rfl)) ?_
  intro W base args ds gs before hval0 hW hcnd hsz0 _
  have hsz : (DataW.weightsEach Try.prog (Try.f10.params.toList ++ Rows.sieveLeavesSpec.plain.varTypes Try.prog) (ds ++ gs)).all (· ≤ reachBytes) = true := hsz0
  have hval : ∀ (j : Nat) t v, Try.f10.params[j]? = some t → args[j]? = some v → Value.okWide Try.prog W .any base t v := hval0
  have hW' := hW
  obtain ⟨p, q, hA0, hV, rfl, hfz, hnd⟩ := hW
  have hA : DataW.TrodAll enc Try.prog W 0 (fun _ => true) true Try.f10.params.toList args.toList ds p := hA0
  rw [Try.params10] at hA hval hsz
  obtain ⟨v0, vs0, d0, ds0, p0, q0, hargs, rfl, rfl, h0, r0⟩ := trodAll_cons hA
  obtain ⟨v1, vs1, d1, ds1, p1, q1, rfl, rfl, rfl, h1, r1⟩ := trodAll_cons r0
  obtain ⟨v2, vs2, d2, ds2, p2, q2, rfl, rfl, rfl, h2, r2⟩ := trodAll_cons r1
  obtain ⟨rfl, rfl, rfl⟩ := trodAll_nil r2
  obtain rfl : args = #[v0, v1, v2] := by cases args; simp_all
  obtain ⟨rfl, rfl⟩ := trodVars_none hV
  have g0 := h0
  obtain ⟨A0, c0, l0, rfl, hc0, hr0, q0⟩ := arg_slice Try.underlying22 (hval 0 22 v0 rfl rfl) (rd_lists) h0 (weights_at hsz (j := 0) (t := 22) rfl rfl)
  have g1 := h1
  obtain ⟨cs1, y1, rfl, k1, q1⟩ := arg_struct Try.underlying60 (hval 1 60 v1 rfl rfl) (rd_below) h1 (weights_at hsz (j := 1) (t := 60) rfl rfl)
  obtain ⟨b1, rfl, hb1, hbk1, hbh1⟩ := form_below k1
  have g2 := h2
  obtain ⟨a2, rfl, w2⟩ := arg_int Try.underlying3 (hval 2 3 v2 rfl rfl) h2 (weights_at hsz (j := 2) (t := 3) rfl rfl)
  refine (sieveLeaves_w A0 c0 l0 b1 a2 W (sl_lists hr0) (lists_len q0) hb1).mono fun e W' ⟨he, bel⟩ => ?_
  subst he
  exact ⟨_, rfl, _, _, _, [], _, [], hW', trodAll_mk1 (shut_bool (Try.underlying4) _), (trodAll_cons_mk (trod_back laidOut (by kernel_rfl) (of_decide_eq_true (by kernel_rfl)) g0 bel) (trodAll_cons_mk (trod_back laidOut (by kernel_rfl) (of_decide_eq_true (by kernel_rfl)) g1 bel) (trodAll_cons_mk (trod_back laidOut (by kernel_rfl) (of_decide_eq_true (by kernel_rfl)) g2 bel) trodAll_mk0))), rfl, bel.frame _, fun h => by cases h⟩
theorem over : Rows.sieveLeavesRow.holds Try.pinned (OpenSpec.ofChange Rows.sieveLeavesSpec) :=
  OpenClaim.holds_of_wide 10 Try.f10 rfl rfl rfl rfl rfl rfl rfl ⟨rfl, rfl, rfl, rfl, rfl⟩ rfl rfl rfl rfl rfl (by kernel_rfl) Try.func10 (by kernel_rfl)
    (of_decide_eq_true (by kernel_rfl)) (by unfold Func.isWrapper; first | (rw [if_pos (by decide +kernel)]; kernel_rfl) | (rw [if_neg (by decide +kernel)]; exact ⟨rfl, rfl⟩))
    (fun os started H enc _ => lifted os started H enc)
theorem proved : Rows.SieveLeavesSaid := over
#print axioms proved
end Go.Proofs.Ytdpijhpjicbecaa.sieveLeaves
namespace Go.Proofs.Ytdpijhpjicbecaa
/-- The row, under a short name, for the claim. -/
theorem sieveLeaves_holds : Rows.SieveLeavesSaid := sieveLeaves.proved
end Go.Proofs.Ytdpijhpjicbecaa
