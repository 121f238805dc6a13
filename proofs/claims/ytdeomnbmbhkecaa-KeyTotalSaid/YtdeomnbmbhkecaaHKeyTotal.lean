/- The row of the law KeyTotal: whatever comes in, the call returns true and leaves what came in as it was. No conditions. -/
import Derived.Test.YtdeomnbmbhkecaaHKey11
import Derived.Test.YtdeomnbmbhkecaaHRd
namespace Go.Proofs.Ytdeomnbmbhkecaa.keyTotal
open Go.ChangeShapes Go.WideShapes Go.ChangeAt Go.RowKit Go.Proofs.Ytdeomnbmbhkecaa.H Go.Proofs.YtdeomnbmbhkecaaW.PrintWords 
set_option linter.unusedVariables false
theorem own : ownKnob Try.prog.godebug = none := by kernel_rfl
theorem laidOut : laidOutB Try.prog = true := by kernel_rfl
set_option maxRecDepth 100000 in
theorem lifted (os : Os) (started : os.Started) (H : Type) (enc : TypeId × Value → H) :
    ReturnsInHanded {} Try.checked os 13 .any (Rows.keyTotalSpec.pre6 enc Try.prog Try.f13 Rows.keyTotalRow.domain false) (Rows.keyTotalSpec.post enc Try.prog Try.f13 false true false false) := by
  refine returnsInHanded_of_change_sized (C := Try.checked) own started (by kernel_rfl) Try.func13
    (ChangeSpec.witness6 (enc := enc) (C := Try.checked) false ⟨#[], #[.agg #[.string ByteArray.empty, .int .u64 0, .bool false, .string ByteArray.empty], .agg #[.string ByteArray.empty, .int .u64 0, .bool false, .string ByteArray.empty], .agg #[.string ByteArray.empty, .int .u64 0, .bool false, .string ByteArray.empty]], []⟩ 8 (by kernel_rfl) (by kernel_rfl) (by kernel_rfl) (by kernel_rfl)) ?_
  intro W base args ds gs before hval0 hW hcnd hsz0 _
  have hsz : (DataW.weightsEach Try.prog (Try.f13.params.toList ++ Rows.keyTotalSpec.plain.varTypes Try.prog) (ds ++ gs)).all (· ≤ reachBytes) = true := hsz0
  have hval : ∀ (j : Nat) t v, Try.f13.params[j]? = some t → args[j]? = some v → Value.okWide Try.prog W .any base t v := hval0
  have hW' := hW
  obtain ⟨p, q, hA0, hV, rfl, hfz, hnd⟩ := hW
  have hA : DataW.TrodAll enc Try.prog W 0 (fun _ => true) true Try.f13.params.toList args.toList ds p := hA0
  rw [Try.params13] at hA hval hsz
  obtain ⟨v0, vs0, d0, ds0, p0, q0, hargs, rfl, rfl, h0, r0⟩ := trodAll_cons hA
  obtain ⟨v1, vs1, d1, ds1, p1, q1, rfl, rfl, rfl, h1, r1⟩ := trodAll_cons r0
  obtain ⟨v2, vs2, d2, ds2, p2, q2, rfl, rfl, rfl, h2, r2⟩ := trodAll_cons r1
  obtain ⟨rfl, rfl, rfl⟩ := trodAll_nil r2
  obtain rfl : args = #[v0, v1, v2] := by cases args; simp_all
  obtain ⟨rfl, rfl⟩ := trodVars_none hV
  have g0 := h0
  obtain ⟨cs0, y0, rfl, k0, q0⟩ := arg_struct Try.underlying55 (hval 0 55 v0 rfl rfl) (rd_entry) h0 (weights_at hsz (j := 0) (t := 55) rfl rfl)
  obtain rfl := form_entry k0
  have g1 := h1
  obtain ⟨cs1, y1, rfl, k1, q1⟩ := arg_struct Try.underlying55 (hval 1 55 v1 rfl rfl) (rd_entry) h1 (weights_at hsz (j := 1) (t := 55) rfl rfl)
  obtain rfl := form_entry k1
  have g2 := h2
  obtain ⟨cs2, y2, rfl, k2, q2⟩ := arg_struct Try.underlying55 (hval 2 55 v2 rfl rfl) (rd_entry) h2 (weights_at hsz (j := 2) (t := 55) rfl rfl)
  obtain rfl := form_entry k2
  refine (keyTotal_c y0.1 y1.1 y2.1 y0.2.1 y1.2.1 y2.2.1 y0.2.2.1 y1.2.2.1 y2.2.2.1 y0.2.2.2 y1.2.2.2 y2.2.2.2 W).mono fun e W' ⟨he, bel⟩ => ?_
  subst he
  exact ⟨_, rfl, _, _, _, [], _, [], hW', trodAll_mk1 (shut_bool (Try.underlying4) _), (trodAll_cons_mk (trod_back laidOut (by kernel_rfl) (of_decide_eq_true (by kernel_rfl)) g0 bel) (trodAll_cons_mk (trod_back laidOut (by kernel_rfl) (of_decide_eq_true (by kernel_rfl)) g1 bel) (trodAll_cons_mk (trod_back laidOut (by kernel_rfl) (of_decide_eq_true (by kernel_rfl)) g2 bel) trodAll_mk0))), rfl, bel.frame _, fun h => by cases h⟩
theorem over : Rows.keyTotalRow.holds Try.pinned (OpenSpec.ofChange Rows.keyTotalSpec) :=
  OpenClaim.holds_of_wide 13 Try.f13 rfl rfl rfl rfl rfl rfl rfl ⟨rfl, rfl, rfl, rfl, rfl⟩ rfl rfl rfl rfl rfl (by kernel_rfl) Try.func13 (by kernel_rfl)
    (of_decide_eq_true (by kernel_rfl)) (by unfold Func.isWrapper; first | (rw [if_pos (by decide +kernel)]; kernel_rfl) | (rw [if_neg (by decide +kernel)]; exact ⟨rfl, rfl⟩))
    (fun os started H enc _ => lifted os started H enc)
theorem proved : Rows.KeyTotalSaid := over
#print axioms proved
end Go.Proofs.Ytdeomnbmbhkecaa.keyTotal
namespace Go.Proofs.Ytdeomnbmbhkecaa
/-- The row, under a short name, for the claim. -/
theorem keyTotal_holds : Rows.KeyTotalSaid := keyTotal.proved
end Go.Proofs.Ytdeomnbmbhkecaa
