/- The row of the law KeyWeighs: whatever comes in, the call returns true and leaves what came in as it was. No conditions. -/
import Derived.Test.YtdeomnbmbhkecaaHRoom4
import Derived.Test.YtdeomnbmbhkecaaHFormsL
import Derived.Test.YtdeomnbmbhkecaaHRd
namespace Go.Proofs.Ytdeomnbmbhkecaa.keyWeighs
open Go.ChangeShapes Go.WideShapes Go.ChangeAt Go.RowKit Go.Proofs.Ytdeomnbmbhkecaa.H Go.Proofs.YtdeomnbmbhkecaaW.PrintWords 
set_option linter.unusedVariables false
theorem own : ownKnob Try.prog.godebug = none := by kernel_rfl
theorem laidOut : laidOutB Try.prog = true := by kernel_rfl
set_option maxRecDepth 100000 in
theorem lifted (os : Os) (started : os.Started) (H : Type) (enc : TypeId × Value → H) :
    ReturnsInHanded {} Try.checked os 10 .any (Rows.keyWeighsSpec.pre6 enc Try.prog Try.f10 Rows.keyWeighsRow.domain false) (Rows.keyWeighsSpec.post enc Try.prog Try.f10 false true false false) := by
  refine returnsInHanded_of_change_sized (C := Try.checked) own started (by kernel_rfl) Try.func10
    (ChangeSpec.witness6 (enc := enc) (C := Try.checked) false ⟨#[], #[.agg #[.string ByteArray.empty, .int .u64 0, .bool false, .string ByteArray.empty], .slice none 0 0], []⟩ 8 (by kernel_rfl) (by kernel_rfl) (by kernel_rfl) (by kernel_rfl)) ?_
  intro W base args ds gs before hval0 hW hcnd hsz0 _
  have hsz : (DataW.weightsEach Try.prog (Try.f10.params.toList ++ Rows.keyWeighsSpec.plain.varTypes Try.prog) (ds ++ gs)).all (· ≤ reachBytes) = true := hsz0
  have hval : ∀ (j : Nat) t v, Try.f10.params[j]? = some t → args[j]? = some v → Value.okWide Try.prog W .any base t v := hval0
  have hW' := hW
  obtain ⟨p, q, hA0, hV, rfl, hfz, hnd⟩ := hW
  have hA : DataW.TrodAll enc Try.prog W 0 (fun _ => true) true Try.f10.params.toList args.toList ds p := hA0
  rw [Try.params10] at hA hval hsz
  obtain ⟨v0, vs0, d0, ds0, p0, q0, hargs, rfl, rfl, h0, r0⟩ := trodAll_cons hA
  obtain ⟨v1, vs1, d1, ds1, p1, q1, rfl, rfl, rfl, h1, r1⟩ := trodAll_cons r0
  obtain ⟨rfl, rfl, rfl⟩ := trodAll_nil r1
  obtain rfl : args = #[v0, v1] := by cases args; simp_all
  obtain ⟨rfl, rfl⟩ := trodVars_none hV
  have g0 := h0
  obtain ⟨cs0, y0, rfl, k0, q0⟩ := arg_struct Try.underlying55 (hval 0 55 v0 rfl rfl) (rd_entry) h0 (weights_at hsz (j := 0) (t := 55) rfl rfl)
  obtain rfl := form_entry k0
  have g1 := h1
  obtain ⟨A1, c1, l1, rfl, hc1, hr1, q1⟩ := arg_slice Try.underlying29 (hval 1 29 v1 rfl rfl) (rd_writes) h1 (weights_at hsz (j := 1) (t := 29) rfl rfl)
  refine (keyWeighs_c y0.1 y0.2.1 y0.2.2.1 y0.2.2.2 q0.1 q0.2.2.2 A1 c1 l1 (fun x hx => ⟨(q1.2 x hx).1, (q1.2 x hx).2.2⟩) W (sl_writes hr1)).mono fun e W' ⟨he, bel⟩ => ?_
  subst he
  exact ⟨_, rfl, _, _, _, [], _, [], hW', trodAll_mk1 (shut_bool (Try.underlying4) _), (trodAll_cons_mk (trod_back laidOut (by kernel_rfl) (of_decide_eq_true (by kernel_rfl)) g0 bel) (trodAll_cons_mk (trod_back laidOut (by kernel_rfl) (of_decide_eq_true (by kernel_rfl)) g1 bel) trodAll_mk0)), rfl, bel.frame _, fun h => by cases h⟩
theorem over : Rows.keyWeighsRow.holds Try.pinned (OpenSpec.ofChange Rows.keyWeighsSpec) :=
  OpenClaim.holds_of_wide 10 Try.f10 rfl rfl rfl rfl rfl rfl rfl ⟨rfl, rfl, rfl, rfl, rfl⟩ rfl rfl rfl rfl rfl (by kernel_rfl) Try.func10 (by kernel_rfl)
    (of_decide_eq_true (by kernel_rfl)) (by unfold Func.isWrapper; first | (rw [if_pos (by decide +kernel)]; kernel_rfl) | (rw [if_neg (by decide +kernel)]; exact ⟨rfl, rfl⟩))
    (fun os started H enc _ => lifted os started H enc)
theorem proved : Rows.KeyWeighsSaid := over
#print axioms proved
end Go.Proofs.Ytdeomnbmbhkecaa.keyWeighs
namespace Go.Proofs.Ytdeomnbmbhkecaa
/-- The row, under a short name, for the claim. -/
theorem keyWeighs_holds : Rows.KeyWeighsSaid := keyWeighs.proved
end Go.Proofs.Ytdeomnbmbhkecaa
