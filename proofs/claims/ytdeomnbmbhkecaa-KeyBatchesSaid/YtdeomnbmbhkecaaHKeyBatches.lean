/- The row of the law KeyBatches: whatever comes in, the call returns true and leaves what came in as it was. No conditions. -/
import Derived.Test.YtdeomnbmbhkecaaHRoom4
import Derived.Test.YtdeomnbmbhkecaaHFormsL
import Derived.Test.YtdeomnbmbhkecaaHRd
namespace Go.Proofs.Ytdeomnbmbhkecaa.keyBatches
open Go.ChangeShapes Go.WideShapes Go.ChangeAt Go.RowKit Go.Proofs.Ytdeomnbmbhkecaa.H Go.Proofs.YtdeomnbmbhkecaaW.PrintWords 
set_option linter.unusedVariables false
theorem own : ownKnob Try.prog.godebug = none := by kernel_rfl
theorem laidOut : laidOutB Try.prog = true := by kernel_rfl
set_option maxRecDepth 100000 in
theorem lifted (os : Os) (started : os.Started) (H : Type) (enc : TypeId × Value → H) :
    ReturnsInHanded {} Try.checked os 11 .any (Rows.keyBatchesSpec.pre6 enc Try.prog Try.f11 Rows.keyBatchesRow.domain false) (Rows.keyBatchesSpec.post enc Try.prog Try.f11 false true false false) := by
  refine returnsInHanded_of_change_sized (C := Try.checked) own started (by kernel_rfl) Try.func11
    (ChangeSpec.witness6 (enc := enc) (C := Try.checked) false ⟨#[], #[.slice none 0 0], []⟩ 8 (by kernel_rfl) (by kernel_rfl) (by kernel_rfl) (by kernel_rfl)) ?_
  intro W base args ds gs before hval0 hW hcnd hsz0 _
  have hsz : (DataW.weightsEach Try.prog (Try.f11.params.toList ++ Rows.keyBatchesSpec.plain.varTypes Try.prog) (ds ++ gs)).all (· ≤ reachBytes) = true := hsz0
  have hval : ∀ (j : Nat) t v, Try.f11.params[j]? = some t → args[j]? = some v → Value.okWide Try.prog W .any base t v := hval0
  have hW' := hW
  obtain ⟨p, q, hA0, hV, rfl, hfz, hnd⟩ := hW
  have hA : DataW.TrodAll enc Try.prog W 0 (fun _ => true) true Try.f11.params.toList args.toList ds p := hA0
  rw [Try.params11] at hA hval hsz
  obtain ⟨v0, vs0, d0, ds0, p0, q0, hargs, rfl, rfl, h0, r0⟩ := trodAll_cons hA
  obtain ⟨rfl, rfl, rfl⟩ := trodAll_nil r0
  obtain rfl : args = #[v0] := by cases args; simp_all
  obtain ⟨rfl, rfl⟩ := trodVars_none hV
  have g0 := h0
  obtain ⟨A0, c0, l0, rfl, hc0, hr0, q0⟩ := arg_slice Try.underlying29 (hval 0 29 v0 rfl rfl) (rd_writes) h0 (weights_at hsz (j := 0) (t := 29) rfl rfl)
  refine (keyBatches_c A0 c0 l0 W (sl_writes hr0)).mono fun e W' ⟨he, bel⟩ => ?_
  subst he
  exact ⟨_, rfl, _, _, _, [], _, [], hW', trodAll_mk1 (shut_bool (Try.underlying4) _), (trodAll_cons_mk (trod_back laidOut (by kernel_rfl) (of_decide_eq_true (by kernel_rfl)) g0 bel) trodAll_mk0), rfl, bel.frame _, fun h => by cases h⟩
theorem over : Rows.keyBatchesRow.holds Try.pinned (OpenSpec.ofChange Rows.keyBatchesSpec) :=
  OpenClaim.holds_of_wide 11 Try.f11 rfl rfl rfl rfl rfl rfl rfl ⟨rfl, rfl, rfl, rfl, rfl⟩ rfl rfl rfl rfl rfl (by kernel_rfl) Try.func11 (by kernel_rfl)
    (of_decide_eq_true (by kernel_rfl)) (by unfold Func.isWrapper; first | (rw [if_pos (by decide +kernel)]; kernel_rfl) | (rw [if_neg (by decide +kernel)]; exact ⟨rfl, rfl⟩))
    (fun os started H enc _ => lifted os started H enc)
theorem proved : Rows.KeyBatchesSaid := over
#print axioms proved
end Go.Proofs.Ytdeomnbmbhkecaa.keyBatches
namespace Go.Proofs.Ytdeomnbmbhkecaa
/-- The row, under a short name, for the claim. -/
theorem keyBatches_holds : Rows.KeyBatchesSaid := keyBatches.proved
end Go.Proofs.Ytdeomnbmbhkecaa
