/- The row of the law SieveKeeps: whatever comes in, the call returns true and leaves what came in as it was. No conditions. -/
import Derived.Test.YtdpijhpjicbecaaVE
import Derived.Test.YtdpijhpjicbecaaHRd
namespace Go.Proofs.Ytdpijhpjicbecaa.sieveKeeps
open Go.ChangeShapes Go.WideShapes Go.ChangeAt Go.RowKit Go.Proofs.Ytdpijhpjicbecaa.H Go.Proofs.YtdpijhpjicbecaaW.PrintWords 
set_option linter.unusedVariables false
theorem own : ownKnob Try.prog.godebug = none := by kernel_rfl
theorem laidOut : laidOutB Try.prog = true := by kernel_rfl
set_option maxRecDepth 100000 in
theorem lifted (os : Os) (started : os.Started) (H : Type) (enc : TypeId × Value → H) :
    ReturnsInHanded {} Try.checked os 9 .any (Rows.sieveKeepsSpec.pre6 enc Try.prog Try.f9 Rows.sieveKeepsRow.domain false) (Rows.sieveKeepsSpec.post enc Try.prog Try.f9 false true false false) := by
  refine returnsInHanded_of_change_sized (C := Try.checked) own started (by kernel_rfl) Try.func9
    (ChangeSpec.witness6 (enc := enc) (C := Try.checked) false ⟨#[], #[.slice none 0 0, .agg #[.slice none 0 0, .slice none 0 0, .bool false]], []⟩ 8 (by kernel_rfl) (by kernel_rfl) (by kernel_rfl) (by kernel_rfl)) ?_
  intro W base args ds gs before hval0 hW hcnd hsz0 _
  have hsz : (DataW.weightsEach Try.prog (Try.f9.params.toList ++ Rows.sieveKeepsSpec.plain.varTypes Try.prog) (ds ++ gs)).all (· ≤ reachBytes) = true := hsz0
  have hval : ∀ (j : Nat) t v, Try.f9.params[j]? = some t → args[j]? = some v → Value.okWide Try.prog W .any base t v := hval0
  have hW' := hW
  obtain ⟨p, q, hA0, hV, rfl, hfz, hnd⟩ := hW
  have hA : DataW.TrodAll enc Try.prog W 0 (fun _ => true) true Try.f9.params.toList args.toList ds p := hA0
  rw [Try.params9] at hA hval hsz
  obtain ⟨v0, vs0, d0, ds0, p0, q0, hargs, rfl, rfl, h0, r0⟩ := trodAll_cons hA
  obtain ⟨v1, vs1, d1, ds1, p1, q1, rfl, rfl, rfl, h1, r1⟩ := trodAll_cons r0
  obtain ⟨rfl, rfl, rfl⟩ := trodAll_nil r1
  obtain rfl : args = #[v0, v1] := by cases args; simp_all
  obtain ⟨rfl, rfl⟩ := trodVars_none hV
  have g0 := h0
  obtain ⟨A0, c0, l0, rfl, hc0, hr0, q0⟩ := arg_slice Try.underlying22 (hval 0 22 v0 rfl rfl) (rd_lists) h0 (weights_at hsz (j := 0) (t := 22) rfl rfl)
  have g1 := h1
  obtain ⟨cs1, y1, rfl, k1, q1⟩ := arg_struct Try.underlying60 (hval 1 60 v1 rfl rfl) (rd_below) h1 (weights_at hsz (j := 1) (t := 60) rfl rfl)
  obtain ⟨b1, rfl, hb1, hbk1, hbh1⟩ := form_below k1
  refine (sieveKeeps_w A0 c0 l0 b1 W (sl_lists hr0) (lists_len q0) hb1).mono fun e W' ⟨he, bel⟩ => ?_
  subst he
  exact ⟨_, rfl, _, _, _, [], _, [], hW', trodAll_mk1 (shut_bool (Try.underlying4) _), (trodAll_cons_mk (trod_back laidOut (by kernel_rfl) (of_decide_eq_true (by kernel_rfl)) g0 bel) (trodAll_cons_mk (trod_back laidOut (by kernel_rfl) (of_decide_eq_true (by kernel_rfl)) g1 bel) trodAll_mk0)), rfl, bel.frame _, fun h => by cases h⟩
theorem over : Rows.sieveKeepsRow.holds Try.pinned (OpenSpec.ofChange Rows.sieveKeepsSpec) :=
  OpenClaim.holds_of_wide 9 Try.f9 rfl rfl rfl rfl rfl rfl rfl ⟨rfl, rfl, rfl, rfl, rfl⟩ rfl rfl rfl rfl rfl (by kernel_rfl) Try.func9 (by kernel_rfl)
    (of_decide_eq_true (by kernel_rfl)) (by unfold Func.isWrapper; first | (rw [if_pos (by decide +kernel)]; kernel_rfl) | (rw [if_neg (by decide +kernel)]; exact ⟨rfl, rfl⟩))
    (fun os started H enc _ => lifted os started H enc)
theorem proved : Rows.SieveKeepsSaid := over
#print axioms proved
end Go.Proofs.Ytdpijhpjicbecaa.sieveKeeps
namespace Go.Proofs.Ytdpijhpjicbecaa
/-- The row, under a short name, for the claim. -/
theorem sieveKeeps_holds : Rows.SieveKeepsSaid := sieveKeeps.proved
end Go.Proofs.Ytdpijhpjicbecaa
