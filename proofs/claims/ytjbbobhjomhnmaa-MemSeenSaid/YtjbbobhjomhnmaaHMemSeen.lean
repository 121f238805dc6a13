/- The row of the law MemSeen: whatever comes in, the call returns true and leaves what came in as it was. No conditions. -/
import Derived.Test.YtjbbobhjomhnmaaMe17
import Derived.Test.YtjbbobhjomhnmaaSkB
import Derived.Test.YtjbbobhjomhnmaaHRd
namespace Go.Proofs.Ytjbbobhjomhnmaa.memSeen
open Go.ChangeShapes Go.WideShapes Go.ChangeAt Go.RowKit Go.Proofs.Ytjbbobhjomhnmaa.H Go.Proofs.YtjbbobhjomhnmaaW.PrintWords 
set_option linter.unusedVariables false
theorem own : ownKnob Try.prog.godebug = none := by kernel_rfl
theorem laidOut : laidOutB Try.prog = true := by kernel_rfl
set_option maxRecDepth 100000 in
theorem lifted (os : Os) (started : os.Started) (H : Type) (enc : TypeId × Value → H) :
    ReturnsInHanded {} Try.checked os 9 .any (Rows.memSeenSpec.pre6 enc Try.prog Try.f9 Rows.memSeenRow.domain false) (Rows.memSeenSpec.post enc Try.prog Try.f9 false true false false) := by
  refine returnsInHanded_of_change_sized (C := Try.checked) own started (by kernel_rfl) Try.func9
    (ChangeSpec.witness6 (enc := enc) (C := Try.checked) false ⟨#[], #[.slice none 0 0, .slice none 0 0, .slice none 0 0, .string ByteArray.empty, .int .u64 0], []⟩ 8 (by kernel_rfl) (by kernel_rfl) (by kernel_rfl) (by kernel_rfl)) ?_
  intro W base args ds gs before hval0 hW hcnd hsz0 _
  have hsz : (DataW.weightsEach Try.prog (Try.f9.params.toList ++ Rows.memSeenSpec.plain.varTypes Try.prog) (ds ++ gs)).all (· ≤ reachBytes) = true := hsz0
  have hval : ∀ (j : Nat) t v, Try.f9.params[j]? = some t → args[j]? = some v → Value.okWide Try.prog W .any base t v := hval0
  have hW' := hW
  obtain ⟨p, q, hA0, hV, rfl, hfz, hnd⟩ := hW
  have hA : DataW.TrodAll enc Try.prog W 0 (fun _ => true) true Try.f9.params.toList args.toList ds p := hA0
  rw [Try.params9] at hA hval hsz
  obtain ⟨v0, vs0, d0, ds0, p0, q0, hargs, rfl, rfl, h0, r0⟩ := trodAll_cons hA
  obtain ⟨v1, vs1, d1, ds1, p1, q1, rfl, rfl, rfl, h1, r1⟩ := trodAll_cons r0
  obtain ⟨v2, vs2, d2, ds2, p2, q2, rfl, rfl, rfl, h2, r2⟩ := trodAll_cons r1
  obtain ⟨v3, vs3, d3, ds3, p3, q3, rfl, rfl, rfl, h3, r3⟩ := trodAll_cons r2
  obtain ⟨v4, vs4, d4, ds4, p4, q4, rfl, rfl, rfl, h4, r4⟩ := trodAll_cons r3
  obtain ⟨rfl, rfl, rfl⟩ := trodAll_nil r4
  obtain rfl : args = #[v0, v1, v2, v3, v4] := by cases args; simp_all
  obtain ⟨rfl, rfl⟩ := trodVars_none hV
  have g0 := h0
  obtain ⟨A0, c0, l0, rfl, hc0, hr0, q0⟩ := arg_slice Try.underlying22 (hval 0 22 v0 rfl rfl) (rd_bytes) h0 (weights_at hsz (j := 0) (t := 22) rfl rfl)
  have g1 := h1
  obtain ⟨A1, c1, l1, rfl, hc1, hr1, q1⟩ := arg_slice Try.underlying32 (hval 1 32 v1 rfl rfl) (rd_batches) h1 (weights_at hsz (j := 1) (t := 32) rfl rfl)
  have g2 := h2
  obtain ⟨A2, c2, l2, rfl, hc2, hr2, q2⟩ := arg_slice Try.underlying87 (hval 2 87 v2 rfl rfl) (rd_writes) h2 (weights_at hsz (j := 2) (t := 87) rfl rfl)
  have g3 := h3
  obtain ⟨a3, rfl, w3⟩ := arg_string Try.underlying9 (hval 3 9 v3 rfl rfl) h3 (weights_at hsz (j := 3) (t := 9) rfl rfl)
  have g4 := h4
  obtain ⟨a4, rfl, w4⟩ := arg_int Try.underlying51 (hval 4 51 v4 rfl rfl) h4 (weights_at hsz (j := 4) (t := 51) rfl rfl)
  refine (memSeen_w A0 c0 l0 A1 c1 l1 A2 c2 l2 a3 a4 W (sl_bytes hr0) (bytes_ok q0).1 (bytes_ok q0).2 (sl_batches hr1) (sl_writes hr2) (wf_u64 w4)).mono fun e W' ⟨he, bel⟩ => ?_
  subst he
  exact ⟨_, rfl, _, _, _, [], _, [], hW', trodAll_mk1 (shut_bool (Try.underlying4) _), (trodAll_cons_mk (trod_back laidOut (by kernel_rfl) (of_decide_eq_true (by kernel_rfl)) g0 bel) (trodAll_cons_mk (trod_back laidOut (by kernel_rfl) (of_decide_eq_true (by kernel_rfl)) g1 bel) (trodAll_cons_mk (trod_back laidOut (by kernel_rfl) (of_decide_eq_true (by kernel_rfl)) g2 bel) (trodAll_cons_mk (trod_back laidOut (by kernel_rfl) (of_decide_eq_true (by kernel_rfl)) g3 bel) (trodAll_cons_mk (trod_back laidOut (by kernel_rfl) (of_decide_eq_true (by kernel_rfl)) g4 bel) trodAll_mk0))))), rfl, bel.frame _, fun h => by cases h⟩
theorem over : Rows.memSeenRow.holds Try.pinned (OpenSpec.ofChange Rows.memSeenSpec) :=
  OpenClaim.holds_of_wide 9 Try.f9 rfl rfl rfl rfl rfl rfl rfl ⟨rfl, rfl, rfl, rfl, rfl⟩ rfl rfl rfl rfl rfl (by kernel_rfl) Try.func9 (by kernel_rfl)
    (of_decide_eq_true (by kernel_rfl)) (by unfold Func.isWrapper; first | (rw [if_pos (by decide +kernel)]; kernel_rfl) | (rw [if_neg (by decide +kernel)]; exact ⟨rfl, rfl⟩))
    (fun os started H enc _ => lifted os started H enc)
theorem proved : Rows.MemSeenSaid := over
#print axioms proved
end Go.Proofs.Ytjbbobhjomhnmaa.memSeen
namespace Go.Proofs.Ytjbbobhjomhnmaa
/-- The row, under a short name, for the claim. -/
theorem memSeen_holds : Rows.MemSeenSaid := memSeen.proved
end Go.Proofs.Ytjbbobhjomhnmaa
