/- The law's pair of lists: holds (printed by genpr1.py). Conditions: sizes. -/
import Derived.Test.YtjbbobhjomhnmaaPr1
namespace Go.Proofs.Ytjbbobhjomhnmaa.H
open Go Go.RowKit Go.Deep Go.Shelf Go.Proofs Go.Proofs.YtjbbobhjomhnmaaW.PrintWords
set_option linter.unusedVariables false
set_option linter.unusedSimpArgs false
set_option maxHeartbeats 6400000 in
set_option maxRecDepth 100000 in
theorem holds5_c {w : World} {g r : Nat} {S R : Nat → Prop} {draws : List Int} {L : List EH} (h : PairIs w g r S R draws L) (hl : L.length < 2932031007319) :
    Calls Try.prog 20 #[.agg #[.pointer (some ⟨g, 0, none⟩), .pointer (some ⟨r, 0, none⟩)]] w fun en w' => en = .returned (.bool true) ∧ Below w.heap.size w w' := by
  obtain ⟨w2, hw2⟩ : ∃ Z, w.alloc (.cells #[.pointer (some ⟨g, 0, none⟩), .pointer (some ⟨r, 0, none⟩)] 48) = Z := ⟨_, rfl⟩
  have hb2 : Below w.heap.size w w2 := by rw [← hw2]; exact (Below.refl _ _).alloc (Nat.le_refl _) _
  have q1 : w2.heap[w.heap.size]? = some (.cells #[.pointer (some ⟨g, 0, none⟩), .pointer (some ⟨r, 0, none⟩)] 48 (0, 0)) := by rw [← hw2]; exact heap_alloc_new _ _
  have a0 : w2.cell? ⟨w.heap.size, 0, none⟩ = some (.pointer (some ⟨g, 0, none⟩)) := (blk_cell q1 0).trans rfl
  have HG := Lib.hid (from_L g S draws L ⟨#[]⟩ 18446744073709551615 w2 w2 (h.sk.later hb2) (Below.refl _ _))
  have hql := notAhead_len ⟨#[]⟩ 18446744073709551615 L
  obtain ⟨es, hes⟩ : ∃ Q, notAhead ⟨#[]⟩ 18446744073709551615 (allE L) = Q := ⟨_, rfl⟩
  rw [hes] at HG hql
  have HRFA := Lib.hid (fun W (hW : Below w2.heap.size w2 W) => (show Calls Try.prog 82 #[.pointer (some ⟨r, 0, none⟩), .string ⟨#[]⟩, .int .u64 18446744073709551615] W fun e w' => ∃ v, e = .returned v ∧ Own encE 53 4 w' W.heap.size v es ∧ Below W.heap.size W w' by
    rw [← hes]; exact pairFrom_c (h.later (hb2.trans (hW.mono hb2.size))) hl ⟨#[]⟩ 18446744073709551615))
  obtain ⟨hs, hhs⟩ : ∃ x, allH L = x := ⟨_, rfl⟩
  obtain ⟨ln, hln⟩ : ∃ x, L.length = x := ⟨_, rfl⟩
  have HTWA := Lib.hid (fun W (hW : Below w2.heap.size w2 W) => (show Calls Try.prog 27 #[.pointer (some ⟨g, 0, none⟩)] W fun e w' => ∃ v, e = .returned v ∧ Own encI 3 1 w' W.heap.size v hs ∧ Below W.heap.size W w' by
    rw [← hhs]; exact towers_L g S draws L W (h.sk.later (hb2.trans (hW.mono hb2.size))) hl))
  have HTRA := Lib.hid (fun W (hW : Below w2.heap.size w2 W) => (show Calls Try.prog 78 #[.pointer (some ⟨r, 0, none⟩)] W fun e w' => ∃ v, e = .returned v ∧ Own encI 3 1 w' W.heap.size v hs ∧ Below W.heap.size W w' by
    rw [← hhs]; exact refTowers_c (h.rf.later (hb2.trans (hW.mono hb2.size))) (by rw [allH_len]; omega)))
  have HLNA := Lib.hid (fun W (hW : Below w2.heap.size w2 W) => (show Calls Try.prog 24 #[.pointer (some ⟨g, 0, none⟩)] W fun e w' => e = .returned (.int .i64 (ln : Int)) ∧ W = w' by
    rw [← hln]; exact len_L g S draws L W (h.sk.later (hb2.trans (hW.mono hb2.size)))))
  have HLRA := Lib.hid (fun W (hW : Below w2.heap.size w2 W) => (show Calls Try.prog 76 #[.pointer (some ⟨r, 0, none⟩)] W fun e w' => e = .returned (.int .i64 (ln : Int)) ∧ W = w' by
    have := refLen_c (h.rf.later (hb2.trans (hW.mono hb2.size)))
    rw [allE_len, hln] at this
    exact this))
  have HQL := Lib.hid (show es.length < 2932031007319 by omega)
  have Q1 := Lib.hid q1
  have HB2 := Lib.hid hb2
  clear h hl hb2 q1 hql hes hhs hln
  go_enter Try.func20, Try.ntmps20
  go_wp2_with fail
  refine HG.out.mono ?_
  rintro _ w3 ⟨f, rfl, hit, hb3⟩
  have HT := Lib.hid (taken_c f (-1) _ es w3 hit hb3.size HQL.out)
  rw [show takeN (-1) es = es from takeN_all (.inl (by decide))] at HT
  have HB23 := Lib.hid hb3
  clear hit hb3 HG hw2 a0
  go_wp2_with fail
  refine HT.out.mono ?_
  rintro _ w4 ⟨v3, rfl, ho, hb4⟩
  clear HT
  obtain ⟨A3, c3, rfl⟩ := own_slice ho
  obtain ⟨_, _, ev, _, hs8, _⟩ := ho.slice (fun _ => rfl)
  injection ev with e1 e2 e3
  rw [← e1] at hs8
  have HSE := Lib.hid hs8
  have HB24 := Lib.hid (HB23.out.trans (hb4.mono HB23.out.size))
  have HB4 := Lib.hid (HB2.out.trans (HB24.out.mono HB2.out.size))
  have HRF := Lib.hid (fun W (hW : Below w4.heap.size w4 W) => HRFA.out W (HB24.out.trans (hW.mono HB24.out.size)))
  have HTW := Lib.hid (fun W (hW : Below w4.heap.size w4 W) => HTWA.out W (HB24.out.trans (hW.mono HB24.out.size)))
  have HTR := Lib.hid (fun W (hW : Below w4.heap.size w4 W) => HTRA.out W (HB24.out.trans (hW.mono HB24.out.size)))
  have HLN := Lib.hid (fun W (hW : Below w4.heap.size w4 W) => HLNA.out W (HB24.out.trans (hW.mono HB24.out.size)))
  have HLR := Lib.hid (fun W (hW : Below w4.heap.size w4 W) => HLRA.out W (HB24.out.trans (hW.mono HB24.out.size)))
  have D0 := Lib.hid (show w4.cell? ⟨w.heap.size, 0, none⟩ = some (.pointer (some ⟨g, 0, none⟩)) from (blk_cell (blk_below Q1.out HB24.out) 0).trans rfl)
  have D1 := Lib.hid (show w4.cell? ⟨w.heap.size, 1, none⟩ = some (.pointer (some ⟨r, 0, none⟩)) from (blk_cell (blk_below Q1.out HB24.out) 1).trans rfl)
  clear ho hs8 e1 e2 e3 hb4
  go_wp2_with fail
  refine wp_region_step (FactR w4 es hs) leF leF_refl leF_trans [] [0, 0, 0, 0, 0, 2, 1, 0, 0, 0, 0, 0, 0, 0, 0, 0, 0, 0, 0, 0, 2, 0, 0, 2, 1, 0] [.bool true, .bool true, .slice A3 es.length c3, .pointer (some ⟨w.heap.size, 1, none⟩), .pointer (some ⟨r, 0, none⟩), undef, undef, .bool true, .bool true, .pointer (some ⟨w.heap.size, 0, none⟩), .pointer (some ⟨g, 0, none⟩), .int .i64 (ln : Int), .pointer (some ⟨w.heap.size, 1, none⟩), .pointer (some ⟨r, 0, none⟩), .int .i64 (ln : Int), .bool true, .bool true, .bool true, .pointer (some ⟨w.heap.size, 0, none⟩), .pointer (some ⟨g, 0, none⟩), undef, .pointer (some ⟨w.heap.size, 1, none⟩), .pointer (some ⟨r, 0, none⟩), undef, undef, .bool true] 26 (by kernel_rfl) (by kernel_rfl) ⟨(Below.refl _ _).drew, fun p hp => by cases hp⟩ ?_
  simp only [List.take_succ_cons, List.take_zero, List.drop_succ_cons, List.drop_zero]
  refine schain0 ?_
  refine @schain _ _ _ _ _ _ _ _ _ _ _ _ _ _ 12 (.bool true) (by rfl) (by rfl) (by kernel_rfl) (by rfl) (by exact fun s' W2 hW => srun_mv (by rfl) (by exact eval_base (by kernel_rfl) (by rfl)) hW) ?_
  refine @schain _ _ _ _ _ _ _ _ _ _ _ _ _ _ 13 (.bool true) (by rfl) (by rfl) (by kernel_rfl) (by rfl) (by exact fun s' W2 hW => srun_mv (by rfl) (by exact eval_look (by kernel_rfl) (by kernel_rfl)) hW) ?_
  refine @schain _ _ _ _ _ _ _ _ _ _ _ _ _ _ 14 (.slice A3 es.length c3) (by rfl) (by rfl) (by kernel_rfl) (by rfl) (by exact fun s' W2 hW => srun_mv (by rfl) (by exact eval_base (by kernel_rfl) (by rfl)) hW) ?_
  refine @schain _ _ _ _ _ _ _ _ _ _ _ _ _ _ 15 (.pointer (some ⟨w.heap.size, 1, none⟩)) (by rfl) (by rfl) (by kernel_rfl) (by rfl) (by exact fun s' W2 hW => srun_fa (p := .pointer (some ⟨w.heap.size, 0, none⟩)) (by rfl) (by exact eval_base (by kernel_rfl) (by rfl)) (fun W => by first | kernel_rfl | go_simp) hW) ?_
  refine @schain _ _ _ _ _ _ _ _ _ _ _ _ _ _ 16 (.pointer (some ⟨r, 0, none⟩)) (by rfl) (by rfl) (by kernel_rfl) (by rfl) (by exact fun s' W2 hW => srun_ld (by rfl) (by exact eval_look (by kernel_rfl) (by kernel_rfl)) (ldPr _ _ _ _ (cell_later hW.1 D1.out)) hW) ?_
  refine @schainT _ _ _ _ _ _ _ _ _ _ _ _ _ _ 17 (fun v s' => ∃ A c, v = .slice A es.length c ∧ s' = (false, A) :: []) (by rfl) (by kernel_rfl) (by rfl) (⟨.slice none es.length 0, _, none, 0, rfl, rfl⟩) (fun _ _ h => by obtain ⟨A, c, _, rfl⟩ := h; exact fun p hp => List.mem_cons_of_mem _ hp) (by exact fun W2 hW => srun_callT (vs := #[.pointer (some ⟨r, 0, none⟩), .string ⟨#[]⟩, .int .u64 18446744073709551615]) (by rfl) (by kernel_rfl) (enters_of Try.func82 (by kernel_rfl) (by rfl)) (fact_E hW (HRF.out W2 hW.1))) (fun x s' hx => ?_)
  obtain ⟨A17, c17, rfl, rfl⟩ := hx
  refine @schain1 _ _ _ _ _ _ _ _ _ _ _ _ _ _ 18 (.bool true) (by rfl) (by kernel_rfl) (by rfl) (by exact fun s' hs9 W2 hW => srun_call (vs := #[.slice A3 es.length c3, .slice A17 es.length c17]) (by rfl) (by kernel_rfl) (enters_of Try.func28 (by kernel_rfl) (by rfl)) (same_E hs9 hW (HSE.out) (by simp))) ?_
  refine @schain _ _ _ _ _ _ _ _ _ _ _ _ _ _ 19 (.bool true) (by rfl) (by rfl) (by kernel_rfl) (by rfl) (by exact fun s' W2 hW => srun_pkT (by rfl) (by exact eval_look (by kernel_rfl) (by kernel_rfl)) (by exact eval_look (by kernel_rfl) (by kernel_rfl)) hW) ?_
  refine @schain _ _ _ _ _ _ _ _ _ _ _ _ _ _ 20 (.bool true) (by rfl) (by rfl) (by kernel_rfl) (by rfl) (by exact fun s' W2 hW => srun_mv (by rfl) (by exact eval_look (by kernel_rfl) (by kernel_rfl)) hW) ?_
  refine @schain _ _ _ _ _ _ _ _ _ _ _ _ _ _ 21 (.pointer (some ⟨w.heap.size, 0, none⟩)) (by rfl) (by rfl) (by kernel_rfl) (by rfl) (by exact fun s' W2 hW => srun_fa (p := .pointer (some ⟨w.heap.size, 0, none⟩)) (by rfl) (by exact eval_base (by kernel_rfl) (by rfl)) (fun W => by first | kernel_rfl | go_simp) hW) ?_
  refine @schain _ _ _ _ _ _ _ _ _ _ _ _ _ _ 22 (.pointer (some ⟨g, 0, none⟩)) (by rfl) (by rfl) (by kernel_rfl) (by rfl) (by exact fun s' W2 hW => srun_ld (by rfl) (by exact eval_look (by kernel_rfl) (by kernel_rfl)) (ldPl _ _ _ _ (cell_later hW.1 D0.out)) hW) ?_
  refine @schain _ _ _ _ _ _ _ _ _ _ _ _ _ _ 23 (.int .i64 (ln : Int)) (by rfl) (by rfl) (by kernel_rfl) (by rfl) (by exact fun s' W2 hW => srun_call (vs := #[.pointer (some ⟨g, 0, none⟩)]) (by rfl) (by kernel_rfl) (enters_of Try.func24 (by kernel_rfl) (by rfl)) ((HLN.out W2 hW.1).mono fun e W' ⟨he, hw⟩ => ⟨he, hw ▸ hW⟩)) ?_
  refine @schain _ _ _ _ _ _ _ _ _ _ _ _ _ _ 24 (.pointer (some ⟨w.heap.size, 1, none⟩)) (by rfl) (by rfl) (by kernel_rfl) (by rfl) (by exact fun s' W2 hW => srun_fa (p := .pointer (some ⟨w.heap.size, 0, none⟩)) (by rfl) (by exact eval_base (by kernel_rfl) (by rfl)) (fun W => by first | kernel_rfl | go_simp) hW) ?_
  refine @schain _ _ _ _ _ _ _ _ _ _ _ _ _ _ 25 (.pointer (some ⟨r, 0, none⟩)) (by rfl) (by rfl) (by kernel_rfl) (by rfl) (by exact fun s' W2 hW => srun_ld (by rfl) (by exact eval_look (by kernel_rfl) (by kernel_rfl)) (ldPr _ _ _ _ (cell_later hW.1 D1.out)) hW) ?_
  refine @schain _ _ _ _ _ _ _ _ _ _ _ _ _ _ 26 (.int .i64 (ln : Int)) (by rfl) (by rfl) (by kernel_rfl) (by rfl) (by exact fun s' W2 hW => srun_call (vs := #[.pointer (some ⟨r, 0, none⟩)]) (by rfl) (by kernel_rfl) (enters_of Try.func76 (by kernel_rfl) (by rfl)) ((HLR.out W2 hW.1).mono fun e W' ⟨he, hw⟩ => ⟨he, hw ▸ hW⟩)) ?_
  refine @schain _ _ _ _ _ _ _ _ _ _ _ _ _ _ 27 (.bool true) (by rfl) (by rfl) (by kernel_rfl) (by rfl) (by exact fun s' W2 hW => srun_bo (u := .int .i64 (ln : Int)) (v := .int .i64 (ln : Int)) (by rfl) (by exact eval_look (by kernel_rfl) (by kernel_rfl)) (by exact eval_look (by kernel_rfl) (by kernel_rfl)) (fun W => by go_simp) hW) ?_
  refine @schain _ _ _ _ _ _ _ _ _ _ _ _ _ _ 28 (.bool true) (by rfl) (by rfl) (by kernel_rfl) (by rfl) (by exact fun s' W2 hW => srun_pkT (by rfl) (by exact eval_look (by kernel_rfl) (by kernel_rfl)) (by exact eval_look (by kernel_rfl) (by kernel_rfl)) hW) ?_
  refine @schain _ _ _ _ _ _ _ _ _ _ _ _ _ _ 29 (.bool true) (by rfl) (by rfl) (by kernel_rfl) (by rfl) (by exact fun s' W2 hW => srun_mv (by rfl) (by exact eval_look (by kernel_rfl) (by kernel_rfl)) hW) ?_
  refine @schain _ _ _ _ _ _ _ _ _ _ _ _ _ _ 30 (.pointer (some ⟨w.heap.size, 0, none⟩)) (by rfl) (by rfl) (by kernel_rfl) (by rfl) (by exact fun s' W2 hW => srun_fa (p := .pointer (some ⟨w.heap.size, 0, none⟩)) (by rfl) (by exact eval_base (by kernel_rfl) (by rfl)) (fun W => by first | kernel_rfl | go_simp) hW) ?_
  refine @schain _ _ _ _ _ _ _ _ _ _ _ _ _ _ 31 (.pointer (some ⟨g, 0, none⟩)) (by rfl) (by rfl) (by kernel_rfl) (by rfl) (by exact fun s' W2 hW => srun_ld (by rfl) (by exact eval_look (by kernel_rfl) (by kernel_rfl)) (ldPl _ _ _ _ (cell_later hW.1 D0.out)) hW) ?_
  refine @schainT _ _ _ _ _ _ _ _ _ _ _ _ _ _ 32 (fun v s' => ∃ A c, v = .slice A hs.length c ∧ s' = (true, A) :: (false, A17) :: []) (by rfl) (by kernel_rfl) (by rfl) (⟨.slice none hs.length 0, _, none, 0, rfl, rfl⟩) (fun _ _ h => by obtain ⟨A, c, _, rfl⟩ := h; exact fun p hp => List.mem_cons_of_mem _ hp) (by exact fun W2 hW => srun_callT (vs := #[.pointer (some ⟨g, 0, none⟩)]) (by rfl) (by kernel_rfl) (enters_of Try.func27 (by kernel_rfl) (by rfl)) (fact_I hW (HTW.out W2 hW.1))) (fun x s' hx => ?_)
  obtain ⟨A32, c32, rfl, rfl⟩ := hx
  refine @schain _ _ _ _ _ _ _ _ _ _ _ _ _ _ 33 (.pointer (some ⟨w.heap.size, 1, none⟩)) (by rfl) (by rfl) (by kernel_rfl) (by rfl) (by exact fun s' W2 hW => srun_fa (p := .pointer (some ⟨w.heap.size, 0, none⟩)) (by rfl) (by exact eval_base (by kernel_rfl) (by rfl)) (fun W => by first | kernel_rfl | go_simp) hW) ?_
  refine @schain _ _ _ _ _ _ _ _ _ _ _ _ _ _ 34 (.pointer (some ⟨r, 0, none⟩)) (by rfl) (by rfl) (by kernel_rfl) (by rfl) (by exact fun s' W2 hW => srun_ld (by rfl) (by exact eval_look (by kernel_rfl) (by kernel_rfl)) (ldPr _ _ _ _ (cell_later hW.1 D1.out)) hW) ?_
  refine @schainT _ _ _ _ _ _ _ _ _ _ _ _ _ _ 35 (fun v s' => ∃ A c, v = .slice A hs.length c ∧ s' = (true, A) :: (true, A32) :: (false, A17) :: []) (by rfl) (by kernel_rfl) (by rfl) (⟨.slice none hs.length 0, _, none, 0, rfl, rfl⟩) (fun _ _ h => by obtain ⟨A, c, _, rfl⟩ := h; exact fun p hp => List.mem_cons_of_mem _ hp) (by exact fun W2 hW => srun_callT (vs := #[.pointer (some ⟨r, 0, none⟩)]) (by rfl) (by kernel_rfl) (enters_of Try.func78 (by kernel_rfl) (by rfl)) (fact_I hW (HTR.out W2 hW.1))) (fun x s' hx => ?_)
  obtain ⟨A35, c35, rfl, rfl⟩ := hx
  refine @schain1 _ _ _ _ _ _ _ _ _ _ _ _ _ _ 36 (.bool true) (by rfl) (by kernel_rfl) (by rfl) (by exact fun s' hs9 W2 hW => srun_call (vs := #[.slice A32 hs.length c32, .slice A35 hs.length c35]) (by rfl) (by kernel_rfl) (enters_of Try.func77 (by kernel_rfl) (by rfl)) (same_I hs9 hW (by simp) (by simp))) ?_
  refine @schain _ _ _ _ _ _ _ _ _ _ _ _ _ _ 37 (.bool true) (by rfl) (by rfl) (by kernel_rfl) (by rfl) (by exact fun s' W2 hW => srun_pkT (by rfl) (by exact eval_look (by kernel_rfl) (by kernel_rfl)) (by exact eval_look (by kernel_rfl) (by kernel_rfl)) hW) ?_
  refine snil (fun W2 hW2 => ?_)
  refine Eq.mpr (congrArg (fun a => wpList _ _ _ _ a W2) (show _ = (⟨#[Value.agg #[Value.pointer (some ⟨g, 0, none⟩), Value.pointer (some ⟨r, 0, none⟩)], Value.pointer (some ⟨w.heap.size, 0, none⟩), Value.bool false, Value.slice A3 es.length c3, Value.bool true, Value.tuple #[Value.slice A3 es.length c3, Value.bool true], Value.pointer (some ⟨w.heap.size, 0, none⟩), Value.pointer (some ⟨g, 0, none⟩), f, Value.tuple #[Value.slice A3 es.length c3, Value.bool true], Value.slice A3 es.length c3, Value.bool true, Value.bool true, Value.bool true, Value.slice A3 es.length c3, Value.pointer (some ⟨w.heap.size, 1, none⟩), Value.pointer (some ⟨r, 0, none⟩), Value.slice A17 es.length c17, Value.bool true, Value.bool true, Value.bool true, Value.pointer (some ⟨w.heap.size, 0, none⟩), Value.pointer (some ⟨g, 0, none⟩), Value.int IntKind.i64 (ln : Int), Value.pointer (some ⟨w.heap.size, 1, none⟩), Value.pointer (some ⟨r, 0, none⟩), Value.int IntKind.i64 (ln : Int), Value.bool true, Value.bool true, Value.bool true, Value.pointer (some ⟨w.heap.size, 0, none⟩), Value.pointer (some ⟨g, 0, none⟩), Value.slice A32 hs.length c32, Value.pointer (some ⟨w.heap.size, 1, none⟩), Value.pointer (some ⟨r, 0, none⟩), Value.slice A35 hs.length c35, Value.bool true, Value.bool true], []⟩ : Act) by kernel_rfl)) ?_
  have HW := Lib.hid hW2.1
  clear hW2
  go_wp2
  go_ret
  exact ⟨rfl, HB4.out.trans (HW.out.mono HB4.out.size)⟩
end Go.Proofs.Ytjbbobhjomhnmaa.H
