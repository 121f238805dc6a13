/- MemFresh's function literal (printed by genme19.py). Conditions: sizes. -/
import Derived.Test.YtjbbobhjomhnmaaMeMany
import Derived.Test.YtjbbobhjomhnmaaSk22
namespace Go.Proofs.Ytjbbobhjomhnmaa.H
open Go Go.RowKit Go.Deep Go.Shelf Go.Proofs Go.Proofs.YtjbbobhjomhnmaaW.PrintWords
set_option linter.unusedVariables false
set_option linter.unusedSimpArgs false
theorem lssI_yes (t : TypeId) (x y : Operand) (a b : Int) (h : a < b) (W : World) : (do eqGuard .lss t x y (.int .i64 a) (.int .i64 b); binOp .lss t (.int .i64 a) (.int .i64 b) : Sem Value).run Try.prog W = .ok (.bool true) W := by
  go_simp
theorem subI_run (t : TypeId) (x y : Operand) (a b : Int) (h : -9223372036854775808 ≤ a - b ∧ a - b ≤ 9223372036854775807) (W : World) : (do eqGuard .sub t x y (.int .i64 a) (.int .i64 b); binOp .sub t (.int .i64 a) (.int .i64 b) : Sem Value).run Try.prog W = .ok (.int .i64 (a - b)) W := by
  have h2 : IntKind.i64.wrap (a - b) = a - b := by rw [IntKind.wrap_i64]; omega
  go_simp
theorem minL_run (ts : Array TypeId) (t : TypeId) (a b : Int) (h : a ≤ b) (W : World) : (Builtin.min_ ts t #[.int .i64 a, .int .i64 b]).run Try.prog W = .ok (.int .i64 a) W := by
  have h2 : ¬ b < a := by omega
  go_simp
theorem ldSE (b j n c : Nat) (A : Option Addr) (W : World) (h : W.cell? ⟨b, j, none⟩ = some (.slice A n c)) : (Instr.loadAt 64 (.pointer (some ⟨b, j, none⟩))).run Try.prog W = .ok (.slice A n c) W := by
  go_simp
abbrev partL (M : MemV) : List Ent := thin 18446744073709551615 (notAhead ⟨#[]⟩ 18446744073709551615 (allE M.L))
set_option maxHeartbeats 6400000 in
set_option maxRecDepth 100000 in
theorem fresh1_c (bf bt bW bN ba bp i m pm t g n₀ : Nat) (f : Value) (A8 A9 : Option Addr) (c8 c9 : Nat) (all part : List Ent) (e : Ent) (S : Nat → Prop) (draws : List Int) (M : MemV) (w : World)
    (h1 : w.heap[bf]? = some (.cells #[f] 58 (0, 0))) (hit : IterV Try.prog f encA n₀ all w) (hn₀ : n₀ ≤ w.heap.size)
    (h2 : w.heap[bt]? = some (.cells #[.pointer (some ⟨t, 0, none⟩)] 81 (0, 0))) (h3 : w.heap[bW]? = some (.cells #[.bool true] 4 (0, 0))) (h4 : w.heap[bN]? = some (.cells #[.int .i64 (i : Int)] 3 (0, 0)))
    (h5 : w.heap[ba]? = some (.cells #[.slice A8 m c8] 64 (0, 0))) (h6 : w.heap[bp]? = some (.cells #[.slice A9 pm c9] 64 (0, 0)))
    (hs8 : Sl encE 4 w A8 all) (hs9 : Sl encE 4 w A9 part) (hm : MemIs w t g S draws M) (hp : partL M = part) (hal : all.length = m) (hpl : part.length = pm) (hm9 : m ≤ 960) (hp9 : pm ≤ 960) (he : all[i]? = some e) (hne : bW ≠ bN) :
    Calls Try.prog 55 #[.agg #[.string e.1, .int .u64 e.2.1, .bool e.2.2.1, .string e.2.2.2], .pointer (some ⟨bf, 0, none⟩), .pointer (some ⟨bt, 0, none⟩), .pointer (some ⟨bW, 0, none⟩), .pointer (some ⟨bN, 0, none⟩), .pointer (some ⟨ba, 0, none⟩), .pointer (some ⟨bp, 0, none⟩)] w fun en w' =>
      en = .returned (.bool true) ∧ w'.heap[bW]? = some (.cells #[.bool true] 4 (0, 0)) ∧ w'.heap[bN]? = some (.cells #[.int .i64 ((i : Int) + 1)] 3 (0, 0)) ∧ Upd (fun k => k = bW ∨ k = bN) w w' := by
  obtain ⟨b8, o8, hA8, _, hc8⟩ := hs8.at he
  subst hA8
  have hi : i < m := by rw [← hal]; exact (List.getElem?_eq_some_iff.1 he).1
  have H3 := Lib.hid h3
  have H4 := Lib.hid h4
  have C1 := Lib.hid ((blk_cell h1 0).trans rfl : w.cell? ⟨bf, 0, none⟩ = some f)
  have C2 := Lib.hid ((blk_cell h2 0).trans rfl : w.cell? ⟨bt, 0, none⟩ = some (.pointer (some ⟨t, 0, none⟩)))
  have C3 := Lib.hid ((blk_cell h3 0).trans rfl : w.cell? ⟨bW, 0, none⟩ = some (.bool true))
  have C4 := Lib.hid ((blk_cell h4 0).trans rfl : w.cell? ⟨bN, 0, none⟩ = some (.int .i64 (i : Int)))
  have C5 := Lib.hid ((blk_cell h5 0).trans rfl : w.cell? ⟨ba, 0, none⟩ = some (.slice (some ⟨b8, o8, none⟩) m c8))
  have C6 := Lib.hid ((blk_cell h6 0).trans rfl : w.cell? ⟨bp, 0, none⟩ = some (.slice A9 pm c9))
  have C8 := Lib.hid (fun j v hv => hc8 j v hv)
  obtain ⟨w1, hw1⟩ : ∃ w1, w.alloc (.cells #[.string e.1, .int .u64 e.2.1, .bool e.2.2.1, .string e.2.2.2] 53) = w1 := ⟨_, rfl⟩
  have hb1 : Below w.heap.size w w1 := by rw [← hw1]; exact (Below.refl _ _).alloc (Nat.le_refl _) _
  have C7 := Lib.hid (show w1.heap[w.heap.size]? = some (.cells #[.string e.1, .int .u64 e.2.1, .bool e.2.2.1, .string e.2.2.2] 53 (0, 0)) by rw [← hw1]; exact heap_alloc_new _ _)
  have HB1 := Lib.hid hb1
  have HM := Lib.hid hm
  have HS8 := Lib.hid hs8
  have HS9 := Lib.hid hs9
  have ht1 := taken6_c f (-1) n₀ all w1 (hit.later hb1) (Nat.le_trans hn₀ hb1.size) (by rw [hal]; omega)
  rw [show takeN (-1) all = all from takeN_all (.inl (by decide))] at ht1
  have HT1 := Lib.hid ht1
  have HAL := Lib.hid hal
  have HPL := Lib.hid hpl
  have HP := Lib.hid hp
  have x1 := cell_later hb1 C1.out
  have x2 := cell_later hb1 C2.out
  clear h1 h2 h3 h4 h5 h6 hit hs8 hs9 hm hal hpl he hc8 ht1 hb1 hp
  go_enter Try.func55, Try.ntmps55
  go_wp2_with fail
  clear hw1
  refine HT1.out.mono ?_
  rintro _ w2 ⟨v11, rfl, hown, hb2⟩
  clear HT1
  obtain ⟨A11, c11, rfl⟩ := own_slice hown
  obtain ⟨_, _, hv10, _, hs10, _⟩ := hown.slice (fun _ => rfl)
  injection hv10 with e1 e2 e3
  rw [← e1] at hs10
  rw [HAL.out]
  have HS11 := Lib.hid hs10
  have HB12 := Lib.hid hb2
  have HB2 := Lib.hid (HB1.out.trans (hb2.mono HB1.out.size))
  have x3 := cell_later hb2 x2
  clear hown hs10 hb2 e1 e2 e3 x1 x2
  have hmf := mfrom_v ⟨#[]⟩ 18446744073709551615 (HM.out.later HB2.out)
  rw [show thin 18446744073709551615 (notAhead ⟨#[]⟩ 18446744073709551615 (allE M.L)) = part from HP.out] at hmf
  have HMF := Lib.hid hmf
  clear hmf
  go_wp2_with fail
  refine HMF.out.mono ?_
  rintro _ v13 ⟨f13, rfl, hit, hb9⟩
  have HT := Lib.hid (taken6_c f13 (-1) _ _ v13 hit (Nat.le_refl _) (by rw [HPL.out]; omega))
  rw [show takeN (-1) part = part from takeN_all (.inl (by decide))] at HT
  clear hit HMF x3
  have HD := Lib.hid hb9
  clear hb9
  go_wp2_with fail
  refine HT.out.mono ?_
  rintro _ w4 ⟨x13, rfl, hown, hb4⟩
  clear HT
  obtain ⟨A13, c13, rfl⟩ := own_slice hown
  obtain ⟨_, _, hv10, _, hs10, _⟩ := hown.slice (fun _ => rfl)
  injection hv10 with e1 e2 e3
  rw [← e1] at hs10
  rw [HPL.out]
  have HS13 := Lib.hid hs10
  have HB24 := Lib.hid (HD.out.trans (hb4.mono HD.out.size))
  have HB14 := Lib.hid (HB12.out.trans (HB24.out.mono HB12.out.size))
  have HB4 := Lib.hid (HB1.out.trans (HB14.out.mono HB1.out.size))
  clear hown hs10 hb4 e1 e2 e3
  have D3 := Lib.hid (cell_later HB4.out C3.out)
  have D4 := Lib.hid (cell_later HB4.out C4.out)
  have D5 := Lib.hid (cell_later HB4.out C5.out)
  have D6 := Lib.hid (cell_later HB4.out C6.out)
  have D7 := Lib.hid (fun j v hv => cell_later HB14.out (boxEnt C7.out j v hv))
  have D8 := Lib.hid (fun j v hv => cell_later HB4.out (C8.out j v hv))
  have HSE1 := Lib.hid (show ∀ W, Below w4.heap.size w4 W → Calls Try.prog 38 #[.slice A11 m c11, .slice (some ⟨b8, o8, none⟩) m c8] W fun e w' => e = .returned (.bool true) ∧ Below W.heap.size W w' from fun W hW => by
    have := sameEntries6_c A11 c11 all (some ⟨b8, o8, none⟩) c8 all W ((HS11.out.later HB24.out).later hW) ((HS8.out.later HB4.out).later hW)
    rw [HAL.out, decide_eq_true rfl] at this
    exact this)
  have HSE2 := Lib.hid (show ∀ W, Below w4.heap.size w4 W → Calls Try.prog 38 #[.slice A13 pm c13, .slice A9 pm c9] W fun e w' => e = .returned (.bool true) ∧ Below W.heap.size W w' from fun W hW => by
    have := sameEntries6_c A13 c13 part A9 c9 part W (HS13.out.later hW) ((HS9.out.later HB4.out).later hW)
    rw [HPL.out, decide_eq_true rfl] at this
    exact this)
  go_wp2_with fail
  refine wp_region_calmB 35 (by kernel_rfl) (by kernel_rfl) ?_
  simp only [List.take_succ_cons, List.take_zero, List.drop_succ_cons, List.drop_zero]
  refine chain0 ?_
  refine @chain _ _ _ _ _ _ _ _ 24 (.bool true) (by rfl) (by rfl) (by exact fun W2 hW => run_lw (by rfl) (by exact eval_base (by kernel_rfl) (by rfl)) (fun W hW => ldBo _ _ _ _ (cell_later hW D3.out)) hW) ?_
  refine @chain _ _ _ _ _ _ _ _ 25 (.bool true) (by rfl) (by rfl) (by exact fun W2 hW => run_mv (by rfl) (by exact eval_look (by kernel_rfl) (by kernel_rfl)) hW) ?_
  refine @chainG _ _ _ _ _ _ _ _ 26 (.int .i64 (i : Int)) (by kernel_rfl) (by rfl) (by exact fun W2 hW => run_lw (by rfl) (by exact eval_base (by kernel_rfl) (by rfl)) (fun W hW => ldI _ _ _ _ (cell_later hW D4.out)) hW) ?_
  refine @chainG _ _ _ _ _ _ _ _ 27 (.slice (some ⟨b8, o8, none⟩) m c8) (by kernel_rfl) (by rfl) (by exact fun W2 hW => run_lw (by rfl) (by exact eval_base (by kernel_rfl) (by rfl)) (fun W hW => ldSE _ _ _ _ _ _ (cell_later hW D5.out)) hW) ?_
  refine @chainG _ _ _ _ _ _ _ _ 28 (.int .i64 m) (by kernel_rfl) (by rfl) (by exact fun W2 hW => run_ln (u := .slice (some ⟨b8, o8, none⟩) m c8) (by rfl) (by exact eval_look (by kernel_rfl) (by kernel_rfl)) (fun W => by go_simp) hW) ?_
  refine @chainG _ _ _ _ _ _ _ _ 29 (.bool true) (by kernel_rfl) (by rfl) (by exact fun W2 hW => run_bo (u := .int .i64 (i : Int)) (v := .int .i64 m) (by rfl) (by exact eval_look (by kernel_rfl) (by kernel_rfl)) (by exact eval_look (by kernel_rfl) (by kernel_rfl)) (fun W => lssI_yes _ _ _ _ _ (by omega) W) hW) ?_
  refine @chain _ _ _ _ _ _ _ _ 30 (.bool true) (by rfl) (by rfl) (by exact fun W2 hW => run_pkT (by rfl) (by exact eval_look (by kernel_rfl) (by kernel_rfl)) (by exact eval_look (by kernel_rfl) (by kernel_rfl)) hW) ?_
  refine @chain _ _ _ _ _ _ _ _ 31 (.bool true) (by rfl) (by rfl) (by exact fun W2 hW => run_mv (by rfl) (by exact eval_look (by kernel_rfl) (by kernel_rfl)) hW) ?_
  refine @chainG _ _ _ _ _ _ _ _ 32 (.agg (encE e).toArray) (by kernel_rfl) (by rfl) (by exact fun W2 hW => run_lw (by rfl) (by exact eval_base (by kernel_rfl) (by rfl)) (fun W hW => ldEnt _ _ _ (fun i v hv => cell_later hW (D7.out i v hv))) hW) ?_
  refine @chainG _ _ _ _ _ _ _ _ 33 (.slice (some ⟨b8, o8, none⟩) m c8) (by kernel_rfl) (by rfl) (by exact fun W2 hW => run_lw (by rfl) (by exact eval_base (by kernel_rfl) (by rfl)) (fun W hW => ldSE _ _ _ _ _ _ (cell_later hW D5.out)) hW) ?_
  refine @chainG _ _ _ _ _ _ _ _ 34 (.int .i64 (i : Int)) (by kernel_rfl) (by rfl) (by exact fun W2 hW => run_lw (by rfl) (by exact eval_base (by kernel_rfl) (by rfl)) (fun W hW => ldI _ _ _ _ (cell_later hW D4.out)) hW) ?_
  refine @chainG _ _ _ _ _ _ _ _ 35 (.slice (some ⟨b8, o8, none⟩) m c8) (by kernel_rfl) (by rfl) (by exact fun W2 hW => run_lw (by rfl) (by exact eval_base (by kernel_rfl) (by rfl)) (fun W hW => ldSE _ _ _ _ _ _ (cell_later hW D5.out)) hW) ?_
  refine @chainG _ _ _ _ _ _ _ _ 36 (.int .i64 m) (by kernel_rfl) (by rfl) (by exact fun W2 hW => run_ln (u := .slice (some ⟨b8, o8, none⟩) m c8) (by rfl) (by exact eval_look (by kernel_rfl) (by kernel_rfl)) (fun W => by go_simp) hW) ?_
  refine @chainG _ _ _ _ _ _ _ _ 37 (.int .i64 ((m : Int) - 1)) (by kernel_rfl) (by rfl) (by exact fun W2 hW => run_bo (u := .int .i64 m) (v := .int .i64 1) (by rfl) (by exact eval_look (by kernel_rfl) (by kernel_rfl)) (by rfl) (fun W => subI_run _ _ _ _ _ (by omega) W) hW) ?_
  refine @chainG _ _ _ _ _ _ _ _ 38 (.int .i64 (i : Int)) (by kernel_rfl) (by rfl) (by exact fun W2 hW => run_mn (u := .int .i64 (i : Int)) (v := .int .i64 ((m : Int) - 1)) (by rfl) (by exact eval_look (by kernel_rfl) (by kernel_rfl)) (by exact eval_look (by kernel_rfl) (by kernel_rfl)) (fun W => minL_run _ _ _ _ (by omega) W) hW) ?_
  refine @chainG _ _ _ _ _ _ _ _ 39 (.pointer (some ⟨b8, o8 + i * 4, none⟩)) (by kernel_rfl) (by rfl) (by exact fun W2 hW => run_ia (u := .slice (some ⟨b8, o8, none⟩) m c8) (v := .int .i64 (i : Int)) (by rfl) (by exact eval_look (by kernel_rfl) (by kernel_rfl)) (by exact eval_look (by kernel_rfl) (by kernel_rfl)) (fun W => idx_run _ _ _ _ _ (by omega) W) hW) ?_
  refine @chainG _ _ _ _ _ _ _ _ 40 (.agg (encE e).toArray) (by kernel_rfl) (by rfl) (by exact fun W2 hW => run_lw (by rfl) (by exact eval_look (by kernel_rfl) (by kernel_rfl)) (fun W hW => ldEntO _ _ _ _ (fun i v hv => cell_later hW (D8.out i v hv))) hW) ?_
  refine @chainG _ _ _ _ _ _ _ _ 41 (.bool true) (by kernel_rfl) (by rfl) (by exact fun W2 hW => run_bo (u := .agg (encE e).toArray) (v := .agg (encE e).toArray) (by rfl) (by exact eval_look (by kernel_rfl) (by kernel_rfl)) (by exact eval_look (by kernel_rfl) (by kernel_rfl)) (fun W => eqEnt_run _ _ _ _ _ (by simp) W) hW) ?_
  refine @chain _ _ _ _ _ _ _ _ 42 (.bool true) (by rfl) (by rfl) (by exact fun W2 hW => run_pkT (by rfl) (by exact eval_look (by kernel_rfl) (by kernel_rfl)) (by exact eval_look (by kernel_rfl) (by kernel_rfl)) hW) ?_
  refine @chain _ _ _ _ _ _ _ _ 43 (.bool true) (by rfl) (by rfl) (by exact fun W2 hW => run_mv (by rfl) (by exact eval_look (by kernel_rfl) (by kernel_rfl)) hW) ?_
  refine @chainG _ _ _ _ _ _ _ _ 44 (.bool true) (by kernel_rfl) (by rfl) (by exact fun W2 hW => run_mv (by rfl) (by exact eval_base (by kernel_rfl) (by rfl)) hW) ?_
  refine @chain _ _ _ _ _ _ _ _ 45 (.bool true) (by rfl) (by rfl) (by exact fun W2 hW => run_pkT (by rfl) (by exact eval_look (by kernel_rfl) (by kernel_rfl)) (by exact eval_look (by kernel_rfl) (by kernel_rfl)) hW) ?_
  refine @chain _ _ _ _ _ _ _ _ 46 (.bool true) (by rfl) (by rfl) (by exact fun W2 hW => run_mv (by rfl) (by exact eval_look (by kernel_rfl) (by kernel_rfl)) hW) ?_
  refine @chainG _ _ _ _ _ _ _ _ 47 (.bool true) (by kernel_rfl) (by rfl) (by exact fun W2 hW => run_mv (by rfl) (by exact eval_base (by kernel_rfl) (by rfl)) hW) ?_
  refine @chain _ _ _ _ _ _ _ _ 48 (.bool true) (by rfl) (by rfl) (by exact fun W2 hW => run_pkT (by rfl) (by exact eval_look (by kernel_rfl) (by kernel_rfl)) (by exact eval_look (by kernel_rfl) (by kernel_rfl)) hW) ?_
  refine @chain _ _ _ _ _ _ _ _ 49 (.bool true) (by rfl) (by rfl) (by exact fun W2 hW => run_mv (by rfl) (by exact eval_look (by kernel_rfl) (by kernel_rfl)) hW) ?_
  refine @chainG _ _ _ _ _ _ _ _ 50 (.slice A11 m c11) (by kernel_rfl) (by rfl) (by exact fun W2 hW => run_mv (by rfl) (by exact eval_base (by kernel_rfl) (by rfl)) hW) ?_
  refine @chainG _ _ _ _ _ _ _ _ 51 (.slice (some ⟨b8, o8, none⟩) m c8) (by kernel_rfl) (by rfl) (by exact fun W2 hW => run_lw (by rfl) (by exact eval_base (by kernel_rfl) (by rfl)) (fun W hW => ldSE _ _ _ _ _ _ (cell_later hW D5.out)) hW) ?_
  refine @chainG _ _ _ _ _ _ _ _ 52 (.bool true) (by kernel_rfl) (by rfl) (by exact fun W2 hW => run_call (vs := #[.slice A11 m c11, .slice (some ⟨b8, o8, none⟩) m c8]) (by rfl) (by kernel_rfl) (enters_of Try.func38 (by kernel_rfl) (by rfl)) (calm_b hW (HSE1.out W2 hW))) ?_
  refine @chain _ _ _ _ _ _ _ _ 53 (.bool true) (by rfl) (by rfl) (by exact fun W2 hW => run_pkT (by rfl) (by exact eval_look (by kernel_rfl) (by kernel_rfl)) (by exact eval_look (by kernel_rfl) (by kernel_rfl)) hW) ?_
  refine @chain _ _ _ _ _ _ _ _ 54 (.bool true) (by rfl) (by rfl) (by exact fun W2 hW => run_mv (by rfl) (by exact eval_look (by kernel_rfl) (by kernel_rfl)) hW) ?_
  refine @chainG _ _ _ _ _ _ _ _ 55 (.slice A13 pm c13) (by kernel_rfl) (by rfl) (by exact fun W2 hW => run_mv (by rfl) (by exact eval_base (by kernel_rfl) (by rfl)) hW) ?_
  refine @chainG _ _ _ _ _ _ _ _ 56 (.slice A9 pm c9) (by kernel_rfl) (by rfl) (by exact fun W2 hW => run_lw (by rfl) (by exact eval_base (by kernel_rfl) (by rfl)) (fun W hW => ldSE _ _ _ _ _ _ (cell_later hW D6.out)) hW) ?_
  refine @chainG _ _ _ _ _ _ _ _ 57 (.bool true) (by kernel_rfl) (by rfl) (by exact fun W2 hW => run_call (vs := #[.slice A13 pm c13, .slice A9 pm c9]) (by rfl) (by kernel_rfl) (enters_of Try.func38 (by kernel_rfl) (by rfl)) (calm_b hW (HSE2.out W2 hW))) ?_
  refine @chain _ _ _ _ _ _ _ _ 58 (.bool true) (by rfl) (by rfl) (by exact fun W2 hW => run_pkT (by rfl) (by exact eval_look (by kernel_rfl) (by kernel_rfl)) (by exact eval_look (by kernel_rfl) (by kernel_rfl)) hW) ?_
  refine calm_nil (fun W2 hW2 => ?_)
  refine Eq.mpr (congrArg (fun a => wpList _ _ _ _ a W2) (show _ = (⟨#[Value.agg #[Value.string e.fst, Value.int IntKind.u64 e.snd.fst, Value.bool e.snd.snd.fst, Value.string e.snd.snd.snd], Value.pointer (some ⟨bf, 0, none⟩), Value.pointer (some ⟨bt, 0, none⟩), Value.pointer (some ⟨bW, 0, none⟩), Value.pointer (some ⟨bN, 0, none⟩), Value.pointer (some ⟨ba, 0, none⟩), Value.pointer (some ⟨bp, 0, none⟩), Value.pointer (some ⟨w.heap.size, 0, none⟩), Value.bool false, Value.slice A11 m c11, Value.bool true, Value.slice A13 pm c13, Value.bool true, Value.tuple #[Value.slice A11 m c11, Value.bool true], f, Value.tuple #[Value.slice A11 m c11, Value.bool true], Value.slice A11 m c11, Value.bool true, Value.tuple #[Value.slice A13 pm c13, Value.bool true], Value.pointer (some ⟨t, 0, none⟩), f13, Value.tuple #[Value.slice A13 pm c13, Value.bool true], Value.slice A13 pm c13, Value.bool true, Value.bool true, Value.bool true, Value.int IntKind.i64 (i : Int), Value.slice (some ⟨b8, o8, none⟩) m c8, Value.int IntKind.i64 (m : Int), Value.bool true, Value.bool true, Value.bool true, Value.agg (encE e).toArray, Value.slice (some ⟨b8, o8, none⟩) m c8, Value.int IntKind.i64 (i : Int), Value.slice (some ⟨b8, o8, none⟩) m c8, Value.int IntKind.i64 (m : Int), Value.int IntKind.i64 ((m : Int) - 1), Value.int IntKind.i64 (i : Int), Value.pointer (some ⟨b8, o8 + i * 4, none⟩), Value.agg (encE e).toArray, Value.bool true, Value.bool true, Value.bool true, Value.bool true, Value.bool true, Value.bool true, Value.bool true, Value.bool true, Value.bool true, Value.slice A11 m c11, Value.slice (some ⟨b8, o8, none⟩) m c8, Value.bool true, Value.bool true, Value.bool true, Value.slice A13 pm c13, Value.slice A9 pm c9, Value.bool true, Value.bool true, undef, undef, undef], []⟩ : Act) by kernel_rfl)) ?_
  have HW2 := Lib.hid hW2
  clear hW2
  have HBX := Lib.hid (HB4.out.trans (HW2.out.mono HB4.out.size))
  have k3 := blk_below H3.out HBX.out
  have k4 := blk_below H4.out HBX.out
  have a3 := blk_set k3 0 (.bool true)
  have a4 := blk_far (p := ⟨bW, 0, none⟩) k4 hne.symm (.bool true)
  have z0 : W2.cell? ⟨bW, 0, none⟩ = some (.bool true) := (blk_cell k3 0).trans rfl
  have z1 : W2.frozen? ⟨bW, 0, none⟩ = false := blk_frozen k3 0
  have z2 : (W2.setCell ⟨bW, 0, none⟩ (.bool true)).cell? ⟨bN, 0, none⟩ = some (.int .i64 (i : Int)) := (blk_cell a4 0).trans rfl
  have z3 : (W2.setCell ⟨bW, 0, none⟩ (.bool true)).frozen? ⟨bN, 0, none⟩ = false := blk_frozen a4 0
  have f3 := blk_far (p := ⟨bN, 0, none⟩) a3 hne (.int .i64 ((i : Int) + 1))
  have f4 := blk_set a4 0 (.int .i64 ((i : Int) + 1))
  have z4 : ((W2.setCell ⟨bW, 0, none⟩ (.bool true)).setCell ⟨bN, 0, none⟩ (.int .i64 ((i : Int) + 1))).cell? ⟨bW, 0, none⟩ = some (.bool true) := (blk_cell f3 0).trans rfl
  have F3 := Lib.hid f3
  have F4 := Lib.hid f4
  have HU := Lib.hid (show Upd (fun k => k = bW ∨ k = bN) w ((W2.setCell ⟨bW, 0, none⟩ (.bool true)).setCell ⟨bN, 0, none⟩ (.int .i64 ((i : Int) + 1))) from ((Upd.of_below HBX.out).trans (Upd.setCell _ _ _ (.inl rfl))).trans (Upd.setCell _ _ _ (.inr rfl)))
  clear k3 k4 a3 a4 f3 f4
  go_wp2
  go_ret
  exact ⟨rfl, F3.out, F4.out, HU.out⟩
end Go.Proofs.Ytjbbobhjomhnmaa.H
