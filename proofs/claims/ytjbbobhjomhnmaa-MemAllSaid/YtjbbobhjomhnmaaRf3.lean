/- The reference's list: Put (printed by genrf3.py). Conditions: sizes. -/
import Derived.Test.YtjbbobhjomhnmaaRf2
import Derived.Deep.DeepCutAuto
namespace Go.Proofs.Ytjbbobhjomhnmaa.H
open Go Go.RowKit Go.Deep Go.Shelf Go.Proofs Go.Proofs.YtjbbobhjomhnmaaW.PrintWords
set_option linter.unusedVariables false
set_option linter.unusedSimpArgs false
theorem eqlU_yes (t : TypeId) (x y : Operand) (a b : Int) (h : a = b) (W : World) : (do eqGuard .eql t x y (.int .u64 a) (.int .u64 b); binOp .eql t (.int .u64 a) (.int .u64 b) : Sem Value).run Try.prog W = .ok (.bool true) W := by
  subst h
  go_simp
theorem eqlU_no (t : TypeId) (x y : Operand) (a b : Int) (h : ¬ a = b) (W : World) : (do eqGuard .eql t x y (.int .u64 a) (.int .u64 b); binOp .eql t (.int .u64 a) (.int .u64 b) : Sem Value).run Try.prog W = .ok (.bool false) W := by
  go_simp
  first | done | simpa using h
theorem remI_run (t : TypeId) (x y : Operand) (a b : Nat) (hb : 0 < b) (h : (a : Int) < 9223372036854775807) (W : World) : (do eqGuard .rem t x y (.int .i64 (a : Int)) (.int .i64 (b : Int)); binOp .rem t (.int .i64 (a : Int)) (.int .i64 (b : Int)) : Sem Value).run Try.prog W = .ok (.int .i64 ((a % b : Nat) : Int)) W := by
  have h1 : (a : Int).tmod (b : Int) = ((a % b : Nat) : Int) := by rw [Int.tmod_eq_emod_of_nonneg (by omega)]; simp
  have h2 : ¬ (b : Int) = 0 := by omega
  have h3 : ¬ b = 0 := by omega
  go_simp
  first | done | simp [h3, h1] | simpa [h3] using h1
theorem idxBy_run (b o m c k : Nat) (h : k < m) (W : World) : (Instr.indexAt 22 (.slice (some ⟨b, o, none⟩) m c) (.int .i64 (k : Int))).run Try.prog W = .ok (.pointer (some ⟨b, o + k, none⟩)) W := by
  have h0 : (0 : Int) ≤ k := by omega
  have h1 : (k : Int) < m := by omega
  go_simp
theorem convB_run (a : Nat) (h : a ≤ 255) (W : World) : (convert 5 3 (.int .u8 (a : Int))).run Try.prog W = .ok (.int .i64 (a : Int)) W := by
  have h2 : IntKind.i64.wrap (a : Int) = a := by rw [IntKind.wrap_i64]; omega
  go_simp
theorem ldByS (b j n c : Nat) (A : Option Addr) (W : World) (h : W.cell? ⟨b, j, none⟩ = some (.slice A n c)) : (Instr.loadAt 22 (.pointer (some ⟨b, j, none⟩))).run Try.prog W = .ok (.slice A n c) W := by
  go_simp
theorem ldBy (b j : Nat) (n : Int) (W : World) (h : W.cell? ⟨b, j, none⟩ = some (.int .u8 n)) : (Instr.loadAt 5 (.pointer (some ⟨b, j, none⟩))).run Try.prog W = .ok (.int .u8 n) W := by
  go_simp
theorem ltE_key (x e : Ent) : ltE x (e.1, e.2.1, false, ⟨#[]⟩) ↔ ltE x e := by rw [ltE_iff, ltE_iff]; exact Iff.rfl
/-- Does the entry behind stand at its place already? -/
def stands (Q : List Ent) (e : Ent) : Bool := match Q with | [] => false | y :: _ => decide (y.1 = e.1 ∧ y.2.1 = e.2.1)
set_option maxHeartbeats 12800000 in
set_option maxRecDepth 100000 in
theorem refPut_c {w : World} {r : Nat} {R : Nat → Prop} {P Q : List Ent} {hs draws : List Int} {u : Nat} (h : RefIs w r R (P ++ Q) hs draws u) (e : Ent) (h1 : ∀ x ∈ P, ltE x e) (h2 : ∀ x ∈ Q, ¬ ltE x e) (hlen : hs.length = (P ++ Q).length) (hl : (P ++ Q).length < 2932031007319) (hu : u < 2932031007319) (hby : ∀ x ∈ draws, U8 x) :
    Calls Try.prog 73 #[.pointer (some ⟨r, 0, none⟩), .agg #[.string e.1, .int .u64 e.2.1, .bool e.2.2.1, .string e.2.2.2]] w fun en w' => en = .returned (.bool (!stands Q e)) ∧ Upd (fun k => k = r) w w' ∧
      ∃ R', Grow R R' w ∧ if stands Q e = true then RefIs w' r R' (P ++ Q) hs draws u else RefIs w' r R' (P ++ e :: Q) (hs.take P.length ++ (hgt draws u : Int) :: hs.drop P.length) draws (u + 1) := by
  obtain ⟨w1, hw1⟩ : ∃ w1, w.alloc (.cells #[.string e.1, .int .u64 e.2.1, .bool e.2.2.1, .string e.2.2.2] 53) = w1 := ⟨_, rfl⟩
  have hb1 : Below w.heap.size w w1 := by rw [← hw1]; exact (Below.refl _ _).alloc (Nat.le_refl _) _
  have hbx : w1.heap[w.heap.size]? = some (.cells #[.string e.1, .int .u64 e.2.1, .bool e.2.2.1, .string e.2.2.2] 53 (0, 0)) := by rw [← hw1]; exact heap_alloc_new _ _
  have HPL := Lib.hid (refPlace_c (h.later hb1) e.1 e.2.1 (fun x hx => (ltE_key x e).2 (h1 x hx)) (fun x hx hn => h2 x hx ((ltE_key x e).1 hn)))
  have H := Lib.hid h
  have HLEN := Lib.hid hlen
  have hrl := h.lt r h.self
  obtain ⟨A1, c1, A2, c2, A3, cd, hr, hs1, hs2, hs3, hc1, hc2, hf1, hf2, hf3⟩ := h.ex
  obtain ⟨m, hm2⟩ : ∃ m, (P ++ Q).length = m := ⟨_, rfl⟩
  have hhn : hs.length = m := by rw [hlen, hm2]
  rw [hm2, hhn] at hr
  rw [hm2] at hc1 hl
  rw [hhn] at hc2
  obtain ⟨pn, hpn⟩ : ∃ n, P.length = n := ⟨_, rfl⟩
  have hpm : pn ≤ m := by rw [← hpn, ← hm2, List.length_append]; omega
  obtain ⟨dn, hdn⟩ : ∃ n, draws.length = n := ⟨_, rfl⟩
  rw [hdn] at hr
  rw [hpn] at HPL ⊢
  have HB1 := Lib.hid hb1
  have HBX := Lib.hid hbx
  have HR := Lib.hid hr
  have HS1 := Lib.hid hs1
  have HS2 := Lib.hid hs2
  have HS3 := Lib.hid hs3
  have HF1 := Lib.hid hf1
  have HF2 := Lib.hid hf2
  have HF3 := Lib.hid hf3
  have HM := Lib.hid hm2
  have HPN := Lib.hid hpn
  have HDN := Lib.hid hdn
  have HBY := Lib.hid hby
  have HHN := Lib.hid hhn
  have HU := Lib.hid hu
  have HRL := Lib.hid hrl
  obtain ⟨⟨x0, x1, x2, x3⟩, _⟩ := cells4 hbx
  clear h h1 h2 hlen hrl hr hs1 hs2 hs3 hf1 hf2 hf3 hm2 hpn hdn hby hhn hb1 hbx
  obtain ⟨st, hst⟩ : ∃ b, stands Q e = b := ⟨_, rfl⟩
  have HST := Lib.hid hst
  rw [hst]
  clear hst
  obtain ⟨hh, hhh⟩ : ∃ x, hgt draws u = x := ⟨_, rfl⟩
  have HHH := Lib.hid hhh
  rw [hhh]
  clear hhh
  go_enter Try.func73, Try.ntmps73
  go_wp2_with fail
  refine HPL.out.mono ?_
  rintro _ w2 ⟨rfl, hb2⟩
  have HB12 := Lib.hid hb2
  have HB2 := Lib.hid (HB1.out.trans (hb2.mono HB1.out.size))
  have C0 := Lib.hid ((blk_cell (blk_below HR.out HB2.out) 0).trans rfl : w2.cell? ⟨r, 0, none⟩ = some (.slice A1 m c1))
  have C2 := Lib.hid ((blk_cell (blk_below HR.out HB2.out) 2).trans rfl : w2.cell? ⟨r, 2, none⟩ = some (.slice A3 dn cd))
  have C3 := Lib.hid ((blk_cell (blk_below HR.out HB2.out) 3).trans rfl : w2.cell? ⟨r, 3, none⟩ = some (.int .i64 (u : Int)))
  obtain ⟨⟨e0, e1, e2, e3⟩, _⟩ := cells4 (blk_below HBX.out hb2)
  have E0 := Lib.hid e0
  have E1 := Lib.hid e1
  clear hw1 HPL hb2 x0 x1 x2 x3 e0 e1 e2 e3
  have i1 : (0 : Int) ≤ pn := by omega
  go_upto_region 2 with fail
  go_cut [47] (fun s47 wx => s47 = .bool st ∧ Below w2.heap.size w2 wx)
  case first =>
    cases hQ : Q with
    | nil =>
      have hst : st = false := by rw [← HST.out, hQ]; rfl
      have i2 : (m : Int) ≤ pn := by rw [← HM.out, ← HPN.out, hQ]; simp
      subst hst
      clear hQ
      go_wp2_with fail
      refine wp_region_calmB 32 (by kernel_rfl) (by kernel_rfl) ?_
      simp only [List.take_succ_cons, List.take_zero, List.drop_succ_cons, List.drop_zero]
      refine chain0 ?_
      refine @chain _ _ _ _ _ _ _ _ 15 (.int .i64 (pn : Int)) (by rfl) (by rfl) (by exact fun W2 hW => run_mv (by rfl) (by exact eval_base (by kernel_rfl) (by rfl)) hW) ?_
      refine @chain _ _ _ _ _ _ _ _ 16 (.pointer (some ⟨r, 0, none⟩)) (by rfl) (by rfl) (by exact fun W2 hW => run_mv (by rfl) (by exact eval_base (by kernel_rfl) (by rfl)) hW) ?_
      refine @chain _ _ _ _ _ _ _ _ 17 (.pointer (some ⟨r, 0, none⟩)) (by rfl) (by rfl) (by exact fun W2 hW => run_nc (by rfl) (by exact eval_look (by kernel_rfl) (by kernel_rfl)) hW) ?_
      refine @chain _ _ _ _ _ _ _ _ 18 (.pointer (some ⟨r, 0, none⟩)) (by rfl) (by rfl) (by exact fun W2 hW => run_fa (p := .pointer (some ⟨r, 0, none⟩)) (by rfl) (by exact eval_look (by kernel_rfl) (by kernel_rfl)) (fun W => by first | kernel_rfl | go_simp) hW) ?_
      refine @chain _ _ _ _ _ _ _ _ 19 (.slice A1 m c1) (by rfl) (by rfl) (by exact fun W2 hW => run_lw (by rfl) (by exact eval_look (by kernel_rfl) (by kernel_rfl)) (fun W hW => ldSE _ _ _ _ _ _ (cell_later hW C0.out)) hW) ?_
      refine @chain _ _ _ _ _ _ _ _ 20 (.int .i64 m) (by rfl) (by rfl) (by exact fun W2 hW => run_ln (u := .slice A1 m c1) (by rfl) (by exact eval_look (by kernel_rfl) (by kernel_rfl)) (fun W => by go_simp) hW) ?_
      refine @chain _ _ _ _ _ _ _ _ 21 (.bool false) (by rfl) (by rfl) (by exact fun W2 hW => run_bo (u := .int .i64 (pn : Int)) (v := .int .i64 m) (by rfl) (by exact eval_look (by kernel_rfl) (by kernel_rfl)) (by exact eval_look (by kernel_rfl) (by kernel_rfl)) (fun W => lssI_no _ _ _ _ _ (by omega) W) hW) ?_
      refine @chain _ _ _ _ _ _ _ _ 22 (.bool false) (by rfl) (by rfl) (by exact fun W2 hW => run_mv (by rfl) (by exact eval_look (by kernel_rfl) (by kernel_rfl)) hW) ?_
      refine @chainK _ _ _ _ _ _ _ _ 23 (by kernel_rfl) (by rfl) ?_
      refine @chainK _ _ _ _ _ _ _ _ 24 (by kernel_rfl) (by rfl) ?_
      refine @chainK _ _ _ _ _ _ _ _ 25 (by kernel_rfl) (by rfl) ?_
      refine @chainK _ _ _ _ _ _ _ _ 26 (by kernel_rfl) (by rfl) ?_
      refine @chainK _ _ _ _ _ _ _ _ 27 (by kernel_rfl) (by rfl) ?_
      refine @chainK _ _ _ _ _ _ _ _ 28 (by kernel_rfl) (by rfl) ?_
      refine @chainK _ _ _ _ _ _ _ _ 29 (by kernel_rfl) (by rfl) ?_
      refine @chainK _ _ _ _ _ _ _ _ 30 (by kernel_rfl) (by rfl) ?_
      refine @chainK _ _ _ _ _ _ _ _ 31 (by kernel_rfl) (by rfl) ?_
      refine @chainK _ _ _ _ _ _ _ _ 32 (by kernel_rfl) (by rfl) ?_
      refine @chainK _ _ _ _ _ _ _ _ 33 (by kernel_rfl) (by rfl) ?_
      refine @chain _ _ _ _ _ _ _ _ 34 (.bool false) (by rfl) (by rfl) (by exact fun W2 hW => run_pkF (by rfl) (by exact eval_look (by kernel_rfl) (by kernel_rfl)) (by rfl) hW) ?_
      refine @chain _ _ _ _ _ _ _ _ 35 (.bool false) (by rfl) (by rfl) (by exact fun W2 hW => run_mv (by rfl) (by exact eval_look (by kernel_rfl) (by kernel_rfl)) hW) ?_
      refine @chainK _ _ _ _ _ _ _ _ 36 (by kernel_rfl) (by rfl) ?_
      refine @chainK _ _ _ _ _ _ _ _ 37 (by kernel_rfl) (by rfl) ?_
      refine @chainK _ _ _ _ _ _ _ _ 38 (by kernel_rfl) (by rfl) ?_
      refine @chainK _ _ _ _ _ _ _ _ 39 (by kernel_rfl) (by rfl) ?_
      refine @chainK _ _ _ _ _ _ _ _ 40 (by kernel_rfl) (by rfl) ?_
      refine @chainK _ _ _ _ _ _ _ _ 41 (by kernel_rfl) (by rfl) ?_
      refine @chainK _ _ _ _ _ _ _ _ 42 (by kernel_rfl) (by rfl) ?_
      refine @chainK _ _ _ _ _ _ _ _ 43 (by kernel_rfl) (by rfl) ?_
      refine @chainK _ _ _ _ _ _ _ _ 44 (by kernel_rfl) (by rfl) ?_
      refine @chainK _ _ _ _ _ _ _ _ 45 (by kernel_rfl) (by rfl) ?_
      refine @chainK _ _ _ _ _ _ _ _ 46 (by kernel_rfl) (by rfl) ?_
      refine calm_nil (fun W3 hW3 => ?_)
      refine Eq.mpr (congrArg (fun a => wpList _ _ _ _ a W3) (show _ = (⟨#[Value.pointer (some ⟨r, 0, none⟩), Value.agg #[Value.string e.fst, Value.int IntKind.u64 e.snd.fst, Value.bool e.snd.snd.fst, Value.string e.snd.snd.snd], undef, Value.pointer (some ⟨w.heap.size, 0, none⟩), Value.bool false, Value.int IntKind.i64 (pn : Int), undef, undef, undef, Value.pointer (some ⟨r, 0, none⟩), Value.pointer (some ⟨w.heap.size, 0, none⟩), Value.string e.fst, Value.pointer (some ⟨w.heap.size, 1, none⟩), Value.int IntKind.u64 e.snd.fst, Value.int IntKind.i64 (pn : Int), Value.int IntKind.i64 (pn : Int), Value.pointer (some ⟨r, 0, none⟩), Value.pointer (some ⟨r, 0, none⟩), Value.pointer (some ⟨r, 0, none⟩), Value.slice A1 m c1, Value.int IntKind.i64 (m : Int), Value.bool false, Value.bool false, undef, undef, undef, undef, undef, undef, undef, undef, undef, undef, undef, Value.bool false, Value.bool false, undef, undef, undef, undef, undef, undef, undef, undef, undef, undef, undef, undef, undef, undef, undef, undef, undef, undef, undef, undef, undef, undef, undef, undef, undef, undef, undef, undef, undef, undef, undef, undef, undef, undef, undef, undef, undef, undef, undef, undef, undef, undef, undef, undef, undef, undef, undef, undef, undef, undef, undef, undef, undef, undef, undef, undef, undef, undef, undef, undef, undef, undef, undef, undef, undef, undef, undef, undef, undef, undef, undef, undef, undef, undef, undef, undef, undef, undef, undef, undef, undef, undef, undef, undef, undef, undef, undef, undef, undef, undef], []⟩ : Act) by kernel_rfl)) ?_
      have HW3 := Lib.hid hW3
      clear hW3
      go_wp2_with fail
      go_meet
      exact ⟨rfl, HW3.out⟩
    | cons y tl =>
      have hst : st = decide (y.1 = e.1 ∧ y.2.1 = e.2.1) := by rw [← HST.out, hQ]; rfl
      have i2 : (pn : Int) < m := by rw [← HM.out, ← HPN.out, hQ]; simp; omega
      have hx : (P ++ Q)[pn]? = some y := by rw [hQ, List.getElem?_append_right (by rw [HPN.out]; omega), ← HPN.out, Nat.sub_self]; rfl
      obtain ⟨b1, o1, hA1, hl1, hc⟩ := HS1.out.at hx
      subst hA1
      have X0 := Lib.hid (show w2.cell? ⟨b1, o1 + pn * 4, none⟩ = some (.string y.1) from cell_later HB2.out (hc 0 _ rfl))
      have X1 := Lib.hid (show w2.cell? ⟨b1, o1 + pn * 4 + 1, none⟩ = some (.int .u64 y.2.1) from cell_later HB2.out (hc 1 _ rfl))
      clear hQ hx hc hl1
      by_cases hk : y.1 = e.1
      · by_cases hq : y.2.1 = e.2.1
        · rw [decide_eq_true ⟨hk, hq⟩] at hst
          subst hst
          have HKE := Lib.hid hk
          have HQE := Lib.hid hq
          clear hk hq
          go_wp2_with fail
          refine wp_region_calmB 32 (by kernel_rfl) (by kernel_rfl) ?_
          simp only [List.take_succ_cons, List.take_zero, List.drop_succ_cons, List.drop_zero]
          refine chain0 ?_
          refine @chain _ _ _ _ _ _ _ _ 15 (.int .i64 (pn : Int)) (by rfl) (by rfl) (by exact fun W2 hW => run_mv (by rfl) (by exact eval_base (by kernel_rfl) (by rfl)) hW) ?_
          refine @chain _ _ _ _ _ _ _ _ 16 (.pointer (some ⟨r, 0, none⟩)) (by rfl) (by rfl) (by exact fun W2 hW => run_mv (by rfl) (by exact eval_base (by kernel_rfl) (by rfl)) hW) ?_
          refine @chain _ _ _ _ _ _ _ _ 17 (.pointer (some ⟨r, 0, none⟩)) (by rfl) (by rfl) (by exact fun W2 hW => run_nc (by rfl) (by exact eval_look (by kernel_rfl) (by kernel_rfl)) hW) ?_
          refine @chain _ _ _ _ _ _ _ _ 18 (.pointer (some ⟨r, 0, none⟩)) (by rfl) (by rfl) (by exact fun W2 hW => run_fa (p := .pointer (some ⟨r, 0, none⟩)) (by rfl) (by exact eval_look (by kernel_rfl) (by kernel_rfl)) (fun W => by first | kernel_rfl | go_simp) hW) ?_
          refine @chain _ _ _ _ _ _ _ _ 19 (.slice (some ⟨b1, o1, none⟩) m c1) (by rfl) (by rfl) (by exact fun W2 hW => run_lw (by rfl) (by exact eval_look (by kernel_rfl) (by kernel_rfl)) (fun W hW => ldSE _ _ _ _ _ _ (cell_later hW C0.out)) hW) ?_
          refine @chain _ _ _ _ _ _ _ _ 20 (.int .i64 m) (by rfl) (by rfl) (by exact fun W2 hW => run_ln (u := .slice (some ⟨b1, o1, none⟩) m c1) (by rfl) (by exact eval_look (by kernel_rfl) (by kernel_rfl)) (fun W => by go_simp) hW) ?_
          refine @chain _ _ _ _ _ _ _ _ 21 (.bool true) (by rfl) (by rfl) (by exact fun W2 hW => run_bo (u := .int .i64 (pn : Int)) (v := .int .i64 m) (by rfl) (by exact eval_look (by kernel_rfl) (by kernel_rfl)) (by exact eval_look (by kernel_rfl) (by kernel_rfl)) (fun W => lssI_yes _ _ _ _ _ (by omega) W) hW) ?_
          refine @chain _ _ _ _ _ _ _ _ 22 (.bool true) (by rfl) (by rfl) (by exact fun W2 hW => run_mv (by rfl) (by exact eval_look (by kernel_rfl) (by kernel_rfl)) hW) ?_
          refine @chainG _ _ _ _ _ _ _ _ 23 (.pointer (some ⟨r, 0, none⟩)) (by kernel_rfl) (by rfl) (by exact fun W2 hW => run_mv (by rfl) (by exact eval_base (by kernel_rfl) (by rfl)) hW) ?_
          refine @chainG _ _ _ _ _ _ _ _ 24 (.pointer (some ⟨r, 0, none⟩)) (by kernel_rfl) (by rfl) (by exact fun W2 hW => run_nc (by rfl) (by exact eval_look (by kernel_rfl) (by kernel_rfl)) hW) ?_
          refine @chainG _ _ _ _ _ _ _ _ 25 (.pointer (some ⟨r, 0, none⟩)) (by kernel_rfl) (by rfl) (by exact fun W2 hW => run_fa (p := .pointer (some ⟨r, 0, none⟩)) (by rfl) (by exact eval_look (by kernel_rfl) (by kernel_rfl)) (fun W => by first | kernel_rfl | go_simp) hW) ?_
          refine @chainG _ _ _ _ _ _ _ _ 26 (.slice (some ⟨b1, o1, none⟩) m c1) (by kernel_rfl) (by rfl) (by exact fun W2 hW => run_lw (by rfl) (by exact eval_look (by kernel_rfl) (by kernel_rfl)) (fun W hW => ldSE _ _ _ _ _ _ (cell_later hW C0.out)) hW) ?_
          refine @chainG _ _ _ _ _ _ _ _ 27 (.int .i64 (pn : Int)) (by kernel_rfl) (by rfl) (by exact fun W2 hW => run_mv (by rfl) (by exact eval_base (by kernel_rfl) (by rfl)) hW) ?_
          refine @chainG _ _ _ _ _ _ _ _ 28 (.pointer (some ⟨b1, o1 + pn * 4, none⟩)) (by kernel_rfl) (by rfl) (by exact fun W2 hW => run_ia (u := .slice (some ⟨b1, o1, none⟩) m c1) (v := .int .i64 (pn : Int)) (by rfl) (by exact eval_look (by kernel_rfl) (by kernel_rfl)) (by exact eval_look (by kernel_rfl) (by kernel_rfl)) (fun W => idx_run _ _ _ _ _ (by omega) W) hW) ?_
          refine @chainG _ _ _ _ _ _ _ _ 29 (.pointer (some ⟨b1, o1 + pn * 4, none⟩)) (by kernel_rfl) (by rfl) (by exact fun W2 hW => run_fa (p := .pointer (some ⟨b1, o1 + pn * 4, none⟩)) (by rfl) (by exact eval_look (by kernel_rfl) (by kernel_rfl)) (fun W => by first | kernel_rfl | go_simp) hW) ?_
          refine @chainG _ _ _ _ _ _ _ _ 30 (.string y.1) (by kernel_rfl) (by rfl) (by exact fun W2 hW => run_lw (by rfl) (by exact eval_look (by kernel_rfl) (by kernel_rfl)) (fun W hW => ldStr _ _ _ _ (cell_later hW X0.out)) hW) ?_
          refine @chainG _ _ _ _ _ _ _ _ 31 (.pointer (some ⟨w.heap.size, 0, none⟩)) (by kernel_rfl) (by rfl) (by exact fun W2 hW => run_fa (p := .pointer (some ⟨w.heap.size, 0, none⟩)) (by rfl) (by exact eval_base (by kernel_rfl) (by rfl)) (fun W => by first | kernel_rfl | go_simp) hW) ?_
          refine @chainG _ _ _ _ _ _ _ _ 32 (.string e.1) (by kernel_rfl) (by rfl) (by exact fun W2 hW => run_lw (by rfl) (by exact eval_look (by kernel_rfl) (by kernel_rfl)) (fun W hW => ldStr _ _ _ _ (cell_later hW E0.out)) hW) ?_
          refine @chainG _ _ _ _ _ _ _ _ 33 (.bool true) (by kernel_rfl) (by rfl) (by exact fun W2 hW => run_bo (u := .string y.1) (v := .string e.1) (by rfl) (by exact eval_look (by kernel_rfl) (by kernel_rfl)) (by exact eval_look (by kernel_rfl) (by kernel_rfl)) (fun W => eqlS_yes _ _ _ _ _ HKE.out W) hW) ?_
          refine @chain _ _ _ _ _ _ _ _ 34 (.bool true) (by rfl) (by rfl) (by exact fun W2 hW => run_pkT (by rfl) (by exact eval_look (by kernel_rfl) (by kernel_rfl)) (by exact eval_look (by kernel_rfl) (by kernel_rfl)) hW) ?_
          refine @chain _ _ _ _ _ _ _ _ 35 (.bool true) (by rfl) (by rfl) (by exact fun W2 hW => run_mv (by rfl) (by exact eval_look (by kernel_rfl) (by kernel_rfl)) hW) ?_
          refine @chainG _ _ _ _ _ _ _ _ 36 (.pointer (some ⟨r, 0, none⟩)) (by kernel_rfl) (by rfl) (by exact fun W2 hW => run_mv (by rfl) (by exact eval_base (by kernel_rfl) (by rfl)) hW) ?_
          refine @chainG _ _ _ _ _ _ _ _ 37 (.pointer (some ⟨r, 0, none⟩)) (by kernel_rfl) (by rfl) (by exact fun W2 hW => run_nc (by rfl) (by exact eval_look (by kernel_rfl) (by kernel_rfl)) hW) ?_
          refine @chainG _ _ _ _ _ _ _ _ 38 (.pointer (some ⟨r, 0, none⟩)) (by kernel_rfl) (by rfl) (by exact fun W2 hW => run_fa (p := .pointer (some ⟨r, 0, none⟩)) (by rfl) (by exact eval_look (by kernel_rfl) (by kernel_rfl)) (fun W => by first | kernel_rfl | go_simp) hW) ?_
          refine @chainG _ _ _ _ _ _ _ _ 39 (.slice (some ⟨b1, o1, none⟩) m c1) (by kernel_rfl) (by rfl) (by exact fun W2 hW => run_lw (by rfl) (by exact eval_look (by kernel_rfl) (by kernel_rfl)) (fun W hW => ldSE _ _ _ _ _ _ (cell_later hW C0.out)) hW) ?_
          refine @chainG _ _ _ _ _ _ _ _ 40 (.int .i64 (pn : Int)) (by kernel_rfl) (by rfl) (by exact fun W2 hW => run_mv (by rfl) (by exact eval_base (by kernel_rfl) (by rfl)) hW) ?_
          refine @chainG _ _ _ _ _ _ _ _ 41 (.pointer (some ⟨b1, o1 + pn * 4, none⟩)) (by kernel_rfl) (by rfl) (by exact fun W2 hW => run_ia (u := .slice (some ⟨b1, o1, none⟩) m c1) (v := .int .i64 (pn : Int)) (by rfl) (by exact eval_look (by kernel_rfl) (by kernel_rfl)) (by exact eval_look (by kernel_rfl) (by kernel_rfl)) (fun W => idx_run _ _ _ _ _ (by omega) W) hW) ?_
          refine @chainG _ _ _ _ _ _ _ _ 42 (.pointer (some ⟨b1, o1 + pn * 4 + 1, none⟩)) (by kernel_rfl) (by rfl) (by exact fun W2 hW => run_fa (p := .pointer (some ⟨b1, o1 + pn * 4, none⟩)) (by rfl) (by exact eval_look (by kernel_rfl) (by kernel_rfl)) (fun W => by first | kernel_rfl | go_simp) hW) ?_
          refine @chainG _ _ _ _ _ _ _ _ 43 (.int .u64 y.2.1) (by kernel_rfl) (by rfl) (by exact fun W2 hW => run_lw (by rfl) (by exact eval_look (by kernel_rfl) (by kernel_rfl)) (fun W hW => ldU _ _ _ _ (cell_later hW X1.out)) hW) ?_
          refine @chainG _ _ _ _ _ _ _ _ 44 (.pointer (some ⟨w.heap.size, 1, none⟩)) (by kernel_rfl) (by rfl) (by exact fun W2 hW => run_fa (p := .pointer (some ⟨w.heap.size, 0, none⟩)) (by rfl) (by exact eval_base (by kernel_rfl) (by rfl)) (fun W => by first | kernel_rfl | go_simp) hW) ?_
          refine @chainG _ _ _ _ _ _ _ _ 45 (.int .u64 e.2.1) (by kernel_rfl) (by rfl) (by exact fun W2 hW => run_lw (by rfl) (by exact eval_look (by kernel_rfl) (by kernel_rfl)) (fun W hW => ldU _ _ _ _ (cell_later hW E1.out)) hW) ?_
          refine @chainG _ _ _ _ _ _ _ _ 46 (.bool true) (by kernel_rfl) (by rfl) (by exact fun W2 hW => run_bo (u := .int .u64 y.2.1) (v := .int .u64 e.2.1) (by rfl) (by exact eval_look (by kernel_rfl) (by kernel_rfl)) (by exact eval_look (by kernel_rfl) (by kernel_rfl)) (fun W => eqlU_yes _ _ _ _ _ HQE.out W) hW) ?_
          refine calm_nil (fun W3 hW3 => ?_)
          refine Eq.mpr (congrArg (fun a => wpList _ _ _ _ a W3) (show _ = (⟨#[Value.pointer (some ⟨r, 0, none⟩), Value.agg #[Value.string e.fst, Value.int IntKind.u64 e.snd.fst, Value.bool e.snd.snd.fst, Value.string e.snd.snd.snd], undef, Value.pointer (some ⟨w.heap.size, 0, none⟩), Value.bool false, Value.int IntKind.i64 (pn : Int), undef, undef, undef, Value.pointer (some ⟨r, 0, none⟩), Value.pointer (some ⟨w.heap.size, 0, none⟩), Value.string e.fst, Value.pointer (some ⟨w.heap.size, 1, none⟩), Value.int IntKind.u64 e.snd.fst, Value.int IntKind.i64 (pn : Int), Value.int IntKind.i64 (pn : Int), Value.pointer (some ⟨r, 0, none⟩), Value.pointer (some ⟨r, 0, none⟩), Value.pointer (some ⟨r, 0, none⟩), Value.slice (some ⟨b1, o1, none⟩) m c1, Value.int IntKind.i64 (m : Int), Value.bool true, Value.bool true, Value.pointer (some ⟨r, 0, none⟩), Value.pointer (some ⟨r, 0, none⟩), Value.pointer (some ⟨r, 0, none⟩), Value.slice (some ⟨b1, o1, none⟩) m c1, Value.int IntKind.i64 (pn : Int), Value.pointer (some ⟨b1, o1 + pn * 4, none⟩), Value.pointer (some ⟨b1, o1 + pn * 4, none⟩), Value.string y.fst, Value.pointer (some ⟨w.heap.size, 0, none⟩), Value.string e.fst, Value.bool true, Value.bool true, Value.bool true, Value.pointer (some ⟨r, 0, none⟩), Value.pointer (some ⟨r, 0, none⟩), Value.pointer (some ⟨r, 0, none⟩), Value.slice (some ⟨b1, o1, none⟩) m c1, Value.int IntKind.i64 (pn : Int), Value.pointer (some ⟨b1, o1 + pn * 4, none⟩), Value.pointer (some ⟨b1, o1 + pn * 4 + 1, none⟩), Value.int IntKind.u64 y.snd.fst, Value.pointer (some ⟨w.heap.size, 1, none⟩), Value.int IntKind.u64 e.snd.fst, Value.bool true, undef, undef, undef, undef, undef, undef, undef, undef, undef, undef, undef, undef, undef, undef, undef, undef, undef, undef, undef, undef, undef, undef, undef, undef, undef, undef, undef, undef, undef, undef, undef, undef, undef, undef, undef, undef, undef, undef, undef, undef, undef, undef, undef, undef, undef, undef, undef, undef, undef, undef, undef, undef, undef, undef, undef, undef, undef, undef, undef, undef, undef, undef, undef, undef, undef, undef, undef, undef, undef, undef, undef, undef, undef, undef, undef, undef, undef, undef, undef], []⟩ : Act) by kernel_rfl)) ?_
          have HW3 := Lib.hid hW3
          clear hW3
          go_wp2_with fail
          go_meet
          exact ⟨rfl, HW3.out⟩
        · rw [decide_eq_false (fun h => hq h.2)] at hst
          subst hst
          have HKE := Lib.hid hk
          have HQE := Lib.hid hq
          clear hk hq
          go_wp2_with fail
          refine wp_region_calmB 32 (by kernel_rfl) (by kernel_rfl) ?_
          simp only [List.take_succ_cons, List.take_zero, List.drop_succ_cons, List.drop_zero]
          refine chain0 ?_
          refine @chain _ _ _ _ _ _ _ _ 15 (.int .i64 (pn : Int)) (by rfl) (by rfl) (by exact fun W2 hW => run_mv (by rfl) (by exact eval_base (by kernel_rfl) (by rfl)) hW) ?_
          refine @chain _ _ _ _ _ _ _ _ 16 (.pointer (some ⟨r, 0, none⟩)) (by rfl) (by rfl) (by exact fun W2 hW => run_mv (by rfl) (by exact eval_base (by kernel_rfl) (by rfl)) hW) ?_
          refine @chain _ _ _ _ _ _ _ _ 17 (.pointer (some ⟨r, 0, none⟩)) (by rfl) (by rfl) (by exact fun W2 hW => run_nc (by rfl) (by exact eval_look (by kernel_rfl) (by kernel_rfl)) hW) ?_
          refine @chain _ _ _ _ _ _ _ _ 18 (.pointer (some ⟨r, 0, none⟩)) (by rfl) (by rfl) (by exact fun W2 hW => run_fa (p := .pointer (some ⟨r, 0, none⟩)) (by rfl) (by exact eval_look (by kernel_rfl) (by kernel_rfl)) (fun W => by first | kernel_rfl | go_simp) hW) ?_
          refine @chain _ _ _ _ _ _ _ _ 19 (.slice (some ⟨b1, o1, none⟩) m c1) (by rfl) (by rfl) (by exact fun W2 hW => run_lw (by rfl) (by exact eval_look (by kernel_rfl) (by kernel_rfl)) (fun W hW => ldSE _ _ _ _ _ _ (cell_later hW C0.out)) hW) ?_
          refine @chain _ _ _ _ _ _ _ _ 20 (.int .i64 m) (by rfl) (by rfl) (by exact fun W2 hW => run_ln (u := .slice (some ⟨b1, o1, none⟩) m c1) (by rfl) (by exact eval_look (by kernel_rfl) (by kernel_rfl)) (fun W => by go_simp) hW) ?_
          refine @chain _ _ _ _ _ _ _ _ 21 (.bool true) (by rfl) (by rfl) (by exact fun W2 hW => run_bo (u := .int .i64 (pn : Int)) (v := .int .i64 m) (by rfl) (by exact eval_look (by kernel_rfl) (by kernel_rfl)) (by exact eval_look (by kernel_rfl) (by kernel_rfl)) (fun W => lssI_yes _ _ _ _ _ (by omega) W) hW) ?_
          refine @chain _ _ _ _ _ _ _ _ 22 (.bool true) (by rfl) (by rfl) (by exact fun W2 hW => run_mv (by rfl) (by exact eval_look (by kernel_rfl) (by kernel_rfl)) hW) ?_
          refine @chainG _ _ _ _ _ _ _ _ 23 (.pointer (some ⟨r, 0, none⟩)) (by kernel_rfl) (by rfl) (by exact fun W2 hW => run_mv (by rfl) (by exact eval_base (by kernel_rfl) (by rfl)) hW) ?_
          refine @chainG _ _ _ _ _ _ _ _ 24 (.pointer (some ⟨r, 0, none⟩)) (by kernel_rfl) (by rfl) (by exact fun W2 hW => run_nc (by rfl) (by exact eval_look (by kernel_rfl) (by kernel_rfl)) hW) ?_
          refine @chainG _ _ _ _ _ _ _ _ 25 (.pointer (some ⟨r, 0, none⟩)) (by kernel_rfl) (by rfl) (by exact fun W2 hW => run_fa (p := .pointer (some ⟨r, 0, none⟩)) (by rfl) (by exact eval_look (by kernel_rfl) (by kernel_rfl)) (fun W => by first | kernel_rfl | go_simp) hW) ?_
          refine @chainG _ _ _ _ _ _ _ _ 26 (.slice (some ⟨b1, o1, none⟩) m c1) (by kernel_rfl) (by rfl) (by exact fun W2 hW => run_lw (by rfl) (by exact eval_look (by kernel_rfl) (by kernel_rfl)) (fun W hW => ldSE _ _ _ _ _ _ (cell_later hW C0.out)) hW) ?_
          refine @chainG _ _ _ _ _ _ _ _ 27 (.int .i64 (pn : Int)) (by kernel_rfl) (by rfl) (by exact fun W2 hW => run_mv (by rfl) (by exact eval_base (by kernel_rfl) (by rfl)) hW) ?_
          refine @chainG _ _ _ _ _ _ _ _ 28 (.pointer (some ⟨b1, o1 + pn * 4, none⟩)) (by kernel_rfl) (by rfl) (by exact fun W2 hW => run_ia (u := .slice (some ⟨b1, o1, none⟩) m c1) (v := .int .i64 (pn : Int)) (by rfl) (by exact eval_look (by kernel_rfl) (by kernel_rfl)) (by exact eval_look (by kernel_rfl) (by kernel_rfl)) (fun W => idx_run _ _ _ _ _ (by omega) W) hW) ?_
          refine @chainG _ _ _ _ _ _ _ _ 29 (.pointer (some ⟨b1, o1 + pn * 4, none⟩)) (by kernel_rfl) (by rfl) (by exact fun W2 hW => run_fa (p := .pointer (some ⟨b1, o1 + pn * 4, none⟩)) (by rfl) (by exact eval_look (by kernel_rfl) (by kernel_rfl)) (fun W => by first | kernel_rfl | go_simp) hW) ?_
          refine @chainG _ _ _ _ _ _ _ _ 30 (.string y.1) (by kernel_rfl) (by rfl) (by exact fun W2 hW => run_lw (by rfl) (by exact eval_look (by kernel_rfl) (by kernel_rfl)) (fun W hW => ldStr _ _ _ _ (cell_later hW X0.out)) hW) ?_
          refine @chainG _ _ _ _ _ _ _ _ 31 (.pointer (some ⟨w.heap.size, 0, none⟩)) (by kernel_rfl) (by rfl) (by exact fun W2 hW => run_fa (p := .pointer (some ⟨w.heap.size, 0, none⟩)) (by rfl) (by exact eval_base (by kernel_rfl) (by rfl)) (fun W => by first | kernel_rfl | go_simp) hW) ?_
          refine @chainG _ _ _ _ _ _ _ _ 32 (.string e.1) (by kernel_rfl) (by rfl) (by exact fun W2 hW => run_lw (by rfl) (by exact eval_look (by kernel_rfl) (by kernel_rfl)) (fun W hW => ldStr _ _ _ _ (cell_later hW E0.out)) hW) ?_
          refine @chainG _ _ _ _ _ _ _ _ 33 (.bool true) (by kernel_rfl) (by rfl) (by exact fun W2 hW => run_bo (u := .string y.1) (v := .string e.1) (by rfl) (by exact eval_look (by kernel_rfl) (by kernel_rfl)) (by exact eval_look (by kernel_rfl) (by kernel_rfl)) (fun W => eqlS_yes _ _ _ _ _ HKE.out W) hW) ?_
          refine @chain _ _ _ _ _ _ _ _ 34 (.bool true) (by rfl) (by rfl) (by exact fun W2 hW => run_pkT (by rfl) (by exact eval_look (by kernel_rfl) (by kernel_rfl)) (by exact eval_look (by kernel_rfl) (by kernel_rfl)) hW) ?_
          refine @chain _ _ _ _ _ _ _ _ 35 (.bool true) (by rfl) (by rfl) (by exact fun W2 hW => run_mv (by rfl) (by exact eval_look (by kernel_rfl) (by kernel_rfl)) hW) ?_
          refine @chainG _ _ _ _ _ _ _ _ 36 (.pointer (some ⟨r, 0, none⟩)) (by kernel_rfl) (by rfl) (by exact fun W2 hW => run_mv (by rfl) (by exact eval_base (by kernel_rfl) (by rfl)) hW) ?_
          refine @chainG _ _ _ _ _ _ _ _ 37 (.pointer (some ⟨r, 0, none⟩)) (by kernel_rfl) (by rfl) (by exact fun W2 hW => run_nc (by rfl) (by exact eval_look (by kernel_rfl) (by kernel_rfl)) hW) ?_
          refine @chainG _ _ _ _ _ _ _ _ 38 (.pointer (some ⟨r, 0, none⟩)) (by kernel_rfl) (by rfl) (by exact fun W2 hW => run_fa (p := .pointer (some ⟨r, 0, none⟩)) (by rfl) (by exact eval_look (by kernel_rfl) (by kernel_rfl)) (fun W => by first | kernel_rfl | go_simp) hW) ?_
          refine @chainG _ _ _ _ _ _ _ _ 39 (.slice (some ⟨b1, o1, none⟩) m c1) (by kernel_rfl) (by rfl) (by exact fun W2 hW => run_lw (by rfl) (by exact eval_look (by kernel_rfl) (by kernel_rfl)) (fun W hW => ldSE _ _ _ _ _ _ (cell_later hW C0.out)) hW) ?_
          refine @chainG _ _ _ _ _ _ _ _ 40 (.int .i64 (pn : Int)) (by kernel_rfl) (by rfl) (by exact fun W2 hW => run_mv (by rfl) (by exact eval_base (by kernel_rfl) (by rfl)) hW) ?_
          refine @chainG _ _ _ _ _ _ _ _ 41 (.pointer (some ⟨b1, o1 + pn * 4, none⟩)) (by kernel_rfl) (by rfl) (by exact fun W2 hW => run_ia (u := .slice (some ⟨b1, o1, none⟩) m c1) (v := .int .i64 (pn : Int)) (by rfl) (by exact eval_look (by kernel_rfl) (by kernel_rfl)) (by exact eval_look (by kernel_rfl) (by kernel_rfl)) (fun W => idx_run _ _ _ _ _ (by omega) W) hW) ?_
          refine @chainG _ _ _ _ _ _ _ _ 42 (.pointer (some ⟨b1, o1 + pn * 4 + 1, none⟩)) (by kernel_rfl) (by rfl) (by exact fun W2 hW => run_fa (p := .pointer (some ⟨b1, o1 + pn * 4, none⟩)) (by rfl) (by exact eval_look (by kernel_rfl) (by kernel_rfl)) (fun W => by first | kernel_rfl | go_simp) hW) ?_
          refine @chainG _ _ _ _ _ _ _ _ 43 (.int .u64 y.2.1) (by kernel_rfl) (by rfl) (by exact fun W2 hW => run_lw (by rfl) (by exact eval_look (by kernel_rfl) (by kernel_rfl)) (fun W hW => ldU _ _ _ _ (cell_later hW X1.out)) hW) ?_
          refine @chainG _ _ _ _ _ _ _ _ 44 (.pointer (some ⟨w.heap.size, 1, none⟩)) (by kernel_rfl) (by rfl) (by exact fun W2 hW => run_fa (p := .pointer (some ⟨w.heap.size, 0, none⟩)) (by rfl) (by exact eval_base (by kernel_rfl) (by rfl)) (fun W => by first | kernel_rfl | go_simp) hW) ?_
          refine @chainG _ _ _ _ _ _ _ _ 45 (.int .u64 e.2.1) (by kernel_rfl) (by rfl) (by exact fun W2 hW => run_lw (by rfl) (by exact eval_look (by kernel_rfl) (by kernel_rfl)) (fun W hW => ldU _ _ _ _ (cell_later hW E1.out)) hW) ?_
          refine @chainG _ _ _ _ _ _ _ _ 46 (.bool false) (by kernel_rfl) (by rfl) (by exact fun W2 hW => run_bo (u := .int .u64 y.2.1) (v := .int .u64 e.2.1) (by rfl) (by exact eval_look (by kernel_rfl) (by kernel_rfl)) (by exact eval_look (by kernel_rfl) (by kernel_rfl)) (fun W => eqlU_no _ _ _ _ _ HQE.out W) hW) ?_
          refine calm_nil (fun W3 hW3 => ?_)
          refine Eq.mpr (congrArg (fun a => wpList _ _ _ _ a W3) (show _ = (⟨#[Value.pointer (some ⟨r, 0, none⟩), Value.agg #[Value.string e.fst, Value.int IntKind.u64 e.snd.fst, Value.bool e.snd.snd.fst, Value.string e.snd.snd.snd], undef, Value.pointer (some ⟨w.heap.size, 0, none⟩), Value.bool false, Value.int IntKind.i64 (pn : Int), undef, undef, undef, Value.pointer (some ⟨r, 0, none⟩), Value.pointer (some ⟨w.heap.size, 0, none⟩), Value.string e.fst, Value.pointer (some ⟨w.heap.size, 1, none⟩), Value.int IntKind.u64 e.snd.fst, Value.int IntKind.i64 (pn : Int), Value.int IntKind.i64 (pn : Int), Value.pointer (some ⟨r, 0, none⟩), Value.pointer (some ⟨r, 0, none⟩), Value.pointer (some ⟨r, 0, none⟩), Value.slice (some ⟨b1, o1, none⟩) m c1, Value.int IntKind.i64 (m : Int), Value.bool true, Value.bool true, Value.pointer (some ⟨r, 0, none⟩), Value.pointer (some ⟨r, 0, none⟩), Value.pointer (some ⟨r, 0, none⟩), Value.slice (some ⟨b1, o1, none⟩) m c1, Value.int IntKind.i64 (pn : Int), Value.pointer (some ⟨b1, o1 + pn * 4, none⟩), Value.pointer (some ⟨b1, o1 + pn * 4, none⟩), Value.string y.fst, Value.pointer (some ⟨w.heap.size, 0, none⟩), Value.string e.fst, Value.bool true, Value.bool true, Value.bool true, Value.pointer (some ⟨r, 0, none⟩), Value.pointer (some ⟨r, 0, none⟩), Value.pointer (some ⟨r, 0, none⟩), Value.slice (some ⟨b1, o1, none⟩) m c1, Value.int IntKind.i64 (pn : Int), Value.pointer (some ⟨b1, o1 + pn * 4, none⟩), Value.pointer (some ⟨b1, o1 + pn * 4 + 1, none⟩), Value.int IntKind.u64 y.snd.fst, Value.pointer (some ⟨w.heap.size, 1, none⟩), Value.int IntKind.u64 e.snd.fst, Value.bool false, undef, undef, undef, undef, undef, undef, undef, undef, undef, undef, undef, undef, undef, undef, undef, undef, undef, undef, undef, undef, undef, undef, undef, undef, undef, undef, undef, undef, undef, undef, undef, undef, undef, undef, undef, undef, undef, undef, undef, undef, undef, undef, undef, undef, undef, undef, undef, undef, undef, undef, undef, undef, undef, undef, undef, undef, undef, undef, undef, undef, undef, undef, undef, undef, undef, undef, undef, undef, undef, undef, undef, undef, undef, undef, undef, undef, undef, undef, undef], []⟩ : Act) by kernel_rfl)) ?_
          have HW3 := Lib.hid hW3
          clear hW3
          go_wp2_with fail
          go_meet
          exact ⟨rfl, HW3.out⟩
      · rw [decide_eq_false (fun h => hk h.1)] at hst
        subst hst
        have HKE := Lib.hid hk
        clear hk
        go_wp2_with fail
        refine wp_region_calmB 32 (by kernel_rfl) (by kernel_rfl) ?_
        simp only [List.take_succ_cons, List.take_zero, List.drop_succ_cons, List.drop_zero]
        refine chain0 ?_
        refine @chain _ _ _ _ _ _ _ _ 15 (.int .i64 (pn : Int)) (by rfl) (by rfl) (by exact fun W2 hW => run_mv (by rfl) (by exact eval_base (by kernel_rfl) (by rfl)) hW) ?_
        refine @chain _ _ _ _ _ _ _ _ 16 (.pointer (some ⟨r, 0, none⟩)) (by rfl) (by rfl) (by exact fun W2 hW => run_mv (by rfl) (by exact eval_base (by kernel_rfl) (by rfl)) hW) ?_
        refine @chain _ _ _ _ _ _ _ _ 17 (.pointer (some ⟨r, 0, none⟩)) (by rfl) (by rfl) (by exact fun W2 hW => run_nc (by rfl) (by exact eval_look (by kernel_rfl) (by kernel_rfl)) hW) ?_
        refine @chain _ _ _ _ _ _ _ _ 18 (.pointer (some ⟨r, 0, none⟩)) (by rfl) (by rfl) (by exact fun W2 hW => run_fa (p := .pointer (some ⟨r, 0, none⟩)) (by rfl) (by exact eval_look (by kernel_rfl) (by kernel_rfl)) (fun W => by first | kernel_rfl | go_simp) hW) ?_
        refine @chain _ _ _ _ _ _ _ _ 19 (.slice (some ⟨b1, o1, none⟩) m c1) (by rfl) (by rfl) (by exact fun W2 hW => run_lw (by rfl) (by exact eval_look (by kernel_rfl) (by kernel_rfl)) (fun W hW => ldSE _ _ _ _ _ _ (cell_later hW C0.out)) hW) ?_
        refine @chain _ _ _ _ _ _ _ _ 20 (.int .i64 m) (by rfl) (by rfl) (by exact fun W2 hW => run_ln (u := .slice (some ⟨b1, o1, none⟩) m c1) (by rfl) (by exact eval_look (by kernel_rfl) (by kernel_rfl)) (fun W => by go_simp) hW) ?_
        refine @chain _ _ _ _ _ _ _ _ 21 (.bool true) (by rfl) (by rfl) (by exact fun W2 hW => run_bo (u := .int .i64 (pn : Int)) (v := .int .i64 m) (by rfl) (by exact eval_look (by kernel_rfl) (by kernel_rfl)) (by exact eval_look (by kernel_rfl) (by kernel_rfl)) (fun W => lssI_yes _ _ _ _ _ (by omega) W) hW) ?_
        refine @chain _ _ _ _ _ _ _ _ 22 (.bool true) (by rfl) (by rfl) (by exact fun W2 hW => run_mv (by rfl) (by exact eval_look (by kernel_rfl) (by kernel_rfl)) hW) ?_
        refine @chainG _ _ _ _ _ _ _ _ 23 (.pointer (some ⟨r, 0, none⟩)) (by kernel_rfl) (by rfl) (by exact fun W2 hW => run_mv (by rfl) (by exact eval_base (by kernel_rfl) (by rfl)) hW) ?_
        refine @chainG _ _ _ _ _ _ _ _ 24 (.pointer (some ⟨r, 0, none⟩)) (by kernel_rfl) (by rfl) (by exact fun W2 hW => run_nc (by rfl) (by exact eval_look (by kernel_rfl) (by kernel_rfl)) hW) ?_
        refine @chainG _ _ _ _ _ _ _ _ 25 (.pointer (some ⟨r, 0, none⟩)) (by kernel_rfl) (by rfl) (by exact fun W2 hW => run_fa (p := .pointer (some ⟨r, 0, none⟩)) (by rfl) (by exact eval_look (by kernel_rfl) (by kernel_rfl)) (fun W => by first | kernel_rfl | go_simp) hW) ?_
        refine @chainG _ _ _ _ _ _ _ _ 26 (.slice (some ⟨b1, o1, none⟩) m c1) (by kernel_rfl) (by rfl) (by exact fun W2 hW => run_lw (by rfl) (by exact eval_look (by kernel_rfl) (by kernel_rfl)) (fun W hW => ldSE _ _ _ _ _ _ (cell_later hW C0.out)) hW) ?_
        refine @chainG _ _ _ _ _ _ _ _ 27 (.int .i64 (pn : Int)) (by kernel_rfl) (by rfl) (by exact fun W2 hW => run_mv (by rfl) (by exact eval_base (by kernel_rfl) (by rfl)) hW) ?_
        refine @chainG _ _ _ _ _ _ _ _ 28 (.pointer (some ⟨b1, o1 + pn * 4, none⟩)) (by kernel_rfl) (by rfl) (by exact fun W2 hW => run_ia (u := .slice (some ⟨b1, o1, none⟩) m c1) (v := .int .i64 (pn : Int)) (by rfl) (by exact eval_look (by kernel_rfl) (by kernel_rfl)) (by exact eval_look (by kernel_rfl) (by kernel_rfl)) (fun W => idx_run _ _ _ _ _ (by omega) W) hW) ?_
        refine @chainG _ _ _ _ _ _ _ _ 29 (.pointer (some ⟨b1, o1 + pn * 4, none⟩)) (by kernel_rfl) (by rfl) (by exact fun W2 hW => run_fa (p := .pointer (some ⟨b1, o1 + pn * 4, none⟩)) (by rfl) (by exact eval_look (by kernel_rfl) (by kernel_rfl)) (fun W => by first | kernel_rfl | go_simp) hW) ?_
        refine @chainG _ _ _ _ _ _ _ _ 30 (.string y.1) (by kernel_rfl) (by rfl) (by exact fun W2 hW => run_lw (by rfl) (by exact eval_look (by kernel_rfl) (by kernel_rfl)) (fun W hW => ldStr _ _ _ _ (cell_later hW X0.out)) hW) ?_
        refine @chainG _ _ _ _ _ _ _ _ 31 (.pointer (some ⟨w.heap.size, 0, none⟩)) (by kernel_rfl) (by rfl) (by exact fun W2 hW => run_fa (p := .pointer (some ⟨w.heap.size, 0, none⟩)) (by rfl) (by exact eval_base (by kernel_rfl) (by rfl)) (fun W => by first | kernel_rfl | go_simp) hW) ?_
        refine @chainG _ _ _ _ _ _ _ _ 32 (.string e.1) (by kernel_rfl) (by rfl) (by exact fun W2 hW => run_lw (by rfl) (by exact eval_look (by kernel_rfl) (by kernel_rfl)) (fun W hW => ldStr _ _ _ _ (cell_later hW E0.out)) hW) ?_
        refine @chainG _ _ _ _ _ _ _ _ 33 (.bool false) (by kernel_rfl) (by rfl) (by exact fun W2 hW => run_bo (u := .string y.1) (v := .string e.1) (by rfl) (by exact eval_look (by kernel_rfl) (by kernel_rfl)) (by exact eval_look (by kernel_rfl) (by kernel_rfl)) (fun W => eqlS_no _ _ _ _ _ HKE.out W) hW) ?_
        refine @chain _ _ _ _ _ _ _ _ 34 (.bool false) (by rfl) (by rfl) (by exact fun W2 hW => run_pkT (by rfl) (by exact eval_look (by kernel_rfl) (by kernel_rfl)) (by exact eval_look (by kernel_rfl) (by kernel_rfl)) hW) ?_
        refine @chain _ _ _ _ _ _ _ _ 35 (.bool false) (by rfl) (by rfl) (by exact fun W2 hW => run_mv (by rfl) (by exact eval_look (by kernel_rfl) (by kernel_rfl)) hW) ?_
        refine @chainK _ _ _ _ _ _ _ _ 36 (by kernel_rfl) (by rfl) ?_
        refine @chainK _ _ _ _ _ _ _ _ 37 (by kernel_rfl) (by rfl) ?_
        refine @chainK _ _ _ _ _ _ _ _ 38 (by kernel_rfl) (by rfl) ?_
        refine @chainK _ _ _ _ _ _ _ _ 39 (by kernel_rfl) (by rfl) ?_
        refine @chainK _ _ _ _ _ _ _ _ 40 (by kernel_rfl) (by rfl) ?_
        refine @chainK _ _ _ _ _ _ _ _ 41 (by kernel_rfl) (by rfl) ?_
        refine @chainK _ _ _ _ _ _ _ _ 42 (by kernel_rfl) (by rfl) ?_
        refine @chainK _ _ _ _ _ _ _ _ 43 (by kernel_rfl) (by rfl) ?_
        refine @chainK _ _ _ _ _ _ _ _ 44 (by kernel_rfl) (by rfl) ?_
        refine @chainK _ _ _ _ _ _ _ _ 45 (by kernel_rfl) (by rfl) ?_
        refine @chainK _ _ _ _ _ _ _ _ 46 (by kernel_rfl) (by rfl) ?_
        refine calm_nil (fun W3 hW3 => ?_)
        refine Eq.mpr (congrArg (fun a => wpList _ _ _ _ a W3) (show _ = (⟨#[Value.pointer (some ⟨r, 0, none⟩), Value.agg #[Value.string e.fst, Value.int IntKind.u64 e.snd.fst, Value.bool e.snd.snd.fst, Value.string e.snd.snd.snd], undef, Value.pointer (some ⟨w.heap.size, 0, none⟩), Value.bool false, Value.int IntKind.i64 (pn : Int), undef, undef, undef, Value.pointer (some ⟨r, 0, none⟩), Value.pointer (some ⟨w.heap.size, 0, none⟩), Value.string e.fst, Value.pointer (some ⟨w.heap.size, 1, none⟩), Value.int IntKind.u64 e.snd.fst, Value.int IntKind.i64 (pn : Int), Value.int IntKind.i64 (pn : Int), Value.pointer (some ⟨r, 0, none⟩), Value.pointer (some ⟨r, 0, none⟩), Value.pointer (some ⟨r, 0, none⟩), Value.slice (some ⟨b1, o1, none⟩) m c1, Value.int IntKind.i64 (m : Int), Value.bool true, Value.bool true, Value.pointer (some ⟨r, 0, none⟩), Value.pointer (some ⟨r, 0, none⟩), Value.pointer (some ⟨r, 0, none⟩), Value.slice (some ⟨b1, o1, none⟩) m c1, Value.int IntKind.i64 (pn : Int), Value.pointer (some ⟨b1, o1 + pn * 4, none⟩), Value.pointer (some ⟨b1, o1 + pn * 4, none⟩), Value.string y.fst, Value.pointer (some ⟨w.heap.size, 0, none⟩), Value.string e.fst, Value.bool false, Value.bool false, Value.bool false, undef, undef, undef, undef, undef, undef, undef, undef, undef, undef, undef, undef, undef, undef, undef, undef, undef, undef, undef, undef, undef, undef, undef, undef, undef, undef, undef, undef, undef, undef, undef, undef, undef, undef, undef, undef, undef, undef, undef, undef, undef, undef, undef, undef, undef, undef, undef, undef, undef, undef, undef, undef, undef, undef, undef, undef, undef, undef, undef, undef, undef, undef, undef, undef, undef, undef, undef, undef, undef, undef, undef, undef, undef, undef, undef, undef, undef, undef, undef, undef, undef, undef, undef, undef, undef, undef, undef, undef, undef, undef], []⟩ : Act) by kernel_rfl)) ?_
        have HW3 := Lib.hid hW3
        clear hW3
        go_wp2_with fail
        go_meet
        exact ⟨rfl, HW3.out⟩
  case rest =>
    obtain ⟨rfl, hb3⟩ := hcut
    generalize wc = w3 at *
    have HB23 := Lib.hid hb3
    have HB3 := Lib.hid (HB2.out.trans (hb3.mono HB2.out.size))
    clear hb3
    cases st with
    | true =>
      go_wp2
      go_ret
      exact ⟨rfl, Upd.of_below HB3.out, R, Grow.refl _ _, H.out.later HB3.out⟩
    | false =>
      have D2 := Lib.hid (cell_later HB23.out C2.out)
      have d2 := D2.out
      have D3 := Lib.hid (cell_later HB23.out C3.out)
      have hub : u < 2932031007319 := HU.out
      go_upto_if 53 with fail
      go_cut [6] (fun s6 wx => s6 = .int .i64 (hh : Int) ∧ Below w3.heap.size w3 wx)
      case first =>
        rcases Nat.eq_zero_or_pos dn with hz | hdpos
        · have hde : draws = [] := List.length_eq_zero_iff.1 (by rw [HDN.out, hz])
          have hh1 : hh = 1 := by rw [← HHH.out]; unfold hgt; rw [if_pos hde]
          have i5 : ¬ (0 : Int) < dn := by omega
          have HH1 := Lib.hid hh1
          clear hz hde hh1
          go_wp2_with fail
          go_meet
          exact ⟨by rw [HH1.out]; rfl, Below.refl _ _⟩
        · have hdlt : u % dn < dn := Nat.mod_lt _ hdpos
          obtain ⟨xd, hxd⟩ := getElem?_of_lt (l := draws) (by rw [HDN.out]; exact hdlt : u % dn < draws.length)
          have hb8 := HBY.out xd (List.mem_of_getElem? hxd)
          obtain ⟨dy, hdy⟩ : ∃ y : Nat, xd = y := ⟨xd.toNat, by have := hb8.1; omega⟩
          subst hdy
          have hdy2 : dy ≤ 255 := by have := hb8.2; omega
          obtain ⟨b3, o3, hA3, hl3, hc3⟩ := HS3.out.at hxd
          subst hA3
          have CD := Lib.hid (show w3.cell? ⟨b3, o3 + u % dn, none⟩ = some (.int .u8 (dy : Int)) by
            have := cell_later HB3.out (hc3 0 _ rfl)
            simpa using this)
          have HH1 := Lib.hid (show hh = 1 + dy % 12 by rw [← HHH.out]; exact hgt_cons HDN.out hdpos hxd)
          have i5 : (0 : Int) < dn := by omega
          clear hxd hb8 hl3 hc3
          go_wp2_with fail
          refine wp_region_calmB 19 (by kernel_rfl) (by kernel_rfl) ?_
          simp only [List.take_succ_cons, List.take_zero, List.drop_succ_cons, List.drop_zero]
          refine chain0 ?_
          refine @chain _ _ _ _ _ _ _ _ 54 (.pointer (some ⟨r, 0, none⟩)) (by rfl) (by rfl) (by exact fun W2 hW => run_mv (by rfl) (by exact eval_base (by kernel_rfl) (by rfl)) hW) ?_
          refine @chain _ _ _ _ _ _ _ _ 55 (.pointer (some ⟨r, 0, none⟩)) (by rfl) (by rfl) (by exact fun W2 hW => run_nc (by rfl) (by exact eval_look (by kernel_rfl) (by kernel_rfl)) hW) ?_
          refine @chain _ _ _ _ _ _ _ _ 56 (.pointer (some ⟨r, 2, none⟩)) (by rfl) (by rfl) (by exact fun W2 hW => run_fa (p := .pointer (some ⟨r, 0, none⟩)) (by rfl) (by exact eval_look (by kernel_rfl) (by kernel_rfl)) (fun W => by first | kernel_rfl | go_simp) hW) ?_
          refine @chain _ _ _ _ _ _ _ _ 57 (.slice (some ⟨b3, o3, none⟩) dn cd) (by rfl) (by rfl) (by exact fun W2 hW => run_lw (by rfl) (by exact eval_look (by kernel_rfl) (by kernel_rfl)) (fun W hW => ldByS _ _ _ _ _ _ (cell_later hW D2.out)) hW) ?_
          refine @chain _ _ _ _ _ _ _ _ 58 (.pointer (some ⟨r, 0, none⟩)) (by rfl) (by rfl) (by exact fun W2 hW => run_mv (by rfl) (by exact eval_base (by kernel_rfl) (by rfl)) hW) ?_
          refine @chain _ _ _ _ _ _ _ _ 59 (.pointer (some ⟨r, 0, none⟩)) (by rfl) (by rfl) (by exact fun W2 hW => run_nc (by rfl) (by exact eval_look (by kernel_rfl) (by kernel_rfl)) hW) ?_
          refine @chain _ _ _ _ _ _ _ _ 60 (.pointer (some ⟨r, 3, none⟩)) (by rfl) (by rfl) (by exact fun W2 hW => run_fa (p := .pointer (some ⟨r, 0, none⟩)) (by rfl) (by exact eval_look (by kernel_rfl) (by kernel_rfl)) (fun W => by first | kernel_rfl | go_simp) hW) ?_
          refine @chain _ _ _ _ _ _ _ _ 61 (.int .i64 (u : Int)) (by rfl) (by rfl) (by exact fun W2 hW => run_lw (by rfl) (by exact eval_look (by kernel_rfl) (by kernel_rfl)) (fun W hW => ldI _ _ _ _ (cell_later hW D3.out)) hW) ?_
          refine @chain _ _ _ _ _ _ _ _ 62 (.pointer (some ⟨r, 0, none⟩)) (by rfl) (by rfl) (by exact fun W2 hW => run_mv (by rfl) (by exact eval_base (by kernel_rfl) (by rfl)) hW) ?_
          refine @chain _ _ _ _ _ _ _ _ 63 (.pointer (some ⟨r, 0, none⟩)) (by rfl) (by rfl) (by exact fun W2 hW => run_nc (by rfl) (by exact eval_look (by kernel_rfl) (by kernel_rfl)) hW) ?_
          refine @chain _ _ _ _ _ _ _ _ 64 (.pointer (some ⟨r, 2, none⟩)) (by rfl) (by rfl) (by exact fun W2 hW => run_fa (p := .pointer (some ⟨r, 0, none⟩)) (by rfl) (by exact eval_look (by kernel_rfl) (by kernel_rfl)) (fun W => by first | kernel_rfl | go_simp) hW) ?_
          refine @chain _ _ _ _ _ _ _ _ 65 (.slice (some ⟨b3, o3, none⟩) dn cd) (by rfl) (by rfl) (by exact fun W2 hW => run_lw (by rfl) (by exact eval_look (by kernel_rfl) (by kernel_rfl)) (fun W hW => ldByS _ _ _ _ _ _ (cell_later hW D2.out)) hW) ?_
          refine @chain _ _ _ _ _ _ _ _ 66 (.int .i64 dn) (by rfl) (by rfl) (by exact fun W2 hW => run_ln (u := .slice (some ⟨b3, o3, none⟩) dn cd) (by rfl) (by exact eval_look (by kernel_rfl) (by kernel_rfl)) (fun W => by go_simp) hW) ?_
          refine @chain _ _ _ _ _ _ _ _ 67 (.int .i64 ((u % dn : Nat) : Int)) (by rfl) (by rfl) (by exact fun W2 hW => run_bo (u := .int .i64 (u : Int)) (v := .int .i64 dn) (by rfl) (by exact eval_look (by kernel_rfl) (by kernel_rfl)) (by exact eval_look (by kernel_rfl) (by kernel_rfl)) (fun W => remI_run _ _ _ _ _ hdpos (by omega) W) hW) ?_
          refine @chain _ _ _ _ _ _ _ _ 68 (.pointer (some ⟨b3, o3 + u % dn, none⟩)) (by rfl) (by rfl) (by exact fun W2 hW => run_ia (u := .slice (some ⟨b3, o3, none⟩) dn cd) (v := .int .i64 ((u % dn : Nat) : Int)) (by rfl) (by exact eval_look (by kernel_rfl) (by kernel_rfl)) (by exact eval_look (by kernel_rfl) (by kernel_rfl)) (fun W => idxBy_run _ _ _ _ _ hdlt W) hW) ?_
          refine @chain _ _ _ _ _ _ _ _ 69 (.int .u8 (dy : Int)) (by rfl) (by rfl) (by exact fun W2 hW => run_lw (by rfl) (by exact eval_look (by kernel_rfl) (by kernel_rfl)) (fun W hW => ldBy _ _ _ _ (cell_later hW CD.out)) hW) ?_
          refine @chain _ _ _ _ _ _ _ _ 70 (.int .i64 (dy : Int)) (by rfl) (by rfl) (by exact fun W2 hW => run_cv (u := .int .u8 (dy : Int)) (by rfl) (by exact eval_look (by kernel_rfl) (by kernel_rfl)) (fun W => convB_run _ (by omega) W) hW) ?_
          refine @chain _ _ _ _ _ _ _ _ 71 (.int .i64 ((dy % 12 : Nat) : Int)) (by rfl) (by rfl) (by exact fun W2 hW => run_bo (u := .int .i64 (dy : Int)) (v := .int .i64 12) (by rfl) (by exact eval_look (by kernel_rfl) (by kernel_rfl)) (by rfl) (fun W => remI_run _ _ _ dy 12 (by omega) (by omega) W) hW) ?_
          refine @chain _ _ _ _ _ _ _ _ 72 (.int .i64 (1 + ((dy % 12 : Nat) : Int))) (by rfl) (by rfl) (by exact fun W2 hW => run_bo (u := .int .i64 1) (v := .int .i64 ((dy % 12 : Nat) : Int)) (by rfl) (by rfl) (by exact eval_look (by kernel_rfl) (by kernel_rfl)) (fun W => addI_run _ _ _ _ _ (by omega) W) hW) ?_
          refine calm_nil (fun W4 hW4 => ?_)
          refine Eq.mpr (congrArg (fun a => wpList _ _ _ _ a W4) (show _ = (⟨#[Value.pointer (some ⟨r, 0, none⟩), Value.agg #[Value.string e.fst, Value.int IntKind.u64 e.snd.fst, Value.bool e.snd.snd.fst, Value.string e.snd.snd.snd], undef, Value.pointer (some ⟨w.heap.size, 0, none⟩), Value.bool false, Value.int IntKind.i64 (pn : Int), Value.int IntKind.i64 1, undef, undef, u9, u10, u11, u12, u13, u14, u15, u16, u17, u18, u19, u20, u21, u22, u23, u24, u25, u26, u27, u28, u29, u30, u31, u32, u33, u34, u35, u36, u37, u38, u39, u40, u41, u42, u43, u44, u45, u46, Value.bool false, Value.pointer (some ⟨r, 0, none⟩), Value.pointer (some ⟨r, 0, none⟩), Value.pointer (some ⟨r, 2, none⟩), Value.slice (some ⟨b3, o3, none⟩) dn cd, Value.int IntKind.i64 (dn : Int), Value.bool (decide (0 < dn)), Value.pointer (some ⟨r, 0, none⟩), Value.pointer (some ⟨r, 0, none⟩), Value.pointer (some ⟨r, 2, none⟩), Value.slice (some ⟨b3, o3, none⟩) dn cd, Value.pointer (some ⟨r, 0, none⟩), Value.pointer (some ⟨r, 0, none⟩), Value.pointer (some ⟨r, 3, none⟩), Value.int IntKind.i64 (u : Int), Value.pointer (some ⟨r, 0, none⟩), Value.pointer (some ⟨r, 0, none⟩), Value.pointer (some ⟨r, 2, none⟩), Value.slice (some ⟨b3, o3, none⟩) dn cd, Value.int IntKind.i64 (dn : Int), Value.int IntKind.i64 ((Nat.cast : Nat → Int) (u % dn)), Value.pointer (some ⟨b3, o3 + u % dn, none⟩), Value.int IntKind.u8 (dy : Int), Value.int IntKind.i64 (dy : Int), Value.int IntKind.i64 ((Nat.cast : Nat → Int) (dy % 12)), Value.int IntKind.i64 (1 + ((Nat.cast : Nat → Int) (dy % 12))), u73, u74, u75, u76, u77, u78, u79, u80, u81, u82, u83, u84, u85, u86, u87, u88, u89, u90, u91, u92, u93, u94, u95, u96, u97, u98, u99, u100, u101, u102, u103, u104, u105, u106, u107, u108, u109, u110, u111, u112, u113, u114, u115, u116, u117, u118, u119, u120, u121, u122, u123, u124, u125], []⟩ : Act) by kernel_rfl)) ?_
          have HW4 := Lib.hid hW4
          clear hW4
          go_wp2_with fail
          go_meet
          exact ⟨by rw [HH1.out]; push_cast; rfl, HW4.out⟩
      case rest =>
        obtain ⟨rfl, hb4⟩ := hcut
        generalize wc = w4 at *
        have HB4 := Lib.hid (HB3.out.trans (hb4.mono HB3.out.size))
        have HB14 := Lib.hid ((HB12.out.trans (HB23.out.mono HB12.out.size)).trans (hb4.mono (HB12.out.trans (HB23.out.mono HB12.out.size)).size))
        have hr4 := blk_below HR.out HB4.out
        have c3 : w4.cell? ⟨r, 3, none⟩ = some (.int .i64 (u : Int)) := (blk_cell hr4 3).trans rfl
        have f3 : w4.frozen? ⟨r, 3, none⟩ = false := blk_frozen hr4 3
        obtain ⟨w5, hw5⟩ : ∃ Z, w4.setCell ⟨r, 3, none⟩ (.int .i64 ((u : Int) + 1)) = Z := ⟨_, rfl⟩
        have hr5 : w5.heap[r]? = some (.cells #[.slice A1 m c1, .slice A2 m c2, .slice A3 dn cd, .int .i64 ((u : Int) + 1)] 123 (0, 0)) := by rw [← hw5]; exact (blk_set hr4 3 _).trans rfl
        have hu5 : Upd (fun k => k = r) w4 w5 := by rw [← hw5]; exact Upd.setCell w4 3 _ rfl
        have c0 : w5.cell? ⟨r, 0, none⟩ = some (.slice A1 m c1) := (blk_cell hr5 0).trans rfl
        have S1 := Lib.hid ((HS1.out.later HB4.out).upd hu5 (fun b o e => (HF1.out b o e).2))
        have S2 := Lib.hid ((HS2.out.later HB4.out).upd hu5 (fun b o e => (HF2.out b o e).2))
        have S3 := Lib.hid ((HS3.out.later HB4.out).upd hu5 (fun b o e => (HF3.out b o e).2))
        have BX5 := Lib.hid (hu5.heap (blk_below HBX.out HB14.out) (fun e => by have := HRL.out; omega))
        have HU5 := Lib.hid ((Upd.of_below (S := fun k => k = r) HB4.out).trans hu5)
        have HR5 := Lib.hid hr5
        have HRL5 := Lib.hid (blk_lt hr5)
        obtain ⟨Ad, had, hsd⟩ := fromE A1 m c1 pn hpm hc1
        obtain ⟨Ai, hai, hsi⟩ := fromI A2 m c2 pn hpm hc2
        have hql : m - pn = Q.length := by rw [← HM.out, ← HPN.out, List.length_append]; omega
        obtain ⟨tk, htk⟩ : ∃ x, hs.take pn = x := ⟨_, rfl⟩
        obtain ⟨dk, hdk⟩ : ∃ x, hs.drop pn = x := ⟨_, rfl⟩
        have HTK := Lib.hid htk
        have HDK := Lib.hid hdk
        have htl : tk.length = pn := by rw [← htk, List.length_take, HHN.out]; omega
        have hdl : dk.length = m - pn := by rw [← hdk, List.length_drop, HHN.out]
        have HAD := Lib.hid had
        have HAI := Lib.hid hai
        have HSD := Lib.hid (fun (w : World) (h : Sl encE 4 w A1 (P ++ Q)) => (show Sl encE 4 w Ad Q by
          have := hsd HM.out h
          rwa [show (P ++ Q).drop pn = Q by rw [← HPN.out]; simp] at this))
        have HSI := Lib.hid (fun (w : World) (h : Sl encI 1 w A2 hs) => (show Sl encI 1 w Ai dk by rw [← HDK.out]; exact hsi HHN.out h))
        have HQL := Lib.hid hql
        have HTL := Lib.hid htl
        have HDL := Lib.hid hdl
        have HPM := Lib.hid hpm
        have HCC := Lib.hid (show m ≤ c1 ∧ m ≤ c2 from ⟨hc1, hc2⟩)
        have HML := Lib.hid hl
        clear htk hdk hr4 hr5 hu5 hb4 had hai hsd hsi hql htl hdl hpm hc1 hc2 hl d2
        go_wp2_with (first | (refine wpList_sl rfl _ (.tmp 84) none (some (.tmp 85)) rfl (.slice A1 m c1) none (some (.int .i64 (pn : Int))) rfl rfl rfl (.slice A1 P.length c1) (fun W => by rw [HPN.out]; exact toE_run A1 m c1 pn HPM.out HCC.out.1 W) ?_) | (at_builtin; refine wpList_app rfl (.tmp 80) (.tmp 86) rfl uSlEx infoEx rfl (by decide) (by decide) okE (.slice none 0 0) [] rfl (base := w5.heap.size) ?c1 A1 c1 P rfl ?c2 ?c3 ?c4 ?_))
        case c1 => exact Own.nil _ _ _ _ _
        case c2 => simpa [← HPN.out] using S1.out.take_ pn
        case c3 => have := HPM.out; have := HML.out; have := HPN.out; simp; omega
        case c4 => exact Nat.le_refl _
        intro v7 w6 ho1 hg1 hat1
        have hb6 := (Below.refl w5.heap.size w5).grown hg1 (Nat.le_refl _) (fun k hk => by cases hk)
        obtain ⟨A7, c7, rfl⟩ := own_slice ho1
        have HO7 := Lib.hid ho1
        have HB6 := Lib.hid hb6
        obtain ⟨⟨e0, e1, e2, e3⟩, _⟩ := cells4 (blk_below BX5.out hb6)
        clear ho1 hg1 hat1 hb6 c0
        go_wp2_with (at_builtin; refine wpList_app rfl (.tmp 88) (.tmp 90) rfl uSlEx infoEx rfl (by decide) (by decide) okE (.slice A7 P.length c7) P rfl (base := w5.heap.size) ?c1 (some ⟨w6.heap.size, 0, none⟩) 1 [e] rfl ?c2 ?c3 ?c4 ?_)
        case c1 => exact HO7.out.below ((Below.refl _ _).alloc (Nat.le_refl _) _)
        case c2 => exact Sl.one okE w6 e _ rfl
        case c3 => have := HPM.out; have := HML.out; have := HPN.out; simp; omega
        case c4 => have := HB6.out.size; simp; omega
        intro v7 w7 ho1 hg1 hat1
        have hb7 := (HB6.out.alloc HB6.out.size _).grown hg1 (by have := HB6.out.size; simp; omega) (fun k hk => (HO7.out.block_lt hk).1)
        obtain ⟨p1, hp1⟩ : ∃ x, P ++ [e] = x := ⟨_, rfl⟩
        rw [hp1] at ho1
        have HP1 := Lib.hid hp1
        have HPL1 := Lib.hid (show p1.length = pn + 1 by rw [← hp1, List.length_append, HPN.out]; rfl)
        clear hp1
        obtain ⟨A8, c8, rfl⟩ := own_slice ho1
        have HO8 := Lib.hid ho1
        have HB7 := Lib.hid hb7
        have c0 : w7.cell? ⟨r, 0, none⟩ = some (.slice A1 m c1) := (blk_cell (blk_below HR5.out hb7) 0).trans rfl
        clear ho1 hg1 hat1 hb7 e0 e1 e2 e3
        go_wp2_with (first | (refine wpList_sl rfl _ (.tmp 97) (some (.tmp 98)) none rfl (.slice A1 m c1) (some (.int .i64 (pn : Int))) none rfl rfl rfl (.slice Ad Q.length (c1 - pn)) (fun W => by rw [← HQL.out]; exact HAD.out W) ?_) | (at_builtin; refine wpList_app rfl (.tmp 93) (.tmp 99) rfl uSlEx infoEx rfl (by decide) (by decide) okE (.slice A8 p1.length c8) p1 rfl (base := w5.heap.size) ?c1 Ad (c1 - pn) Q rfl ?c2 ?c3 ?c4 ?_))
        case c1 => exact HO8.out
        case c2 => exact HSD.out _ (S1.out.later HB7.out)
        case c3 => have h1 := HQL.out; have h2 := HML.out; have h3 := HPL1.out; have h4 := HPM.out; omega
        case c4 => exact HB7.out.size
        intro v9 w8 ho1 hg1 hat1
        have hb8 := HB7.out.grown hg1 HB7.out.size (fun k hk => (HO8.out.block_lt hk).1)
        obtain ⟨A9, c9, hv9, hlc9, hs9, _⟩ := ho1.slice (fun x => (okE x).1)
        have hob9 := ownBlock_of (show Own encE 53 4 w8 w5.heap.size (.slice A9 _ c9) _ by rw [← hv9]; exact ho1)
        subst hv9
        have hr8 := blk_below HR5.out hb8
        have c0 : w8.cell? ⟨r, 0, none⟩ = some (.slice A1 m c1) := (blk_cell hr8 0).trans rfl
        have f0 : w8.frozen? ⟨r, 0, none⟩ = false := blk_frozen hr8 0
        obtain ⟨ml, hml⟩ : ∃ n, (p1 ++ Q).length = n := ⟨_, rfl⟩
        rw [hml] at hlc9 ⊢
        obtain ⟨w9, hw9⟩ : ∃ Z, w8.setCell ⟨r, 0, none⟩ (.slice A9 ml c9) = Z := ⟨_, rfl⟩
        have hr9 : w9.heap[r]? = some (.cells #[.slice A9 ml c9, .slice A2 m c2, .slice A3 dn cd, .int .i64 ((u : Int) + 1)] 123 (0, 0)) := by rw [← hw9]; exact (blk_set hr8 0 _).trans rfl
        have hu9 : Upd (fun k => k = r) w8 w9 := by rw [← hw9]; exact Upd.setCell w8 0 _ rfl
        have c1r : w9.cell? ⟨r, 1, none⟩ = some (.slice A2 m c2) := (blk_cell hr9 1).trans rfl
        have T1 := Lib.hid (hs9.upd hu9 (fun b o e => by have := (hob9 b o e).1; have := HRL5.out; omega))
        have T2 := Lib.hid ((S2.out.later hb8).upd hu9 (fun b o e => (HF2.out b o e).2))
        have T3 := Lib.hid ((S3.out.later hb8).upd hu9 (fun b o e => (HF3.out b o e).2))
        have HOB9 := Lib.hid (show ∀ b o, A9 = some ⟨b, o, none⟩ → w.heap.size ≤ b ∧ b < w9.heap.size from fun b o e => by have := hob9 b o e; have := hu9.size; have := HU5.out.size; omega)
        have HLC9 := Lib.hid hlc9
        have HMLE := Lib.hid hml
        have HU9 := Lib.hid ((HU5.out.trans (Upd.of_below hb8)).trans hu9)
        have HR9 := Lib.hid hr9
        clear ho1 hg1 hat1 hb8 hs9 hob9 hr8 hr9 hu9 hml hlc9 hw5 c3 f3
        go_wp2_with (first | (refine wpList_sl rfl _ (.tmp 107) none (some (.tmp 108)) rfl (.slice A2 m c2) none (some (.int .i64 (pn : Int))) rfl rfl rfl (.slice A2 tk.length c2) (fun W => by rw [HTL.out]; exact toI_run A2 m c2 pn HPM.out HCC.out.2 W) ?_) | (at_builtin; refine wpList_app rfl (.tmp 103) (.tmp 109) rfl uSlIx infoIx rfl (by decide) (by decide) okI (.slice none 0 0) [] rfl (base := w9.heap.size) ?c1 A2 c2 tk rfl ?c2 ?c3 ?c4 ?_))
        case c1 => exact Own.nil _ _ _ _ _
        case c2 => rw [← HTK.out]; exact T2.out.take_ pn
        case c3 => have := HPM.out; have := HML.out; have := HTL.out; simp; omega
        case c4 => exact Nat.le_refl _
        intro v10 w10 ho1 hg1 hat1
        have hb10 := (Below.refl w9.heap.size w9).grown hg1 (Nat.le_refl _) (fun k hk => by cases hk)
        obtain ⟨A10, c10, rfl⟩ := own_slice ho1
        have HO10 := Lib.hid ho1
        have HB10 := Lib.hid hb10
        clear ho1 hg1 hat1 hb10 c1r hw9 c0 f0
        go_wp2_with (at_builtin; refine wpList_app rfl (.tmp 111) (.tmp 113) rfl uSlIx infoIx rfl (by decide) (by decide) okI (.slice A10 tk.length c10) tk rfl (base := w9.heap.size) ?c1 (some ⟨w10.heap.size, 0, none⟩) 1 [(hh : Int)] rfl ?c2 ?c3 ?c4 ?_)
        case c1 => exact HO10.out.below ((Below.refl _ _).alloc (Nat.le_refl _) _)
        case c2 => exact Sl.one okI w10 (hh : Int) _ rfl
        case c3 => have := HPM.out; have := HML.out; have := HTL.out; simp; omega
        case c4 => have := HB10.out.size; simp; omega
        intro v11 w11 ho1 hg1 hat1
        have hb11 := (HB10.out.alloc HB10.out.size _).grown hg1 (by have := HB10.out.size; simp; omega) (fun k hk => (HO10.out.block_lt hk).1)
        obtain ⟨q1, hq1⟩ : ∃ x, tk ++ [(hh : Int)] = x := ⟨_, rfl⟩
        rw [hq1] at ho1
        have HQ1 := Lib.hid hq1
        have HQL1 := Lib.hid (show q1.length = pn + 1 by rw [← hq1, List.length_append, HTL.out]; rfl)
        clear hq1
        obtain ⟨A11, c11, rfl⟩ := own_slice ho1
        have HO11 := Lib.hid ho1
        have HB11 := Lib.hid hb11
        have c1r : w11.cell? ⟨r, 1, none⟩ = some (.slice A2 m c2) := (blk_cell (blk_below HR9.out hb11) 1).trans rfl
        clear ho1 hg1 hat1 hb11
        go_wp2_with (first | (refine wpList_sl rfl _ (.tmp 120) (some (.tmp 121)) none rfl (.slice A2 m c2) (some (.int .i64 (pn : Int))) none rfl rfl rfl (.slice Ai dk.length (c2 - pn)) (fun W => by rw [HDL.out]; exact HAI.out W) ?_) | (at_builtin; refine wpList_app rfl (.tmp 116) (.tmp 122) rfl uSlIx infoIx rfl (by decide) (by decide) okI (.slice A11 q1.length c11) q1 rfl (base := w9.heap.size) ?c1 Ai (c2 - pn) dk rfl ?c2 ?c3 ?c4 ?_))
        case c1 => exact HO11.out
        case c2 => exact HSI.out _ (T2.out.later HB11.out)
        case c3 => have h1 := HML.out; have h2 := HQL1.out; have h3 := HDL.out; have h4 := HPM.out; omega
        case c4 => exact HB11.out.size
        intro v12 w12 ho1 hg1 hat1
        have hb12 := HB11.out.grown hg1 HB11.out.size (fun k hk => (HO11.out.block_lt hk).1)
        obtain ⟨A12, c12, hv12, hlc12, hs12, _⟩ := ho1.slice (fun x => (okI x).1)
        have hob12 := ownBlock_of (show Own encI 3 1 w12 w9.heap.size (.slice A12 _ c12) _ by rw [← hv12]; exact ho1)
        subst hv12
        have hr12 := blk_below HR9.out hb12
        have c1s : w12.cell? ⟨r, 1, none⟩ = some (.slice A2 m c2) := (blk_cell hr12 1).trans rfl
        have f1 : w12.frozen? ⟨r, 1, none⟩ = false := blk_frozen hr12 1
        have hml2 : (q1 ++ dk).length = ml := by
          have h1 := HMLE.out
          have h2 := HQL1.out
          have h3 := HDL.out
          have h5 := HPL1.out
          have h6 := HQL.out
          rw [List.length_append] at h1 ⊢
          omega
        rw [hml2] at hlc12 ⊢
        obtain ⟨w13, hw13⟩ : ∃ Z, w12.setCell ⟨r, 1, none⟩ (.slice A12 ml c12) = Z := ⟨_, rfl⟩
        have hr13 : w13.heap[r]? = some (.cells #[.slice A9 ml c9, .slice A12 ml c12, .slice A3 dn cd, .int .i64 ((u : Int) + 1)] 123 (0, 0)) := by rw [← hw13]; exact (blk_set hr12 1 _).trans rfl
        have hu13 : Upd (fun k => k = r) w12 w13 := by rw [← hw13]; exact Upd.setCell w12 1 _ rfl
        have U1 := Lib.hid ((T1.out.later hb12).upd hu13 (fun b o e => by have := (HOB9.out b o e).1; have := HRL.out; omega))
        have U2 := Lib.hid (hs12.upd hu13 (fun b o e => by have := (hob12 b o e).1; have := blk_lt HR9.out; omega))
        have U3 := Lib.hid ((T3.out.later hb12).upd hu13 (fun b o e => (HF3.out b o e).2))
        have HOB12 := Lib.hid (show ∀ b o, A12 = some ⟨b, o, none⟩ → w.heap.size ≤ b ∧ b < w13.heap.size from fun b o e => by have := hob12 b o e; have := hu13.size; have := HU9.out.size; omega)
        have HLC12 := Lib.hid hlc12
        have HML2 := Lib.hid hml2
        have HU13 := Lib.hid ((HU9.out.trans (Upd.of_below hb12)).trans hu13)
        have HS913 := Lib.hid (show w9.heap.size ≤ w13.heap.size from Nat.le_trans hb12.size hu13.size)
        have HR13 := Lib.hid hr13
        clear ho1 hg1 hat1 hb12 hs12 hob12 hr12 hr13 hu13 hml2 hlc12
        go_wp2
        go_ret
        refine ⟨rfl, HU13.out, fun k => R k ∨ (w.heap.size ≤ k ∧ k < w13.heap.size), fun k hk => ?_, ?_⟩
        · rcases hk with hk | hk
          · exact .inl hk
          · exact .inr hk.1
        rw [show P ++ e :: Q = p1 ++ Q by rw [← HP1.out]; simp, show hs.take pn ++ (hh : Int) :: hs.drop pn = q1 ++ dk by rw [← HQ1.out, HTK.out, HDK.out]; simp]
        refine ⟨⟨A9, c9, A12, c12, A3, cd, ?_, U1.out, U2.out, U3.out, by rw [HMLE.out]; exact HLC9.out, by rw [HML2.out]; exact HLC12.out, fun b o e => ?_, fun b o e => ?_, fun b o e => ?_⟩, .inl H.out.self, fun k hk => ?_⟩
        · rw [HMLE.out, HML2.out, HDN.out]
          exact HR13.out
        · have h1 := HOB9.out b o e
          have h2 := HS913.out
          have h3 := HRL.out
          exact ⟨.inr ⟨h1.1, by omega⟩, by omega⟩
        · have h1 := HOB12.out b o e
          have h3 := HRL.out
          exact ⟨.inr h1, by omega⟩
        · exact ⟨.inl (HF3.out b o e).1, (HF3.out b o e).2⟩
        · rcases hk with hk | hk
          · exact Nat.lt_of_lt_of_le (H.out.lt k hk) HU13.out.size
          · exact hk.2
end Go.Proofs.Ytjbbobhjomhnmaa.H
