/- The reference's list (screeref5.List): what it is; New, Ahead, place, Seek, From, Len, Towers (printed by genrf.py). Conditions: sizes. -/
import Derived.Test.YtjbbobhjomhnmaaGen
import Derived.Test.YtjbbobhjomhnmaaMeA
import Derived.Test.YtjbbobhjomhnmaaMeB
import Derived.Test.YtjbbobhjomhnmaaMe3
namespace Go.Proofs.Ytjbbobhjomhnmaa.H
open Go Go.RowKit Go.Deep Go.Shelf Go.Proofs Go.Proofs.YtjbbobhjomhnmaaW.PrintWords
set_option linter.unusedVariables false
set_option linter.unusedSimpArgs false
theorem lssI_no (t : TypeId) (x y : Operand) (a b : Int) (h : b ≤ a) (W : World) : (do eqGuard .lss t x y (.int .i64 a) (.int .i64 b); binOp .lss t (.int .i64 a) (.int .i64 b) : Sem Value).run Try.prog W = .ok (.bool false) W := by
  have h2 : ¬ a < b := by omega
  go_simp
/-- The reference's list at r, its blocks R: the entries, the heights, the draws, how many were used. -/
structure RefIs (w : World) (r : Nat) (R : Nat → Prop) (es : List Ent) (hs draws : List Int) (u : Nat) : Prop where
  ex : ∃ A1 c1 A2 c2 A3 c3, w.heap[r]? = some (.cells #[.slice A1 es.length c1, .slice A2 hs.length c2, .slice A3 draws.length c3, .int .i64 (u : Int)] 123 (0, 0)) ∧
    Sl encE 4 w A1 es ∧ Sl encI 1 w A2 hs ∧ Sl encB 1 w A3 draws ∧ es.length ≤ c1 ∧ hs.length ≤ c2 ∧
    (∀ b o, A1 = some ⟨b, o, none⟩ → R b ∧ b ≠ r) ∧ (∀ b o, A2 = some ⟨b, o, none⟩ → R b ∧ b ≠ r) ∧ (∀ b o, A3 = some ⟨b, o, none⟩ → R b ∧ b ≠ r)
  self : R r
  lt : ∀ k, R k → k < w.heap.size
theorem RefIs.upd {w w' : World} {r : Nat} {R T : Nat → Prop} {es : List Ent} {hs draws : List Int} {u : Nat} (h : RefIs w r R es hs draws u) (hu : Upd T w w') (hT : ∀ k, R k → ¬ T k) : RefIs w' r R es hs draws u := by
  obtain ⟨A1, c1, A2, c2, A3, c3, h1, h2, h3, h4, h5, h6, h7, h8, h9⟩ := h.ex
  exact ⟨⟨A1, c1, A2, c2, A3, c3, hu.heap h1 (hT r h.self), h2.upd hu (fun b o e => hT b (h7 b o e).1), h3.upd hu (fun b o e => hT b (h8 b o e).1), h4.upd hu (fun b o e => hT b (h9 b o e).1), h5, h6, h7, h8, h9⟩, h.self, fun k hk => Nat.lt_of_lt_of_le (h.lt k hk) hu.size⟩
theorem RefIs.later {w w' : World} {r : Nat} {R : Nat → Prop} {es : List Ent} {hs draws : List Int} {u : Nat} (h : RefIs w r R es hs draws u) (hb : Below w.heap.size w w') : RefIs w' r R es hs draws u :=
  h.upd (T := fun _ => False) (Upd.of_below hb) fun _ _ h => h
set_option maxHeartbeats 1600000 in
theorem refAhead_c (x y : Ent) (w : World) : Calls Try.prog 119 #[.string x.1, .int .u64 x.2.1, .string y.1, .int .u64 y.2.1] w fun e w' => e = .returned (.bool (decide (ltE x y))) ∧ w = w' := by
  go_enter Try.func119, Try.ntmps119
  go_wp2
  all_goals go_ret
  · rename_i h1
    rw [decide_eq_true ((ltE_iff x y).2 (.inl h1))]
    exact ⟨rfl, rfl⟩
  · rename_i h1 h2
    have : decide (ltE x y) = decide (y.2.1 < x.2.1) := decide_eq_decide.2 ⟨fun h => by
      rcases (ltE_iff x y).1 h with h | h
      · exact absurd h h1
      · exact h.2, fun h => (ltE_iff x y).2 (.inr ⟨h2, h⟩)⟩
    rw [this]
    exact ⟨rfl, rfl⟩
  · rename_i h1 h2
    rw [decide_eq_false (fun h => by
      rcases (ltE_iff x y).1 h with h | h
      · exact h1 h
      · exact h2 h.1)]
    exact ⟨rfl, rfl⟩
set_option maxHeartbeats 3200000 in
set_option maxRecDepth 100000 in
theorem refPlace_c {w : World} {r : Nat} {R : Nat → Prop} {P Q : List Ent} {hs draws : List Int} {u : Nat} (h : RefIs w r R (P ++ Q) hs draws u) (k : ByteArray) (q : Int) (h1 : ∀ x ∈ P, ltE x (k, q, false, ⟨#[]⟩)) (h2 : ∀ x ∈ Q, ¬ ltE x (k, q, false, ⟨#[]⟩)) :
    Calls Try.prog 107 #[.pointer (some ⟨r, 0, none⟩), .string k, .int .u64 q] w fun e w' => e = .returned (.int .i64 (P.length : Int)) ∧ Below w.heap.size w w' := by
  obtain ⟨A1, c1, A2, c2, A3, c3, hr, hs1, _, _, _, _, _, _, _⟩ := h.ex
  have hm := hs1.1
  obtain ⟨m, hm2⟩ : ∃ m, (P ++ Q).length = m := ⟨_, rfl⟩
  rw [hm2] at hr hm
  obtain ⟨pn, hpn⟩ : ∃ n, P.length = n := ⟨_, rfl⟩
  have hpm : pn ≤ m := by rw [← hpn, ← hm2, List.length_append]; omega
  rw [hpn]
  have HC := Lib.hid ((blk_cell hr 0).trans rfl : w.cell? ⟨r, 0, none⟩ = some (.slice A1 m c1))
  have HS1 := Lib.hid hs1
  have HM := Lib.hid hm2
  have HPN := Lib.hid hpn
  have H1 := Lib.hid h1
  have H2 := Lib.hid h2
  have hmb : m ≤ 9223372036854775807 := by omega
  clear h hr hs1 hm2 hpn h1 h2 hm
  go_enter Try.func107, Try.ntmps107
  go_wp2_with fail
  go_loopw [7] (fun s7 wr => ∃ i : Nat, s7 = .int .i64 (i : Int) ∧ i ≤ pn ∧ Below w.heap.size w wr) (fun s7 wr => pn - (intOf s7).toNat)
  case atStart => exact ⟨0, rfl, by omega, Below.refl _ _⟩
  case round =>
    obtain ⟨i, rfl, hi, hb⟩ := hrel
    by_cases hip : i < pn
    · obtain ⟨x, hx0⟩ := getElem?_of_lt (l := P) (by rw [HPN.out]; exact hip : i < P.length)
      have hx : (P ++ Q)[i]? = some x := by rw [List.getElem?_append_left (by rw [HPN.out]; exact hip)]; exact hx0
      have HAH := Lib.hid (fun W => (show Calls Try.prog 119 #[.string x.1, .int .u64 x.2.1, .string k, .int .u64 q] W fun e w' => e = .returned (.bool true) ∧ W = w' by
        have := refAhead_c x (k, q, false, ⟨#[]⟩) W
        rw [decide_eq_true (H1.out x (List.mem_of_getElem? hx0))] at this
        exact this))
      clear hx0
      obtain ⟨b1, o1, hA1, hl1, hc1⟩ := HS1.out.at hx
      subst hA1
      have X0 := Lib.hid (show wr.cell? ⟨b1, o1 + i * 4, none⟩ = some (.string x.1) from (hb.cell (p := ⟨b1, o1 + i * 4, none⟩) hl1).trans (by simpa using hc1 0 _ rfl))
      have X1 := Lib.hid (show wr.cell? ⟨b1, o1 + i * 4 + 1, none⟩ = some (.int .u64 x.2.1) from (hb.cell (p := ⟨b1, o1 + i * 4 + 1, none⟩) hl1).trans (by simpa using hc1 1 _ rfl))
      have C0 := Lib.hid (cell_later hb HC.out)
      have HBW := Lib.hid hb
      have i1 : (0 : Int) ≤ i := by omega
      have i2 : (i : Int) < m := by omega
      clear hx hc1 hl1 hb
      go_wp2_with fail
      refine wp_region_calmB 27 (by kernel_rfl) (by kernel_rfl) ?_
      simp only [List.take_succ_cons, List.take_zero, List.drop_succ_cons, List.drop_zero]
      refine chain0 ?_
      refine @chain _ _ _ _ _ _ _ _ 8 (.int .i64 (i : Int)) (by rfl) (by rfl) (by exact fun W2 hW => run_mv (by rfl) (by exact eval_base (by kernel_rfl) (by rfl)) hW) ?_
      refine @chain _ _ _ _ _ _ _ _ 9 (.pointer (some ⟨r, 0, none⟩)) (by rfl) (by rfl) (by exact fun W2 hW => run_mv (by rfl) (by exact eval_base (by kernel_rfl) (by rfl)) hW) ?_
      refine @chain _ _ _ _ _ _ _ _ 10 (.pointer (some ⟨r, 0, none⟩)) (by rfl) (by rfl) (by exact fun W2 hW => run_nc (by rfl) (by exact eval_look (by kernel_rfl) (by kernel_rfl)) hW) ?_
      refine @chain _ _ _ _ _ _ _ _ 11 (.pointer (some ⟨r, 0, none⟩)) (by rfl) (by rfl) (by exact fun W2 hW => run_fa (p := .pointer (some ⟨r, 0, none⟩)) (by rfl) (by exact eval_look (by kernel_rfl) (by kernel_rfl)) (fun W => by first | kernel_rfl | go_simp) hW) ?_
      refine @chain _ _ _ _ _ _ _ _ 12 (.slice (some ⟨b1, o1, none⟩) m c1) (by rfl) (by rfl) (by exact fun W2 hW => run_lw (by rfl) (by exact eval_look (by kernel_rfl) (by kernel_rfl)) (fun W hW => ldSE _ _ _ _ _ _ (cell_later hW C0.out)) hW) ?_
      refine @chain _ _ _ _ _ _ _ _ 13 (.int .i64 m) (by rfl) (by rfl) (by exact fun W2 hW => run_ln (u := .slice (some ⟨b1, o1, none⟩) m c1) (by rfl) (by exact eval_look (by kernel_rfl) (by kernel_rfl)) (fun W => by go_simp) hW) ?_
      refine @chain _ _ _ _ _ _ _ _ 14 (.bool true) (by rfl) (by rfl) (by exact fun W2 hW => run_bo (u := .int .i64 (i : Int)) (v := .int .i64 m) (by rfl) (by exact eval_look (by kernel_rfl) (by kernel_rfl)) (by exact eval_look (by kernel_rfl) (by kernel_rfl)) (fun W => lssI_yes _ _ _ _ _ (by omega) W) hW) ?_
      refine @chain _ _ _ _ _ _ _ _ 15 (.bool true) (by rfl) (by rfl) (by exact fun W2 hW => run_mv (by rfl) (by exact eval_look (by kernel_rfl) (by kernel_rfl)) hW) ?_
      refine @chainG _ _ _ _ _ _ _ _ 16 (.pointer (some ⟨r, 0, none⟩)) (by kernel_rfl) (by rfl) (by exact fun W2 hW => run_mv (by rfl) (by exact eval_base (by kernel_rfl) (by rfl)) hW) ?_
      refine @chainG _ _ _ _ _ _ _ _ 17 (.pointer (some ⟨r, 0, none⟩)) (by kernel_rfl) (by rfl) (by exact fun W2 hW => run_nc (by rfl) (by exact eval_look (by kernel_rfl) (by kernel_rfl)) hW) ?_
      refine @chainG _ _ _ _ _ _ _ _ 18 (.pointer (some ⟨r, 0, none⟩)) (by kernel_rfl) (by rfl) (by exact fun W2 hW => run_fa (p := .pointer (some ⟨r, 0, none⟩)) (by rfl) (by exact eval_look (by kernel_rfl) (by kernel_rfl)) (fun W => by first | kernel_rfl | go_simp) hW) ?_
      refine @chainG _ _ _ _ _ _ _ _ 19 (.slice (some ⟨b1, o1, none⟩) m c1) (by kernel_rfl) (by rfl) (by exact fun W2 hW => run_lw (by rfl) (by exact eval_look (by kernel_rfl) (by kernel_rfl)) (fun W hW => ldSE _ _ _ _ _ _ (cell_later hW C0.out)) hW) ?_
      refine @chainG _ _ _ _ _ _ _ _ 20 (.int .i64 (i : Int)) (by kernel_rfl) (by rfl) (by exact fun W2 hW => run_mv (by rfl) (by exact eval_base (by kernel_rfl) (by rfl)) hW) ?_
      refine @chainG _ _ _ _ _ _ _ _ 21 (.pointer (some ⟨b1, o1 + i * 4, none⟩)) (by kernel_rfl) (by rfl) (by exact fun W2 hW => run_ia (u := .slice (some ⟨b1, o1, none⟩) m c1) (v := .int .i64 (i : Int)) (by rfl) (by exact eval_look (by kernel_rfl) (by kernel_rfl)) (by exact eval_look (by kernel_rfl) (by kernel_rfl)) (fun W => idx_run _ _ _ _ _ (by omega) W) hW) ?_
      refine @chainG _ _ _ _ _ _ _ _ 22 (.pointer (some ⟨b1, o1 + i * 4, none⟩)) (by kernel_rfl) (by rfl) (by exact fun W2 hW => run_fa (p := .pointer (some ⟨b1, o1 + i * 4, none⟩)) (by rfl) (by exact eval_look (by kernel_rfl) (by kernel_rfl)) (fun W => by first | kernel_rfl | go_simp) hW) ?_
      refine @chainG _ _ _ _ _ _ _ _ 23 (.string x.1) (by kernel_rfl) (by rfl) (by exact fun W2 hW => run_lw (by rfl) (by exact eval_look (by kernel_rfl) (by kernel_rfl)) (fun W hW => ldStr _ _ _ _ (cell_later hW X0.out)) hW) ?_
      refine @chainG _ _ _ _ _ _ _ _ 24 (.pointer (some ⟨r, 0, none⟩)) (by kernel_rfl) (by rfl) (by exact fun W2 hW => run_mv (by rfl) (by exact eval_base (by kernel_rfl) (by rfl)) hW) ?_
      refine @chainG _ _ _ _ _ _ _ _ 25 (.pointer (some ⟨r, 0, none⟩)) (by kernel_rfl) (by rfl) (by exact fun W2 hW => run_nc (by rfl) (by exact eval_look (by kernel_rfl) (by kernel_rfl)) hW) ?_
      refine @chainG _ _ _ _ _ _ _ _ 26 (.pointer (some ⟨r, 0, none⟩)) (by kernel_rfl) (by rfl) (by exact fun W2 hW => run_fa (p := .pointer (some ⟨r, 0, none⟩)) (by rfl) (by exact eval_look (by kernel_rfl) (by kernel_rfl)) (fun W => by first | kernel_rfl | go_simp) hW) ?_
      refine @chainG _ _ _ _ _ _ _ _ 27 (.slice (some ⟨b1, o1, none⟩) m c1) (by kernel_rfl) (by rfl) (by exact fun W2 hW => run_lw (by rfl) (by exact eval_look (by kernel_rfl) (by kernel_rfl)) (fun W hW => ldSE _ _ _ _ _ _ (cell_later hW C0.out)) hW) ?_
      refine @chainG _ _ _ _ _ _ _ _ 28 (.int .i64 (i : Int)) (by kernel_rfl) (by rfl) (by exact fun W2 hW => run_mv (by rfl) (by exact eval_base (by kernel_rfl) (by rfl)) hW) ?_
      refine @chainG _ _ _ _ _ _ _ _ 29 (.pointer (some ⟨b1, o1 + i * 4, none⟩)) (by kernel_rfl) (by rfl) (by exact fun W2 hW => run_ia (u := .slice (some ⟨b1, o1, none⟩) m c1) (v := .int .i64 (i : Int)) (by rfl) (by exact eval_look (by kernel_rfl) (by kernel_rfl)) (by exact eval_look (by kernel_rfl) (by kernel_rfl)) (fun W => idx_run _ _ _ _ _ (by omega) W) hW) ?_
      refine @chainG _ _ _ _ _ _ _ _ 30 (.pointer (some ⟨b1, o1 + i * 4 + 1, none⟩)) (by kernel_rfl) (by rfl) (by exact fun W2 hW => run_fa (p := .pointer (some ⟨b1, o1 + i * 4, none⟩)) (by rfl) (by exact eval_look (by kernel_rfl) (by kernel_rfl)) (fun W => by first | kernel_rfl | go_simp) hW) ?_
      refine @chainG _ _ _ _ _ _ _ _ 31 (.int .u64 x.2.1) (by kernel_rfl) (by rfl) (by exact fun W2 hW => run_lw (by rfl) (by exact eval_look (by kernel_rfl) (by kernel_rfl)) (fun W hW => ldU _ _ _ _ (cell_later hW X1.out)) hW) ?_
      refine @chainG _ _ _ _ _ _ _ _ 32 (.string k) (by kernel_rfl) (by rfl) (by exact fun W2 hW => run_mv (by rfl) (by exact eval_base (by kernel_rfl) (by rfl)) hW) ?_
      refine @chainG _ _ _ _ _ _ _ _ 33 (.int .u64 q) (by kernel_rfl) (by rfl) (by exact fun W2 hW => run_mv (by rfl) (by exact eval_base (by kernel_rfl) (by rfl)) hW) ?_
      refine @chainG _ _ _ _ _ _ _ _ 34 (.bool true) (by kernel_rfl) (by rfl) (by exact fun W2 hW => run_call (vs := #[.string x.1, .int .u64 x.2.1, .string k, .int .u64 q]) (by rfl) (by kernel_rfl) (enters_of Try.func119 (by kernel_rfl) (by rfl)) (calm_q hW (HAH.out W2))) ?_
      refine calm_nil (fun W2 hW2 => ?_)
      refine Eq.mpr (congrArg (fun a => wpList _ _ _ _ a W2) (show _ = (⟨#[Value.pointer (some ⟨r, 0, none⟩), Value.string k, Value.int IntKind.u64 q, undef, undef, undef, Value.int IntKind.i64 0, Value.int IntKind.i64 (i : Int), Value.int IntKind.i64 (i : Int), Value.pointer (some ⟨r, 0, none⟩), Value.pointer (some ⟨r, 0, none⟩), Value.pointer (some ⟨r, 0, none⟩), Value.slice (some ⟨b1, o1, none⟩) m c1, Value.int IntKind.i64 (m : Int), Value.bool true, Value.bool true, Value.pointer (some ⟨r, 0, none⟩), Value.pointer (some ⟨r, 0, none⟩), Value.pointer (some ⟨r, 0, none⟩), Value.slice (some ⟨b1, o1, none⟩) m c1, Value.int IntKind.i64 (i : Int), Value.pointer (some ⟨b1, o1 + i * 4, none⟩), Value.pointer (some ⟨b1, o1 + i * 4, none⟩), Value.string x.fst, Value.pointer (some ⟨r, 0, none⟩), Value.pointer (some ⟨r, 0, none⟩), Value.pointer (some ⟨r, 0, none⟩), Value.slice (some ⟨b1, o1, none⟩) m c1, Value.int IntKind.i64 (i : Int), Value.pointer (some ⟨b1, o1 + i * 4, none⟩), Value.pointer (some ⟨b1, o1 + i * 4 + 1, none⟩), Value.int IntKind.u64 x.snd.fst, Value.string k, Value.int IntKind.u64 q, Value.bool true, u35, u36, u37, undef], []⟩ : Act) by kernel_rfl)) ?_
      have HW2 := Lib.hid hW2
      clear hW2
      go_wp2
      go_roundw
      case rel => exact ⟨i + 1, by first | rfl | simp, by omega, HBW.out.trans (HW2.out.mono HBW.out.size)⟩
      case measure => simp [intOf]; omega
    · have hip2 : i = pn := by omega
      by_cases hqm : i < m
      · obtain ⟨x, hx⟩ := getElem?_of_lt (l := P ++ Q) (by rw [HM.out]; exact hqm : i < (P ++ Q).length)
        have hxq : x ∈ Q := by
          rw [List.getElem?_append_right (by rw [HPN.out]; omega)] at hx
          exact List.mem_of_getElem? hx
        have HAH := Lib.hid (fun W => (show Calls Try.prog 119 #[.string x.1, .int .u64 x.2.1, .string k, .int .u64 q] W fun e w' => e = .returned (.bool false) ∧ W = w' by
          have := refAhead_c x (k, q, false, ⟨#[]⟩) W
          rw [decide_eq_false (H2.out x hxq)] at this
          exact this))
        clear hxq
        have HIP := Lib.hid hip2
        clear hip2 hip hi
        obtain ⟨b1, o1, hA1, hl1, hc1⟩ := HS1.out.at hx
        subst hA1
        have X0 := Lib.hid (show wr.cell? ⟨b1, o1 + i * 4, none⟩ = some (.string x.1) from (hb.cell (p := ⟨b1, o1 + i * 4, none⟩) hl1).trans (by simpa using hc1 0 _ rfl))
        have X1 := Lib.hid (show wr.cell? ⟨b1, o1 + i * 4 + 1, none⟩ = some (.int .u64 x.2.1) from (hb.cell (p := ⟨b1, o1 + i * 4 + 1, none⟩) hl1).trans (by simpa using hc1 1 _ rfl))
        have C0 := Lib.hid (cell_later hb HC.out)
        have HBW := Lib.hid hb
        have i1 : (0 : Int) ≤ i := by omega
        have i2 : (i : Int) < m := by omega
        clear hx hc1 hl1 hb
        go_wp2_with fail
        refine wp_region_calmB 27 (by kernel_rfl) (by kernel_rfl) ?_
        simp only [List.take_succ_cons, List.take_zero, List.drop_succ_cons, List.drop_zero]
        refine chain0 ?_
        refine @chain _ _ _ _ _ _ _ _ 8 (.int .i64 (i : Int)) (by rfl) (by rfl) (by exact fun W2 hW => run_mv (by rfl) (by exact eval_base (by kernel_rfl) (by rfl)) hW) ?_
        refine @chain _ _ _ _ _ _ _ _ 9 (.pointer (some ⟨r, 0, none⟩)) (by rfl) (by rfl) (by exact fun W2 hW => run_mv (by rfl) (by exact eval_base (by kernel_rfl) (by rfl)) hW) ?_
        refine @chain _ _ _ _ _ _ _ _ 10 (.pointer (some ⟨r, 0, none⟩)) (by rfl) (by rfl) (by exact fun W2 hW => run_nc (by rfl) (by exact eval_look (by kernel_rfl) (by kernel_rfl)) hW) ?_
        refine @chain _ _ _ _ _ _ _ _ 11 (.pointer (some ⟨r, 0, none⟩)) (by rfl) (by rfl) (by exact fun W2 hW => run_fa (p := .pointer (some ⟨r, 0, none⟩)) (by rfl) (by exact eval_look (by kernel_rfl) (by kernel_rfl)) (fun W => by first | kernel_rfl | go_simp) hW) ?_
        refine @chain _ _ _ _ _ _ _ _ 12 (.slice (some ⟨b1, o1, none⟩) m c1) (by rfl) (by rfl) (by exact fun W2 hW => run_lw (by rfl) (by exact eval_look (by kernel_rfl) (by kernel_rfl)) (fun W hW => ldSE _ _ _ _ _ _ (cell_later hW C0.out)) hW) ?_
        refine @chain _ _ _ _ _ _ _ _ 13 (.int .i64 m) (by rfl) (by rfl) (by exact fun W2 hW => run_ln (u := .slice (some ⟨b1, o1, none⟩) m c1) (by rfl) (by exact eval_look (by kernel_rfl) (by kernel_rfl)) (fun W => by go_simp) hW) ?_
        refine @chain _ _ _ _ _ _ _ _ 14 (.bool true) (by rfl) (by rfl) (by exact fun W2 hW => run_bo (u := .int .i64 (i : Int)) (v := .int .i64 m) (by rfl) (by exact eval_look (by kernel_rfl) (by kernel_rfl)) (by exact eval_look (by kernel_rfl) (by kernel_rfl)) (fun W => lssI_yes _ _ _ _ _ (by omega) W) hW) ?_
        refine @chain _ _ _ _ _ _ _ _ 15 (.bool true) (by rfl) (by rfl) (by exact fun W2 hW => run_mv (by rfl) (by exact eval_look (by kernel_rfl) (by kernel_rfl)) hW) ?_
        refine @chainG _ _ _ _ _ _ _ _ 16 (.pointer (some ⟨r, 0, none⟩)) (by kernel_rfl) (by rfl) (by exact fun W2 hW => run_mv (by rfl) (by exact eval_base (by kernel_rfl) (by rfl)) hW) ?_
        refine @chainG _ _ _ _ _ _ _ _ 17 (.pointer (some ⟨r, 0, none⟩)) (by kernel_rfl) (by rfl) (by exact fun W2 hW => run_nc (by rfl) (by exact eval_look (by kernel_rfl) (by kernel_rfl)) hW) ?_
        refine @chainG _ _ _ _ _ _ _ _ 18 (.pointer (some ⟨r, 0, none⟩)) (by kernel_rfl) (by rfl) (by exact fun W2 hW => run_fa (p := .pointer (some ⟨r, 0, none⟩)) (by rfl) (by exact eval_look (by kernel_rfl) (by kernel_rfl)) (fun W => by first | kernel_rfl | go_simp) hW) ?_
        refine @chainG _ _ _ _ _ _ _ _ 19 (.slice (some ⟨b1, o1, none⟩) m c1) (by kernel_rfl) (by rfl) (by exact fun W2 hW => run_lw (by rfl) (by exact eval_look (by kernel_rfl) (by kernel_rfl)) (fun W hW => ldSE _ _ _ _ _ _ (cell_later hW C0.out)) hW) ?_
        refine @chainG _ _ _ _ _ _ _ _ 20 (.int .i64 (i : Int)) (by kernel_rfl) (by rfl) (by exact fun W2 hW => run_mv (by rfl) (by exact eval_base (by kernel_rfl) (by rfl)) hW) ?_
        refine @chainG _ _ _ _ _ _ _ _ 21 (.pointer (some ⟨b1, o1 + i * 4, none⟩)) (by kernel_rfl) (by rfl) (by exact fun W2 hW => run_ia (u := .slice (some ⟨b1, o1, none⟩) m c1) (v := .int .i64 (i : Int)) (by rfl) (by exact eval_look (by kernel_rfl) (by kernel_rfl)) (by exact eval_look (by kernel_rfl) (by kernel_rfl)) (fun W => idx_run _ _ _ _ _ (by omega) W) hW) ?_
        refine @chainG _ _ _ _ _ _ _ _ 22 (.pointer (some ⟨b1, o1 + i * 4, none⟩)) (by kernel_rfl) (by rfl) (by exact fun W2 hW => run_fa (p := .pointer (some ⟨b1, o1 + i * 4, none⟩)) (by rfl) (by exact eval_look (by kernel_rfl) (by kernel_rfl)) (fun W => by first | kernel_rfl | go_simp) hW) ?_
        refine @chainG _ _ _ _ _ _ _ _ 23 (.string x.1) (by kernel_rfl) (by rfl) (by exact fun W2 hW => run_lw (by rfl) (by exact eval_look (by kernel_rfl) (by kernel_rfl)) (fun W hW => ldStr _ _ _ _ (cell_later hW X0.out)) hW) ?_
        refine @chainG _ _ _ _ _ _ _ _ 24 (.pointer (some ⟨r, 0, none⟩)) (by kernel_rfl) (by rfl) (by exact fun W2 hW => run_mv (by rfl) (by exact eval_base (by kernel_rfl) (by rfl)) hW) ?_
        refine @chainG _ _ _ _ _ _ _ _ 25 (.pointer (some ⟨r, 0, none⟩)) (by kernel_rfl) (by rfl) (by exact fun W2 hW => run_nc (by rfl) (by exact eval_look (by kernel_rfl) (by kernel_rfl)) hW) ?_
        refine @chainG _ _ _ _ _ _ _ _ 26 (.pointer (some ⟨r, 0, none⟩)) (by kernel_rfl) (by rfl) (by exact fun W2 hW => run_fa (p := .pointer (some ⟨r, 0, none⟩)) (by rfl) (by exact eval_look (by kernel_rfl) (by kernel_rfl)) (fun W => by first | kernel_rfl | go_simp) hW) ?_
        refine @chainG _ _ _ _ _ _ _ _ 27 (.slice (some ⟨b1, o1, none⟩) m c1) (by kernel_rfl) (by rfl) (by exact fun W2 hW => run_lw (by rfl) (by exact eval_look (by kernel_rfl) (by kernel_rfl)) (fun W hW => ldSE _ _ _ _ _ _ (cell_later hW C0.out)) hW) ?_
        refine @chainG _ _ _ _ _ _ _ _ 28 (.int .i64 (i : Int)) (by kernel_rfl) (by rfl) (by exact fun W2 hW => run_mv (by rfl) (by exact eval_base (by kernel_rfl) (by rfl)) hW) ?_
        refine @chainG _ _ _ _ _ _ _ _ 29 (.pointer (some ⟨b1, o1 + i * 4, none⟩)) (by kernel_rfl) (by rfl) (by exact fun W2 hW => run_ia (u := .slice (some ⟨b1, o1, none⟩) m c1) (v := .int .i64 (i : Int)) (by rfl) (by exact eval_look (by kernel_rfl) (by kernel_rfl)) (by exact eval_look (by kernel_rfl) (by kernel_rfl)) (fun W => idx_run _ _ _ _ _ (by omega) W) hW) ?_
        refine @chainG _ _ _ _ _ _ _ _ 30 (.pointer (some ⟨b1, o1 + i * 4 + 1, none⟩)) (by kernel_rfl) (by rfl) (by exact fun W2 hW => run_fa (p := .pointer (some ⟨b1, o1 + i * 4, none⟩)) (by rfl) (by exact eval_look (by kernel_rfl) (by kernel_rfl)) (fun W => by first | kernel_rfl | go_simp) hW) ?_
        refine @chainG _ _ _ _ _ _ _ _ 31 (.int .u64 x.2.1) (by kernel_rfl) (by rfl) (by exact fun W2 hW => run_lw (by rfl) (by exact eval_look (by kernel_rfl) (by kernel_rfl)) (fun W hW => ldU _ _ _ _ (cell_later hW X1.out)) hW) ?_
        refine @chainG _ _ _ _ _ _ _ _ 32 (.string k) (by kernel_rfl) (by rfl) (by exact fun W2 hW => run_mv (by rfl) (by exact eval_base (by kernel_rfl) (by rfl)) hW) ?_
        refine @chainG _ _ _ _ _ _ _ _ 33 (.int .u64 q) (by kernel_rfl) (by rfl) (by exact fun W2 hW => run_mv (by rfl) (by exact eval_base (by kernel_rfl) (by rfl)) hW) ?_
        refine @chainG _ _ _ _ _ _ _ _ 34 (.bool false) (by kernel_rfl) (by rfl) (by exact fun W2 hW => run_call (vs := #[.string x.1, .int .u64 x.2.1, .string k, .int .u64 q]) (by rfl) (by kernel_rfl) (enters_of Try.func119 (by kernel_rfl) (by rfl)) (calm_q hW (HAH.out W2))) ?_
        refine calm_nil (fun W2 hW2 => ?_)
        refine Eq.mpr (congrArg (fun a => wpList _ _ _ _ a W2) (show _ = (⟨#[Value.pointer (some ⟨r, 0, none⟩), Value.string k, Value.int IntKind.u64 q, undef, undef, undef, Value.int IntKind.i64 0, Value.int IntKind.i64 (i : Int), Value.int IntKind.i64 (i : Int), Value.pointer (some ⟨r, 0, none⟩), Value.pointer (some ⟨r, 0, none⟩), Value.pointer (some ⟨r, 0, none⟩), Value.slice (some ⟨b1, o1, none⟩) m c1, Value.int IntKind.i64 (m : Int), Value.bool true, Value.bool true, Value.pointer (some ⟨r, 0, none⟩), Value.pointer (some ⟨r, 0, none⟩), Value.pointer (some ⟨r, 0, none⟩), Value.slice (some ⟨b1, o1, none⟩) m c1, Value.int IntKind.i64 (i : Int), Value.pointer (some ⟨b1, o1 + i * 4, none⟩), Value.pointer (some ⟨b1, o1 + i * 4, none⟩), Value.string x.fst, Value.pointer (some ⟨r, 0, none⟩), Value.pointer (some ⟨r, 0, none⟩), Value.pointer (some ⟨r, 0, none⟩), Value.slice (some ⟨b1, o1, none⟩) m c1, Value.int IntKind.i64 (i : Int), Value.pointer (some ⟨b1, o1 + i * 4, none⟩), Value.pointer (some ⟨b1, o1 + i * 4 + 1, none⟩), Value.int IntKind.u64 x.snd.fst, Value.string k, Value.int IntKind.u64 q, Value.bool false, u35, u36, u37, undef], []⟩ : Act) by kernel_rfl)) ?_
        have HW2 := Lib.hid hW2
        clear hW2
        go_wp2
        go_ret
        exact ⟨by rw [HIP.out]; rfl, HBW.out.trans (HW2.out.mono HBW.out.size)⟩
      · have C0 := Lib.hid (cell_later hb HC.out)
        have HBW := Lib.hid hb
        have HIP := Lib.hid hip2
        have i1 : (m : Int) ≤ i := by omega
        clear hb hip2 hip hi
        go_wp2_with fail
        refine wp_region_calmB 27 (by kernel_rfl) (by kernel_rfl) ?_
        simp only [List.take_succ_cons, List.take_zero, List.drop_succ_cons, List.drop_zero]
        refine chain0 ?_
        refine @chain _ _ _ _ _ _ _ _ 8 (.int .i64 (i : Int)) (by rfl) (by rfl) (by exact fun W2 hW => run_mv (by rfl) (by exact eval_base (by kernel_rfl) (by rfl)) hW) ?_
        refine @chain _ _ _ _ _ _ _ _ 9 (.pointer (some ⟨r, 0, none⟩)) (by rfl) (by rfl) (by exact fun W2 hW => run_mv (by rfl) (by exact eval_base (by kernel_rfl) (by rfl)) hW) ?_
        refine @chain _ _ _ _ _ _ _ _ 10 (.pointer (some ⟨r, 0, none⟩)) (by rfl) (by rfl) (by exact fun W2 hW => run_nc (by rfl) (by exact eval_look (by kernel_rfl) (by kernel_rfl)) hW) ?_
        refine @chain _ _ _ _ _ _ _ _ 11 (.pointer (some ⟨r, 0, none⟩)) (by rfl) (by rfl) (by exact fun W2 hW => run_fa (p := .pointer (some ⟨r, 0, none⟩)) (by rfl) (by exact eval_look (by kernel_rfl) (by kernel_rfl)) (fun W => by first | kernel_rfl | go_simp) hW) ?_
        refine @chain _ _ _ _ _ _ _ _ 12 (.slice A1 m c1) (by rfl) (by rfl) (by exact fun W2 hW => run_lw (by rfl) (by exact eval_look (by kernel_rfl) (by kernel_rfl)) (fun W hW => ldSE _ _ _ _ _ _ (cell_later hW C0.out)) hW) ?_
        refine @chain _ _ _ _ _ _ _ _ 13 (.int .i64 m) (by rfl) (by rfl) (by exact fun W2 hW => run_ln (u := .slice A1 m c1) (by rfl) (by exact eval_look (by kernel_rfl) (by kernel_rfl)) (fun W => by go_simp) hW) ?_
        refine @chain _ _ _ _ _ _ _ _ 14 (.bool false) (by rfl) (by rfl) (by exact fun W2 hW => run_bo (u := .int .i64 (i : Int)) (v := .int .i64 m) (by rfl) (by exact eval_look (by kernel_rfl) (by kernel_rfl)) (by exact eval_look (by kernel_rfl) (by kernel_rfl)) (fun W => lssI_no _ _ _ _ _ (by omega) W) hW) ?_
        refine @chain _ _ _ _ _ _ _ _ 15 (.bool false) (by rfl) (by rfl) (by exact fun W2 hW => run_mv (by rfl) (by exact eval_look (by kernel_rfl) (by kernel_rfl)) hW) ?_
        refine @chainK _ _ _ _ _ _ _ _ 16 (by kernel_rfl) (by rfl) ?_
        refine @chainK _ _ _ _ _ _ _ _ 17 (by kernel_rfl) (by rfl) ?_
        refine @chainK _ _ _ _ _ _ _ _ 18 (by kernel_rfl) (by rfl) ?_
        refine @chainK _ _ _ _ _ _ _ _ 19 (by kernel_rfl) (by rfl) ?_
        refine @chainK _ _ _ _ _ _ _ _ 20 (by kernel_rfl) (by rfl) ?_
        refine @chainK _ _ _ _ _ _ _ _ 21 (by kernel_rfl) (by rfl) ?_
        refine @chainK _ _ _ _ _ _ _ _ 22 (by kernel_rfl) (by rfl) ?_
        refine @chainK _ _ _ _ _ _ _ _ 23 (by kernel_rfl) (by rfl) ?_
        refine @chainK _ _ _ _ _ _ _ _ 24 (by kernel_rfl) (by rfl) ?_
        refine @chainK _ _ _ _ _ _ _ _ 25 (by kernel_rfl) (by rfl) ?_
        refine @chainK _ _ _ _ _ _ _ _ 26 (by kernel_rfl) (by rfl) ?_
        refine @chainK _ _ _ _ _ _ _ _ 27 (by kernel_rfl) (by rfl) ?_
        refine @chainK _ _ _ _ _ _ _ _ 28 (by kernel_rfl) (by rfl) ?_
        refine @chainK _ _ _ _ _ _ _ _ 29 (by kernel_rfl) (by rfl) ?_
        refine @chainK _ _ _ _ _ _ _ _ 30 (by kernel_rfl) (by rfl) ?_
        refine @chainK _ _ _ _ _ _ _ _ 31 (by kernel_rfl) (by rfl) ?_
        refine @chainK _ _ _ _ _ _ _ _ 32 (by kernel_rfl) (by rfl) ?_
        refine @chainK _ _ _ _ _ _ _ _ 33 (by kernel_rfl) (by rfl) ?_
        refine @chainK _ _ _ _ _ _ _ _ 34 (by kernel_rfl) (by rfl) ?_
        refine calm_nil (fun W2 hW2 => ?_)
        refine Eq.mpr (congrArg (fun a => wpList _ _ _ _ a W2) (show _ = (⟨#[Value.pointer (some ⟨r, 0, none⟩), Value.string k, Value.int IntKind.u64 q, undef, undef, undef, Value.int IntKind.i64 0, Value.int IntKind.i64 (i : Int), Value.int IntKind.i64 (i : Int), Value.pointer (some ⟨r, 0, none⟩), Value.pointer (some ⟨r, 0, none⟩), Value.pointer (some ⟨r, 0, none⟩), Value.slice A1 m c1, Value.int IntKind.i64 (m : Int), Value.bool false, Value.bool false, undef, undef, undef, undef, undef, undef, undef, undef, undef, undef, undef, undef, undef, undef, undef, undef, undef, undef, undef, u35, u36, u37, undef], []⟩ : Act) by kernel_rfl)) ?_
        have HW2 := Lib.hid hW2
        clear hW2
        go_wp2
        go_ret
        exact ⟨by rw [HIP.out]; rfl, HBW.out.trans (HW2.out.mono HBW.out.size)⟩
set_option maxHeartbeats 3200000 in
set_option maxRecDepth 100000 in
theorem refLen_c {w : World} {r : Nat} {R : Nat → Prop} {es : List Ent} {hs draws : List Int} {u : Nat} (h : RefIs w r R es hs draws u) :
    Calls Try.prog 76 #[.pointer (some ⟨r, 0, none⟩)] w fun e w' => e = .returned (.int .i64 (es.length : Int)) ∧ w = w' := by
  obtain ⟨A1, c1, A2, c2, A3, c3, hr, hs1, _, _, _, _, _, _, _⟩ := h.ex
  have c0 : w.cell? ⟨r, 0, none⟩ = some (.slice A1 es.length c1) := (blk_cell hr 0).trans rfl
  clear h hr hs1
  go_enter Try.func76, Try.ntmps76
  go_wp2
  go_ret
  exact ⟨rfl, rfl⟩
theorem infoIx : (Try.prog.info? 3).map (fun i => (i.zero, i.size, i.bytes)) = some (some (.int .i64 0), 1, 8) := by kernel_rfl
theorem infoBx : (Try.prog.info? 5).map (fun i => (i.zero, i.size, i.bytes)) = some (some (.int .u8 0), 1, 1) := by kernel_rfl
theorem infoEx : (Try.prog.info? 53).map (fun i => (i.zero, i.size, i.bytes)) = some (some (.agg #[.string ByteArray.empty, .int .u64 0, .bool false, .string ByteArray.empty]), 4, 48) := by kernel_rfl
theorem uSlIx : Try.prog.underlying 26 = some (.slice 3) := Try.underlying26
theorem uSlBx : Try.prog.underlying 22 = some (.slice 5) := Try.underlying22
theorem uSlEx : Try.prog.underlying 64 = some (.slice 53) := Try.underlying64
set_option maxHeartbeats 3200000 in
set_option maxRecDepth 100000 in
theorem refTowers_c {w : World} {r : Nat} {R : Nat → Prop} {es : List Ent} {hs draws : List Int} {u : Nat} (h : RefIs w r R es hs draws u) (hl : hs.length ≤ 2932031007319) :
    Calls Try.prog 78 #[.pointer (some ⟨r, 0, none⟩)] w fun e w' => ∃ v, e = .returned v ∧ Own encI 3 1 w' w.heap.size v hs ∧ Below w.heap.size w w' := by
  obtain ⟨A1, c1, A2, c2, A3, c3, hr, _, hs2, _, _, _, _, _, _⟩ := h.ex
  have c0 : w.cell? ⟨r, 1, none⟩ = some (.slice A2 hs.length c2) := (blk_cell hr 1).trans rfl
  have HS2 := Lib.hid hs2
  clear h hr hs2
  go_enter Try.func78, Try.ntmps78
  go_wp2_with (at_builtin; refine wpList_app rfl (.const (.slice none 0 0)) (.tmp 6) rfl uSlIx infoIx rfl (by decide) (by decide) okI (.slice none 0 0) [] rfl (base := w.heap.size) ?c1 A2 c2 hs rfl ?c2 ?c3 ?c4 ?_)
  case c1 => exact Own.nil _ _ _ _ _
  case c2 => exact HS2.out
  case c3 => simp; omega
  case c4 => exact Nat.le_refl _
  intro v1 w1 ho1 hg1 hat1
  have HO := Lib.hid ho1
  have HB := Lib.hid ((Below.refl w.heap.size w).grown hg1 (Nat.le_refl _) (fun k hk => by cases hk))
  clear ho1 hg1 hat1
  go_wp2
  go_ret
  exact ⟨_, rfl, by simpa using HO.out, HB.out⟩
set_option maxHeartbeats 3200000 in
set_option maxRecDepth 100000 in
theorem refNew_c (A : Option Addr) (c : Nat) (draws : List Int) (w : World) (hs : Sl encB 1 w A draws) (hl : draws.length < 140737488351233) :
    Calls Try.prog 14 #[.slice A draws.length c] w fun e w' => ∃ r R, e = .returned (.pointer (some ⟨r, 0, none⟩)) ∧ RefIs w' r R [] [] draws 0 ∧ (∀ k, R k → w.heap.size ≤ k) ∧ Below w.heap.size w w' := by
  have HS := Lib.hid hs
  clear hs
  go_enter Try.func14, Try.ntmps14
  go_wp2_with (at_builtin; refine wpList_app rfl (.const (.slice none 0 0)) (.tmp 3) rfl uSlBx infoBx rfl (by decide) (by decide) okB (.slice none 0 0) [] rfl (base := w.heap.size) ?c1 A c draws rfl ?c2 ?c3 ?c4 ?_)
  case c1 => exact Own.nil _ _ _ _ _
  case c2 => exact HS.out
  case c3 => simp; omega
  case c4 => exact Nat.le_refl _
  intro v1 w1 ho1 hg1 hat1
  have hb := ((Below.refl w.heap.size w).grown hg1 (Nat.le_refl _) (fun k hk => by cases hk))
  obtain ⟨A3, c3, rfl⟩ := own_slice ho1
  have HOB := Lib.hid (ownBlock_of ho1)
  obtain ⟨_, _, hv, _, hs3, _⟩ := ho1.slice (fun x => (okB x).1)
  injection hv with e1 e2 e3
  rw [← e1] at hs3
  have HS3 := Lib.hid hs3
  have HB := Lib.hid hb
  clear ho1 hg1 hat1 hb hs3 e1 e2 e3
  go_wp2
  go_ret
  refine ⟨w1.heap.size, fun k => k = w1.heap.size ∨ (w.heap.size ≤ k ∧ k < w1.heap.size), rfl, ⟨⟨none, 0, none, 0, A3, c3, heap_alloc_new _ _, Sl.nil _ _ _ _, Sl.nil _ _ _ _, HS3.out.later ((Below.refl _ _).alloc (Nat.le_refl _) _), Nat.le_refl _, Nat.le_refl _, (fun b o e => by cases e), (fun b o e => by cases e), fun b o e => ?_⟩, .inl rfl, fun k hk => ?_⟩, fun k hk => ?_, HB.out.alloc HB.out.size _⟩
  · have := HOB.out b o e
    exact ⟨.inr this, by omega⟩
  · rcases hk with hk | hk
    · simp; omega
    · simp; omega
  · rcases hk with hk | hk
    · have := HB.out.size; omega
    · exact hk.1
end Go.Proofs.Ytjbbobhjomhnmaa.H
