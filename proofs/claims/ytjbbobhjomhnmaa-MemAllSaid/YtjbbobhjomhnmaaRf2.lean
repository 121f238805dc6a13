/- The reference's list: From, Seek (printed by genrf2.py). Conditions: sizes. -/
import Derived.Test.YtjbbobhjomhnmaaSlc
namespace Go.Proofs.Ytjbbobhjomhnmaa.H
open Go Go.RowKit Go.Deep Go.Shelf Go.Proofs Go.Proofs.YtjbbobhjomhnmaaW.PrintWords
set_option linter.unusedVariables false
set_option linter.unusedSimpArgs false
set_option maxHeartbeats 3200000 in
set_option maxRecDepth 100000 in
theorem refFrom_c {w : World} {r : Nat} {R : Nat → Prop} {P Q : List Ent} {hs draws : List Int} {u : Nat} (h : RefIs w r R (P ++ Q) hs draws u) (k : ByteArray) (q : Int) (h1 : ∀ x ∈ P, ltE x (k, q, false, ⟨#[]⟩)) (h2 : ∀ x ∈ Q, ¬ ltE x (k, q, false, ⟨#[]⟩)) (hl : (P ++ Q).length ≤ 2932031007319) :
    Calls Try.prog 82 #[.pointer (some ⟨r, 0, none⟩), .string k, .int .u64 q] w fun e w' => ∃ v, e = .returned v ∧ Own encE 53 4 w' w.heap.size v Q ∧ Below w.heap.size w w' := by
  have HPL := Lib.hid (fun W (hW : Below w.heap.size w W) => refPlace_c (h.later hW) k q h1 h2)
  obtain ⟨A1, c1, A2, c2, A3, c3, hr, hs1, _, _, hc1, _, _, _, _⟩ := h.ex
  obtain ⟨m, hm2⟩ : ∃ m, (P ++ Q).length = m := ⟨_, rfl⟩
  rw [hm2] at hr hc1 hl
  obtain ⟨pn, hpn⟩ : ∃ n, P.length = n := ⟨_, rfl⟩
  have hpm : pn ≤ m := by rw [← hpn, ← hm2, List.length_append]; omega
  have hqn : Q.length = m - pn := by rw [← hpn, ← hm2, List.length_append]; omega
  rw [hpn] at HPL
  have C0 := Lib.hid ((blk_cell hr 0).trans rfl : w.cell? ⟨r, 0, none⟩ = some (.slice A1 m c1))
  obtain ⟨Ad, had, hsd2⟩ := fromE A1 m c1 pn hpm hc1
  have hsd := hsd2 hm2 hs1
  rw [show (P ++ Q).drop pn = Q by rw [← hpn]; simp] at hsd
  have HAD := Lib.hid had
  have HSD := Lib.hid hsd
  have HQN := Lib.hid hqn
  have i1 : (0 : Int) ≤ pn := by omega
  have i2 : (pn : Int) ≤ m := by omega
  have i3 : (m : Int) ≤ c1 := by omega
  rw [← hqn] at HAD
  clear h hr hs1 hm2 hpn h1 h2 hsd hsd2 had hqn
  go_enter Try.func82, Try.ntmps82
  go_wp2_with fail
  refine wp_region_calmB 9 (by kernel_rfl) (by kernel_rfl) ?_
  simp only [List.take_succ_cons, List.take_zero, List.drop_succ_cons, List.drop_zero]
  refine chain0 ?_
  refine @chain _ _ _ _ _ _ _ _ 7 (.pointer (some ⟨r, 0, none⟩)) (by rfl) (by rfl) (by exact fun W2 hW => run_mv (by rfl) (by exact eval_base (by kernel_rfl) (by rfl)) hW) ?_
  refine @chain _ _ _ _ _ _ _ _ 8 (.pointer (some ⟨r, 0, none⟩)) (by rfl) (by rfl) (by exact fun W2 hW => run_nc (by rfl) (by exact eval_look (by kernel_rfl) (by kernel_rfl)) hW) ?_
  refine @chain _ _ _ _ _ _ _ _ 9 (.pointer (some ⟨r, 0, none⟩)) (by rfl) (by rfl) (by exact fun W2 hW => run_fa (p := .pointer (some ⟨r, 0, none⟩)) (by rfl) (by exact eval_look (by kernel_rfl) (by kernel_rfl)) (fun W => by first | kernel_rfl | go_simp) hW) ?_
  refine @chain _ _ _ _ _ _ _ _ 10 (.slice A1 m c1) (by rfl) (by rfl) (by exact fun W2 hW => run_lw (by rfl) (by exact eval_look (by kernel_rfl) (by kernel_rfl)) (fun W hW => ldSE _ _ _ _ _ _ (cell_later hW C0.out)) hW) ?_
  refine @chain _ _ _ _ _ _ _ _ 11 (.pointer (some ⟨r, 0, none⟩)) (by rfl) (by rfl) (by exact fun W2 hW => run_mv (by rfl) (by exact eval_base (by kernel_rfl) (by rfl)) hW) ?_
  refine @chain _ _ _ _ _ _ _ _ 12 (.string k) (by rfl) (by rfl) (by exact fun W2 hW => run_mv (by rfl) (by exact eval_base (by kernel_rfl) (by rfl)) hW) ?_
  refine @chain _ _ _ _ _ _ _ _ 13 (.int .u64 q) (by rfl) (by rfl) (by exact fun W2 hW => run_mv (by rfl) (by exact eval_base (by kernel_rfl) (by rfl)) hW) ?_
  refine @chain _ _ _ _ _ _ _ _ 14 (.int .i64 (pn : Int)) (by rfl) (by rfl) (by exact fun W2 hW => run_call (vs := #[.pointer (some ⟨r, 0, none⟩), .string k, .int .u64 q]) (by rfl) (by kernel_rfl) (enters_of Try.func107 (by kernel_rfl) (by rfl)) (calm_b hW (HPL.out W2 hW))) ?_
  refine @chain _ _ _ _ _ _ _ _ 15 (.slice Ad Q.length (c1 - pn)) (by rfl) (by rfl) (by exact fun W2 hW => run_sl (u := .slice A1 m c1) (l := some (.int .i64 (pn : Int))) (h := none) (by rfl) (by exact eval_look (by kernel_rfl) (by kernel_rfl)) (map_some (by exact eval_look (by kernel_rfl) (by kernel_rfl))) (by rfl) (HAD.out) hW) ?_
  refine calm_nil (fun W2 hW2 => ?_)
  refine Eq.mpr (congrArg (fun a => wpList _ _ _ _ a W2) (show _ = (⟨#[Value.pointer (some ⟨r, 0, none⟩), Value.string k, Value.int IntKind.u64 q, undef, undef, undef, Value.slice none 0 0, Value.pointer (some ⟨r, 0, none⟩), Value.pointer (some ⟨r, 0, none⟩), Value.pointer (some ⟨r, 0, none⟩), Value.slice A1 m c1, Value.pointer (some ⟨r, 0, none⟩), Value.string k, Value.int IntKind.u64 q, Value.int IntKind.i64 (pn : Int), Value.slice Ad Q.length (c1 - pn), undef], []⟩ : Act) by kernel_rfl)) ?_
  have HW2 := Lib.hid hW2
  clear hW2
  go_wp2_with (at_builtin; refine wpList_app rfl (.const (.slice none 0 0)) (.tmp 15) rfl uSlEx infoEx rfl (by decide) (by decide) okE (.slice none 0 0) [] rfl (base := w.heap.size) ?c1 Ad (c1 - pn) Q rfl ?c2 ?c3 ?c4 ?_)
  case c1 => exact Own.nil _ _ _ _ _
  case c2 => exact HSD.out.later HW2.out
  case c3 => have := HQN.out; simp; omega
  case c4 => exact HW2.out.size
  intro v1 w1 ho1 hg1 hat1
  have HO := Lib.hid ho1
  have HB := Lib.hid (HW2.out.grown hg1 HW2.out.size (fun k hk => by cases hk))
  clear ho1 hg1 hat1
  go_wp2
  go_ret
  exact ⟨_, rfl, by simpa using HO.out, HB.out⟩
set_option maxHeartbeats 3200000 in
set_option maxRecDepth 100000 in
theorem refSeek_c {w : World} {r : Nat} {R : Nat → Prop} {P Q : List Ent} {hs draws : List Int} {u : Nat} (h : RefIs w r R (P ++ Q) hs draws u) (k : ByteArray) (q : Int) (h1 : ∀ x ∈ P, ltE x (k, q, false, ⟨#[]⟩)) (h2 : ∀ x ∈ Q, ¬ ltE x (k, q, false, ⟨#[]⟩)) :
    Calls Try.prog 74 #[.pointer (some ⟨r, 0, none⟩), .string k, .int .u64 q] w fun e w' => e = .returned (.tuple #[.agg (encE (Q.headD zeroE)).toArray, .bool (!Q.isEmpty)]) ∧ Below w.heap.size w w' := by
  obtain ⟨w2, hw2⟩ : ∃ w2, w.alloc (.cells #[.string ⟨#[]⟩, .int .u64 0, .bool false, .string ⟨#[]⟩] 53) = w2 := ⟨_, rfl⟩
  have hb2 : Below w.heap.size w w2 := by rw [← hw2]; exact (Below.refl _ _).alloc (Nat.le_refl _) _
  have r6 : w2.heap[w.heap.size]? = some (.cells #[.string ⟨#[]⟩, .int .u64 0, .bool false, .string ⟨#[]⟩] 53 (0, 0)) := by rw [← hw2]; exact heap_alloc_new _ _
  have HPL := Lib.hid (refPlace_c (h.later hb2) k q h1 h2)
  obtain ⟨A1, c1, A2, c2, A3, c3, hr, hs1, _, _, hc1, _, _, _, _⟩ := (h.later hb2).ex
  obtain ⟨m, hm2⟩ : ∃ m, (P ++ Q).length = m := ⟨_, rfl⟩
  rw [hm2] at hr hc1
  obtain ⟨pn, hpn⟩ : ∃ n, P.length = n := ⟨_, rfl⟩
  rw [hpn] at HPL
  have C0 := Lib.hid ((blk_cell hr 0).trans rfl : w2.cell? ⟨r, 0, none⟩ = some (.slice A1 m c1))
  have HS1 := Lib.hid hs1
  have HB2 := Lib.hid hb2
  have R6 := Lib.hid r6
  clear hr hb2 r6 h1 h2
  cases Q with
  | nil =>
    have i2 : ¬ (pn : Int) < m := by rw [← hm2, ← hpn]; simp
    clear h hs1 hm2 hpn
    go_enter Try.func74, Try.ntmps74
    go_wp2_with fail
    refine HPL.out.mono ?_
    rintro e w3 ⟨rfl, hb3⟩
    have r6a := blk_below R6.out hb3
    obtain ⟨⟨y0, y1, y2, y3⟩, f0, f1, f2, f3⟩ := cells4 r6a
    have c0 := cell_later hb3 C0.out
    have HB3 := Lib.hid (HB2.out.trans (hb3.mono HB2.out.size))
    have R6A := Lib.hid r6a
    clear hb3 r6a
    go_wp2
    refine bodyPost_ret (res_cell_tmp rfl _ _ w.heap.size zeroE _ rfl rfl (put4_heap R6A.out)) rfl ?_
    exact ⟨rfl, HB3.out.trans ((put4_upd (S := fun k => k = w.heap.size) _ _ _ _ _ rfl).bel (fun k hk => by omega) HB3.out.size)⟩
  | cons x tl =>
    have i1 : (0 : Int) ≤ pn := by omega
    have i2 : (pn : Int) < m := by rw [← hm2, ← hpn]; simp; omega
    have hx : (P ++ x :: tl)[pn]? = some x := by rw [List.getElem?_append_right (by omega), ← hpn, Nat.sub_self]; rfl
    obtain ⟨b1, o1, hA1, hl1, hc⟩ := HS1.out.at hx
    subst hA1
    have X0 := Lib.hid (hc 0 _ rfl)
    have X1 := Lib.hid (hc 1 _ rfl)
    have X2 := Lib.hid (hc 2 _ rfl)
    have X3 := Lib.hid (hc 3 _ rfl)
    clear h hs1 hm2 hpn hx hc
    go_enter Try.func74, Try.ntmps74
    go_wp2_with fail
    refine HPL.out.mono ?_
    rintro e w3 ⟨rfl, hb3⟩
    have r6a := blk_below R6.out hb3
    obtain ⟨⟨y0, y1, y2, y3⟩, f0, f1, f2, f3⟩ := cells4 r6a
    have c0 := cell_later hb3 C0.out
    have x0 : w3.cell? ⟨b1, o1 + pn * 4, none⟩ = some (.string x.1) := cell_later hb3 X0.out
    have x1 : w3.cell? ⟨b1, o1 + pn * 4 + 1, none⟩ = some (.int .u64 x.2.1) := cell_later hb3 X1.out
    have x2 : w3.cell? ⟨b1, o1 + pn * 4 + 2, none⟩ = some (.bool x.2.2.1) := cell_later hb3 X2.out
    have x3 : w3.cell? ⟨b1, o1 + pn * 4 + 3, none⟩ = some (.string x.2.2.2) := cell_later hb3 X3.out
    have HB3 := Lib.hid (HB2.out.trans (hb3.mono HB2.out.size))
    have R6A := Lib.hid r6a
    clear hb3 r6a
    go_wp2
    refine bodyPost_ret (res_cell_tmp rfl _ _ w.heap.size x _ rfl rfl (put4_heap R6A.out)) rfl ?_
    exact ⟨rfl, HB3.out.trans ((put4_upd (S := fun k => k = w.heap.size) _ _ _ _ _ rfl).bel (fun k hk => by omega) HB3.out.size)⟩
end Go.Proofs.Ytjbbobhjomhnmaa.H
