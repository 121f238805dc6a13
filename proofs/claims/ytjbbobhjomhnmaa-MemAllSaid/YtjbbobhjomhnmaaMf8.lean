/- The law's pair of memtables (screelaw6): what its iterators and lists give; holds (printed by genmf8.py). Conditions: sizes. -/
import Derived.Test.YtjbbobhjomhnmaaMf7
namespace Go.Proofs.Ytjbbobhjomhnmaa.H
open Go Go.RowKit Go.Deep Go.Shelf Go.Proofs Go.Proofs.YtjbbobhjomhnmaaW.PrintWords
set_option linter.unusedVariables false
set_option linter.unusedSimpArgs false
/-- What was answered on the way: an iterator, a list. -/
inductive WF where
  | it (f : Value) (Q : List Ent)
  | sl (A : Option Addr) (c : Nat) (Q : List Ent)
def WF.ok (W : World) : WF → Prop
  | .it f Q => ∃ n₀, IterV Try.prog f encA n₀ Q W ∧ n₀ ≤ W.heap.size
  | .sl A c Q => Sl encE 4 W A Q ∧ Q.length ≤ c
theorem WF.later {W W' : World} {p : WF} (h : p.ok W) (hb : Below W.heap.size W W') : p.ok W' := by
  cases p with
  | it f Q =>
    obtain ⟨n₀, h1, h2⟩ := h
    exact ⟨n₀, h1.later hb, Nat.le_trans h2 hb.size⟩
  | sl A c Q => exact ⟨h.1.later hb, h.2⟩
def leW (a b : List WF) : Prop := ∀ p ∈ a, p ∈ b
theorem leW_refl (a : List WF) : leW a a := fun _ h => h
theorem leW_trans (a b c : List WF) (h : leW a b) (k : leW b c) : leW a c := fun p hp => k p (h p hp)
def WkR (w : World) (s : List WF) (W : World) : Prop := Below w.heap.size w W ∧ ∀ p ∈ s, p.ok W
theorem WkR.later {w : World} {s : List WF} {W W' : World} (h : WkR w s W) (hb : Below W.heap.size W W') : WkR w s W' :=
  ⟨h.1.trans (hb.mono h.1.size), fun p hp => WF.later (h.2 p hp) hb⟩
theorem wk_it {w : World} {s : List WF} {W : World} {f : FuncId} {args : Array Value} {Q : List Ent} (hW : WkR w s W) (hc : Calls Try.prog f args W fun e W' => ∃ v, e = .returned v ∧ (∃ n₀, IterV Try.prog v encA n₀ Q W' ∧ n₀ ≤ W'.heap.size) ∧ Below W.heap.size W W') :
    Calls Try.prog f args W fun e W' => ∃ v, e = .returned v ∧ ∃ s', (s' = WF.it v Q :: s) ∧ WkR w s' W' :=
  hc.mono fun e W' ⟨v, he, hi, hb⟩ => ⟨v, he, _, rfl, (hW.later hb).1, fun p hp => by
    rcases List.mem_cons.1 hp with rfl | hp
    · exact hi
    · exact (hW.later hb).2 p hp⟩
theorem wk_sl {w : World} {s : List WF} {W : World} {f : FuncId} {args : Array Value} {Q : List Ent} (hW : WkR w s W) (hc : Calls Try.prog f args W fun e W' => ∃ v, e = .returned v ∧ Own encE 53 4 W' W.heap.size v Q ∧ Below W.heap.size W W') :
    Calls Try.prog f args W fun e W' => ∃ v, e = .returned v ∧ ∃ s', (∃ A c, v = .slice A (List.length Q) c ∧ s' = WF.sl A c Q :: s) ∧ WkR w s' W' := by
  refine hc.mono fun e W' ⟨v, he, ho, hb⟩ => ?_
  obtain ⟨A, c, hv, hcap, hs8, _⟩ := ho.slice (fun _ => rfl)
  refine ⟨v, he, _, ⟨A, c, hv, rfl⟩, (hW.later hb).1, fun p hp => ?_⟩
  rcases List.mem_cons.1 hp with rfl | hp
  · exact ⟨hs8, hcap⟩
  · exact (hW.later hb).2 p hp
theorem wk_walk {w : World} {s s' : List WF} {W : World} {f : Value} {A : Option Addr} {c : Nat} {Q : List Ent} {n : Int} (hle : leW s s') (hW : WkR w s' W) (hf : WF.it f Q ∈ s) (hA : WF.sl A c Q ∈ s) (hq : Q.length < 2932031007319) :
    Calls Try.prog 98 #[f, .slice A (List.length Q) c, .int .i64 n] W fun e W' => e = .returned (.bool true) ∧ WkR w s' W' := by
  obtain ⟨n₀, h1, h2⟩ := hW.2 _ (hle _ hf)
  obtain ⟨h3, h4⟩ := hW.2 _ (hle _ hA)
  exact (walks6_c f n n₀ Q A c W h1 h2 h3 hq h4).mono fun e W' ⟨he, hb⟩ => ⟨he, hW.later hb⟩
theorem HP_all {w : World} {t g m r : Nat} {S R : Nat → Prop} {draws : List Int} {M : MemV} (h : Pair6 w t g m r S R draws M) (hl : M.L.length ≤ 100000) (W : World) (hW : Below w.heap.size w W) :
    Calls Try.prog 37 #[.pointer (some ⟨t, 0, none⟩)] W fun e w' => ∃ f, e = .returned f ∧ (∃ n₀, IterV Try.prog f encA n₀ (allE M.L) w' ∧ n₀ ≤ w'.heap.size) ∧ Below W.heap.size W w' := by
  have hc := mall_v (h.later hW).mt (Below.refl _ _)
  rw [notAhead0 (fun x hx => (h.sum.small x hx).2.2.2)] at hc
  exact hc.mono fun e w' ⟨f, he, hit, hb⟩ => ⟨f, he, ⟨_, hit, hb.size⟩, hb⟩
theorem HP_from {w : World} {t g m r : Nat} {S R : Nat → Prop} {draws : List Int} {M : MemV} (h : Pair6 w t g m r S R draws M) (key : ByteArray) (q : Int) (W : World) (hW : Below w.heap.size w W) :
    Calls Try.prog 44 #[.pointer (some ⟨t, 0, none⟩), .string key, .int .u64 q] W fun e w' => ∃ f, e = .returned f ∧ (∃ n₀, IterV Try.prog f encA n₀ (fromT key q (allE M.L)) w' ∧ n₀ ≤ w'.heap.size) ∧ Below W.heap.size W w' :=
  (mfrom_v key q (h.later hW).mt).mono fun e w' ⟨f, he, hit, hb⟩ => ⟨f, he, ⟨_, hit, Nat.le_refl _⟩, hb⟩
theorem HP_rall {w : World} {t g m r : Nat} {S R : Nat → Prop} {draws : List Int} {M : MemV} (h : Pair6 w t g m r S R draws M) (hl : M.L.length ≤ 100000) (W : World) (hW : Below w.heap.size w W) :
    Calls Try.prog 100 #[.pointer (some ⟨m, 0, none⟩)] W fun e w' => ∃ v, e = .returned v ∧ Own encE 53 4 w' W.heap.size v (allE M.L) ∧ Below W.heap.size W w' :=
  refAll6_c (h.later hW).rt (fun x hx => (h.sum.small x hx).2.2.2) (by rw [allE_len]; omega)
theorem HP_rfrom {w : World} {t g m r : Nat} {S R : Nat → Prop} {draws : List Int} {M : MemV} (h : Pair6 w t g m r S R draws M) (hl : M.L.length ≤ 100000) (key : ByteArray) (q : Int) (W : World) (hW : Below w.heap.size w W) :
    Calls Try.prog 99 #[.pointer (some ⟨m, 0, none⟩), .string key, .int .u64 q] W fun e w' => ∃ v, e = .returned v ∧ Own encE 53 4 w' W.heap.size v (fromT key q (allE M.L)) ∧ Below W.heap.size W w' :=
  refFrom6_c (h.later hW).rt (fun x hx => (h.sum.small x hx).2.2.2) (by rw [allE_len]; omega) key q
theorem HP_wt {w : World} {t g m r : Nat} {S R : Nat → Prop} {draws : List Int} {M : MemV} (h : Pair6 w t g m r S R draws M) (W : World) (hW : Below w.heap.size w W) :
    Calls Try.prog 39 #[.pointer (some ⟨t, 0, none⟩)] W fun e w' => e = .returned (.int .i64 (sumW (allE M.L))) ∧ W = w' := by
  have := mweight_c (h.later hW).mt
  rwa [h.sum.wt] at this
theorem HP_last {w : World} {t g m r : Nat} {S R : Nat → Prop} {draws : List Int} {M : MemV} (h : Pair6 w t g m r S R draws M) (W : World) (hW : Below w.heap.size w W) :
    Calls Try.prog 40 #[.pointer (some ⟨t, 0, none⟩)] W fun e w' => e = .returned (.int .u64 (maxQ (allE M.L))) ∧ W = w' := by
  have := mlast_c (h.later hW).mt
  rwa [h.sum.last] at this
set_option maxHeartbeats 6400000 in
set_option maxRecDepth 100000 in
theorem holds6_c {w : World} {t g m r : Nat} {S R : Nat → Prop} {draws : List Int} {M : MemV} (h : Pair6 w t g m r S R draws M) (hl : M.L.length ≤ 100000) :
    Calls Try.prog 52 #[.agg #[.pointer (some ⟨t, 0, none⟩), .pointer (some ⟨m, 0, none⟩)]] w fun en w' => en = .returned (.bool true) ∧ Below w.heap.size w w' := by
  obtain ⟨w2, hw2⟩ : ∃ Z, w.alloc (.cells #[.pointer (some ⟨t, 0, none⟩), .pointer (some ⟨m, 0, none⟩)] 105) = Z := ⟨_, rfl⟩
  have hb2 : Below w.heap.size w w2 := by rw [← hw2]; exact (Below.refl _ _).alloc (Nat.le_refl _) _
  have q1 : w2.heap[w.heap.size]? = some (.cells #[.pointer (some ⟨t, 0, none⟩), .pointer (some ⟨m, 0, none⟩)] 105 (0, 0)) := by rw [← hw2]; exact heap_alloc_new _ _
  have h2 := h.later hb2
  have hia := HP_all h2 hl
  have hra := HP_rall h2 hl
  have hif := HP_from h2 ⟨#[]⟩ 18446744073709551615
  have hrf := HP_rfrom h2 hl ⟨#[]⟩ 18446744073709551615
  have hw1 := HP_wt h2
  have hw2' := fun W hW => refWeightT6_c (h2.later (w' := W) hW).rt h2.sum.small (by rw [allE_len]; omega)
  have hl1 := HP_last h2
  have hl2 := fun W hW => refLastT6_c (h2.later (w' := W) hW).rt h2.sum.small (by rw [allE_len]; omega)
  have hf1 := fun W (hW : Below w2.heap.size w2 W) => mfrozen_c (h2.later hW).mt
  have hf2 := fun W (hW : Below w2.heap.size w2 W) => refFrozen6_c (h2.later hW).rt
  have hpl := fromT_len ⟨#[]⟩ 18446744073709551615 (allE M.L)
  have hql := allE_len M.L
  obtain ⟨Q, hQ⟩ : ∃ Q, allE M.L = Q := ⟨_, rfl⟩
  obtain ⟨P, hP⟩ : ∃ P, fromT ⟨#[]⟩ 18446744073709551615 Q = P := ⟨_, rfl⟩
  obtain ⟨wv, hwv⟩ : ∃ x, sumW Q = x := ⟨_, rfl⟩
  obtain ⟨lv, hlv⟩ : ∃ x, maxQ Q = x := ⟨_, rfl⟩
  obtain ⟨fz, hfz⟩ : ∃ x, M.fz = x := ⟨_, rfl⟩
  simp only [hQ, hP, hwv, hlv, hfz] at hia hra hif hrf hw1 hw2' hl1 hl2 hf1 hf2 hpl hql
  have HIA := Lib.hid hia
  have HRA := Lib.hid hra
  have HIF := Lib.hid hif
  have HRF := Lib.hid hrf
  have HW1 := Lib.hid hw1
  have HW2 := Lib.hid hw2'
  have HL1 := Lib.hid hl1
  have HL2 := Lib.hid hl2
  have HF1 := Lib.hid hf1
  have HF2 := Lib.hid hf2
  have HPL := Lib.hid (show P.length < 2932031007319 by omega)
  have HQL := Lib.hid (show Q.length < 2932031007319 by omega)
  have D0 := Lib.hid (show w2.cell? ⟨w.heap.size, 0, none⟩ = some (.pointer (some ⟨t, 0, none⟩)) from (blk_cell q1 0).trans rfl)
  have D1 := Lib.hid (show w2.cell? ⟨w.heap.size, 1, none⟩ = some (.pointer (some ⟨m, 0, none⟩)) from (blk_cell q1 1).trans rfl)
  have HB2 := Lib.hid hb2
  clear h hl h2 hia hra hif hrf hw1 hw2' hl1 hl2 hf1 hf2 hpl hql hP hQ hwv hlv hfz hb2 q1
  go_enter Try.func52, Try.ntmps52
  go_wp2_with fail
  try rw [hw2]
  refine wp_region_step (WkR w2) leW leW_refl leW_trans [] [0, 0, 2, 0, 0, 2, 1, 0, 0, 0, 2, 0, 0, 2, 1, 0, 0, 0, 0, 0, 0, 0, 0, 0, 0, 0, 0, 0, 0, 0, 0, 0, 0, 0, 0, 0, 0, 0, 0, 0, 0, 0, 0] [.pointer (some ⟨w.heap.size, 0, none⟩), .pointer (some ⟨t, 0, none⟩), undef, .pointer (some ⟨w.heap.size, 1, none⟩), .pointer (some ⟨m, 0, none⟩), undef, undef, .bool true, .pointer (some ⟨w.heap.size, 0, none⟩), .pointer (some ⟨t, 0, none⟩), undef, .pointer (some ⟨w.heap.size, 1, none⟩), .pointer (some ⟨m, 0, none⟩), undef, undef, .bool true, .bool true, .pointer (some ⟨w.heap.size, 0, none⟩), .pointer (some ⟨t, 0, none⟩), .int .i64 wv, .pointer (some ⟨w.heap.size, 1, none⟩), .pointer (some ⟨m, 0, none⟩), .int .i64 wv, .bool true, .bool true, .bool true, .pointer (some ⟨w.heap.size, 0, none⟩), .pointer (some ⟨t, 0, none⟩), .int .u64 lv, .pointer (some ⟨w.heap.size, 1, none⟩), .pointer (some ⟨m, 0, none⟩), .int .u64 lv, .bool true, .bool true, .bool true, .pointer (some ⟨w.heap.size, 0, none⟩), .pointer (some ⟨t, 0, none⟩), .bool fz, .pointer (some ⟨w.heap.size, 1, none⟩), .pointer (some ⟨m, 0, none⟩), .bool fz, .bool true, .bool true] 43 (by kernel_rfl) (by kernel_rfl) ⟨(Below.refl _ _).drew, fun p hp => by cases hp⟩ ?_
  simp only [List.take_succ_cons, List.take_zero, List.drop_succ_cons, List.drop_zero]
  refine schain0 ?_
  refine @schain _ _ _ _ _ _ _ _ _ _ _ _ _ _ 3 (.pointer (some ⟨w.heap.size, 0, none⟩)) (by rfl) (by rfl) (by kernel_rfl) (by rfl) (by exact fun s' W2 hW => srun_fa (p := .pointer (some ⟨w.heap.size, 0, none⟩)) (by rfl) (by exact eval_base (by kernel_rfl) (by rfl)) (fun W => by first | kernel_rfl | go_simp) hW) ?_
  refine @schain _ _ _ _ _ _ _ _ _ _ _ _ _ _ 4 (.pointer (some ⟨t, 0, none⟩)) (by rfl) (by rfl) (by kernel_rfl) (by rfl) (by exact fun s' W2 hW => srun_ld (by rfl) (by exact eval_look (by kernel_rfl) (by kernel_rfl)) (ldTp _ _ _ _ (cell_later hW.1 D0.out)) hW) ?_
  refine @schainT _ _ _ _ _ _ _ _ _ _ _ _ _ _ 5 (fun v s' => s' = WF.it v Q :: []) (by rfl) (by kernel_rfl) (by rfl) (⟨.nilFunc, _, rfl⟩) (fun _ _ h => by subst h; exact fun p hp => List.mem_cons_of_mem _ hp) (by exact fun W2 hW => srun_callT (vs := #[.pointer (some ⟨t, 0, none⟩)]) (by rfl) (by kernel_rfl) (enters_of Try.func37 (by kernel_rfl) (by rfl)) (wk_it hW (HIA.out W2 hW.1))) (fun fa s' hx => ?_)
  obtain rfl := hx
  refine @schain _ _ _ _ _ _ _ _ _ _ _ _ _ _ 6 (.pointer (some ⟨w.heap.size, 1, none⟩)) (by rfl) (by rfl) (by kernel_rfl) (by rfl) (by exact fun s' W2 hW => srun_fa (p := .pointer (some ⟨w.heap.size, 0, none⟩)) (by rfl) (by exact eval_base (by kernel_rfl) (by rfl)) (fun W => by first | kernel_rfl | go_simp) hW) ?_
  refine @schain _ _ _ _ _ _ _ _ _ _ _ _ _ _ 7 (.pointer (some ⟨m, 0, none⟩)) (by rfl) (by rfl) (by kernel_rfl) (by rfl) (by exact fun s' W2 hW => srun_ld (by rfl) (by exact eval_look (by kernel_rfl) (by kernel_rfl)) (ldRt _ _ _ _ (cell_later hW.1 D1.out)) hW) ?_
  refine @schainT _ _ _ _ _ _ _ _ _ _ _ _ _ _ 8 (fun v s' => ∃ A c, v = .slice A (List.length Q) c ∧ s' = WF.sl A c Q :: [WF.it fa Q]) (by rfl) (by kernel_rfl) (by rfl) (⟨.slice none (List.length Q) 0, _, none, 0, rfl, rfl⟩) (fun _ _ h => by obtain ⟨A, c, _, rfl⟩ := h; exact fun p hp => List.mem_cons_of_mem _ hp) (by exact fun W2 hW => srun_callT (vs := #[.pointer (some ⟨m, 0, none⟩)]) (by rfl) (by kernel_rfl) (enters_of Try.func100 (by kernel_rfl) (by rfl)) (wk_sl hW (HRA.out W2 hW.1))) (fun x s' hx => ?_)
  obtain ⟨A1, c1, rfl, rfl⟩ := hx
  refine @schain1 _ _ _ _ _ _ _ _ _ _ _ _ _ _ 9 (.bool true) (by rfl) (by kernel_rfl) (by rfl) (by exact fun s' hs9 W2 hW => srun_call (vs := #[fa, .slice A1 (List.length Q) c1, .int .i64 (-1)]) (by rfl) (by kernel_rfl) (enters_of Try.func98 (by kernel_rfl) (by rfl)) (wk_walk hs9 hW (by simp) (by simp) (HQL.out))) ?_
  refine @schain _ _ _ _ _ _ _ _ _ _ _ _ _ _ 10 (.bool true) (by rfl) (by rfl) (by kernel_rfl) (by rfl) (by exact fun s' W2 hW => srun_mv (by rfl) (by exact eval_look (by kernel_rfl) (by kernel_rfl)) hW) ?_
  refine @schain _ _ _ _ _ _ _ _ _ _ _ _ _ _ 11 (.pointer (some ⟨w.heap.size, 0, none⟩)) (by rfl) (by rfl) (by kernel_rfl) (by rfl) (by exact fun s' W2 hW => srun_fa (p := .pointer (some ⟨w.heap.size, 0, none⟩)) (by rfl) (by exact eval_base (by kernel_rfl) (by rfl)) (fun W => by first | kernel_rfl | go_simp) hW) ?_
  refine @schain _ _ _ _ _ _ _ _ _ _ _ _ _ _ 12 (.pointer (some ⟨t, 0, none⟩)) (by rfl) (by rfl) (by kernel_rfl) (by rfl) (by exact fun s' W2 hW => srun_ld (by rfl) (by exact eval_look (by kernel_rfl) (by kernel_rfl)) (ldTp _ _ _ _ (cell_later hW.1 D0.out)) hW) ?_
  refine @schainT _ _ _ _ _ _ _ _ _ _ _ _ _ _ 13 (fun v s' => s' = WF.it v P :: [WF.sl A1 c1 Q, WF.it fa Q]) (by rfl) (by kernel_rfl) (by rfl) (⟨.nilFunc, _, rfl⟩) (fun _ _ h => by subst h; exact fun p hp => List.mem_cons_of_mem _ hp) (by exact fun W2 hW => srun_callT (vs := #[.pointer (some ⟨t, 0, none⟩), .string ⟨#[]⟩, .int .u64 18446744073709551615]) (by rfl) (by kernel_rfl) (enters_of Try.func44 (by kernel_rfl) (by rfl)) (wk_it hW (HIF.out W2 hW.1))) (fun fb s' hx => ?_)
  obtain rfl := hx
  refine @schain _ _ _ _ _ _ _ _ _ _ _ _ _ _ 14 (.pointer (some ⟨w.heap.size, 1, none⟩)) (by rfl) (by rfl) (by kernel_rfl) (by rfl) (by exact fun s' W2 hW => srun_fa (p := .pointer (some ⟨w.heap.size, 0, none⟩)) (by rfl) (by exact eval_base (by kernel_rfl) (by rfl)) (fun W => by first | kernel_rfl | go_simp) hW) ?_
  refine @schain _ _ _ _ _ _ _ _ _ _ _ _ _ _ 15 (.pointer (some ⟨m, 0, none⟩)) (by rfl) (by rfl) (by kernel_rfl) (by rfl) (by exact fun s' W2 hW => srun_ld (by rfl) (by exact eval_look (by kernel_rfl) (by kernel_rfl)) (ldRt _ _ _ _ (cell_later hW.1 D1.out)) hW) ?_
  refine @schainT _ _ _ _ _ _ _ _ _ _ _ _ _ _ 16 (fun v s' => ∃ A c, v = .slice A (List.length P) c ∧ s' = WF.sl A c P :: [WF.it fb P, WF.sl A1 c1 Q, WF.it fa Q]) (by rfl) (by kernel_rfl) (by rfl) (⟨.slice none (List.length P) 0, _, none, 0, rfl, rfl⟩) (fun _ _ h => by obtain ⟨A, c, _, rfl⟩ := h; exact fun p hp => List.mem_cons_of_mem _ hp) (by exact fun W2 hW => srun_callT (vs := #[.pointer (some ⟨m, 0, none⟩), .string ⟨#[]⟩, .int .u64 18446744073709551615]) (by rfl) (by kernel_rfl) (enters_of Try.func99 (by kernel_rfl) (by rfl)) (wk_sl hW (HRF.out W2 hW.1))) (fun x s' hx => ?_)
  obtain ⟨A2, c2, rfl, rfl⟩ := hx
  refine @schain1 _ _ _ _ _ _ _ _ _ _ _ _ _ _ 17 (.bool true) (by rfl) (by kernel_rfl) (by rfl) (by exact fun s' hs9 W2 hW => srun_call (vs := #[fb, .slice A2 (List.length P) c2, .int .i64 (-1)]) (by rfl) (by kernel_rfl) (enters_of Try.func98 (by kernel_rfl) (by rfl)) (wk_walk hs9 hW (by simp) (by simp) (HPL.out))) ?_
  refine @schain _ _ _ _ _ _ _ _ _ _ _ _ _ _ 18 (.bool true) (by rfl) (by rfl) (by kernel_rfl) (by rfl) (by exact fun s' W2 hW => srun_pkT (by rfl) (by exact eval_look (by kernel_rfl) (by kernel_rfl)) (by exact eval_look (by kernel_rfl) (by kernel_rfl)) hW) ?_
  refine @schain _ _ _ _ _ _ _ _ _ _ _ _ _ _ 19 (.bool true) (by rfl) (by rfl) (by kernel_rfl) (by rfl) (by exact fun s' W2 hW => srun_mv (by rfl) (by exact eval_look (by kernel_rfl) (by kernel_rfl)) hW) ?_
  refine @schain _ _ _ _ _ _ _ _ _ _ _ _ _ _ 20 (.pointer (some ⟨w.heap.size, 0, none⟩)) (by rfl) (by rfl) (by kernel_rfl) (by rfl) (by exact fun s' W2 hW => srun_fa (p := .pointer (some ⟨w.heap.size, 0, none⟩)) (by rfl) (by exact eval_base (by kernel_rfl) (by rfl)) (fun W => by first | kernel_rfl | go_simp) hW) ?_
  refine @schain _ _ _ _ _ _ _ _ _ _ _ _ _ _ 21 (.pointer (some ⟨t, 0, none⟩)) (by rfl) (by rfl) (by kernel_rfl) (by rfl) (by exact fun s' W2 hW => srun_ld (by rfl) (by exact eval_look (by kernel_rfl) (by kernel_rfl)) (ldTp _ _ _ _ (cell_later hW.1 D0.out)) hW) ?_
  refine @schain _ _ _ _ _ _ _ _ _ _ _ _ _ _ 22 (.int .i64 wv) (by rfl) (by rfl) (by kernel_rfl) (by rfl) (by exact fun s' W2 hW => srun_call (vs := #[.pointer (some ⟨t, 0, none⟩)]) (by rfl) (by kernel_rfl) (enters_of Try.func39 (by kernel_rfl) (by rfl)) ((HW1.out W2 hW.1).mono fun e W' ⟨he, hw⟩ => ⟨he, hw ▸ hW⟩)) ?_
  refine @schain _ _ _ _ _ _ _ _ _ _ _ _ _ _ 23 (.pointer (some ⟨w.heap.size, 1, none⟩)) (by rfl) (by rfl) (by kernel_rfl) (by rfl) (by exact fun s' W2 hW => srun_fa (p := .pointer (some ⟨w.heap.size, 0, none⟩)) (by rfl) (by exact eval_base (by kernel_rfl) (by rfl)) (fun W => by first | kernel_rfl | go_simp) hW) ?_
  refine @schain _ _ _ _ _ _ _ _ _ _ _ _ _ _ 24 (.pointer (some ⟨m, 0, none⟩)) (by rfl) (by rfl) (by kernel_rfl) (by rfl) (by exact fun s' W2 hW => srun_ld (by rfl) (by exact eval_look (by kernel_rfl) (by kernel_rfl)) (ldRt _ _ _ _ (cell_later hW.1 D1.out)) hW) ?_
  refine @schain _ _ _ _ _ _ _ _ _ _ _ _ _ _ 25 (.int .i64 wv) (by rfl) (by rfl) (by kernel_rfl) (by rfl) (by exact fun s' W2 hW => srun_call (vs := #[.pointer (some ⟨m, 0, none⟩)]) (by rfl) (by kernel_rfl) (enters_of Try.func101 (by kernel_rfl) (by rfl)) ((HW2.out W2 hW.1).mono fun e W' ⟨he, hb⟩ => ⟨he, hW.later hb⟩)) ?_
  refine @schain _ _ _ _ _ _ _ _ _ _ _ _ _ _ 26 (.bool true) (by rfl) (by rfl) (by kernel_rfl) (by rfl) (by exact fun s' W2 hW => srun_bo (u := .int .i64 wv) (v := .int .i64 wv) (by rfl) (by exact eval_look (by kernel_rfl) (by kernel_rfl)) (by exact eval_look (by kernel_rfl) (by kernel_rfl)) (fun W => by first | go_simp | (cases fz <;> go_simp)) hW) ?_
  refine @schain _ _ _ _ _ _ _ _ _ _ _ _ _ _ 27 (.bool true) (by rfl) (by rfl) (by kernel_rfl) (by rfl) (by exact fun s' W2 hW => srun_pkT (by rfl) (by exact eval_look (by kernel_rfl) (by kernel_rfl)) (by exact eval_look (by kernel_rfl) (by kernel_rfl)) hW) ?_
  refine @schain _ _ _ _ _ _ _ _ _ _ _ _ _ _ 28 (.bool true) (by rfl) (by rfl) (by kernel_rfl) (by rfl) (by exact fun s' W2 hW => srun_mv (by rfl) (by exact eval_look (by kernel_rfl) (by kernel_rfl)) hW) ?_
  refine @schain _ _ _ _ _ _ _ _ _ _ _ _ _ _ 29 (.pointer (some ⟨w.heap.size, 0, none⟩)) (by rfl) (by rfl) (by kernel_rfl) (by rfl) (by exact fun s' W2 hW => srun_fa (p := .pointer (some ⟨w.heap.size, 0, none⟩)) (by rfl) (by exact eval_base (by kernel_rfl) (by rfl)) (fun W => by first | kernel_rfl | go_simp) hW) ?_
  refine @schain _ _ _ _ _ _ _ _ _ _ _ _ _ _ 30 (.pointer (some ⟨t, 0, none⟩)) (by rfl) (by rfl) (by kernel_rfl) (by rfl) (by exact fun s' W2 hW => srun_ld (by rfl) (by exact eval_look (by kernel_rfl) (by kernel_rfl)) (ldTp _ _ _ _ (cell_later hW.1 D0.out)) hW) ?_
  refine @schain _ _ _ _ _ _ _ _ _ _ _ _ _ _ 31 (.int .u64 lv) (by rfl) (by rfl) (by kernel_rfl) (by rfl) (by exact fun s' W2 hW => srun_call (vs := #[.pointer (some ⟨t, 0, none⟩)]) (by rfl) (by kernel_rfl) (enters_of Try.func40 (by kernel_rfl) (by rfl)) ((HL1.out W2 hW.1).mono fun e W' ⟨he, hw⟩ => ⟨he, hw ▸ hW⟩)) ?_
  refine @schain _ _ _ _ _ _ _ _ _ _ _ _ _ _ 32 (.pointer (some ⟨w.heap.size, 1, none⟩)) (by rfl) (by rfl) (by kernel_rfl) (by rfl) (by exact fun s' W2 hW => srun_fa (p := .pointer (some ⟨w.heap.size, 0, none⟩)) (by rfl) (by exact eval_base (by kernel_rfl) (by rfl)) (fun W => by first | kernel_rfl | go_simp) hW) ?_
  refine @schain _ _ _ _ _ _ _ _ _ _ _ _ _ _ 33 (.pointer (some ⟨m, 0, none⟩)) (by rfl) (by rfl) (by kernel_rfl) (by rfl) (by exact fun s' W2 hW => srun_ld (by rfl) (by exact eval_look (by kernel_rfl) (by kernel_rfl)) (ldRt _ _ _ _ (cell_later hW.1 D1.out)) hW) ?_
  refine @schain _ _ _ _ _ _ _ _ _ _ _ _ _ _ 34 (.int .u64 lv) (by rfl) (by rfl) (by kernel_rfl) (by rfl) (by exact fun s' W2 hW => srun_call (vs := #[.pointer (some ⟨m, 0, none⟩)]) (by rfl) (by kernel_rfl) (enters_of Try.func102 (by kernel_rfl) (by rfl)) ((HL2.out W2 hW.1).mono fun e W' ⟨he, hb⟩ => ⟨he, hW.later hb⟩)) ?_
  refine @schain _ _ _ _ _ _ _ _ _ _ _ _ _ _ 35 (.bool true) (by rfl) (by rfl) (by kernel_rfl) (by rfl) (by exact fun s' W2 hW => srun_bo (u := .int .u64 lv) (v := .int .u64 lv) (by rfl) (by exact eval_look (by kernel_rfl) (by kernel_rfl)) (by exact eval_look (by kernel_rfl) (by kernel_rfl)) (fun W => by first | go_simp | (cases fz <;> go_simp)) hW) ?_
  refine @schain _ _ _ _ _ _ _ _ _ _ _ _ _ _ 36 (.bool true) (by rfl) (by rfl) (by kernel_rfl) (by rfl) (by exact fun s' W2 hW => srun_pkT (by rfl) (by exact eval_look (by kernel_rfl) (by kernel_rfl)) (by exact eval_look (by kernel_rfl) (by kernel_rfl)) hW) ?_
  refine @schain _ _ _ _ _ _ _ _ _ _ _ _ _ _ 37 (.bool true) (by rfl) (by rfl) (by kernel_rfl) (by rfl) (by exact fun s' W2 hW => srun_mv (by rfl) (by exact eval_look (by kernel_rfl) (by kernel_rfl)) hW) ?_
  refine @schain _ _ _ _ _ _ _ _ _ _ _ _ _ _ 38 (.pointer (some ⟨w.heap.size, 0, none⟩)) (by rfl) (by rfl) (by kernel_rfl) (by rfl) (by exact fun s' W2 hW => srun_fa (p := .pointer (some ⟨w.heap.size, 0, none⟩)) (by rfl) (by exact eval_base (by kernel_rfl) (by rfl)) (fun W => by first | kernel_rfl | go_simp) hW) ?_
  refine @schain _ _ _ _ _ _ _ _ _ _ _ _ _ _ 39 (.pointer (some ⟨t, 0, none⟩)) (by rfl) (by rfl) (by kernel_rfl) (by rfl) (by exact fun s' W2 hW => srun_ld (by rfl) (by exact eval_look (by kernel_rfl) (by kernel_rfl)) (ldTp _ _ _ _ (cell_later hW.1 D0.out)) hW) ?_
  refine @schain _ _ _ _ _ _ _ _ _ _ _ _ _ _ 40 (.bool fz) (by rfl) (by rfl) (by kernel_rfl) (by rfl) (by exact fun s' W2 hW => srun_call (vs := #[.pointer (some ⟨t, 0, none⟩)]) (by rfl) (by kernel_rfl) (enters_of Try.func53 (by kernel_rfl) (by rfl)) ((HF1.out W2 hW.1).mono fun e W' ⟨he, hw⟩ => ⟨he, hw ▸ hW⟩)) ?_
  refine @schain _ _ _ _ _ _ _ _ _ _ _ _ _ _ 41 (.pointer (some ⟨w.heap.size, 1, none⟩)) (by rfl) (by rfl) (by kernel_rfl) (by rfl) (by exact fun s' W2 hW => srun_fa (p := .pointer (some ⟨w.heap.size, 0, none⟩)) (by rfl) (by exact eval_base (by kernel_rfl) (by rfl)) (fun W => by first | kernel_rfl | go_simp) hW) ?_
  refine @schain _ _ _ _ _ _ _ _ _ _ _ _ _ _ 42 (.pointer (some ⟨m, 0, none⟩)) (by rfl) (by rfl) (by kernel_rfl) (by rfl) (by exact fun s' W2 hW => srun_ld (by rfl) (by exact eval_look (by kernel_rfl) (by kernel_rfl)) (ldRt _ _ _ _ (cell_later hW.1 D1.out)) hW) ?_
  refine @schain _ _ _ _ _ _ _ _ _ _ _ _ _ _ 43 (.bool fz) (by rfl) (by rfl) (by kernel_rfl) (by rfl) (by exact fun s' W2 hW => srun_call (vs := #[.pointer (some ⟨m, 0, none⟩)]) (by rfl) (by kernel_rfl) (enters_of Try.func104 (by kernel_rfl) (by rfl)) ((HF2.out W2 hW.1).mono fun e W' ⟨he, hw⟩ => ⟨he, hw ▸ hW⟩)) ?_
  refine @schain _ _ _ _ _ _ _ _ _ _ _ _ _ _ 44 (.bool true) (by rfl) (by rfl) (by kernel_rfl) (by rfl) (by exact fun s' W2 hW => srun_bo (u := .bool fz) (v := .bool fz) (by rfl) (by exact eval_look (by kernel_rfl) (by kernel_rfl)) (by exact eval_look (by kernel_rfl) (by kernel_rfl)) (fun W => by first | go_simp | (cases fz <;> go_simp)) hW) ?_
  refine @schain _ _ _ _ _ _ _ _ _ _ _ _ _ _ 45 (.bool true) (by rfl) (by rfl) (by kernel_rfl) (by rfl) (by exact fun s' W2 hW => srun_pkT (by rfl) (by exact eval_look (by kernel_rfl) (by kernel_rfl)) (by exact eval_look (by kernel_rfl) (by kernel_rfl)) hW) ?_
  refine snil (fun W2 hW2 => ?_)
  refine Eq.mpr (congrArg (fun a => wpList _ _ _ _ a W2) (show _ = (⟨#[Value.agg #[Value.pointer (some ⟨t, 0, none⟩), Value.pointer (some ⟨m, 0, none⟩)], Value.pointer (some ⟨w.heap.size, 0, none⟩), Value.bool false, Value.pointer (some ⟨w.heap.size, 0, none⟩), Value.pointer (some ⟨t, 0, none⟩), fa, Value.pointer (some ⟨w.heap.size, 1, none⟩), Value.pointer (some ⟨m, 0, none⟩), Value.slice A1 Q.length c1, Value.bool true, Value.bool true, Value.pointer (some ⟨w.heap.size, 0, none⟩), Value.pointer (some ⟨t, 0, none⟩), fb, Value.pointer (some ⟨w.heap.size, 1, none⟩), Value.pointer (some ⟨m, 0, none⟩), Value.slice A2 P.length c2, Value.bool true, Value.bool true, Value.bool true, Value.pointer (some ⟨w.heap.size, 0, none⟩), Value.pointer (some ⟨t, 0, none⟩), Value.int IntKind.i64 wv, Value.pointer (some ⟨w.heap.size, 1, none⟩), Value.pointer (some ⟨m, 0, none⟩), Value.int IntKind.i64 wv, Value.bool true, Value.bool true, Value.bool true, Value.pointer (some ⟨w.heap.size, 0, none⟩), Value.pointer (some ⟨t, 0, none⟩), Value.int IntKind.u64 lv, Value.pointer (some ⟨w.heap.size, 1, none⟩), Value.pointer (some ⟨m, 0, none⟩), Value.int IntKind.u64 lv, Value.bool true, Value.bool true, Value.bool true, Value.pointer (some ⟨w.heap.size, 0, none⟩), Value.pointer (some ⟨t, 0, none⟩), Value.bool fz, Value.pointer (some ⟨w.heap.size, 1, none⟩), Value.pointer (some ⟨m, 0, none⟩), Value.bool fz, Value.bool true, Value.bool true], []⟩ : Act) by kernel_rfl)) ?_
  have HW := Lib.hid hW2.1
  clear hW2
  go_wp2
  go_ret
  exact ⟨by first | rfl | simp, HB2.out.trans (HW.out.mono HB2.out.size)⟩
end Go.Proofs.Ytjbbobhjomhnmaa.H
