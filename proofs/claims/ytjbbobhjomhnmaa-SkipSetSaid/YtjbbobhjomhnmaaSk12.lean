/- skip.List.Towers. Conditions: sizes. -/
import Derived.Test.YtjbbobhjomhnmaaSk11
import Derived.Test.YtjbbobhjomhnmaaRnd
namespace Go.Proofs.Ytjbbobhjomhnmaa.H
open Go Go.RowKit Go.Deep Go.Shelf Go.Proofs Go.Proofs.YtjbbobhjomhnmaaW.PrintWords
set_option linter.unusedVariables false
set_option linter.unusedSimpArgs false
attribute [local go_sem] Oper.semAt_some
theorem infoI : (Try.prog.info? 3).map (fun i => (i.zero, i.size, i.bytes)) = some (some (.int .i64 0), 1, 8) := by kernel_rfl
theorem uSlI : Try.prog.underlying 26 = some (.slice 3) := Try.underlying26
/-- A variable that holds a row of its own. -/
structure RowAt (n₀ b : Nat) (l : List Int) (T : Nat → Prop) (W : World) : Prop where
  o : ∃ v, W.heap[b]? = some (.cells #[v] 26 (0, 0)) ∧ Own encI 3 1 W n₀ v l ∧ (∀ k, v.ownBlock = some k → k ≠ b) ∧ ∀ k, T k ↔ k = b ∨ v.ownBlock = some k
  up : n₀ ≤ b
theorem row_foot (n₀ b : Nat) : Foot (RowAt n₀ b) := by
  refine ⟨fun {s T W k} h hk => ?_, fun {s T W W'} h hs => ?_⟩
  · obtain ⟨v, ho, hown, hv, hf⟩ := h.o
    rcases (hf k).1 hk with rfl | hk
    · exact blk_lt ho
    · exact (hown.block_lt hk).2
  · obtain ⟨v, ho, hown, hv, hf⟩ := h.o
    exact ⟨⟨v, (hs.block _ ((hf _).2 (.inl rfl))).trans ho, hown.move (fun k hk _ => hs.block k ((hf k).2 (.inr hk))), hv, hf⟩, h.up⟩
theorem ldIs (A : Option Addr) (n c : Nat) (b j : Nat) (W : World) (h : W.cell? ⟨b, j, none⟩ = some (.slice A n c)) : (Instr.loadAt 26 (.pointer (some ⟨b, j, none⟩))).run Try.prog W = .ok (.slice A n c) W := by
  go_simp
def highs (l : List Nd) : List Int := l.map (fun x => (x.high : Int))
set_option maxHeartbeats 1600000 in
set_option maxRecDepth 100000 in
theorem towers_c (g : Nat) (S : Nat → Prop) (l : List Nd) (draws : List Int) (w : World) (h : SkIs w g S l draws) (hl : l.length < 2932031007319) :
    Calls Try.prog 27 #[.pointer (some ⟨g, 0, none⟩)] w fun e w' => ∃ v, e = .returned v ∧ Own encI 3 1 w' w.heap.size v (highs l) ∧ Below w.heap.size w w' := by
  have HS := Lib.hid h
  clear h
  refine (callsIn_wide (n := 8)).1 ?_
  refine callsIn_of_wp_marks Try.func27 rfl trivial ?_ rfl
  simp only [Try.ntmps27, List.size_toArray, List.length_cons, List.length_nil, Nat.reduceAdd, Nat.reduceSub, Array.replicate_succ, Array.replicate_zero, List.push_toArray, List.append_toArray, List.nil_append, List.cons_append]
  gi_wp2_with (first | (refine ⟨trivial, ?_⟩; gi_at_call 81; refine (nodes_c Fence.wide _ trivial rfl _ _).mono ?_; rintro e w3 ⟨rfl, rfl⟩))
  obtain ⟨Wb, hWb⟩ : ∃ Wb, (w.alloc (.cells #[.slice none 0 0] 26)).alloc (.cells #[.pointer (some ⟨g, 0, none⟩)] 116) = Wb := ⟨_, rfl⟩
  have hwb : Below w.heap.size w Wb := by rw [← hWb]; exact ((Below.refl _ _).alloc (Nat.le_refl _) _).alloc (by simp) _
  have r3 : Wb.heap[w.heap.size]? = some (.cells #[.slice none 0 0] 26 (0, 0)) := by rw [← hWb]; exact blk_alloc (heap_alloc_new _ _) _
  have hbox : Wb.cell? ⟨w.heap.size + 1, 0, none⟩ = some (.pointer (some ⟨g, 0, none⟩)) := by rw [← hWb]; exact (blk_cell (by simpa using heap_alloc_new (w.alloc (.cells #[.slice none 0 0] 26)) (.cells #[.pointer (some ⟨g, 0, none⟩)] 116)) 0).trans rfl
  rw [hWb]
  have hle : w.heap.size ≤ Wb.heap.size := hwb.size
  have hch : ChainAt w.heap.size Wb g l := ChainAt.below hwb (HS.out.nodes.chain l [] rfl)
  refine rangeT (gf := 108) (lb := #[.pointer (some ⟨w.heap.size + 1, 0, none⟩)]) rfl (enters_of Try.func108 (by kernel_rfl) rfl) (encs := fun x : Nd => #[.pointer (some ⟨x.b, 0, none⟩)]) (n₀ := w.heap.size) (l := l)
    (fun W3 hb3 => nodes_it (w.heap.size + 1) w.heap.size g l W3 (Nat.le_trans hle hb3.size) (cell_later hb3 hbox) (hch.below (hb3.mono hle))) (fun _ => rfl)
    (fun p => RowAt w.heap.size w.heap.size (highs p)) (fun c p T W => False)
    (fun p x a' T W => RowAt w.heap.size w.heap.size (highs p) T W ∧ a' = { tmps := #[.pointer (some ⟨g, 0, none⟩), undef, .slice none 0 0, .pointer (some ⟨w.heap.size, 0, none⟩), .pointer (some ⟨x.b, 0, none⟩), .pointer (some ⟨g, 0, none⟩), .pointer (some ⟨g, 0, none⟩), .pointer (some ⟨g, 0, none⟩), .func (.func 108) #[] #[.pointer (some ⟨w.heap.size + 1, 0, none⟩)], .pointer (some ⟨x.b, 0, none⟩), undef, undef, undef, undef, undef, undef, undef, undef], defers := [] })
    (foot_map (row_foot _ _) highs) (fun c => ⟨fun h _ => h.elim, fun h _ => h.elim⟩) (fun p x => foot_act (foot_map (row_foot w.heap.size w.heap.size) highs) p _)
    (fun k => k = w.heap.size ∨ (Value.slice none 0 0).ownBlock = some k) (fun k hk => by rcases hk with rfl | hk; exact Nat.le_refl _; cases hk) hle ⟨⟨_, r3, Own.nil _ _ _ _ _, (fun k hk => by cases hk), fun k => Iff.rfl⟩, Nat.le_refl _⟩ ?assign ?body ?done ?stop
  case assign =>
    intro lp p x T1 W K ht hg hu hp hK
    gi_wp2
    exact hK _ _ _ (Grow.refl _ _) (Upd.refl _ _) ⟨ht, rfl⟩
  case body =>
    rintro lp p x a' T W ⟨ht, rfl⟩ hg hu hp
    obtain ⟨v, ho, hown, hv, hf⟩ := ht.o
    have hB : Below w.heap.size w W := hwb.trans (hu.bel (fun k hk => by rcases hk with rfl | hk; exact Nat.le_refl _; cases hk) hle)
    have hx4 : W.cell? ⟨x.b, 4, none⟩ = some (.int .i64 x.high) := by
      obtain ⟨a, c, hac⟩ := List.append_of_mem (prefix_mem hp)
      exact cell_later hB (HS.out.nodes.node a x c hac).2.1
    obtain ⟨A, c, rfl⟩ := own_slice hown
    obtain ⟨m, hm⟩ : ∃ m, (highs p).length = m := ⟨_, rfl⟩
    have hml : m < 2932031007319 := by have := hp.length_le; rw [← hm]; simp [highs] at this ⊢; omega
    obtain ⟨v1, w1, hrun, ho1, hg1, hat1⟩ := run_app (P := Try.prog) (ty := 26) (w := W.drew.alloc (.cells #[.int .i64 x.high] 3)) (base := w.heap.size) uSlI infoI rfl (by decide) (by decide) okI ((hown.below (Upd.bel (Upd.drew (S := fun _ => False) W) (fun _ h => h.elim) (Nat.le_refl _))).below ((Below.refl _ _).alloc (Nat.le_refl _) _)) (A := some ⟨W.heap.size, 0, none⟩) (c := 1) (l' := [(x.high : Int)]) (Sl.one okI W.drew (x.high : Int) 3 rfl) (by rw [hm]; simp; omega) (by have := hB.size; simp; omega)
    obtain ⟨A1, k1, rfl⟩ := own_slice ho1
    rw [hm] at hrun
    simp only [List.length_append, List.length_cons, List.length_nil, Nat.zero_add, hm] at ho1 hat1 hrun
    have c3 : W.cell? ⟨w.heap.size, 0, none⟩ = some (.slice A m c) := by rw [← hm]; exact (blk_cell ho 0).trans rfl
    have hnb : some w.heap.size ≠ (Value.slice A (highs p).length c).ownBlock := fun e => hv _ e.symm rfl
    have r3' := blk_grown (blk_alloc (w := W.drew) (show W.drew.heap[w.heap.size]? = _ from ho) (.cells #[.int .i64 x.high] 3)) hg1 hnb
    have d3 : w1.cell? ⟨w.heap.size, 0, none⟩ = some (.slice A m c) := by rw [← hm]; exact (blk_cell r3' 0).trans rfl
    have f3 : w1.frozen? ⟨w.heap.size, 0, none⟩ = false := blk_frozen r3' 0
    have hmx : Try.prog.follows .mixedOrders = true := by kernel_rfl
    gi_wp2
    obtain ⟨W1, hW1⟩ : ∃ W1, W.drew.alloc (.cells #[.int .i64 x.high] 3) = W1 := ⟨_, rfl⟩
    have e3 : ∀ s' W2, AtW [W.drew, W1, w1] s' W2 → W2.cell? ⟨w.heap.size, 0, none⟩ = some (.slice A m c) ∧ W2.cell? ⟨x.b, 4, none⟩ = some (.int .i64 x.high) := by
      have hxb : x.b < w.heap.size := by
        obtain ⟨a, c, hac⟩ := List.append_of_mem (prefix_mem hp)
        exact World.block_lt_of_cell? w _ (HS.out.nodes.node a x c hac).2.1
      have z1 : W1.cell? ⟨w.heap.size, 0, none⟩ = some (.slice A m c) ∧ W1.cell? ⟨x.b, 4, none⟩ = some (.int .i64 x.high) := by
        rw [← hW1]
        exact ⟨cell_later ((Below.refl _ _).alloc (Nat.le_refl _) _) (show W.drew.cell? _ = _ from c3), cell_later ((Below.refl _ _).alloc (Nat.le_refl _) _) (show W.drew.cell? _ = _ from hx4)⟩
      rintro s' W2 hW
      match s', hW with
      | 0, hW => cases hW; exact ⟨c3, hx4⟩
      | 1, hW => cases hW; exact z1
      | 2, hW =>
        cases hW
        refine ⟨d3, ?_⟩
        refine (Upd.of_grown (S := fun k => w.heap.size ≤ k) hg1 (fun k hk => (hown.block_lt hk).1)).cell (p := ⟨x.b, 4, none⟩) (by rw [hW1]; exact z1.2) (by show ¬ w.heap.size ≤ x.b; omega)
    refine wpIn_region_rnd hmx (by kernel_rfl) (no_letsOut fun a w h => h) (wpAny_region_step (AtW [W.drew, W1, w1]) (· ≤ ·) Nat.le_refl (fun _ _ _ => Nat.le_trans) 0 [1, 0, 0, 0, 1, 2, 2] [undef, .pointer (some ⟨x.b, 0, none⟩), .pointer (some ⟨x.b, 0, none⟩), .pointer (some ⟨x.b, 4, none⟩), undef, undef, undef] 7 (by kernel_rfl) rfl ?_)
    simp only [List.take_succ_cons, List.take_zero, List.drop_succ_cons, List.drop_zero]
    refine schain0 ?_
    refine @schain1 _ _ _ _ _ _ _ _ _ _ _ _ _ _ 10 (.slice A m c) (by rfl) (by kernel_rfl) (by rfl) (by exact fun s' hs W2 hW => srun_ld (u := .pointer (some ⟨w.heap.size, 0, none⟩)) (by rfl) (by exact eval_base (by kernel_rfl) (by rfl)) (ldIs _ _ _ _ _ _ (e3 _ _ hW).1) hW) ?_
    refine @schain _ _ _ _ _ _ _ _ _ _ _ _ _ _ 11 (.pointer (some ⟨x.b, 0, none⟩)) (by rfl) (by rfl) (by kernel_rfl) (by rfl) (by exact fun s' W2 hW => srun_mv (by rfl) (by exact eval_base (by kernel_rfl) (by rfl)) hW) ?_
    refine @schain _ _ _ _ _ _ _ _ _ _ _ _ _ _ 12 (.pointer (some ⟨x.b, 0, none⟩)) (by rfl) (by rfl) (by kernel_rfl) (by rfl) (by exact fun s' W2 hW => srun_nc (by rfl) (by exact eval_look (by kernel_rfl) (by kernel_rfl)) hW) ?_
    refine @schain _ _ _ _ _ _ _ _ _ _ _ _ _ _ 13 (.pointer (some ⟨x.b, 4, none⟩)) (by rfl) (by rfl) (by kernel_rfl) (by rfl) (by exact fun s' W2 hW => srun_fa (p := .pointer (some ⟨x.b, 0, none⟩)) (by rfl) (by exact eval_look (by kernel_rfl) (by kernel_rfl)) (fun W => by first | kernel_rfl | go_simp) hW) ?_
    refine @schain1 _ _ _ _ _ _ _ _ _ _ _ _ _ _ 14 (.int .i64 x.high) (by rfl) (by kernel_rfl) (by rfl) (by exact fun s' hs W2 hW => srun_ld (u := .pointer (some ⟨x.b, 4, none⟩)) (by rfl) (by exact eval_look (by kernel_rfl) (by kernel_rfl)) (ldI _ _ _ _ (e3 _ _ hW).2) hW) ?_
    refine @schainW _ _ _ _ _ _ _ _ _ _ _ _ _ _ 15 (.slice (some ⟨W.heap.size, 0, none⟩) 1 1) 1 (by rfl) (by kernel_rfl) (by rfl) (by decide) (by exact fun W2 hW => by cases hW; exact srun_bsW (W' := W1) (vs := #[(0, .int .i64 x.high)]) (by rfl) (by kernel_rfl) (by rw [← hW1]; go_simp) rfl) ?_
    refine @schainW _ _ _ _ _ _ _ _ _ _ _ _ _ _ 16 (.slice A1 (m + 1) k1) 2 (by rfl) (by kernel_rfl) (by rfl) (by decide) (by exact fun W2 hW => by cases hW; exact srun_apW (by rfl) (by exact eval_look (by kernel_rfl) (by kernel_rfl)) (by exact eval_look (by kernel_rfl) (by kernel_rfl)) (hW1 ▸ hrun) rfl) ?_
    refine snil (fun W2 hW2 => ?_)
    cases hW2
    refine Eq.mpr (congrArg (fun a => wpList _ _ _ _ a w1) (show _ = (⟨#[.pointer (some ⟨g, 0, none⟩), undef, .slice none 0 0, .pointer (some ⟨w.heap.size, 0, none⟩), .pointer (some ⟨x.b, 0, none⟩), .pointer (some ⟨g, 0, none⟩), .pointer (some ⟨g, 0, none⟩), .pointer (some ⟨g, 0, none⟩), .func (.func 108) #[] #[.pointer (some ⟨w.heap.size + 1, 0, none⟩)], .pointer (some ⟨x.b, 0, none⟩), .slice A m c, .pointer (some ⟨x.b, 0, none⟩), .pointer (some ⟨x.b, 0, none⟩), .pointer (some ⟨x.b, 4, none⟩), .int .i64 x.high, .slice (some ⟨W.heap.size, 0, none⟩) 1 1, .slice A1 (m + 1) k1, undef], []⟩ : Act) by kernel_rfl)) ?_
    have HO1 := Lib.hid ho1
    go_wp2
    have hTb : T w.heap.size := (hf _).2 (.inl rfl)
    have hv1 : ∀ k, (Value.slice A1 (m + 1) k1).ownBlock = some k → T k ∨ W.heap.size ≤ k := fun k hk => by
      rcases hat1 with h | h
      · exact .inl ((hf _).2 (.inr (by rw [hm, ← h]; exact hk)))
      · rw [h] at hk
        injection hk with hk
        rw [World.size_alloc] at hk
        exact .inr (by rw [← hk]; show W.heap.size ≤ W.heap.size + 1; omega)
    have hlt : w.heap.size < W.heap.size := blk_lt ho
    have hv2 : ∀ k, (Value.slice A1 (m + 1) k1).ownBlock = some k → k ≠ w.heap.size := fun k hk => by
      rcases hat1 with h | h
      · exact hv k (by rw [hm, ← h]; exact hk)
      · rw [h] at hk
        injection hk with hk
        rw [World.size_alloc] at hk
        intro e
        have : W.drew.heap.size = W.heap.size := rfl
        omega
    refine ⟨fun k => k = w.heap.size ∨ (Value.slice A1 (m + 1) k1).ownBlock = some k, fun k hk => ?_, (((Upd.drew W).trans (Upd.alloc _ _)).trans (Upd.of_grown hg1 (fun k hk => (hf _).2 (.inr hk)))).trans (Upd.setCell _ _ _ hTb), ⟨_, blk_set r3' 0 _, ?_, hv2, fun k => Iff.rfl⟩, Nat.le_refl _⟩
    · rcases hk with rfl | hk
      · exact .inl hTb
      · exact hv1 k hk
    · rw [show highs (p ++ [x]) = highs p ++ [(x.high : Int)] by simp [highs]]
      exact HO1.out.upd (Upd.setCell (S := fun k => k = w.heap.size) _ _ _ rfl) (fun k hk => hv2 k hk)
  case done =>
    rintro D T W hD hnD hg hu ht hK
    obtain ⟨v, ho, hown, hv, hf⟩ := ht.o
    obtain ⟨A, c, rfl⟩ := own_slice hown
    obtain ⟨m, hm⟩ : ∃ m, (highs l).length = m := ⟨_, rfl⟩
    have c3 : W.cell? ⟨w.heap.size, 0, none⟩ = some (.slice A m c) := by rw [← hm]; exact (blk_cell ho 0).trans rfl
    have HO := Lib.hid hown
    rw [hm] at HO
    gi_wp2
    refine ⟨by simp, .inl ⟨_, _, rfl, run_takeDeferred hK, ?_⟩⟩
    refine ⟨_, results_tmp rfl _ _ _, _, rfl, HO.out.move (fun k hk _ => World.putObj_heap_other (by rintro rfl; exact hnD ((hf _).2 (.inr (by rw [hm]; exact hk))))), ?_⟩
    exact hwb.trans ((hu.step (upd_putObj (S := fun k => k = D) _ _ rfl) (fun k hk => .inr (by omega))).bel (fun k hk => by rcases hk with rfl | hk; exact Nat.le_refl _; cases hk) (by omega))
  case stop =>
    rintro D c p T W hD hnD hg hu hp ht hK
    exact ht.elim
end Go.Proofs.Ytjbbobhjomhnmaa.H
