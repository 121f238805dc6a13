/- skip.List.Towers. Conditions: sizes. | skip.List as a list of entries and heights: the calls' contracts. Conditions: sizes. | The laws' helpers: ahead, sameEntries, sameInts. Conditions: sizes. | made: a list of entries that were put in, and which of them were taken. Conditions: sizes. | known: the chapter's first example. No conditions. | Plain laws of made: what is in the list, and in which order. No conditions. -/
import Derived.Test.YtjbbobhjomhnmaaSkD
import Derived.Test.YtjbbobhjomhnmaaSkE
import Derived.StillTailTactics
namespace Go.Proofs.Ytjbbobhjomhnmaa.H
open Go Go.RowKit Go.Deep Go.Shelf Go.Proofs Go.Proofs.YtjbbobhjomhnmaaW.PrintWords
set_option linter.unusedVariables false
set_option linter.unusedSimpArgs false
attribute [local go_sem] Oper.semAt_some
theorem infoI : (Try.prog.info? 3).map (fun i => (i.zero, i.size, i.bytes)) = some (some (.int .i64 0), 1, 8) := by kernel_rfl
theorem uSlI : Try.prog.underlying 26 = some (.slice 3) := Try.underlying26
/-- A variable that holds a row of its own. -/
structure RowAt (n₀ b : Nat) (l : List Int) (T : Nat → Prop) (W : World) : Prop where
  o : ∃ v, W.heap[b]? = some (.cells #[v] 26 (0, 0)) ∧ Own encI 3 1 W n₀ v l ∧ (∀ k, v.ownBlock = some k → k ≠ b) ∧ ∀ k, T k ↔ k = b ∨ v.ownBlock = some k
  up : n₀ ≤ b
theorem row_foot (n₀ b : Nat) : Foot (RowAt n₀ b) := by
  refine ⟨fun {s T W k} h hk => ?_, fun {s T W W'} h hs => ?_⟩
  · obtain ⟨v, ho, hown, hv, hf⟩ := h.o
    rcases (hf k).1 hk with rfl | hk
    · exact blk_lt ho
    · exact (hown.block_lt hk).2
  · obtain ⟨v, ho, hown, hv, hf⟩ := h.o
    exact ⟨⟨v, (hs.block _ ((hf _).2 (.inl rfl))).trans ho, hown.move (fun k hk _ => hs.block k ((hf k).2 (.inr hk))), hv, hf⟩, h.up⟩
theorem ldIs (A : Option Addr) (n c : Nat) (b j : Nat) (W : World) (h : W.cell? ⟨b, j, none⟩ = some (.slice A n c)) : (Instr.loadAt 26 (.pointer (some ⟨b, j, none⟩))).run Try.prog W = .ok (.slice A n c) W := by
  go_simp
def highs (l : List Nd) : List Int := l.map (fun x => (x.high : Int))
set_option maxHeartbeats 1600000 in
set_option maxRecDepth 100000 in
theorem towers_c (g : Nat) (S : Nat → Prop) (l : List Nd) (draws : List Int) (w : World) (h : SkIs w g S l draws) (hl : l.length < 2932031007319) :
    Calls Try.prog 27 #[.pointer (some ⟨g, 0, none⟩)] w fun e w' => ∃ v, e = .returned v ∧ Own encI 3 1 w' w.heap.size v (highs l) ∧ Below w.heap.size w w' := by
  have HS := Lib.hid h
  clear h
  refine (callsIn_wide (n := 8)).1 ?_
  refine callsIn_of_wp_marks Try.func27 rfl trivial ?_ rfl
  simp only [Try.ntmps27, List.size_toArray, List.length_cons, List.length_nil, Nat.reduceAdd, Nat.reduceSub, Array.replicate_succ, Array.replicate_zero, List.push_toArray, List.append_toArray, List.nil_append, List.cons_append]
  gi_wp2_with (first | (refine ⟨trivial, ?_⟩; gi_at_call 81; refine (nodes_c Fence.wide _ trivial rfl _ _).mono ?_; rintro e w3 ⟨rfl, rfl⟩))
  obtain ⟨Wb, hWb⟩ : ∃ Wb, (w.alloc (.cells #[.slice none 0 0] 26)).alloc (.cells #[.pointer (some ⟨g, 0, none⟩)] 116) = Wb := ⟨_, rfl⟩
  have hwb : Below w.heap.size w Wb := by rw [← hWb]; exact ((Below.refl _ _).alloc (Nat.le_refl _) _).alloc (by simp) _
  have r3 : Wb.heap[w.heap.size]? = some (.cells #[.slice none 0 0] 26 (0, 0)) := by rw [← hWb]; exact blk_alloc (heap_alloc_new _ _) _
  have hbox : Wb.cell? ⟨w.heap.size + 1, 0, none⟩ = some (.pointer (some ⟨g, 0, none⟩)) := by rw [← hWb]; exact (blk_cell (by simpa using heap_alloc_new (w.alloc (.cells #[.slice none 0 0] 26)) (.cells #[.pointer (some ⟨g, 0, none⟩)] 116)) 0).trans rfl
  rw [hWb]
  have hle : w.heap.size ≤ Wb.heap.size := hwb.size
  have hch : ChainAt w.heap.size Wb g l := ChainAt.below hwb (HS.out.nodes.chain l [] rfl)
  refine rangeT (gf := 108) (lb := #[.pointer (some ⟨w.heap.size + 1, 0, none⟩)]) rfl (enters_of Try.func108 (by kernel_rfl) rfl) (encs := fun x : Nd => #[.pointer (some ⟨x.b, 0, none⟩)]) (n₀ := w.heap.size) (l := l)
    (fun W3 hb3 => nodes_it (w.heap.size + 1) w.heap.size g l W3 (Nat.le_trans hle hb3.size) (cell_later hb3 hbox) (hch.below (hb3.mono hle))) (fun _ => rfl)
    (fun p => RowAt w.heap.size w.heap.size (highs p)) (fun c p T W => False)
    (fun p x a' T W => RowAt w.heap.size w.heap.size (highs p) T W ∧ a' = { tmps := #[.pointer (some ⟨g, 0, none⟩), undef, .slice none 0 0, .pointer (some ⟨w.heap.size, 0, none⟩), .pointer (some ⟨x.b, 0, none⟩), .pointer (some ⟨g, 0, none⟩), .pointer (some ⟨g, 0, none⟩), .pointer (some ⟨g, 0, none⟩), .func (.func 108) #[] #[.pointer (some ⟨w.heap.size + 1, 0, none⟩)], .pointer (some ⟨x.b, 0, none⟩), undef, undef, undef, undef, undef, undef, undef, undef], defers := [] })
    (foot_map (row_foot _ _) highs) (fun c => ⟨fun h _ => h.elim, fun h _ => h.elim⟩) (fun p x => foot_act (foot_map (row_foot w.heap.size w.heap.size) highs) p _)
    (fun k => k = w.heap.size ∨ (Value.slice none 0 0).ownBlock = some k) (fun k hk => by rcases hk with rfl | hk; exact Nat.le_refl _; cases hk) hle ⟨⟨_, r3, Own.nil _ _ _ _ _, (fun k hk => by cases hk), fun k => Iff.rfl⟩, Nat.le_refl _⟩ ?assign ?body ?done ?stop
  case assign =>
    intro lp p x T1 W K ht hg hu hp hK
    gi_wp2
    exact hK _ _ _ (Grow.refl _ _) (Upd.refl _ _) ⟨ht, rfl⟩
  case body =>
    rintro lp p x a' T W ⟨ht, rfl⟩ hg hu hp
    obtain ⟨v, ho, hown, hv, hf⟩ := ht.o
    have hB : Below w.heap.size w W := hwb.trans (hu.bel (fun k hk => by rcases hk with rfl | hk; exact Nat.le_refl _; cases hk) hle)
    have hx4 : W.cell? ⟨x.b, 4, none⟩ = some (.int .i64 x.high) := by
      obtain ⟨a, c, hac⟩ := List.append_of_mem (prefix_mem hp)
      exact cell_later hB (HS.out.nodes.node a x c hac).2.1
    obtain ⟨A, c, rfl⟩ := own_slice hown
    obtain ⟨m, hm⟩ : ∃ m, (highs p).length = m := ⟨_, rfl⟩
    have hml : m < 2932031007319 := by have := hp.length_le; rw [← hm]; simp [highs] at this ⊢; omega
    obtain ⟨v1, w1, hrun, ho1, hg1, hat1⟩ := run_app (P := Try.prog) (ty := 26) (w := W.drew.alloc (.cells #[.int .i64 x.high] 3)) (base := w.heap.size) uSlI infoI rfl (by decide) (by decide) okI ((hown.below (Upd.bel (Upd.drew (S := fun _ => False) W) (fun _ h => h.elim) (Nat.le_refl _))).below ((Below.refl _ _).alloc (Nat.le_refl _) _)) (A := some ⟨W.heap.size, 0, none⟩) (c := 1) (l' := [(x.high : Int)]) (Sl.one okI W.drew (x.high : Int) 3 rfl) (by rw [hm]; simp; omega) (by have := hB.size; simp; omega)
    obtain ⟨A1, k1, rfl⟩ := own_slice ho1
    rw [hm] at hrun
    simp only [List.length_append, List.length_cons, List.length_nil, Nat.zero_add, hm] at ho1 hat1 hrun
    have c3 : W.cell? ⟨w.heap.size, 0, none⟩ = some (.slice A m c) := by rw [← hm]; exact (blk_cell ho 0).trans rfl
    have hnb : some w.heap.size ≠ (Value.slice A (highs p).length c).ownBlock := fun e => hv _ e.symm rfl
    have r3' := blk_grown (blk_alloc (w := W.drew) (show W.drew.heap[w.heap.size]? = _ from ho) (.cells #[.int .i64 x.high] 3)) hg1 hnb
    have d3 : w1.cell? ⟨w.heap.size, 0, none⟩ = some (.slice A m c) := by rw [← hm]; exact (blk_cell r3' 0).trans rfl
    have f3 : w1.frozen? ⟨w.heap.size, 0, none⟩ = false := blk_frozen r3' 0
    have hmx : Try.prog.follows .mixedOrders = true := by kernel_rfl
    gi_wp2
    obtain ⟨W1, hW1⟩ : ∃ W1, W.drew.alloc (.cells #[.int .i64 x.high] 3) = W1 := ⟨_, rfl⟩
    have e3 : ∀ s' W2, AtW [W.drew, W1, w1] s' W2 → W2.cell? ⟨w.heap.size, 0, none⟩ = some (.slice A m c) ∧ W2.cell? ⟨x.b, 4, none⟩ = some (.int .i64 x.high) := by
      have hxb : x.b < w.heap.size := by
        obtain ⟨a, c, hac⟩ := List.append_of_mem (prefix_mem hp)
        exact World.block_lt_of_cell? w _ (HS.out.nodes.node a x c hac).2.1
      have z1 : W1.cell? ⟨w.heap.size, 0, none⟩ = some (.slice A m c) ∧ W1.cell? ⟨x.b, 4, none⟩ = some (.int .i64 x.high) := by
        rw [← hW1]
        exact ⟨cell_later ((Below.refl _ _).alloc (Nat.le_refl _) _) (show W.drew.cell? _ = _ from c3), cell_later ((Below.refl _ _).alloc (Nat.le_refl _) _) (show W.drew.cell? _ = _ from hx4)⟩
      rintro s' W2 hW
      match s', hW with
      | 0, hW => cases hW; exact ⟨c3, hx4⟩
      | 1, hW => cases hW; exact z1
      | 2, hW =>
        cases hW
        refine ⟨d3, ?_⟩
        refine (Upd.of_grown (S := fun k => w.heap.size ≤ k) hg1 (fun k hk => (hown.block_lt hk).1)).cell (p := ⟨x.b, 4, none⟩) (by rw [hW1]; exact z1.2) (by show ¬ w.heap.size ≤ x.b; omega)
    refine wpIn_region_rnd hmx (by kernel_rfl) (no_letsOut fun a w h => h) (wpAny_region_step (AtW [W.drew, W1, w1]) (· ≤ ·) Nat.le_refl (fun _ _ _ => Nat.le_trans) 0 [1, 0, 0, 0, 1, 2, 2] [undef, .pointer (some ⟨x.b, 0, none⟩), .pointer (some ⟨x.b, 0, none⟩), .pointer (some ⟨x.b, 4, none⟩), undef, undef, undef] 7 (by kernel_rfl) rfl ?_)
    simp only [List.take_succ_cons, List.take_zero, List.drop_succ_cons, List.drop_zero]
    refine schain0 ?_
    refine @schain1 _ _ _ _ _ _ _ _ _ _ _ _ _ _ 10 (.slice A m c) (by rfl) (by kernel_rfl) (by rfl) (by exact fun s' hs W2 hW => srun_ld (u := .pointer (some ⟨w.heap.size, 0, none⟩)) (by rfl) (by exact eval_base (by kernel_rfl) (by rfl)) (ldIs _ _ _ _ _ _ (e3 _ _ hW).1) hW) ?_
    refine @schain _ _ _ _ _ _ _ _ _ _ _ _ _ _ 11 (.pointer (some ⟨x.b, 0, none⟩)) (by rfl) (by rfl) (by kernel_rfl) (by rfl) (by exact fun s' W2 hW => srun_mv (by rfl) (by exact eval_base (by kernel_rfl) (by rfl)) hW) ?_
    refine @schain _ _ _ _ _ _ _ _ _ _ _ _ _ _ 12 (.pointer (some ⟨x.b, 0, none⟩)) (by rfl) (by rfl) (by kernel_rfl) (by rfl) (by exact fun s' W2 hW => srun_nc (by rfl) (by exact eval_look (by kernel_rfl) (by kernel_rfl)) hW) ?_
    refine @schain _ _ _ _ _ _ _ _ _ _ _ _ _ _ 13 (.pointer (some ⟨x.b, 4, none⟩)) (by rfl) (by rfl) (by kernel_rfl) (by rfl) (by exact fun s' W2 hW => srun_fa (p := .pointer (some ⟨x.b, 0, none⟩)) (by rfl) (by exact eval_look (by kernel_rfl) (by kernel_rfl)) (fun W => by first | kernel_rfl | go_simp) hW) ?_
    refine @schain1 _ _ _ _ _ _ _ _ _ _ _ _ _ _ 14 (.int .i64 x.high) (by rfl) (by kernel_rfl) (by rfl) (by exact fun s' hs W2 hW => srun_ld (u := .pointer (some ⟨x.b, 4, none⟩)) (by rfl) (by exact eval_look (by kernel_rfl) (by kernel_rfl)) (ldI _ _ _ _ (e3 _ _ hW).2) hW) ?_
    refine @schainW _ _ _ _ _ _ _ _ _ _ _ _ _ _ 15 (.slice (some ⟨W.heap.size, 0, none⟩) 1 1) 1 (by rfl) (by kernel_rfl) (by rfl) (by decide) (by exact fun W2 hW => by cases hW; exact srun_bsW (W' := W1) (vs := #[(0, .int .i64 x.high)]) (by rfl) (by kernel_rfl) (by rw [← hW1]; go_simp) rfl) ?_
    refine @schainW _ _ _ _ _ _ _ _ _ _ _ _ _ _ 16 (.slice A1 (m + 1) k1) 2 (by rfl) (by kernel_rfl) (by rfl) (by decide) (by exact fun W2 hW => by cases hW; exact srun_apW (by rfl) (by exact eval_look (by kernel_rfl) (by kernel_rfl)) (by exact eval_look (by kernel_rfl) (by kernel_rfl)) (hW1 ▸ hrun) rfl) ?_
    refine snil (fun W2 hW2 => ?_)
    cases hW2
    refine Eq.mpr (congrArg (fun a => wpList _ _ _ _ a w1) (show _ = (⟨#[.pointer (some ⟨g, 0, none⟩), undef, .slice none 0 0, .pointer (some ⟨w.heap.size, 0, none⟩), .pointer (some ⟨x.b, 0, none⟩), .pointer (some ⟨g, 0, none⟩), .pointer (some ⟨g, 0, none⟩), .pointer (some ⟨g, 0, none⟩), .func (.func 108) #[] #[.pointer (some ⟨w.heap.size + 1, 0, none⟩)], .pointer (some ⟨x.b, 0, none⟩), .slice A m c, .pointer (some ⟨x.b, 0, none⟩), .pointer (some ⟨x.b, 0, none⟩), .pointer (some ⟨x.b, 4, none⟩), .int .i64 x.high, .slice (some ⟨W.heap.size, 0, none⟩) 1 1, .slice A1 (m + 1) k1, undef], []⟩ : Act) by kernel_rfl)) ?_
    have HO1 := Lib.hid ho1
    go_wp2
    have hTb : T w.heap.size := (hf _).2 (.inl rfl)
    have hv1 : ∀ k, (Value.slice A1 (m + 1) k1).ownBlock = some k → T k ∨ W.heap.size ≤ k := fun k hk => by
      rcases hat1 with h | h
      · exact .inl ((hf _).2 (.inr (by rw [hm, ← h]; exact hk)))
      · rw [h] at hk
        injection hk with hk
        rw [World.size_alloc] at hk
        exact .inr (by rw [← hk]; show W.heap.size ≤ W.heap.size + 1; omega)
    have hlt : w.heap.size < W.heap.size := blk_lt ho
    have hv2 : ∀ k, (Value.slice A1 (m + 1) k1).ownBlock = some k → k ≠ w.heap.size := fun k hk => by
      rcases hat1 with h | h
      · exact hv k (by rw [hm, ← h]; exact hk)
      · rw [h] at hk
        injection hk with hk
        rw [World.size_alloc] at hk
        intro e
        have : W.drew.heap.size = W.heap.size := rfl
        omega
    refine ⟨fun k => k = w.heap.size ∨ (Value.slice A1 (m + 1) k1).ownBlock = some k, fun k hk => ?_, (((Upd.drew W).trans (Upd.alloc _ _)).trans (Upd.of_grown hg1 (fun k hk => (hf _).2 (.inr hk)))).trans (Upd.setCell _ _ _ hTb), ⟨_, blk_set r3' 0 _, ?_, hv2, fun k => Iff.rfl⟩, Nat.le_refl _⟩
    · rcases hk with rfl | hk
      · exact .inl hTb
      · exact hv1 k hk
    · rw [show highs (p ++ [x]) = highs p ++ [(x.high : Int)] by simp [highs]]
      exact HO1.out.upd (Upd.setCell (S := fun k => k = w.heap.size) _ _ _ rfl) (fun k hk => hv2 k hk)
  case done =>
    rintro D T W hD hnD hg hu ht hK
    obtain ⟨v, ho, hown, hv, hf⟩ := ht.o
    obtain ⟨A, c, rfl⟩ := own_slice hown
    obtain ⟨m, hm⟩ : ∃ m, (highs l).length = m := ⟨_, rfl⟩
    have c3 : W.cell? ⟨w.heap.size, 0, none⟩ = some (.slice A m c) := by rw [← hm]; exact (blk_cell ho 0).trans rfl
    have HO := Lib.hid hown
    rw [hm] at HO
    gi_wp2
    refine ⟨by simp, .inl ⟨_, _, rfl, run_takeDeferred hK, ?_⟩⟩
    refine ⟨_, results_tmp rfl _ _ _, _, rfl, HO.out.move (fun k hk _ => World.putObj_heap_other (by rintro rfl; exact hnD ((hf _).2 (.inr (by rw [hm]; exact hk))))), ?_⟩
    exact hwb.trans ((hu.step (upd_putObj (S := fun k => k = D) _ _ rfl) (fun k hk => .inr (by omega))).bel (fun k hk => by rcases hk with rfl | hk; exact Nat.le_refl _; cases hk) (by omega))
  case stop =>
    rintro D c p T W hD hnD hg hu hp ht hK
    exact ht.elim
end Go.Proofs.Ytjbbobhjomhnmaa.H
namespace Go.Proofs.Ytjbbobhjomhnmaa.H
open Go Go.RowKit Go.Deep Go.Shelf Go.Proofs Go.Proofs.YtjbbobhjomhnmaaW.PrintWords
set_option linter.unusedVariables false
set_option linter.unusedSimpArgs false
abbrev EH := Ent × Nat
def hasL (L : List EH) (e : Ent) : Bool := L.any (fun y => decide (cmpEE y.1 e = 0))
def insL (L : List EH) (x : EH) : List EH := L.filter (fun y => decide (ltE y.1 x.1)) ++ x :: L.filter (fun y => !decide (ltE y.1 x.1))
def putS (draws : List Int) (L : List EH) (e : Ent) : List EH := if hasL L e = true then L else insL L (e, hgt draws L.length)
def ehs (l : List Nd) : List EH := l.map (fun x => (x.e, x.high))
theorem ehs_len (l : List Nd) : (ehs l).length = l.length := by simp [ehs]
/-- The list at g. -/
def SkL (w : World) (g : Nat) (S : Nat → Prop) (draws : List Int) (L : List EH) : Prop := ∃ l, SkIs w g S l draws ∧ ehs l = L ∧ ∀ k, S k → k < w.heap.size
theorem SkIs.upd {w w' : World} {g : Nat} {S T : Nat → Prop} {l : List Nd} {draws : List Int} (h : SkIs w g S l draws) (hu : Upd T w w') (hT : ∀ k, S k → ¬ T k) : SkIs w' g S l draws := by
  obtain ⟨cs, A, c, hr, h17, h18, hs, hd⟩ := h.row
  have hg : w'.heap[g]? = w.heap[g]? := hu.block g (blk_lt hr) (hT g h.own.1)
  have hx : ∀ x ∈ l, w'.heap[x.b]? = w.heap[x.b]? := fun x hx => by
    obtain ⟨cs, hc⟩ := h.rows x hx
    exact hu.block _ (blk_lt hc) (hT _ (h.own.2 x hx))
  have mv : ∀ {b o : Nat} {v : Value}, w'.heap[b]? = w.heap[b]? → w.cell? ⟨b, o, none⟩ = some v → w'.cell? ⟨b, o, none⟩ = some v := fun {b o v} hb hv => (World.cell?_of_block (w := w) (a := ⟨b, o, none⟩) hb).trans hv
  refine ⟨⟨fun k hk => mv hg (h.nodes.head k hk), fun a x c hl => ?_⟩, h.order, ⟨cs, A, c, hg.trans hr, h17, h18, ?_, hd⟩, fun x hx' => by obtain ⟨cs, hc⟩ := h.rows x hx'; exact ⟨cs, (hx x hx').trans hc⟩, h.apart, h.own, h.bytes⟩
  · obtain ⟨h1, h2, h3, h4, h5⟩ := h.nodes.node a x c hl
    have hxm := hx x (by rw [hl]; simp)
    exact ⟨fun i v hv => mv hxm (h1 i v hv), mv hxm h2, h3, h4, fun k hk => mv hxm (h5 k hk)⟩
  · rcases Classical.em (draws = []) with rfl | hne
    · exact Sl.nil _ _ _ _
    · exact hs.upd hu (fun b o hA => hT b (hd b o hne hA).1)
theorem SkL.upd {w w' : World} {g : Nat} {S T : Nat → Prop} {draws : List Int} {L : List EH} (h : SkL w g S draws L) (hu : Upd T w w') (hT : ∀ k, S k → ¬ T k) : SkL w' g S draws L := by
  obtain ⟨l, h1, h2, h3⟩ := h
  exact ⟨l, h1.upd hu hT, h2, fun k hk => Nat.lt_of_lt_of_le (h3 k hk) hu.size⟩
theorem SkL.later {w w' : World} {g : Nat} {S : Nat → Prop} {draws : List Int} {L : List EH} (h : SkL w g S draws L) (hb : Below w.heap.size w w') : SkL w' g S draws L := by
  obtain ⟨l, h1, h2, h3⟩ := h
  exact ⟨l, h1.later hb, h2, fun k hk => Nat.lt_of_lt_of_le (h3 k hk) hb.size⟩
theorem SkL.drew {w : World} {g : Nat} {S : Nat → Prop} {draws : List Int} {L : List EH} (h : SkL w g S draws L) : SkL w.drew g S draws L := h.upd (Upd.drew (S := fun _ => False) w) (fun _ _ h => h)
theorem SkL.g_lt {w : World} {g : Nat} {S : Nat → Prop} {draws : List Int} {L : List EH} (h : SkL w g S draws L) : g < w.heap.size := by
  obtain ⟨l, h1, h2, h3⟩ := h
  exact h1.lt.1
theorem SkL.lt {w : World} {g : Nat} {S : Nat → Prop} {draws : List Int} {L : List EH} (h : SkL w g S draws L) : ∀ k, S k → k < w.heap.size := by
  obtain ⟨l, h1, h2, h3⟩ := h
  exact h3
theorem SkL.sorted {w : World} {g : Nat} {S : Nat → Prop} {draws : List Int} {L : List EH} (h : SkL w g S draws L) : L.Pairwise (fun x y => ltE x.1 y.1) := by
  obtain ⟨l, h1, rfl, _⟩ := h
  exact List.pairwise_map.2 h1.order
theorem ehs_fst (l : List Nd) : (ehs l).map (·.1) = l.map (·.e) := by simp [ehs]
theorem insL_split {pre post : List Nd} {e : Ent} {h : Nat} (h1 : ∀ x ∈ pre, ltE x.e e) (h2 : ∀ x ∈ post, ¬ ltE x.e e) : insL (ehs (pre ++ post)) (e, h) = ehs pre ++ (e, h) :: ehs post := by
  unfold insL ehs
  rw [List.map_append, List.filter_append, List.filter_append]
  rw [List.filter_eq_self.2 (show ∀ a ∈ pre.map (fun x => (x.e, x.high)), decide (ltE a.1 e) = true from fun a ha => by obtain ⟨x, hx, rfl⟩ := List.mem_map.1 ha; simpa using h1 x hx),
    List.filter_eq_nil_iff.2 (show ∀ a ∈ post.map (fun x => (x.e, x.high)), ¬ decide (ltE a.1 e) = true from fun a ha => by obtain ⟨x, hx, rfl⟩ := List.mem_map.1 ha; simpa using h2 x hx),
    List.filter_eq_nil_iff.2 (show ∀ a ∈ pre.map (fun x => (x.e, x.high)), ¬ (!decide (ltE a.1 e)) = true from fun a ha => by obtain ⟨x, hx, rfl⟩ := List.mem_map.1 ha; simpa using h1 x hx),
    List.filter_eq_self.2 (show ∀ a ∈ post.map (fun x => (x.e, x.high)), (!decide (ltE a.1 e)) = true from fun a ha => by obtain ⟨x, hx, rfl⟩ := List.mem_map.1 ha; simpa using h2 x hx)]
  simp
theorem hasL_ehs (l : List Nd) (e : Ent) : hasL (ehs l) e = true ↔ ∃ x ∈ l, samE x.e e := by
  unfold hasL ehs
  simp only [List.any_map, List.any_eq_true, Function.comp, decide_eq_true_eq]
  exact ⟨fun ⟨x, hx, h⟩ => ⟨x, hx, (eqE_iff _ _).1 h⟩, fun ⟨x, hx, h⟩ => ⟨x, hx, (eqE_iff _ _).2 h⟩⟩
theorem put_L (g : Nat) (S : Nat → Prop) (draws : List Int) (L : List EH) (e : Ent) (w : World) (h : SkL w g S draws L) (hl : L.length < 2932031007319) :
    Calls Try.prog 26 #[.pointer (some ⟨g, 0, none⟩), .agg (encE e).toArray] w fun en w' => en = .returned (.bool (!hasL L e)) ∧ Upd S w w' ∧ ∃ S', Grow S S' w ∧ SkL w' g S' draws (putS draws L e) := by
  obtain ⟨l, hs, rfl, hlt⟩ := h
  obtain ⟨pre, post, rfl, h1, h2⟩ := split_at l hs.order e
  refine (put1_c g S pre post draws e w hs (by rw [ehs_len] at hl; exact hl) h1 h2).mono ?_
  rintro en w' (⟨rfl, hb, y, c, rfl, hy⟩ | ⟨rfl, hu, hn, b, hb, hs'⟩)
  · have hh : hasL (ehs (pre ++ y :: c)) e = true := (hasL_ehs _ _).2 ⟨y, by simp, (eqE_iff _ _).1 hy⟩
    refine ⟨by rw [hh]; rfl, Upd.of_below hb, S, Grow.refl _ _, ?_⟩
    unfold putS
    rw [if_pos hh]
    exact ⟨_, hs.later hb, rfl, fun k hk => Nat.lt_of_lt_of_le (hlt k hk) hb.size⟩
  · have hh : ¬ hasL (ehs (pre ++ post)) e = true := fun hh => by
      obtain ⟨x, hx, hs2⟩ := (hasL_ehs _ _).1 hh
      rcases List.mem_append.1 hx with hx | hx
      · exact ltE_irrefl (samE_lt_l hs2 (h1 x hx))
      · exact ltE_irrefl (samE_lt_r hs2 (post_gt hs.order h2 hn x hx))
    refine ⟨by rw [Bool.eq_false_iff.2 hh]; rfl, hu, fun k => S k ∨ k = b, fun k hk => by rcases hk with h | rfl; exact .inl h; exact .inr hb, ?_⟩
    unfold putS
    rw [if_neg hh, ehs_len, insL_split h1 h2]
    refine ⟨_, hs', by simp [ehs], fun k hk => ?_⟩
    rcases hk with hk | rfl
    · exact Nat.lt_of_lt_of_le (hlt k hk) hu.size
    · exact hs'.lt.2 ⟨k, e, hgt draws (pre ++ post).length⟩ (by simp)
theorem new_L (A : Option Addr) (c : Nat) (l : List Int) (w : World) (hs : Sl encB 1 w A l) (hl : l.length < 140737488351233) (hby : ∀ x ∈ l, U8 x) :
    Calls Try.prog 13 #[.slice A l.length c] w fun e w' => ∃ g S, e = .returned (.pointer (some ⟨g, 0, none⟩)) ∧ (∀ k, S k → w.heap.size ≤ k) ∧ SkL w' g S l [] ∧ Below w.heap.size w w' :=
  (new_c A c l w hs hl hby).mono fun e w' ⟨g, he, hg, hsk, hb⟩ => ⟨g, _, he, fun k hk => hk.1, ⟨[], hsk, rfl, fun k hk => hk.2⟩, hb⟩
def allE (L : List EH) : List Ent := L.map (·.1)
def allH (L : List EH) : List Int := L.map (fun x => (x.2 : Int))
theorem from_L (g : Nat) (S : Nat → Prop) (draws : List Int) (L : List EH) (k : ByteArray) (q : Int) (w0 w : World) (h : SkL w0 g S draws L) (hb0 : Below w0.heap.size w0 w) :
    Calls Try.prog 17 #[.pointer (some ⟨g, 0, none⟩), .string k, .int .u64 q] w fun e w' => ∃ f, e = .returned f ∧ IterV Try.prog f encA w0.heap.size (notAhead k q (allE L)) w' ∧ Below w.heap.size w w' := by
  obtain ⟨l, hs, rfl, hlt⟩ := h
  rw [show allE (ehs l) = l.map (·.e) from ehs_fst l]
  exact from_v g S l draws k q w0 w hs hb0
theorem seek_L (g : Nat) (S : Nat → Prop) (draws : List Int) (L : List EH) (k : ByteArray) (q : Int) (w : World) (h : SkL w g S draws L) :
    Calls Try.prog 29 #[.pointer (some ⟨g, 0, none⟩), .string k, .int .u64 q] w fun e w' =>
      e = .returned (.tuple #[.agg (encE ((notAhead k q (allE L)).headD zeroE)).toArray, .bool (!(notAhead k q (allE L)).isEmpty)]) ∧ Below w.heap.size w w' := by
  obtain ⟨l, hs, rfl, hlt⟩ := h
  rw [show allE (ehs l) = l.map (·.e) from ehs_fst l]
  exact seek_c g S l draws k q w hs
theorem len_L (g : Nat) (S : Nat → Prop) (draws : List Int) (L : List EH) (w : World) (h : SkL w g S draws L) : Calls Try.prog 24 #[.pointer (some ⟨g, 0, none⟩)] w fun e w' => e = .returned (.int .i64 L.length) ∧ w = w' := by
  obtain ⟨l, hs, rfl, hlt⟩ := h
  rw [ehs_len]
  exact len_c g S l draws w hs
theorem towers_L (g : Nat) (S : Nat → Prop) (draws : List Int) (L : List EH) (w : World) (h : SkL w g S draws L) (hl : L.length < 2932031007319) :
    Calls Try.prog 27 #[.pointer (some ⟨g, 0, none⟩)] w fun e w' => ∃ v, e = .returned v ∧ Own encI 3 1 w' w.heap.size v (allH L) ∧ Below w.heap.size w w' := by
  obtain ⟨l, hs, rfl, hlt⟩ := h
  rw [show allH (ehs l) = highs l by simp [allH, ehs, highs]]
  exact towers_c g S l draws w hs (by rw [ehs_len] at hl; exact hl)
end Go.Proofs.Ytjbbobhjomhnmaa.H
namespace Go.Proofs.Ytjbbobhjomhnmaa.H
open Go Go.RowKit Go.Deep Go.Shelf Go.Proofs Go.Proofs.YtjbbobhjomhnmaaW.PrintWords
set_option linter.unusedVariables false
set_option linter.unusedSimpArgs false
set_option maxHeartbeats 1600000 in
set_option maxRecDepth 100000 in
theorem ahead5_c (x y : Ent) (w : World) : Calls Try.prog 25 #[.agg (encE x).toArray, .agg (encE y).toArray] w fun e w' => e = .returned (.bool (decide (ltE x y))) ∧ Below w.heap.size w w' := by
  have hb : Below w.heap.size w ((w.alloc (.cells #[.string x.1, .int .u64 x.2.1, .bool x.2.2.1, .string x.2.2.2] 53)).alloc (.cells #[.string y.1, .int .u64 y.2.1, .bool y.2.2.1, .string y.2.2.2] 53)) := ((Below.refl _ _).alloc (Nat.le_refl _) _).alloc (by simp) _
  have HB := Lib.hid hb
  clear hb
  unfold encE
  go_enter Try.func25, Try.ntmps25
  go_wp2
  all_goals go_ret
  · rename_i h1
    rw [decide_eq_true ((ltE_iff x y).2 (.inl h1))]
    exact ⟨rfl, HB.out⟩
  · rename_i h1 h2
    have : decide (ltE x y) = decide (y.2.1 < x.2.1) := decide_eq_decide.2 ⟨fun h => by
      rcases (ltE_iff x y).1 h with h | h
      · exact absurd h h1
      · exact h.2, fun h => (ltE_iff x y).2 (.inr ⟨h2, h⟩)⟩
    rw [this]
    exact ⟨rfl, HB.out⟩
  · rename_i h1 h2
    rw [decide_eq_false (fun h => by
      rcases (ltE_iff x y).1 h with h | h
      · exact h1 h
      · exact h2 h.1)]
    exact ⟨rfl, HB.out⟩
theorem bytes_inj {a b : ByteArray} : a.toList = b.toList ↔ a = b := by
  rw [ByteArray.toList_eq, ByteArray.toList_eq]
  exact ⟨fun h => ByteArray.ext (Array.ext' h), fun h => by rw [h]⟩
theorem ent_eq (x y : Ent) : x = y ↔ x.1.toList = y.1.toList ∧ x.2.1 = y.2.1 ∧ x.2.2.1 = y.2.2.1 ∧ x.2.2.2.toList = y.2.2.2.toList := by
  rw [bytes_inj, bytes_inj]
  obtain ⟨a, b, c, d⟩ := x
  obtain ⟨a', b', c', d'⟩ := y
  simp
/-- Two entries, compared. -/
theorem neE_run (x y : Ent) (W : World) : (binOp .neq 53 (.agg #[.string x.1, .int .u64 x.2.1, .bool x.2.2.1, .string x.2.2.2]) (.agg #[.string y.1, .int .u64 y.2.1, .bool y.2.2.1, .string y.2.2.2])).run Try.prog W = .ok (.bool (!decide (x = y))) W := by
  have hd : (x = y) = _ := propext (ent_eq x y)
  simp only [hd]
  go_simp
  (repeat' split) <;> simp_all
theorem eqE_run (x y : Ent) (W : World) : (binOp .eql 53 (.agg #[.string x.1, .int .u64 x.2.1, .bool x.2.2.1, .string x.2.2.2]) (.agg #[.string y.1, .int .u64 y.2.1, .bool y.2.2.1, .string y.2.2.2])).run Try.prog W = .ok (.bool (decide (x = y))) W := by
  have hd : (x = y) = _ := propext (ent_eq x y)
  simp only [hd]
  go_simp
  (repeat' split) <;> simp_all
theorem take_same {α : Type} {l m : List α} {k : Nat} (h : l.take k = m.take k) {x : α} (hx : l[k]? = some x) (hy : m[k]? = some x) : l.take (k + 1) = m.take (k + 1) := by
  rw [List.take_add_one, List.take_add_one, h, hx, hy]
set_option maxHeartbeats 1600000 in
set_option maxRecDepth 100000 in
theorem sameEntries_c (A : Option Addr) (c : Nat) (l : List Ent) (B : Option Addr) (d : Nat) (m : List Ent) (w : World) (ha : Sl encE 4 w A l) (hb : Sl encE 4 w B m) :
    Calls Try.prog 28 #[.slice A l.length c, .slice B m.length d] w fun e w' => e = .returned (.bool (decide (l = m))) ∧ Below w.heap.size w w' := by
  have la := ha.1
  have lb := hb.1
  have HA := Lib.hid ha
  have HB := Lib.hid hb
  clear ha hb
  obtain ⟨n, hn⟩ : ∃ n, l.length = n := ⟨_, rfl⟩
  obtain ⟨n', hn'⟩ : ∃ n, m.length = n := ⟨_, rfl⟩
  rw [hn] at la ⊢
  rw [hn'] at lb ⊢
  have HN := Lib.hid hn
  have HM := Lib.hid hn'
  clear hn hn'
  go_enter Try.func28, Try.ntmps28
  by_cases hlen : n = n'
  · subst hlen
    go_wp2_with fail
    go_loopw [5] (fun s5 wr => ∃ k : Nat, s5 = .int .i64 k ∧ k ≤ n ∧ l.take k = m.take k ∧ Below w.heap.size w wr) (fun s5 wr => n - (intOf s5).toNat)
    case atStart => exact ⟨0, rfl, by omega, by simp, Below.refl _ _⟩
    case round =>
      obtain ⟨k, rfl, hk, htk, hbw⟩ := hrel
      have HT := Lib.hid htk
      have HBW := Lib.hid hbw
      clear htk hbw
      by_cases hlt : k < n
      · obtain ⟨x, hx⟩ := getElem?_of_lt (l := l) (by rw [HN.out]; exact hlt : k < l.length)
        obtain ⟨y, hy⟩ := getElem?_of_lt (l := m) (by rw [HM.out]; exact hlt : k < m.length)
        obtain ⟨b1, o1, hA1, hb1, hc1⟩ := HA.out.at hx
        obtain ⟨b2, o2, hA2, hb2, hc2⟩ := HB.out.at hy
        subst hA1
        subst hA2
        have x0 := (HBW.out.cell (p := ⟨b1, o1 + k * 4 + 0, none⟩) hb1).trans (hc1 0 _ rfl)
        have x1 := (HBW.out.cell (p := ⟨b1, o1 + k * 4 + 1, none⟩) hb1).trans (hc1 1 _ rfl)
        have x2 := (HBW.out.cell (p := ⟨b1, o1 + k * 4 + 2, none⟩) hb1).trans (hc1 2 _ rfl)
        have x3 := (HBW.out.cell (p := ⟨b1, o1 + k * 4 + 3, none⟩) hb1).trans (hc1 3 _ rfl)
        have y0 := (HBW.out.cell (p := ⟨b2, o2 + k * 4 + 0, none⟩) hb2).trans (hc2 0 _ rfl)
        have y1 := (HBW.out.cell (p := ⟨b2, o2 + k * 4 + 1, none⟩) hb2).trans (hc2 1 _ rfl)
        have y2 := (HBW.out.cell (p := ⟨b2, o2 + k * 4 + 2, none⟩) hb2).trans (hc2 2 _ rfl)
        have y3 := (HBW.out.cell (p := ⟨b2, o2 + k * 4 + 3, none⟩) hb2).trans (hc2 3 _ rfl)
        have HX := Lib.hid hx
        have HY := Lib.hid hy
        clear hc1 hc2 hx hy hb1 hb2
        have hne := neE_run x y
        simp only [Nat.add_zero] at x0 y0
        have i1 : (0 : Int) ≤ k := by omega
        have i2 : (k : Int) < n := by omega
        go_wp2_with fail
        go_region
        by_cases hxy : x = y
        · have hd : decide (x = y) = true := decide_eq_true hxy
          simp only [hd, Bool.not_true]
          go_wp2
          go_roundw
          case rel => exact ⟨k + 1, by first | rfl | simp, by omega, take_same HT.out HX.out (by rw [hxy]; exact HY.out), HBW.out.drew⟩
          case measure => simp [intOf]; omega
        · have hd : decide (x = y) = false := decide_eq_false hxy
          simp only [hd, Bool.not_false]
          go_wp2
          go_ret
          have hlm : ¬ l = m := fun e => hxy (by
            have h1 := HX.out
            have h2 := HY.out
            rw [e, h2] at h1
            injection h1 with h1
            exact h1.symm)
          rw [decide_eq_false hlm]
          exact ⟨rfl, HBW.out.drew⟩
      · have hkn : k = n := by omega
        subst hkn
        have hlm : l = m := by
          have := HT.out
          rwa [List.take_of_length_le (by rw [HN.out]; exact Nat.le_refl _), List.take_of_length_le (by rw [HM.out]; exact Nat.le_refl _)] at this
        have HD := Lib.hid (decide_eq_true hlm)
        clear hlm
        go_wp2
        go_ret
        rw [HD.out]
        exact ⟨rfl, HBW.out⟩
  · have hne : ¬ l = m := fun h => hlen (by rw [← HN.out, ← HM.out, h])
    have HNE := Lib.hid (decide_eq_false hne)
    have h1 : ¬ (n : Int) = (n' : Int) := by omega
    go_wp2
    go_ret
    rw [HNE.out]
    exact ⟨rfl, Below.refl _ _⟩
set_option maxHeartbeats 1600000 in
set_option maxRecDepth 100000 in
theorem sameInts_c (A : Option Addr) (c : Nat) (l : List Int) (B : Option Addr) (d : Nat) (m : List Int) (w : World) (ha : Sl encI 1 w A l) (hb : Sl encI 1 w B m) :
    Calls Try.prog 77 #[.slice A l.length c, .slice B m.length d] w fun e w' => e = .returned (.bool (decide (l = m))) ∧ Below w.heap.size w w' := by
  have la := ha.1
  have lb := hb.1
  have HA := Lib.hid ha
  have HB := Lib.hid hb
  clear ha hb
  obtain ⟨n, hn⟩ : ∃ n, l.length = n := ⟨_, rfl⟩
  obtain ⟨n', hn'⟩ : ∃ n, m.length = n := ⟨_, rfl⟩
  rw [hn] at la ⊢
  rw [hn'] at lb ⊢
  have HN := Lib.hid hn
  have HM := Lib.hid hn'
  clear hn hn'
  go_enter Try.func77, Try.ntmps77
  by_cases hlen : n = n'
  · subst hlen
    go_wp2_with fail
    go_loopw [5] (fun s5 wr => ∃ k : Nat, s5 = .int .i64 k ∧ k ≤ n ∧ l.take k = m.take k ∧ Below w.heap.size w wr) (fun s5 wr => n - (intOf s5).toNat)
    case atStart => exact ⟨0, rfl, by omega, by simp, Below.refl _ _⟩
    case round =>
      obtain ⟨k, rfl, hk, htk, hbw⟩ := hrel
      have HT := Lib.hid htk
      have HBW := Lib.hid hbw
      clear htk hbw
      by_cases hlt : k < n
      · obtain ⟨x, hx⟩ := getElem?_of_lt (l := l) (by rw [HN.out]; exact hlt : k < l.length)
        obtain ⟨y, hy⟩ := getElem?_of_lt (l := m) (by rw [HM.out]; exact hlt : k < m.length)
        obtain ⟨b1, o1, hA1, hb1, hc1⟩ := HA.out.at hx
        obtain ⟨b2, o2, hA2, hb2, hc2⟩ := HB.out.at hy
        subst hA1
        subst hA2
        have x0 : wr.cell? ⟨b1, o1 + k, none⟩ = some (.int .i64 x) := by simpa using (HBW.out.cell (p := ⟨b1, o1 + k * 1 + 0, none⟩) hb1).trans (hc1 0 _ rfl)
        have y0 : wr.cell? ⟨b2, o2 + k, none⟩ = some (.int .i64 y) := by simpa using (HBW.out.cell (p := ⟨b2, o2 + k * 1 + 0, none⟩) hb2).trans (hc2 0 _ rfl)
        have HX := Lib.hid hx
        have HY := Lib.hid hy
        clear hc1 hc2 hx hy hb1 hb2
        have i1 : (0 : Int) ≤ k := by omega
        have i2 : (k : Int) < n := by omega
        go_wp2_with fail
        go_region
        by_cases hxy : x = y
        · subst hxy
          go_wp2
          go_roundw
          case rel => exact ⟨k + 1, by first | rfl | simp, by omega, take_same HT.out HX.out HY.out, HBW.out.drew⟩
          case measure => simp [intOf]; omega
        · go_wp2
          go_ret
          have hlm : ¬ l = m := fun e => hxy (by
            have h1 := HX.out
            have h2 := HY.out
            rw [e, h2] at h1
            injection h1 with h1
            exact h1.symm)
          rw [decide_eq_false hlm]
          exact ⟨rfl, HBW.out.drew⟩
      · have hkn : k = n := by omega
        subst hkn
        have hlm : l = m := by
          have := HT.out
          rwa [List.take_of_length_le (by rw [HN.out]; exact Nat.le_refl _), List.take_of_length_le (by rw [HM.out]; exact Nat.le_refl _)] at this
        have HD := Lib.hid (decide_eq_true hlm)
        clear hlm
        go_wp2
        go_ret
        rw [HD.out]
        exact ⟨rfl, HBW.out⟩
  · have hne : ¬ l = m := fun h => hlen (by rw [← HN.out, ← HM.out, h])
    have HNE := Lib.hid (decide_eq_false hne)
    have h1 : ¬ (n : Int) = (n' : Int) := by omega
    go_wp2
    go_ret
    rw [HNE.out]
    exact ⟨rfl, Below.refl _ _⟩
end Go.Proofs.Ytjbbobhjomhnmaa.H
namespace Go.Proofs.Ytjbbobhjomhnmaa.H
open Go Go.RowKit Go.Deep Go.Shelf Go.Proofs Go.Proofs.YtjbbobhjomhnmaaW.PrintWords
set_option linter.unusedVariables false
set_option linter.unusedSimpArgs false
abbrev Made := List EH × List Ent
def madeS (draws : List Int) (s : Made) (e : Ent) : Made := if hasL s.1 e = true then s else (insL s.1 (e, hgt draws s.1.length), s.2 ++ [e])
def madeF (draws : List Int) (l : List Ent) : Made := l.foldl (madeS draws) ([], [])
theorem madeF_take {draws : List Int} {l : List Ent} {k : Nat} {e : Ent} (h : l[k]? = some e) : madeF draws (l.take (k + 1)) = madeS draws (madeF draws (l.take k)) e := by
  unfold madeF
  rw [List.take_add_one, h, List.foldl_append]
  rfl
theorem filter_len {α : Type} (p : α → Bool) : ∀ l : List α, (l.filter p).length + (l.filter (fun x => !p x)).length = l.length
  | [] => rfl
  | x :: l => by
    have := filter_len p l
    cases h : p x <;> simp [h] <;> omega
theorem insL_len (L : List EH) (x : EH) : (insL L x).length = L.length + 1 := by
  unfold insL
  have := filter_len (fun y : EH => decide (ltE y.1 x.1)) L
  simp only [List.length_append, List.length_cons]
  omega
theorem madeS_len {draws : List Int} {s : Made} {e : Ent} (h : s.1.length = s.2.length) : (madeS draws s e).1.length = (madeS draws s e).2.length ∧ (madeS draws s e).2.length ≤ s.2.length + 1 := by
  unfold madeS
  split
  · exact ⟨h, by omega⟩
  · simp [insL_len, h]
theorem madeF_len (draws : List Int) (l : List Ent) : ∀ k, (madeF draws (l.take k)).1.length = (madeF draws (l.take k)).2.length ∧ (madeF draws (l.take k)).2.length ≤ k
  | 0 => by simp [madeF]
  | k + 1 => by
    obtain ⟨h1, h2⟩ := madeF_len draws l k
    cases h : l[k]? with
    | none =>
      have : l.take (k + 1) = l.take k := by rw [List.take_add_one, h]; simp
      rw [this]
      exact ⟨h1, by omega⟩
    | some e =>
      rw [madeF_take h]
      obtain ⟨q1, q2⟩ := madeS_len (draws := draws) (e := e) h1
      exact ⟨q1, by omega⟩
theorem madeS_putS {draws : List Int} {s : Made} {e : Ent} : (madeS draws s e).1 = putS draws s.1 e := by
  unfold madeS putS
  split <;> rfl
theorem eqP_run {a b : Nat} (W : World) : (binOp .neq 43 (.pointer (some ⟨a, 0, none⟩)) (.pointer none)).run Try.prog W = .ok (.bool true) W := by go_simp
set_option maxHeartbeats 1600000 in
set_option maxRecDepth 100000 in
theorem made_c (A : Option Addr) (c : Nat) (draws : List Int) (B : Option Addr) (d : Nat) (l : List Ent) (w : World) (ha : Sl encB 1 w A draws) (hal : draws.length < 140737488351233) (hby : ∀ x ∈ draws, U8 x) (hb : Sl encE 4 w B l) (hbl : l.length < 2932031007319) :
    Calls Try.prog 22 #[.slice A draws.length c, .slice B l.length d] w fun e w' => ∃ g S v, e = .returned (.tuple #[.pointer (some ⟨g, 0, none⟩), v]) ∧ (∀ k, S k → w.heap.size ≤ k) ∧ SkL w' g S draws (madeF draws l).1 ∧ Own encE 53 4 w' w.heap.size v (madeF draws l).2 ∧ Below w.heap.size w w' := by
  have HNEW := Lib.hid (new_L A c draws w ha hal hby)
  have HB := Lib.hid hb
  clear ha hb hby
  obtain ⟨nd, hnd⟩ : ∃ n, draws.length = n := ⟨_, rfl⟩
  obtain ⟨n, hn⟩ : ∃ n, l.length = n := ⟨_, rfl⟩
  rw [hnd] at HNEW ⊢
  rw [hn] at hbl ⊢
  have HN := Lib.hid hn
  clear hn hnd hal
  go_enter Try.func22, Try.ntmps22
  go_wp2_with (go_at_call 13; refine HNEW.out.mono ?_; rintro e w2 ⟨g, S, rfl, hS, hsk, hbw⟩)
  have HS := Lib.hid hS
  have HSK := Lib.hid hsk
  have HBW := Lib.hid hbw
  clear hS hsk hbw
  go_loopw [7, 8] (fun s7 s8 wr => ∃ (k : Nat) (S : Nat → Prop), s8 = .int .i64 k ∧ k ≤ n ∧ SkL wr g S draws (madeF draws (l.take k)).1 ∧ Own encE 53 4 wr w.heap.size s7 (madeF draws (l.take k)).2 ∧ (∀ j, s7.ownBlock = some j → ¬ S j) ∧ (∀ j, S j → w.heap.size ≤ j) ∧ Below w.heap.size w wr) (fun s7 s8 wr => n - (intOf s8).toNat)
  case atStart => exact ⟨0, S, rfl, by omega, HSK.out, Own.nil _ _ _ _ _, (fun j hj => by cases hj), HS.out, HBW.out⟩
  case round =>
    obtain ⟨k, S1, rfl, hk, hsk, hown, hap, hge, hbw⟩ := hrel
    obtain ⟨A1, c1, rfl⟩ := own_slice hown
    obtain ⟨len1, len2⟩ := madeF_len draws l k
    have HSK1 := Lib.hid hsk
    have HOWN := Lib.hid hown
    have HAP := Lib.hid hap
    have HGE := Lib.hid hge
    have HBW1 := Lib.hid hbw
    clear hsk hown hap hge hbw
    obtain ⟨m, hm⟩ : ∃ m, (madeF draws (l.take k)).2.length = m := ⟨_, rfl⟩
    rw [hm] at HOWN HAP len1 len2 ⊢
    have hml : m ≤ k := len2
    have HL1 := Lib.hid len1
    clear len1 len2
    by_cases hlt : k < n
    · obtain ⟨x, hx⟩ := getElem?_of_lt (l := l) (by rw [HN.out]; exact hlt : k < l.length)
      obtain ⟨b2, o2, hB2, hb2, hc2⟩ := HB.out.at hx
      subst hB2
      have hcx := fun j u hu => (HBW1.out.cell (p := ⟨b2, o2 + k * 4 + j, none⟩) hb2).trans (hc2 j u hu)
      have y0 := hcx 0 _ rfl
      have y1 := hcx 1 _ rfl
      have y2 := hcx 2 _ rfl
      have y3 := hcx 3 _ rfl
      simp only [Nat.add_zero] at y0
      have HX := Lib.hid hx
      have HC2 := Lib.hid hc2
      have HB2 := Lib.hid hb2
      clear hcx hx hc2 hb2
      have i1 : (0 : Int) ≤ k := by omega
      have i2 : (k : Int) < n := by omega
      have HPUT := Lib.hid (put_L g S1 draws _ x wr HSK1.out (by rw [HL1.out]; omega))
      go_wp2_with fail
      refine HPUT.out.mono ?_
      rintro e w3 ⟨rfl, hu3, S3, hg3, hs3⟩
      have hb3 : Below w.heap.size wr w3 := hu3.bel HGE.out HBW1.out.size
      have hge3 : ∀ j, S3 j → w.heap.size ≤ j := hg3.ge HGE.out HBW1.out.size
      have hown3 := HOWN.out.upd hu3 HAP.out
      have hcx := fun j u hu => (hb3.cell (p := ⟨b2, o2 + k * 4 + j, none⟩) HB2.out).trans ((HBW1.out.cell (p := ⟨b2, o2 + k * 4 + j, none⟩) HB2.out).trans (HC2.out j u hu))
      have z0 := hcx 0 _ rfl
      have z1 := hcx 1 _ rfl
      have z2 := hcx 2 _ rfl
      have z3 := hcx 3 _ rfl
      simp only [Nat.add_zero] at z0
      have HU3 := Lib.hid hu3
      have HG3 := Lib.hid hg3
      have HS3 := Lib.hid hs3
      have HGE3 := Lib.hid hge3
      have HOWN3 := Lib.hid hown3
      have HBW3 := Lib.hid (HBW1.out.trans hb3)
      have HMT := Lib.hid (madeF_take (draws := draws) HX.out)
      clear hcx hu3 hg3 hs3 hge3 hown3 hb3 y0 y1 y2 y3
      cases hh : hasL (madeF draws (l.take k)).1 x with
      | true =>
        have HST := Lib.hid (show madeF draws (l.take (k + 1)) = madeF draws (l.take k) by rw [HMT.out]; unfold madeS; rw [if_pos hh])
        have HPS := Lib.hid (show putS draws (madeF draws (l.take k)).1 x = (madeF draws (l.take k)).1 by unfold putS; rw [if_pos hh])
        clear hh
        go_wp2_with fail
        go_roundw
        case rel => exact ⟨k + 1, S3, by first | rfl | simp, by omega, by rw [HST.out, ← HPS.out]; exact HS3.out, by rw [HST.out]; exact HOWN3.out, fun j hj h3 => by (rcases HG3.out j h3 with h | h; exact HAP.out j hj h; have := (HOWN.out.block_lt (k := j) hj).2; omega), HGE3.out, HBW3.out⟩
        case measure => simp [intOf]; omega
      | false =>
        have HST := Lib.hid (show madeF draws (l.take (k + 1)) = (putS draws (madeF draws (l.take k)).1 x, (madeF draws (l.take k)).2 ++ [x]) by rw [HMT.out]; unfold madeS putS; rw [if_neg (by rw [hh]; decide), if_neg (by rw [hh]; decide)])
        clear hh
        go_wp2_with (at_builtin; refine wpList_app rfl (.tmp 27) (.tmp 32) rfl uSlE infoE rfl (by decide) (by decide) okE (.slice A1 m c1) (madeF draws (l.take k)).2 rfl (base := w.heap.size) ?c1 (some ⟨w3.heap.size, 0, none⟩) 1 [x] rfl ?c2 ?c3 ?c4 ?_)
        case c1 => exact HOWN3.out.below ((Below.refl _ _).alloc (Nat.le_refl _) _)
        case c2 => exact Sl.one okE w3 x 53 rfl
        case c3 => have := HL1.out; simp; omega
        case c4 => have := HBW3.out.size; simp; omega
        intro v4 w4 ho4 hg4 hat4
        have HAP3 := Lib.hid (show ∀ j, (Value.slice A1 m c1).ownBlock = some j → ¬ S3 j from fun j hj h3 => by (rcases HG3.out j h3 with h | h; exact HAP.out j hj h; have := (HOWN.out.block_lt (k := j) hj).2; omega))
        have HS4 := Lib.hid ((HS3.out.later ((Below.refl _ _).alloc (Nat.le_refl _) (.cells #[.string x.1, .int .u64 x.2.1, .bool x.2.2.1, .string x.2.2.2] 53))).upd (Upd.of_grown (S := fun k => (Value.slice A1 m c1).ownBlock = some k) hg4 (fun k hk => hk)) (fun j h3 hj => HAP3.out j hj h3))
        have HB4 := Lib.hid (HBW3.out.trans ((((Below.refl _ _).alloc (Nat.le_refl _) (.cells #[.string x.1, .int .u64 x.2.1, .bool x.2.2.1, .string x.2.2.2] 53)).mono HBW3.out.size).trans ((Upd.of_grown (S := fun k => w.heap.size ≤ k) hg4 (fun k hk => (HOWN.out.block_lt hk).1)).bel (fun _ h => h) (by have := HBW3.out.size; simp; omega))))
        have HAP4 := Lib.hid (show ∀ j, v4.ownBlock = some j → ¬ S3 j from fun j hj h3 => by
          rcases hat4 with h | h
          · exact HAP3.out j (by rw [← h]; exact hj) h3
          · rw [h] at hj
            injection hj with hj
            have h5 := HS3.out.lt j h3
            try rw [World.size_alloc] at hj
            omega)
        have HO4 := Lib.hid ho4
        clear ho4 hg4 hat4 z0 z1 z2 z3
        go_wp2
        go_roundw
        case rel => exact ⟨k + 1, S3, by first | rfl | simp, by omega, by rw [HST.out]; exact HS4.out, by rw [HST.out]; exact HO4.out, HAP4.out, HGE3.out, HB4.out⟩
        case measure => simp [intOf]; omega
    · have hkn : k = n := by omega
      subst hkn
      have e1 : l.take k = l := List.take_of_length_le (by rw [HN.out]; exact Nat.le_refl _)
      rw [e1] at HSK1 HOWN
      go_wp2
      go_ret2
      exact ⟨g, S1, _, rfl, HGE.out, HSK1.out, HOWN.out, HBW1.out⟩
end Go.Proofs.Ytjbbobhjomhnmaa.H
namespace Go.Proofs.Ytjbbobhjomhnmaa.H
open Go Go.RowKit Go.Deep Go.Shelf Go.Proofs Go.Proofs.YtjbbobhjomhnmaaW.PrintWords
set_option linter.unusedVariables false
set_option linter.unusedSimpArgs false
def cmpEE' (x y : Ent) : Int := cmpE x.1.data.toList y.1.data.toList x.2.1 y.2.1
theorem cmpEE_eq (x y : Ent) : cmpEE x y = cmpEE' x y := by unfold cmpEE cmpEE'; rw [ByteArray.toList_eq, ByteArray.toList_eq]
def hasL' (L : List EH) (e : Ent) : Bool := L.any (fun y => decide (cmpEE' y.1 e = 0))
def insL' (L : List EH) (x : EH) : List EH := L.filter (fun y => decide (cmpEE' y.1 x.1 < 0)) ++ x :: L.filter (fun y => !decide (cmpEE' y.1 x.1 < 0))
theorem hasL_eq (L : List EH) (e : Ent) : hasL L e = hasL' L e := by unfold hasL hasL'; simp only [cmpEE_eq]
theorem ltE_dec (x y : Ent) : decide (ltE x y) = decide (cmpEE' x y < 0) := decide_eq_decide.2 (by unfold ltE; rw [cmpEE_eq])
theorem insL_eq (L : List EH) (x : EH) : insL L x = insL' L x := by unfold insL insL'; simp only [ltE_dec]
def notAhead' (k : ByteArray) (q : Int) (l : List Ent) : List Ent := l.filter (fun e => !decide (cmpEE' e (k, q, false, ⟨#[]⟩) < 0))
theorem notAhead_eq (k : ByteArray) (q : Int) (l : List Ent) : notAhead k q l = notAhead' k q l := by unfold notAhead notAhead'; simp only [ltE_dec]
def dr5 : List Int := [0, 13, 5]
def eb2 : Ent := (⟨#[98]⟩, 2, false, ⟨#[]⟩)
def ea1 : Ent := (⟨#[97]⟩, 1, false, ⟨#[]⟩)
def eb3 : Ent := (⟨#[98]⟩, 3, false, ⟨#[]⟩)
def eb2x : Ent := (⟨#[98]⟩, 2, false, ⟨#[120]⟩)
def ec9 : Ent := (⟨#[99]⟩, 9, false, ⟨#[]⟩)
theorem put_1 : putS dr5 [] eb2 = [(eb2, 1)] := by unfold putS; rw [hasL_eq, insL_eq]; rfl
theorem put_2 : putS dr5 [(eb2, 1)] ea1 = [(ea1, 2), (eb2, 1)] := by unfold putS; rw [hasL_eq, insL_eq]; rfl
theorem put_3 : putS dr5 [(ea1, 2), (eb2, 1)] eb3 = [(ea1, 2), (eb3, 6), (eb2, 1)] := by unfold putS; rw [hasL_eq, insL_eq]; rfl
theorem put_4 : putS dr5 [(ea1, 2), (eb3, 6), (eb2, 1)] eb2x = [(ea1, 2), (eb3, 6), (eb2, 1)] := by unfold putS; rw [hasL_eq, insL_eq]; rfl
theorem put_5 : putS dr5 [(ea1, 2), (eb3, 6), (eb2, 1)] ec9 = [(ea1, 2), (eb3, 6), (eb2, 1), (ec9, 1)] := by unfold putS; rw [hasL_eq, insL_eq]; rfl
theorem has_1 : hasL [] eb2 = false := by rw [hasL_eq]; rfl
theorem has_2 : hasL [(eb2, 1)] ea1 = false := by rw [hasL_eq]; rfl
theorem has_3 : hasL [(ea1, 2), (eb2, 1)] eb3 = false := by rw [hasL_eq]; rfl
theorem has_4 : hasL [(ea1, 2), (eb3, 6), (eb2, 1)] eb2x = true := by rw [hasL_eq]; rfl
theorem has_5 : hasL [(ea1, 2), (eb3, 6), (eb2, 1)] ec9 = false := by rw [hasL_eq]; rfl
theorem na_1 : notAhead ⟨#[98]⟩ 5 (allE [(ea1, 2), (eb3, 6), (eb2, 1), (ec9, 1)]) = [eb3, eb2, ec9] := by rw [notAhead_eq]; rfl
theorem na_2 : notAhead ⟨#[99]⟩ 8 (allE [(ea1, 2), (eb3, 6), (eb2, 1), (ec9, 1)]) = [] := by rw [notAhead_eq]; rfl
/-- Put, its answer and its list given. -/
theorem put_K {g : Nat} {S : Nat → Prop} {draws : List Int} {L L' : List EH} {e : Ent} {b : Bool} {w : World} (h : SkL w g S draws L) (hl : L.length < 2932031007319) (hb : hasL L e = b) (hp : putS draws L e = L') (B : Nat) (hB : ∀ k, S k → B ≤ k) (hBw : B ≤ w.heap.size) :
    Calls Try.prog 26 #[.pointer (some ⟨g, 0, none⟩), .agg (encE e).toArray] w fun en w' => en = .returned (.bool (!b)) ∧ Below B w w' ∧ ∃ S', (∀ k, S' k → B ≤ k) ∧ SkL w' g S' draws L' := by
  subst hb; subst hp
  exact (put_L g S draws L e w h hl).mono fun en w' ⟨h1, h2, S', h3, h4⟩ => ⟨h1, h2.bel hB hBw, S', h3.ge hB hBw, h4⟩
set_option maxHeartbeats 3200000 in
set_option maxRecDepth 100000 in
theorem known5_c (w : World) : Calls Try.prog 21 #[] w fun e w' => e = .returned (.bool true) ∧ Below w.heap.size w w' := by
  have hsl : Sl encB 1 (w.alloc (.cells #[.int .u8 0, .int .u8 13, .int .u8 5] 5)) (some ⟨w.heap.size, 0, none⟩) dr5 := Sl.of_block (enc := encB) (sz := 1) (l := dr5) (fun _ => rfl) (heap_alloc_new w _) rfl (by decide)
  have HNEW := Lib.hid (new_L _ 3 dr5 _ hsl (by decide) (by intro x hx; simp [dr5] at hx; rcases hx with rfl | rfl | rfl <;> exact ⟨by decide, by decide⟩))
  clear hsl
  go_enter Try.func21, Try.ntmps21
  go_wp2_with fail
  refine HNEW.out.mono ?_
  rintro e w1 ⟨g, S0, rfl, hS0, hk0, hb0⟩
  have hb0' : Below w.heap.size w w1 := ((Below.refl _ _).alloc (Nat.le_refl _) _).trans (hb0.mono (by simp))
  have hS0' : ∀ k, S0 k → w.heap.size ≤ k := fun k hk => by have := hS0 k hk; simp at this; omega
  clear hb0 hS0
  go_wp2_with fail
  refine (put_K hk0 (by decide) has_1 put_1 w.heap.size hS0' hb0'.size).mono ?_
  rintro e w2 ⟨rfl, hb1, S1, hS1, hk1⟩
  go_wp2_with fail
  refine (put_K hk1 (by decide) has_2 put_2 w.heap.size hS1 (hb0'.trans hb1).size).mono ?_
  rintro e w3 ⟨rfl, hb2, S2, hS2, hk2⟩
  go_wp2_with fail
  refine (put_K hk2 (by decide) has_3 put_3 w.heap.size hS2 ((hb0'.trans hb1).trans hb2).size).mono ?_
  rintro e w4 ⟨rfl, hb3, S3, hS3, hk3⟩
  go_wp2_with fail
  refine (put_K hk3 (by decide) has_4 put_4 w.heap.size hS3 (((hb0'.trans hb1).trans hb2).trans hb3).size).mono ?_
  rintro e w5 ⟨rfl, hb4, S4, hS4, hk4⟩
  go_wp2_with fail
  refine (put_K hk4 (by decide) has_5 put_5 w.heap.size hS4 ((((hb0'.trans hb1).trans hb2).trans hb3).trans hb4).size).mono ?_
  rintro e w6 ⟨rfl, hb5, S5, hS5, hk5⟩
  have hb6 := ((((hb0'.trans hb1).trans hb2).trans hb3).trans hb4).trans hb5
  clear hb0' hb1 hb2 hb3 hb4 hb5 hk0 hk1 hk2 hk3 hk4 hS0' hS1 hS2 hS3 hS4
  have s1 := seek_L g S5 dr5 _ ⟨#[98]⟩ 5 w6 hk5
  rw [na_1] at s1
  have HS1 := Lib.hid (show Calls Try.prog 29 #[.pointer (some ⟨g, 0, none⟩), .string ⟨#[98]⟩, .int .u64 5] w6 fun e w' => e = .returned (.tuple #[.agg #[.string ⟨#[98]⟩, .int .u64 3, .bool false, .string ⟨#[]⟩], .bool true]) ∧ Below w6.heap.size w6 w' from s1)
  clear s1
  go_wp2_with fail
  refine HS1.out.mono ?_
  rintro e w7 ⟨rfl, hb7⟩
  obtain ⟨X, hX⟩ : ∃ Z, w7.alloc (.cells #[.string ⟨#[]⟩, .int .u64 0, .bool false, .string ⟨#[]⟩] 53) = Z := ⟨_, rfl⟩
  have rX : X.heap[w7.heap.size]? = some (.cells #[.string ⟨#[]⟩, .int .u64 0, .bool false, .string ⟨#[]⟩] 53 (0, 0)) := by rw [← hX]; exact heap_alloc_new _ _
  obtain ⟨⟨y0, y1, y2, y3⟩, g0, g1, g2, g3⟩ := cells4 rX
  obtain ⟨Xa, hXa⟩ : ∃ Z4, (((X.setCell ⟨w7.heap.size, 0, none⟩ (.string ⟨#[98]⟩)).setCell ⟨w7.heap.size, 1, none⟩ (.int .u64 3)).setCell ⟨w7.heap.size, 2, none⟩ (.bool false)).setCell ⟨w7.heap.size, 3, none⟩ (.string ⟨#[]⟩) = Z4 := ⟨_, rfl⟩
  have qX : Xa.heap[w7.heap.size]? = some (.cells #[.string ⟨#[98]⟩, .int .u64 3, .bool false, .string ⟨#[]⟩] 53 (0, 0)) := by rw [← hXa]; exact put4_heap rX
  have bX : Below w7.heap.size w7 Xa := by
    rw [← hXa, ← hX]
    exact ((Below.refl _ _).alloc (Nat.le_refl _) _).trans ((put4_upd (S := fun k => k = w7.heap.size) _ _ _ _ _ rfl).bel (fun k hk => by omega) (by simp))
  have BX := Lib.hid bX
  have QX := Lib.hid qX
  clear bX qX rX
  have s2 := seek_L g S5 dr5 _ ⟨#[99]⟩ 8 Xa ((hk5.later hb7).later BX.out)
  rw [na_2] at s2
  have HS2 := Lib.hid (show Calls Try.prog 29 #[.pointer (some ⟨g, 0, none⟩), .string ⟨#[99]⟩, .int .u64 8] Xa fun e w' => e = .returned (.tuple #[.agg #[.string ⟨#[]⟩, .int .u64 0, .bool false, .string ⟨#[]⟩], .bool false]) ∧ Below Xa.heap.size Xa w' from s2)
  clear s2
  go_wp2_with fail
  refine HS2.out.mono ?_
  rintro e w8 ⟨rfl, hb8⟩
  clear y0 y1 y2 y3 g0 g1 g2 g3
  obtain ⟨Y, hY⟩ : ∃ Z, w8.alloc (.cells #[.string ⟨#[]⟩, .int .u64 0, .bool false, .string ⟨#[]⟩] 53) = Z := ⟨_, rfl⟩
  have rY : Y.heap[w8.heap.size]? = some (.cells #[.string ⟨#[]⟩, .int .u64 0, .bool false, .string ⟨#[]⟩] 53 (0, 0)) := by rw [← hY]; exact heap_alloc_new _ _
  obtain ⟨⟨y0, y1, y2, y3⟩, g0, g1, g2, g3⟩ := cells4 rY
  obtain ⟨Ya, hYa⟩ : ∃ Z4, (((Y.setCell ⟨w8.heap.size, 0, none⟩ (.string ⟨#[]⟩)).setCell ⟨w8.heap.size, 1, none⟩ (.int .u64 0)).setCell ⟨w8.heap.size, 2, none⟩ (.bool false)).setCell ⟨w8.heap.size, 3, none⟩ (.string ⟨#[]⟩) = Z4 := ⟨_, rfl⟩
  have qY : Ya.heap[w8.heap.size]? = some (.cells #[.string ⟨#[]⟩, .int .u64 0, .bool false, .string ⟨#[]⟩] 53 (0, 0)) := by rw [← hYa]; exact put4_heap rY
  have bY : Below w8.heap.size w8 Ya := by
    rw [← hYa, ← hY]
    exact ((Below.refl _ _).alloc (Nat.le_refl _) _).trans ((put4_upd (S := fun k => k = w8.heap.size) _ _ _ _ _ rfl).bel (fun k hk => by omega) (by simp))
  have BY := Lib.hid bY
  have QY := Lib.hid qY
  clear bY qY rY
  have hkY := (((hk5.later hb7).later BX.out).later hb8).later BY.out
  have HLEN := Lib.hid (len_L g S5 dr5 _ Ya hkY)
  have HTOW := Lib.hid (towers_L g S5 dr5 _ Ya hkY (by decide))
  have hqX := blk_below (blk_below QX.out hb8) BY.out
  obtain ⟨⟨x0, x1, x2, x3⟩, _⟩ := cells4 hqX
  obtain ⟨⟨z0, z1, z2, z3⟩, _⟩ := cells4 QY.out
  go_wp2_with fail
  refine HLEN.out.mono ?_
  rintro e w9 ⟨rfl, rfl⟩
  go_wp2_with fail
  refine HTOW.out.mono ?_
  rintro e w10 ⟨v, rfl, hown, hb10⟩
  obtain ⟨A, c, hv, _, hsA, _⟩ := hown.slice (fun _ => rfl)
  subst hv
  have hsB : Sl encI 1 (w10.alloc (.cells #[.int .i64 2, .int .i64 6, .int .i64 1, .int .i64 1] 3)) (some ⟨w10.heap.size, 0, none⟩) [2, 6, 1, 1] := Sl.of_block (enc := encI) (sz := 1) (l := [2, 6, 1, 1]) (fun _ => rfl) (heap_alloc_new w10 _) rfl (by decide)
  have s3 := sameInts_c A c _ _ 4 [2, 6, 1, 1] (w10.alloc (.cells #[.int .i64 2, .int .i64 6, .int .i64 1, .int .i64 1] 3)) (hsA.later ((Below.refl _ _).alloc (Nat.le_refl _) _)) hsB
  rw [show decide (allH [(ea1, 2), (eb3, 6), (eb2, 1), (ec9, 1)] = [2, 6, 1, 1]) = true from rfl] at s3
  have HS3 := Lib.hid (show Calls Try.prog 77 #[.slice A 4 c, .slice (some ⟨w10.heap.size, 0, none⟩) 4 4] (w10.alloc (.cells #[.int .i64 2, .int .i64 6, .int .i64 1, .int .i64 1] 3)) fun e w' => e = .returned (.bool true) ∧ Below (w10.alloc (.cells #[.int .i64 2, .int .i64 6, .int .i64 1, .int .i64 1] 3)).heap.size (w10.alloc (.cells #[.int .i64 2, .int .i64 6, .int .i64 1, .int .i64 1] 3)) w' from s3)
  rw [show (allH [(ea1, 2), (eb3, 6), (eb2, 1), (ec9, 1)]).length = 4 from rfl]
  have HB6 := Lib.hid hb6
  have HB7 := Lib.hid hb7
  have HB8 := Lib.hid hb8
  have HB10 := Lib.hid hb10
  clear s3 hsB hsA hown hb10 hb8 hb7 hb6 hkY hk5 HNEW HLEN HTOW HS2 HS1
  go_wp2_with fail
  refine HS3.out.mono ?_
  rintro e w11 ⟨rfl, hb11⟩
  have HB11 := Lib.hid hb11
  clear hb11
  go_wp2
  go_ret
  have hX := HB6.out.trans (HB7.out.mono HB6.out.size)
  have hX2 := hX.trans (BX.out.mono hX.size)
  have hX3 := hX2.trans (HB8.out.mono hX2.size)
  have hX4 := hX3.trans (BY.out.mono hX3.size)
  have hX5 := hX4.trans (HB10.out.mono hX4.size)
  have hX6 := hX5.trans (((Below.refl w10.heap.size w10).alloc (Nat.le_refl _) (.cells #[.int .i64 2, .int .i64 6, .int .i64 1, .int .i64 1] 3)).mono hX5.size)
  exact ⟨rfl, hX6.trans (HB11.out.mono hX6.size)⟩
end Go.Proofs.Ytjbbobhjomhnmaa.H
namespace Go.Proofs.Ytjbbobhjomhnmaa.H
open Go Go.RowKit Go.Deep Go.Shelf Go.Proofs Go.Proofs.YtjbbobhjomhnmaaW.PrintWords
set_option linter.unusedVariables false
set_option linter.unusedSimpArgs false
def samB (x : Ent) (y : Ent) : Bool := decide (y.1.toList = x.1.toList) && decide (y.2.1 = x.2.1)
theorem samB_iff (x y : Ent) : samB x y = true ↔ samE y x := by
  unfold samB samE
  simp
theorem insL_perm (L : List EH) (x : EH) : (insL L x).Perm (x :: L) := by
  unfold insL
  refine List.perm_middle.trans (List.Perm.cons _ ?_)
  exact List.filter_append_perm _ _
theorem allE_perm {L M : List EH} (h : L.Perm M) : (allE L).Perm (allE M) := h.map _
theorem hasL_iff (L : List EH) (e : Ent) : hasL L e = true ↔ ∃ y ∈ allE L, samE y e := by
  unfold hasL allE
  simp only [List.any_eq_true, decide_eq_true_eq, List.mem_map]
  exact ⟨fun ⟨x, hx, h⟩ => ⟨x.1, ⟨x, hx, rfl⟩, (eqE_iff _ _).1 h⟩, fun ⟨y, ⟨x, hx, e⟩, h⟩ => ⟨x, hx, by subst e; exact (eqE_iff _ _).2 h⟩⟩
theorem insL_sorted {L : List EH} {e : Ent} {h : Nat} (hs : L.Pairwise (fun x y => ltE x.1 y.1)) (hn : ¬ hasL L e = true) : (insL L (e, h)).Pairwise (fun x y => ltE x.1 y.1) := by
  unfold insL
  have hgt : ∀ y ∈ L, ¬ ltE y.1 e → ltE e y.1 := fun y hy hlt => by
    rcases E_tri y.1 e with h1 | h1 | h1
    · exact absurd h1 hlt
    · exact absurd ((hasL_iff L e).2 ⟨y.1, List.mem_map_of_mem (f := (·.1)) hy, h1⟩) hn
    · exact h1
  refine List.pairwise_append.2 ⟨hs.filter _, List.pairwise_cons.2 ⟨fun y hy => ?_, hs.filter _⟩, fun x hx y hy => ?_⟩
  · obtain ⟨h1, h2⟩ := List.mem_filter.1 hy
    exact hgt y h1 (by simpa using h2)
  · obtain ⟨h1, h2⟩ := List.mem_filter.1 hx
    have h2 : ltE x.1 e := by simpa using h2
    rcases List.mem_cons.1 hy with rfl | hy
    · exact h2
    · obtain ⟨h3, h4⟩ := List.mem_filter.1 hy
      exact ltE_trans h2 (hgt y h3 (by simpa using h4))
/-- What made keeps, entry by entry. -/
structure MadeOk (draws : List Int) (done : List Ent) (s : Made) : Prop where
  perm : (allE s.1).Perm s.2
  order : s.1.Pairwise (fun x y => ltE x.1 y.1)
  some_ : ∀ x ∈ done, ∃ y ∈ s.2, samE y x
  sub : ∀ y ∈ s.2, y ∈ done
theorem MadeOk.step {draws : List Int} {done : List Ent} {s : Made} (h : MadeOk draws done s) (e : Ent) : MadeOk draws (done ++ [e]) (madeS draws s e) := by
  unfold madeS
  split
  · rename_i hh
    refine ⟨h.perm, h.order, fun x hx => ?_, fun y hy => List.mem_append_left _ (h.sub y hy)⟩
    rcases List.mem_append.1 hx with hx | hx
    · exact h.some_ x hx
    · obtain rfl : x = e := by simpa using hx
      obtain ⟨y, hy, hs⟩ := (hasL_iff _ _).1 hh
      exact ⟨y, h.perm.subset hy, hs⟩
  · rename_i hh
    refine ⟨((allE_perm (insL_perm _ _)).trans (List.Perm.cons _ h.perm)).trans (List.perm_append_comm (l₁ := [e])), insL_sorted h.order hh, fun x hx => ?_, fun y hy => ?_⟩
    · rcases List.mem_append.1 hx with hx | hx
      · obtain ⟨y, hy, hs⟩ := h.some_ x hx
        exact ⟨y, List.mem_append_left _ hy, hs⟩
      · obtain rfl : x = e := by simpa using hx
        exact ⟨x, by simp, rfl, rfl⟩
    · rcases List.mem_append.1 hy with hy | hy
      · exact List.mem_append_left _ (h.sub y hy)
      · exact List.mem_append_right _ hy
theorem made_ok (draws : List Int) (l : List Ent) : MadeOk draws l (madeF draws l) := by
  have : ∀ (l done : List Ent) (s : Made), MadeOk draws done s → MadeOk draws (done ++ l) (l.foldl (madeS draws) s) := by
    intro l
    induction l with
    | nil => intro done s h; simpa using h
    | cons e l ih =>
      intro done s h
      have := ih (done ++ [e]) _ (h.step e)
      simpa using this
  exact this l [] ([], []) ⟨by simp [allE], List.Pairwise.nil, by simp, by simp⟩
theorem made_sorted (draws : List Int) (l : List Ent) : (allE (madeF draws l).1).Pairwise ltE := List.pairwise_map.2 (made_ok draws l).order
/-- One alone, of a list of which no two are. -/
theorem count_one {α : Type} (p : α → Bool) {R : α → α → Prop} (hR : ∀ a b, R a b → p a = true → p b = true → False) : ∀ {l : List α}, l.Pairwise R → (∃ a ∈ l, p a = true) → l.countP p = 1
  | [], _, ⟨a, ha, _⟩ => by simp at ha
  | x :: l, hp, ⟨a, ha, hpa⟩ => by
    obtain ⟨h1, h2⟩ := List.pairwise_cons.1 hp
    cases hx : p x with
    | true =>
      have h0 : l.countP p = 0 := List.countP_eq_zero.2 (fun b hb hpb => hR x b (h1 b hb) hx hpb)
      rw [List.countP_cons, hx, h0]
      rfl
    | false =>
      have : ∃ a ∈ l, p a = true := by
        rcases List.mem_cons.1 ha with rfl | ha
        · rw [hx] at hpa; cases hpa
        · exact ⟨a, ha, hpa⟩
      rw [List.countP_cons, hx, count_one p hR h2 this]
      rfl
theorem made_once (draws : List Int) (l : List Ent) {x : Ent} (hx : x ∈ l) : (madeF draws l).2.countP (samB x) = 1 := by
  have h := made_ok draws l
  rw [← h.perm.countP_eq]
  refine count_one (samB x) (R := ltE) (fun a b hab ha hb => ?_) (made_sorted draws l) ?_
  · have h1 := (samB_iff x a).1 ha
    have h2 := (samB_iff x b).1 hb
    exact ltE_irrefl (samE_lt_l (samE_trans h1 (samE_symm h2)) hab)
  · obtain ⟨y, hy, hs⟩ := h.some_ x hx
    exact ⟨y, h.perm.symm.subset hy, (samB_iff x y).2 hs⟩
theorem made_count (draws : List Int) (l : List Ent) {x : Ent} (hx : x ∈ allE (madeF draws l).1) : (madeF draws l).2.countP (fun y => decide (y = x)) = 1 := by
  have h := made_ok draws l
  rw [← h.perm.countP_eq]
  refine count_one _ (R := ltE) (fun a b hab ha hb => ?_) (made_sorted draws l) ⟨x, hx, by simp⟩
  have h1 : a = x := by simpa using ha
  have h2 : b = x := by simpa using hb
  subst h1; subst h2
  exact ltE_irrefl hab
theorem notAhead_all {l : List Ent} (h : ∀ e ∈ l, e.2.1 ≤ 18446744073709551615) : notAhead ⟨#[]⟩ 18446744073709551615 l = l := by
  unfold notAhead
  refine List.filter_eq_self.2 (fun e he => ?_)
  have : ¬ ltE e (⟨#[]⟩, 18446744073709551615, false, ⟨#[]⟩) := fun hlt => by
    rcases (ltE_iff _ _).1 hlt with h1 | ⟨_, h1⟩
    · have e0 : (⟨#[]⟩ : ByteArray).toList = [] := by rw [ByteArray.toList_eq]
      simp only [e0] at h1
      cases e.1.toList <;> simp [Op.bytesLess] at h1
    · have := h e he
      simp only at h1
      omega
  simpa using this
theorem made_all (draws : List Int) (l : List Ent) (h : ∀ e ∈ l, e.2.1 ≤ 18446744073709551615) : notAhead ⟨#[]⟩ 18446744073709551615 (allE (madeF draws l).1) = allE (madeF draws l).1 :=
  notAhead_all (fun e he => h e ((made_ok draws l).sub e ((made_ok draws l).perm.subset he)))
theorem made_lens (draws : List Int) (l : List Ent) : (allE (madeF draws l).1).length = (madeF draws l).2.length ∧ (madeF draws l).1.length = (madeF draws l).2.length ∧ (madeF draws l).2.length ≤ l.length := by
  obtain ⟨h1, h2⟩ := madeF_len draws l l.length
  rw [List.take_length] at h1 h2
  exact ⟨by rw [← h1]; simp [allE], h1, h2⟩
theorem countP_take {α : Type} (p : α → Bool) {l : List α} {j : Nat} {x : α} (h : l[j]? = some x) : (l.take (j + 1)).countP p = (l.take j).countP p + if p x = true then 1 else 0 := by
  rw [List.take_add_one, h, List.countP_append]
  simp [List.countP_cons]
end Go.Proofs.Ytjbbobhjomhnmaa.H
