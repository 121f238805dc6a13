/- sieve.Keep, and the document's Keep. Conditions: sizes. -/
import Derived.Test.YtdpijhpjicbecaaV6
import Derived.Test.YtdpijhpjicbecaaGRfK
namespace Go.Proofs.Ytdpijhpjicbecaa.H
open Go Go.RowKit Go.Deep Go.Shelf Go.Proofs Go.Proofs.YtdpijhpjicbecaaW.PrintWords
set_option linter.unusedVariables false
set_option linter.unusedSimpArgs false
attribute [local go_sem] Oper.semAt_some
theorem srcs_mono {n m : Nat} {U : Nat → Prop} {St : Nat → World → Prop} {fs : List FV} {ls : List (List Ent)} (h : Srcs n U St fs ls) (hn : n ≤ m) : Srcs m U St fs ls :=
  ⟨h.1, fun k f l a b => (h.2 k f l a b).mono hn (fun k h => h) (fun W h => h) (fun W h => h) (fun W h => h)⟩
set_option maxHeartbeats 1600000 in
set_option maxRecDepth 100000 in
theorem keep_c (A : Option Addr) (c : Nat) (fs : List FV) (g : FV) (w : World) (hs : Sl encF 1 w A fs) (hA : fs = [] → (A = none ∧ c = 0) ∨ ∃ b o, A = some ⟨b, o, none⟩) (hl : fs.length < 1000000000) :
    Calls Try.prog 37 #[valF g, .slice A fs.length c] w fun e w' => ∃ f : FV, e = .returned (valF f) ∧ Below w.heap.size w w' ∧ ∃ HD : World → Prop, HD w' ∧ Stays2 w.heap.size w'.heap.size HD ∧ (∀ W, HD W → w'.heap.size ≤ W.heap.size) ∧
      ∀ (U : Nat → Prop) (St : Nat → World → Prop) (ls : List (List Ent)) (b : ByteArray → Bool) (K : ByteArray → Prop) (HB : World → Prop), Srcs w.heap.size U St fs ls → (∀ k, Firm w.heap.size (St k)) → (∀ k, U k → k < w.heap.size) → totL ls < 1000000000 → TellsAt g b K w'.heap.size U HB → (∀ x ∈ groupsL (mergeL ls), ∀ e ∈ x, K e.1) →
        IterUV Try.prog (valF f) encA w'.heap.size U (fun W => St 0 W ∧ HD W ∧ HB W) (fun W => St ls.length W ∧ HD W ∧ HB W) (fun W => St ls.length W ∧ HD W ∧ HB W) (keepL b (groupsL (mergeL ls))) := by
  obtain ⟨w0, hw0⟩ : ∃ Z, w.alloc (.cells #[valF g] 61) = Z := ⟨_, rfl⟩
  have hb0 : Below w.heap.size w w0 := by rw [← hw0]; exact (Below.refl _ _).alloc (Nat.le_refl _) _
  have hr0 : w0.heap[w.heap.size]? = some (.cells #[valF g] 61 (0, 0)) := by rw [← hw0]; exact heap_alloc_new _ _
  have hz0 : w0.heap.size = w.heap.size + 1 := by rw [← hw0]; simp
  have HC := Lib.hid (keys2_c A c fs w0 (hs.later hb0) hA hl)
  obtain ⟨gf, ga, gb⟩ := g
  have HR0 := Lib.hid hr0
  have HB0 := Lib.hid hb0
  rw [show valF (gf, ga, gb) = .func (.func gf) ga gb from rfl] at hw0 ⊢
  clear hs hA hr0 hb0
  go_enter Try.func37, Try.ntmps37
  go_wp2_with fail
  try rw [hw0]
  refine HC.out.mono ?_
  rintro _ w1 ⟨f, rfl, hb1, HD, hd1, hst, _, hit⟩
  have r1 := heap_alloc_new w1 (.cells #[.nilFunc] 36)
  have f1 : (w1.alloc (.cells #[.nilFunc] 36)).frozen? ⟨w1.heap.size, 0, none⟩ = false := blk_frozen r1 0
  have d1 : (w1.alloc (.cells #[.nilFunc] 36)).cell? ⟨w1.heap.size, 0, none⟩ = some .nilFunc := (blk_cell r1 0).trans rfl
  obtain ⟨W2, hW2⟩ : ∃ Z, (w1.alloc (.cells #[.nilFunc] 36)).setCell ⟨w1.heap.size, 0, none⟩ (valF f) = Z := ⟨_, rfl⟩
  have r2 : W2.heap[w1.heap.size]? = some (.cells #[valF f] 36 (0, 0)) := by rw [← hW2]; exact blk_set r1 0 _
  have hb2 : Below w1.heap.size w1 W2 := by rw [← hW2]; exact ((Below.refl _ _).alloc (Nat.le_refl _) _).setCell (p := ⟨w1.heap.size, 0, none⟩) (Nat.le_refl _) _
  have hsz := blk_lt r2
  have hle := hb1.size
  have hb02 := HB0.out.trans ((hb1.trans (hb2.mono hle)).mono HB0.out.size)
  have HR02 := Lib.hid (show W2.heap[w.heap.size]? = some (.cells #[valF (gf, ga, gb)] 61 (0, 0)) from blk_below HR0.out (hb1.trans (hb2.mono hle)))
  have HB := Lib.hid hb02
  have HST := Lib.hid hst
  have HD2 := Lib.hid (hst.firm.later hd1 hb2)
  have HIT := Lib.hid hit
  have HR2 := Lib.hid r2
  clear hb1 hst hd1 hit hb2 r2 r1 hb02
  unfold valF at hW2
  unfold valF
  go_wp2
  go_ret
  have hbs : Stays2 w.heap.size W2.heap.size (fun W => W.heap[w1.heap.size]? = some (.cells #[valF f] 36 (0, 0))) := fun X W W' h u hX => u.heap h (fun hx => by have := hX _ hx; omega)
  have hbg : Stays2 w.heap.size W2.heap.size (fun W => W.heap[w.heap.size]? = some (.cells #[valF (gf, ga, gb)] 61 (0, 0))) := fun X W W' h u hX => u.heap h (fun hx => by have := hX _ hx; omega)
  have hbz : Stays2 w.heap.size W2.heap.size (fun W => W2.heap.size ≤ W.heap.size) := fun X W W' h u hX => Nat.le_trans h u.size
  refine ⟨(73, #[], #[.pointer (some ⟨w1.heap.size, 0, none⟩), .pointer (some ⟨w.heap.size, 0, none⟩)]), rfl, HB.out, (fun W => ((HD W ∧ W2.heap.size ≤ W.heap.size) ∧ W.heap[w1.heap.size]? = some (.cells #[valF f] 36 (0, 0))) ∧ W.heap[w.heap.size]? = some (.cells #[valF (gf, ga, gb)] 61 (0, 0))),
    ⟨⟨⟨HD2.out, Nat.le_refl _⟩, HR2.out⟩, HR02.out⟩, (((HST.out.mono (by omega) (Nat.le_of_lt hsz)).and hbz).and hbs).and hbg, fun W h => h.1.1.2, ?_⟩
  intro U St ls b K HBB hsrc hSt hU htot htl hKK
  have hUk : ∀ k, U k → k < w0.heap.size := fun k hk => by have := hU k hk; omega
  have h1 := HIT.out U St ls (srcs_mono hsrc (by omega)) (fun k => (hSt k).mono (by omega)) hUk htot
  have hfd : Firm W2.heap.size (fun W => HD W) := (HST.out.mono (Nat.le_refl _) (Nat.le_of_lt hsz)).firm
  have hKV : KeyV f W2.heap.size U (fun W => St 0 W ∧ HD W) (fun W => St ls.length W ∧ HD W) (groupsL (mergeL ls)) := by
    obtain ⟨gf, fa, lb, e, hen, hi⟩ := h1
    exact ⟨gf, fa, lb, e, hen, fun W hW => (hi W (by omega)).mono (Nat.le_of_lt hsz) (fun k h => h) (fun W h => h) (fun W h => h) (fun W h => h)⟩
  have hn1 : ∀ k, U k → k < W2.heap.size := fun k hk => by have := hU k hk; omega
  have hu1 : ¬ U w1.heap.size := fun h => by have := hU _ h; omega
  have hu0 : ¬ U w.heap.size := fun h => by have := hU _ h; omega
  have hlt0 : w.heap.size < W2.heap.size := by omega
  have hws : w.heap.size ≤ W2.heap.size := by omega
  refine ⟨_, _, _, rfl, enters_of Try.func73 (by kernel_rfl) rfl, fun W => ?_⟩
  intro fn cap J Jx T hJ hJx hT h0 hi0 hY
  obtain ⟨i1, ⟨⟨⟨i2, i3⟩, i4⟩, i5⟩, i6⟩ := hi0
  have := keep1_it W2.heap.size U (fun W => St 0 W ∧ HD W) (fun W => St ls.length W ∧ HD W) (groupsL (mergeL ls)) w1.heap.size w.heap.size f (gf, ga, gb) b K HBB hKV htl hKK (((hSt 0).mono hws).and hfd) (((hSt _).mono hws).and hfd) hn1 W i3
  have hall : ∀ W', (((St ls.length W' ∧ HD W') ∧ BoxV W2.heap.size U 36 w1.heap.size f W' ∧ BoxV W2.heap.size U 61 w.heap.size (gf, ga, gb) W' ∧ HBB W') ∧ W2.heap.size ≤ W'.heap.size) → (St ls.length W' ∧ (((HD W' ∧ W2.heap.size ≤ W'.heap.size) ∧ W'.heap[w1.heap.size]? = some (.cells #[valF f] 36 (0, 0))) ∧ W'.heap[w.heap.size]? = some (.cells #[valF (gf, ga, gb)] 61 (0, 0))) ∧ HBB W') :=
    fun W' ⟨⟨⟨a1, a2⟩, a3, a4, a5⟩, a6⟩ => ⟨a1, ⟨⟨⟨a2, a6⟩, a3.2.2⟩, a4.2.2⟩, a5⟩
  refine (this fn cap J Jx T hJ hJx hT h0 ⟨⟨i1, i2⟩, ⟨hsz, hu1, i4⟩, ⟨hlt0, hu0, i5⟩, i6⟩ (fun pre x T1 W1 a b c d e => hY pre x T1 W1 a (hall _ ⟨b, Nat.le_trans i3 d.size⟩) c d e)).mono ?_
  rintro e W' ⟨hv, T', hg, hu, hr⟩
  exact ⟨hv, T', hg, hu, hr.imp (fun h => ⟨h.1, hall _ ⟨h.2, Nat.le_trans i3 hu.size⟩⟩) (fun ⟨p, a, b, c⟩ => ⟨p, a, b, hall _ ⟨c, Nat.le_trans i3 hu.size⟩⟩)⟩
end Go.Proofs.Ytdpijhpjicbecaa.H
