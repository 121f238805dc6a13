/- merge.Of and merge.Keys: what they answer gives what the sources give when it is gone through. Conditions: sizes. -/
import Derived.Test.YtdpijhpjicbecaaGRun2
namespace Go.Proofs.Ytdpijhpjicbecaa.H
open Go Go.RowKit Go.Deep Go.Shelf Go.Proofs Go.Proofs.YtdpijhpjicbecaaW.PrintWords
set_option linter.unusedVariables false
set_option linter.unusedSimpArgs false
attribute [local go_sem] Oper.semAt_some
/-- HD holds as long as but blocks below lo or from hi on are written. -/
def Stays2 (lo hi : Nat) (HD : World → Prop) : Prop := ∀ (X : Nat → Prop) (W W' : World), HD W → Upd X W W' → (∀ k, X k → k < lo ∨ hi ≤ k) → HD W'
theorem Stays2.firm {lo hi : Nat} {HD : World → Prop} (h : Stays2 lo hi HD) : Firm hi HD := fun W W' i u => h _ _ _ i u (fun k hk => .inr hk)
theorem Stays2.mono {lo hi lo' hi' : Nat} {HD : World → Prop} (h : Stays2 lo hi HD) (hl : lo' ≤ lo) (hh : hi ≤ hi') : Stays2 lo' hi' HD := fun X W W' i u hX => h X W W' i u (fun k hk => (hX k hk).imp (fun h => Nat.lt_of_lt_of_le h hl) (fun h => Nat.le_trans hh h))
theorem Stays2.and {lo hi : Nat} {HD HE : World → Prop} (h : Stays2 lo hi HD) (k : Stays2 lo hi HE) : Stays2 lo hi (fun W => HD W ∧ HE W) := fun X W W' i u hX => ⟨h X W W' i.1 u hX, k X W W' i.2 u hX⟩
theorem of2_c (A : Option Addr) (c : Nat) (fs : List FV) (w : World) (hs : Sl encF 1 w A fs) (hA : fs = [] → (A = none ∧ c = 0) ∨ ∃ b o, A = some ⟨b, o, none⟩) (hl : fs.length < 1000000000) :
    Calls Try.prog 16 #[.slice A fs.length c] w fun e w' => ∃ f : FV, e = .returned (valF f) ∧ Below w.heap.size w w' ∧ ∃ HD : World → Prop, HD w' ∧ Stays2 w.heap.size w'.heap.size HD ∧ (∀ W, HD W → w'.heap.size ≤ W.heap.size) ∧
      ∀ (n : Nat) (U : Nat → Prop) (St : Nat → World → Prop) (ls : List (List Ent)), w'.heap.size ≤ n → Srcs n U St fs ls → (∀ k, Firm n (St k)) → (∀ k, U k → k < w.heap.size) → totL ls < 1000000000 →
        IterUV Try.prog (valF f) encA n U (fun W => St 0 W ∧ HD W ∧ n ≤ W.heap.size) (fun W => St ls.length W ∧ HD W ∧ n ≤ W.heap.size) (fun W => St ls.length W ∧ HD W ∧ n ≤ W.heap.size) (mergeL ls) := by
  have HS := Lib.hid hs
  obtain ⟨W1, hW1⟩ : ∃ Z, w.alloc (.cells #[.slice A fs.length c] 33) = Z := ⟨_, rfl⟩
  have r1 : W1.heap[w.heap.size]? = some (.cells #[.slice A fs.length c] 33 (0, 0)) := by rw [← hW1]; exact heap_alloc_new _ _
  have hb1 : Below w.heap.size w W1 := by rw [← hW1]; exact (Below.refl _ _).alloc (Nat.le_refl _) _
  have HC := Lib.hid (show Calls Try.prog 58 #[.slice A fs.length c] W1 (fun e w' => ∃ v, e = .returned v ∧ Own encF 31 1 w' W1.heap.size v fs ∧ Below W1.heap.size W1 w') from by
    by_cases hf : (A = none ∧ c = 0) ∧ fs = []
    · obtain ⟨⟨rfl, rfl⟩, rfl⟩ := hf
      refine (clone_nil_c W1).mono ?_
      rintro e w' ⟨rfl, rfl⟩
      exact ⟨_, rfl, Own.nil _ _ _ _ _, Below.refl _ _⟩
    · obtain ⟨b, o, rfl⟩ : ∃ b o, A = some ⟨b, o, none⟩ := by
        rcases hs.2 with h | ⟨b, o, h, _⟩
        · rcases hA h with h2 | h2
          · exact absurd ⟨h2, h⟩ hf
          · exact h2
        · exact ⟨b, o, h⟩
      exact clone_c b o c fs W1 (hs.later hb1) hl)
  have HR1 := Lib.hid r1
  have HB1 := Lib.hid hb1
  have c1 : W1.cell? ⟨w.heap.size, 0, none⟩ = some (.slice A fs.length c) := (blk_cell r1 0).trans rfl
  clear hs hA r1 hb1
  go_enter Try.func16, Try.ntmps16
  go_wp2_with fail
  refine HC.out.mono ?_
  rintro _ w2 ⟨v, rfl, ho, hb2⟩
  obtain ⟨A2, c2, rfl⟩ := own_slice ho
  have hsz1 : w.heap.size < W1.heap.size := blk_lt HR1.out
  have r2 : w2.heap[w.heap.size]? = some (.cells #[.slice A fs.length c] 33 (0, 0)) := blk_below HR1.out hb2
  have f2 : w2.frozen? ⟨w.heap.size, 0, none⟩ = false := blk_frozen r2 0
  have d2 : w2.cell? ⟨w.heap.size, 0, none⟩ = some (.slice A fs.length c) := (blk_cell r2 0).trans rfl
  obtain ⟨W3, hW3⟩ : ∃ Z, w2.setCell ⟨w.heap.size, 0, none⟩ (.slice A2 fs.length c2) = Z := ⟨_, rfl⟩
  have r3 : W3.heap[w.heap.size]? = some (.cells #[.slice A2 fs.length c2] 33 (0, 0)) := by rw [← hW3]; exact blk_set r2 0 _
  have u3 : Upd (fun k => k = w.heap.size) w2 W3 := by rw [← hW3]; exact Upd.setCell _ _ _ rfl
  have hb3 : Below w.heap.size w W3 := (HB1.out.trans (hb2.mono (Nat.le_of_lt hsz1))).trans (u3.bel (fun k hk => by rw [hk]; exact Nat.le_refl _) (by have := hb2.size; omega))
  have hne : ∀ b o, A2 = some ⟨b, o, none⟩ → W1.heap.size ≤ b ∧ b < w2.heap.size := fun b o e => by
    subst e
    exact ho.block_lt rfl
  have hrow : Sl encV 1 W3 A2 (fs.map valF) := (sl_vals (own_sl ho (fun x => (okF x).1))).upd u3 (fun b o e h => by have := (hne b o e).1; omega)
  have HR3 := Lib.hid r3
  have HB3 := Lib.hid hb3
  have HROW := Lib.hid hrow
  have HNE := Lib.hid hne
  have HSZ := Lib.hid u3.size
  clear ho hb2 r2 r3 u3 hb3 hrow hne c1
  go_wp2
  go_ret
  have hsz3 := blk_lt HR3.out
  have hheld : ∀ (n : Nat) (U : Nat → Prop) (W : World), W3.heap.size ≤ n → (∀ k, U k → k < w.heap.size) → (((W3.heap.size ≤ W.heap.size ∧ W.heap[w.heap.size]? = some (.cells #[.slice A2 fs.length c2] 33 (0, 0)) ∧ Sl encV 1 W A2 (fs.map valF)) ∧ n ≤ W.heap.size) ↔ Held n U w.heap.size A2 c2 (fs.map valF) W) := fun n U W hn hU => by
    constructor
    · rintro ⟨⟨h1, h2, h3⟩, h4⟩
      refine ⟨h4, by omega, fun h => by have := hU _ h; omega, by rw [List.length_map]; exact h2, h3, fun b o e => ?_⟩
      obtain ⟨q1, q2⟩ := HNE.out b o e
      exact ⟨by have := HSZ.out; omega, fun h => by have := hU _ h; omega⟩
    · intro h
      exact ⟨⟨Nat.le_trans hn h.sz, by have := h.box; rwa [List.length_map] at this, h.row⟩, h.sz⟩
  refine ⟨(59, #[], #[.pointer (some ⟨w.heap.size, 0, none⟩)]), rfl, HB3.out, (fun W => W3.heap.size ≤ W.heap.size ∧ W.heap[w.heap.size]? = some (.cells #[.slice A2 fs.length c2] 33 (0, 0)) ∧ Sl encV 1 W A2 (fs.map valF)), ⟨Nat.le_refl _, HR3.out, HROW.out⟩, ?_, fun W h => h.1, ?_⟩
  · rintro X W W' ⟨h1, h2, h3⟩ u hX
    refine ⟨Nat.le_trans h1 u.size, u.heap h2 (fun hx => by have := hX _ hx; omega), h3.upd u (fun b o e hx => ?_)⟩
    have := HNE.out b o e
    have := hX _ hx
    have := HSZ.out
    omega
  · intro n U St ls hn hsrc hSt hU htot
    have hln : ls.length < 1000000000 := by rw [← hsrc.1]; exact hl
    have hit : IterUV Try.prog (valF (59, #[], #[.pointer (some ⟨w.heap.size, 0, none⟩)])) encA n U (fun W => St 0 W ∧ Held n U w.heap.size A2 c2 (fs.map valF) W) (fun W => St ls.length W ∧ Held n U w.heap.size A2 c2 (fs.map valF) W) (fun W => St ls.length W ∧ Held n U w.heap.size A2 c2 (fs.map valF) W) (mergeL ls) := by
      refine ⟨_, _, _, rfl, enters_of Try.func59 (by kernel_rfl) rfl, fun W => ?_⟩
      refine of1_it n U St w.heap.size A2 c2 (fs.map valF) ls (by rw [List.length_map]; exact hsrc.1) (fun k f l hf hl => ?_) hSt (fun k hk => by have := hU k hk; have := HB3.out.size; omega) htot hln W
      rw [List.getElem?_map] at hf
      cases hy : fs[k]? with
      | none => rw [hy] at hf; cases hf
      | some y =>
        rw [hy] at hf
        injection hf with hf
        subst hf
        exact hsrc.2 k y l hy hl
    exact hit.mono (Nat.le_refl _) (fun k h => h) (fun W h => ⟨h.1, (hheld n U W hn hU).1 h.2⟩) (fun W h => ⟨h.1, (hheld n U W hn hU).2 h.2⟩) (fun W h => ⟨h.1, (hheld n U W hn hU).2 h.2⟩)
set_option maxRecDepth 100000 in
theorem keys2_c (A : Option Addr) (c : Nat) (fs : List FV) (w : World) (hs : Sl encF 1 w A fs) (hA : fs = [] → (A = none ∧ c = 0) ∨ ∃ b o, A = some ⟨b, o, none⟩) (hl : fs.length < 1000000000) :
    Calls Try.prog 18 #[.slice A fs.length c] w fun e w' => ∃ f : FV, e = .returned (valF f) ∧ Below w.heap.size w w' ∧ ∃ HD : World → Prop, HD w' ∧ Stays2 w.heap.size w'.heap.size HD ∧ (∀ W, HD W → w'.heap.size ≤ W.heap.size) ∧
      ∀ (U : Nat → Prop) (St : Nat → World → Prop) (ls : List (List Ent)), Srcs w'.heap.size U St fs ls → (∀ k, Firm w'.heap.size (St k)) → (∀ k, U k → k < w.heap.size) → totL ls < 1000000000 →
        KeyV f w'.heap.size U (fun W => St 0 W ∧ HD W) (fun W => St ls.length W ∧ HD W) (groupsL (mergeL ls)) := by
  have HC := Lib.hid (of2_c A c fs w hs hA hl)
  clear hs hA
  go_enter Try.func18, Try.ntmps18
  go_wp2_with fail
  refine HC.out.mono ?_
  rintro _ w1 ⟨f, rfl, hb1, HD, hd1, hst, _, hit⟩
  have r1 := heap_alloc_new w1 (.cells #[.nilFunc] 31)
  have f1 : (w1.alloc (.cells #[.nilFunc] 31)).frozen? ⟨w1.heap.size, 0, none⟩ = false := blk_frozen r1 0
  have d1 : (w1.alloc (.cells #[.nilFunc] 31)).cell? ⟨w1.heap.size, 0, none⟩ = some .nilFunc := (blk_cell r1 0).trans rfl
  obtain ⟨W2, hW2⟩ : ∃ Z, (w1.alloc (.cells #[.nilFunc] 31)).setCell ⟨w1.heap.size, 0, none⟩ (valF f) = Z := ⟨_, rfl⟩
  have r2 : W2.heap[w1.heap.size]? = some (.cells #[valF f] 31 (0, 0)) := by rw [← hW2]; exact blk_set r1 0 _
  have hb2 : Below w1.heap.size w1 W2 := by rw [← hW2]; exact ((Below.refl _ _).alloc (Nat.le_refl _) _).setCell (p := ⟨w1.heap.size, 0, none⟩) (Nat.le_refl _) _
  have hsz := blk_lt r2
  have hle := hb1.size
  have HB := Lib.hid (hb1.trans (hb2.mono hle))
  have HST := Lib.hid hst
  have HD2 := Lib.hid (hst.firm.later hd1 hb2)
  have HIT := Lib.hid hit
  have HR2 := Lib.hid r2
  clear hb1 hst hd1 hit hb2 r2 r1
  unfold valF at hW2
  unfold valF
  go_wp2
  go_ret
  have hbs : Stays2 w.heap.size W2.heap.size (fun W => W.heap[w1.heap.size]? = some (.cells #[valF f] 31 (0, 0))) := fun X W W' h u hX => u.heap h (fun hx => by have := hX _ hx; omega)
  have hbz : Stays2 w.heap.size W2.heap.size (fun W => W2.heap.size ≤ W.heap.size) := fun X W W' h u hX => Nat.le_trans h u.size
  refine ⟨(65, #[], #[.pointer (some ⟨w1.heap.size, 0, none⟩)]), rfl, HB.out, (fun W => (HD W ∧ W2.heap.size ≤ W.heap.size) ∧ W.heap[w1.heap.size]? = some (.cells #[valF f] 31 (0, 0))), ⟨⟨HD2.out, Nat.le_refl _⟩, HR2.out⟩, ((HST.out.mono (Nat.le_refl _) (Nat.le_of_lt hsz)).and hbz).and hbs, fun W h => h.1.2, ?_⟩
  intro U St ls hsrc hSt hU htot
  refine ⟨_, _, _, rfl, enters_of Try.func65 (by kernel_rfl) rfl, fun W hW => ?_⟩
  have h1 := HIT.out W2.heap.size U St ls (Nat.le_of_lt hsz) hsrc hSt hU htot
  have hfd : Firm W2.heap.size (fun W => HD W ∧ W2.heap.size ≤ W.heap.size) := ((HST.out.mono (Nat.le_refl _) (Nat.le_of_lt hsz)).and hbz).firm
  have hn1 : ∀ k, U k → k < W2.heap.size := fun k hk => by have := hU k hk; omega
  have hun : ¬ U w1.heap.size := fun h => by have := hU _ h; omega
  have := keys1_it W2.heap.size U (fun W => St 0 W ∧ HD W ∧ W2.heap.size ≤ W.heap.size) (fun W => St ls.length W ∧ HD W ∧ W2.heap.size ≤ W.heap.size) (mergeL ls) w1.heap.size f h1 ((hSt 0).and hfd) ((hSt _).and hfd) hn1 (by rw [mergeL_length]; omega) W hW
  exact this.mono (Nat.le_refl _) (fun k h => h) (fun W h => ⟨⟨h.1, h.2.1⟩, hsz, hun, h.2.2⟩) (fun W h => ⟨h.1.1, h.1.2, h.2.2.2⟩) (fun W h => ⟨h.1.1, h.1.2, h.2.2.2⟩)
end Go.Proofs.Ytdpijhpjicbecaa.H
