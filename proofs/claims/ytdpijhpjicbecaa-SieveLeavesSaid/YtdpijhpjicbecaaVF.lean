/- SieveLeaves, first parts: what Keep gave while the list of sources is written over; sources that look up what they give; the function that stops. Conditions: sizes. -/
import Derived.Test.YtdpijhpjicbecaaVE
import Derived.Test.YtdpijhpjicbecaaVP
namespace Go.Proofs.Ytdpijhpjicbecaa.H
open Go Go.RowKit Go.Deep Go.Shelf Go.Proofs Go.Proofs.YtdpijhpjicbecaaW.PrintWords
set_option linter.unusedVariables false
set_option linter.unusedSimpArgs false
attribute [local go_sem] Oper.semAt_some
/-- An iterator held, that stands what is written to the blocks P too. -/
def KHeldP (P : Nat → Prop) (f : FV) (l : List Ent) (W : World) : Prop := ∃ (n : Nat) (HD : World → Prop), n ≤ W.heap.size ∧ (∀ W W', HD W → Upd (fun k => P k ∨ n ≤ k) W W' → HD W') ∧ HD W ∧ IterUV Try.prog (valF f) encA n noU HD HD HD l
theorem KHeldP.upd {P : Nat → Prop} {f : FV} {l : List Ent} {W W' : World} {S : Nat → Prop} (h : KHeldP P f l W) (u : Upd S W W') (hS : ∀ k, S k → P k ∨ W.heap.size ≤ k) : KHeldP P f l W' := by
  obtain ⟨n, HD, h1, h2, h3, h4⟩ := h
  exact ⟨n, HD, Nat.le_trans h1 u.size, h2, h2 _ _ h3 (u.mono fun k hk => (hS k hk).imp id (fun h => Nat.le_trans h1 h)), h4⟩
theorem KHeldP.held {P : Nat → Prop} {f : FV} {l : List Ent} {W : World} (h : KHeldP P f l W) : KHeld f l W := by
  obtain ⟨n, HD, h1, h2, h3, h4⟩ := h
  exact ⟨n, HD, h1, fun W W' h u => h2 W W' h (u.mono fun k hk => .inr hk), h3, h4⟩
theorem keepP_c (P : Nat → Prop) (A : Option Addr) (c : Nat) (ps : List Nat) (L : List HE) (g : FV) (b : ByteArray → Bool) (K : ByteArray → Prop) (HB : World → Prop) (w : World) (hs : Sl encF 1 w A (ps.map fv1)) (hA : ps = [] → (A = none ∧ c = 0) ∨ ∃ b o, A = some ⟨b, o, none⟩) (hpl : ps.length = L.length) (hsrc : SrcsL w.heap.size ps L w)
    (hl : ps.length < 1000000000) (ht : totL (L.map (·.2.2)) < 1000000000) (hg : TellsAt g b K w.heap.size noU HB) (hb : HB w) (hK : ∀ x ∈ groupsL (mergeL (L.map (·.2.2))), ∀ e ∈ x, K e.1)
    (hP : ∀ k, P k → k < w.heap.size) (hPs : ∀ W W', SrcsL w.heap.size ps L W → Upd (fun k => P k ∨ w.heap.size ≤ k) W W' → SrcsL w.heap.size ps L W') (hPb : ∀ W W', HB W → Upd (fun k => P k ∨ w.heap.size ≤ k) W W' → HB W') :
    Calls Try.prog 37 #[valF g, .slice A ps.length c] w fun e w' => ∃ f : FV, e = .returned (valF f) ∧ Below w.heap.size w w' ∧ KHeldP P f (keepL b (groupsL (mergeL (L.map (·.2.2))))) w' := by
  have h := keep_c A c (ps.map fv1) g w hs (fun h => hA (by simpa using h)) (by simpa using hl)
  rw [List.length_map] at h
  refine h.mono ?_
  rintro e w' ⟨f, h1, h2, HD, h3, h4, h5, h6⟩
  refine ⟨f, h1, h2, w'.heap.size, fun W => SrcsL w.heap.size ps L W ∧ HD W ∧ HB W, Nat.le_refl _, ?_, ⟨(srcsL_firm _ _ _).later hsrc h2, h3, hg.stays _ _ hb (Upd.of_below h2)⟩, ?_⟩
  · intro W W' ⟨i1, i2, i3⟩ u
    have hsz := h2.size
    have u2 : Upd (fun k => P k ∨ w.heap.size ≤ k) W W' := u.mono fun k hk => hk.imp id (fun h => Nat.le_trans hsz h)
    exact ⟨hPs _ _ i1 u2, h4 _ _ _ i2 u (fun k hk => hk.imp (hP k) id), hPb _ _ i3 u2⟩
  · exact h6 noU (fun _ => SrcsL w.heap.size ps L) (L.map (·.2.2)) b K HB (srcs_L _ _ _ hpl) (fun _ => srcsL_firm _ _ _) (fun k h => h.elim) ht ⟨hg.enter, fun W W' h u => hg.stays W W' h (u.mono fun k hk => hk.imp id (fun h => Nat.le_trans h2.size h)), fun W h hn => hg.tells W h (Nat.le_trans h2.size hn)⟩ hK
/-- The two lists that are looked up: a box bn, its row at br; the second one's entries. -/
structure NowAt (n₀ bn br : Nat) (A : Option Addr) (c : Nat) (l : List Ent) (W : World) : Prop where
  lt : bn < n₀ ∧ br < n₀
  box : W.heap[bn]? = some (.cells #[.slice (some ⟨br, 0, none⟩) 2 2] 22 (0, 0))
  row : W.heap[br]? = some (.cells #[.slice none 0 0, .slice A l.length c] 27 (0, 0))
  sl : Sl encE 4 W A l
  low : l ≠ [] → ∀ g o, A = some ⟨g, o, none⟩ → g < n₀
theorem NowAt.upd {n₀ bn br : Nat} {A : Option Addr} {c : Nat} {l : List Ent} {S : Nat → Prop} {W W' : World} (h : NowAt n₀ bn br A c l W) (u : Upd S W W') (hS : ∀ k, S k → n₀ ≤ k) : NowAt n₀ bn br A c l W' :=
  ⟨h.lt, u.heap h.box (fun hx => by have := hS _ hx; have := h.lt.1; omega), u.heap h.row (fun hx => by have := hS _ hx; have := h.lt.2; omega), h.sl.upd2 u (fun hl g o e hx => by have := hS _ hx; have := h.low hl g o e; omega), h.low⟩
theorem nowAt_firm (n₀ bn br : Nat) (A : Option Addr) (c : Nat) (l : List Ent) : Firm n₀ (NowAt n₀ bn br A c l) := fun W W' h u => h.upd u (fun k hk => hk)
set_option maxHeartbeats 1600000 in
set_option maxRecDepth 100000 in
theorem now3_it (n₀ bn br : Nat) (A : Option Addr) (c : Nat) (l : List Ent) (W : World) :
    IterU Try.prog 46 #[] #[.pointer (some ⟨bn, 0, none⟩)] encA n₀ noU (NowAt n₀ bn br A c l) (NowAt n₀ bn br A c l) (NowAt n₀ bn br A c l) ([] : List Ent) W := by
  intro fn cap J Jx T hJ hJx hT h0 hi0 hY
  have c0 : W.cell? ⟨bn, 0, none⟩ = some (.slice (some ⟨br, 0, none⟩) 2 2) := (blk_cell hi0.box 0).trans rfl
  have c1 : W.cell? ⟨br, 0, none⟩ = some (.slice none 0 0) := (blk_cell hi0.row 0).trans rfl
  have HSC := Lib.hid (show Calls Try.prog 43 #[.slice none 0 0] W (fun e W6 => e = .returned (.func (.func 75) #[] #[.pointer (some ⟨W.heap.size, 0, none⟩)]) ∧ Below W.heap.size W W6 ∧ W6.heap[W.heap.size]? = some (.cells #[.slice none 0 0] 27 (0, 0)) ∧ W6.heap.size = W.heap.size + 1) from (source_c none 0 0 W).mono fun e W6 ⟨h1, h2⟩ => ⟨h1, by rw [h2]; exact (Below.refl _ _).alloc (Nat.le_refl _) _, by rw [h2]; exact heap_alloc_new _ _, by rw [h2]; simp⟩)
  have HGEN := Lib.hid (show ∀ W1 : World, Below W.heap.size W W1 → W1.heap[W.heap.size]? = some (.cells #[.slice none 0 0] 27 (0, 0)) → Calls Try.prog 75 #[.func fn #[] cap, .pointer (some ⟨W.heap.size, 0, none⟩)] W1 (fun e W' => (∃ v, e = .returned v) ∧ ∃ T', Grow T T' W ∧ Upd (fun k => T k ∨ noU k) W W' ∧ ((J ([] : List Ent) T' W' ∧ NowAt n₀ bn br A c l W') ∨ ∃ pre, pre <+: ([] : List Ent) ∧ Jx pre T' W' ∧ NowAt n₀ bn br A c l W')) from fun W1 hb hr => by
    have hnT : ¬ T W.heap.size := fun h => Nat.lt_irrefl _ (hJ.lt h0 h)
    have hst : ∀ W', Upd T W1 W' → Upd T W W' := fun W' u => (Upd.of_below hb).trans u
    refine (src_gen W.heap.size none 0 ([] : List Ent) W1 fn cap J Jx T hJ hJx (hJ.move h0 (Same.of_below hb (fun k hk => hJ.lt h0 hk))) (fun W' u => ⟨u.heap hr hnT, ?_⟩) (fun pre x T1 W2 hj hg hu hp => hY pre x T1 W2 hj (hi0.upd (hst _ hu) hT) (fun k hk => (hg k hk).imp id (fun h => Nat.le_trans hb.size h)) ((hst _ hu).mono fun k hk => .inl hk) hp)).mono ?_
    · exact Sl.nil _ _ _ _
    · rintro e W' ⟨hv, T', hg, hu, hr⟩
      exact ⟨hv, T', fun k hk => (hg k hk).imp id (fun h => Nat.le_trans hb.size h), (hst _ hu).mono fun k hk => .inl hk, hr.imp (fun h => ⟨h, hi0.upd (hst _ hu) hT⟩) (fun ⟨p, a, b⟩ => ⟨p, a, b, hi0.upd (hst _ hu) hT⟩)⟩)
  clear hJ hJx hT h0 hi0 hY
  have hen : ∀ args w, (callFunc 75 args).run Try.prog w = .ok (.enter 75 args) w := enters_of Try.func75 (by kernel_rfl) rfl
  go_enter Try.func46, Try.ntmps46
  go_wp2_with fail
  refine HSC.out.mono ?_
  clear HSC
  rintro _ W1 ⟨rfl, hb1, hr1, _⟩
  have HC := Lib.hid (HGEN.out W1 hb1 hr1)
  clear HGEN hb1 hr1
  go_wp2_with fail
  go_at_fn 75
  refine HC.out.mono ?_
  clear HC
  rintro _ W2 ⟨⟨v, rfl⟩, hfin⟩
  have HFIN := Lib.hid hfin
  clear hfin
  go_wp2
  go_end0
  exact ⟨⟨_, rfl⟩, HFIN.out⟩
set_option maxHeartbeats 1600000 in
set_option maxRecDepth 100000 in
theorem now4_it (n₀ bn br : Nat) (A : Option Addr) (c : Nat) (l : List Ent) (W : World) :
    IterU Try.prog 47 #[] #[.pointer (some ⟨bn, 0, none⟩)] encA n₀ noU (NowAt n₀ bn br A c l) (NowAt n₀ bn br A c l) (NowAt n₀ bn br A c l) l W := by
  intro fn cap J Jx T hJ hJx hT h0 hi0 hY
  have c0 : W.cell? ⟨bn, 0, none⟩ = some (.slice (some ⟨br, 0, none⟩) 2 2) := (blk_cell hi0.box 0).trans rfl
  have c1 : W.cell? ⟨br, 1, none⟩ = some (.slice A l.length c) := (blk_cell hi0.row 1).trans rfl
  have HSC := Lib.hid (show Calls Try.prog 43 #[.slice A l.length c] W (fun e W6 => e = .returned (.func (.func 75) #[] #[.pointer (some ⟨W.heap.size, 0, none⟩)]) ∧ Below W.heap.size W W6 ∧ W6.heap[W.heap.size]? = some (.cells #[.slice A l.length c] 27 (0, 0)) ∧ W6.heap.size = W.heap.size + 1) from (source_c A l.length c W).mono fun e W6 ⟨h1, h2⟩ => ⟨h1, by rw [h2]; exact (Below.refl _ _).alloc (Nat.le_refl _) _, by rw [h2]; exact heap_alloc_new _ _, by rw [h2]; simp⟩)
  have HGEN := Lib.hid (show ∀ W1 : World, Below W.heap.size W W1 → W1.heap[W.heap.size]? = some (.cells #[.slice A l.length c] 27 (0, 0)) → Calls Try.prog 75 #[.func fn #[] cap, .pointer (some ⟨W.heap.size, 0, none⟩)] W1 (fun e W' => (∃ v, e = .returned v) ∧ ∃ T', Grow T T' W ∧ Upd (fun k => T k ∨ noU k) W W' ∧ ((J l T' W' ∧ NowAt n₀ bn br A c l W') ∨ ∃ pre, pre <+: l ∧ Jx pre T' W' ∧ NowAt n₀ bn br A c l W')) from fun W1 hb hr => by
    have hnT : ¬ T W.heap.size := fun h => Nat.lt_irrefl _ (hJ.lt h0 h)
    have hst : ∀ W', Upd T W1 W' → Upd T W W' := fun W' u => (Upd.of_below hb).trans u
    refine (src_gen W.heap.size A c l W1 fn cap J Jx T hJ hJx (hJ.move h0 (Same.of_below hb (fun k hk => hJ.lt h0 hk))) (fun W' u => ⟨u.heap hr hnT, ?_⟩) (fun pre x T1 W2 hj hg hu hp => hY pre x T1 W2 hj (hi0.upd (hst _ hu) hT) (fun k hk => (hg k hk).imp id (fun h => Nat.le_trans hb.size h)) ((hst _ hu).mono fun k hk => .inl hk) hp)).mono ?_
    · exact (hi0.upd (hst _ u) hT).sl
    · rintro e W' ⟨hv, T', hg, hu, hr⟩
      exact ⟨hv, T', fun k hk => (hg k hk).imp id (fun h => Nat.le_trans hb.size h), (hst _ hu).mono fun k hk => .inl hk, hr.imp (fun h => ⟨h, hi0.upd (hst _ hu) hT⟩) (fun ⟨p, a, b⟩ => ⟨p, a, b, hi0.upd (hst _ hu) hT⟩)⟩)
  clear hJ hJx hT h0 hi0 hY
  have hen : ∀ args w, (callFunc 75 args).run Try.prog w = .ok (.enter 75 args) w := enters_of Try.func75 (by kernel_rfl) rfl
  go_enter Try.func47, Try.ntmps47
  go_wp2_with fail
  refine HSC.out.mono ?_
  clear HSC
  rintro _ W1 ⟨rfl, hb1, hr1, _⟩
  have HC := Lib.hid (HGEN.out W1 hb1 hr1)
  clear HGEN hb1 hr1
  go_wp2_with fail
  go_at_fn 75
  refine HC.out.mono ?_
  clear HC
  rintro _ W2 ⟨⟨v, rfl⟩, hfin⟩
  have HFIN := Lib.hid hfin
  clear hfin
  go_wp2
  go_end0
  exact ⟨⟨_, rfl⟩, HFIN.out⟩
end Go.Proofs.Ytdpijhpjicbecaa.H
