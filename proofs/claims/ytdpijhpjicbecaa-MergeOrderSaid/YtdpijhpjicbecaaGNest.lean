/- Of over iterators that are Of's own; sources made one by one. Conditions: sizes. -/
import Derived.Test.YtdpijhpjicbecaaGKn
namespace Go.Proofs.Ytdpijhpjicbecaa.H
open Go Go.RowKit Go.Deep Go.Shelf Go.Proofs Go.Proofs.YtdpijhpjicbecaaW.PrintWords
set_option linter.unusedVariables false
set_option linter.unusedSimpArgs false
/-- OfV, held below m. -/
def OfB (m n₀ : Nat) (X : List Src) (f : FV) (l : List Ent) (W : World) : Prop :=
  ∃ (n : Nat) (HD : World → Prop), n₀ ≤ n ∧ n ≤ m ∧ Firm n HD ∧ HD W ∧ (∀ W W', HD W → Upd (fun k => InU X k ∨ n ≤ k) W W' → HD W') ∧ IterUV Try.prog (valF f) encA n (InU X) (fun W => SrcsX n₀ X W ∧ HD W) (fun W => SrcsX n₀ X W ∧ HD W) (fun W => SrcsX n₀ X W ∧ HD W) l
theorem OfB.updM {m n₀ : Nat} {X : List Src} {f : FV} {l : List Ent} {S : Nat → Prop} {W W' : World} (h : OfB m n₀ X f l W) (u : Upd S W W') (hS : ∀ k, S k → m ≤ k) : OfB m n₀ X f l W' := by
  obtain ⟨n, HD, h1, h2, h3, h4, h5, h6⟩ := h
  exact ⟨n, HD, h1, h2, h3, h3 _ _ h4 (u.mono fun k hk => Nat.le_trans h2 (hS k hk)), h5, h6⟩
theorem OfB.updU {m n₀ : Nat} {X : List Src} {f : FV} {l : List Ent} {W W' : World} (h : OfB m n₀ X f l W) (u : Upd (InU X) W W') : OfB m n₀ X f l W' := by
  obtain ⟨n, HD, h1, h2, h3, h4, h5, h6⟩ := h
  exact ⟨n, HD, h1, h2, h3, h5 _ _ h4 (u.mono fun k hk => .inl hk), h5, h6⟩
theorem ofNest_c (n₀ : Nat) (X : List Src) (A : Option Addr) (c : Nat) (fs : List FV) (ls : List (List Ent)) (w : World) (hs : Sl encF 1 w A fs) (hA : fs = [] → (A = none ∧ c = 0) ∨ ∃ b o, A = some ⟨b, o, none⟩) (hlen : fs.length = ls.length)
    (hall : ∀ (k : Nat) (f : FV) (l : List Ent), fs[k]? = some f → ls[k]? = some l → OfV n₀ X f l w) (hx : SrcsX n₀ X w) (hn : n₀ ≤ w.heap.size) (htot : totL ls < 1000000000) (hln : ls.length < 1000000000) :
    Calls Try.prog 16 #[.slice A fs.length c] w fun e w' => ∃ g : FV, e = .returned (valF g) ∧ Below w.heap.size w w' ∧ OfV n₀ X g (mergeL ls) w' := by
  obtain ⟨HA, hHA⟩ : ∃ HA : World → Prop, HA = fun W => ∀ (k : Nat) (f : FV) (l : List Ent), fs[k]? = some f → ls[k]? = some l → OfB w.heap.size n₀ X f l W := ⟨_, rfl⟩
  have ha : ∀ W, HA W ↔ ∀ (k : Nat) (f : FV) (l : List Ent), fs[k]? = some f → ls[k]? = some l → OfB w.heap.size n₀ X f l W := fun W => by rw [hHA]
  have hfa : Firm w.heap.size HA := fun W W' h u => (ha W').2 fun k f l h1 h2 => ((ha W).1 h k f l h1 h2).updM u (fun k hk => hk)
  have hua : ∀ W W', HA W → Upd (fun k => InU X k ∨ w.heap.size ≤ k) W W' → HA W' := fun W W' h u => (ha W').2 fun k f l h1 h2 => by
    obtain ⟨m, HD2, q1, q2, q3, q4, q5, q6⟩ := (ha W).1 h k f l h1 h2
    exact ⟨m, HD2, q1, q2, q3, q5 _ _ q4 (u.mono fun k hk => hk.imp id (fun h => Nat.le_trans q2 h)), q5, q6⟩
  have hw : HA w := (ha w).2 hall
  have hsrc : Srcs w.heap.size (InU X) (fun _ W => SrcsX n₀ X W ∧ HA W) fs ls := by
    refine ⟨hlen, fun k f l hf hl => ?_⟩
    obtain ⟨n, HD, _, _, _, _, _, gf, fa, lb, e, hent, _⟩ := hall k f l hf hl
    refine ⟨gf, fa, lb, e, hent, fun W => ?_⟩
    rintro fn cap J Jx T hJ hJx hT h0 ⟨hx0, ha0⟩ hY
    obtain ⟨n', HD', h1, h2, h3, h4, h5, gf', fa', lb', e', hent', hit⟩ := (ha W).1 ha0 k f l hf hl
    rw [e] at e'
    injection e' with e1 e2 e3
    injection e1 with e1
    subst e1; subst e2; subst e3
    refine (hit W fn cap J Jx T hJ hJx (fun k hk => Nat.le_trans h2 (hT k hk)) h0 ⟨hx0, h4⟩ (fun pre x T1 W1 a b c d e => hY pre x T1 W1 a trivial c d e)).mono ?_
    rintro e W' ⟨hv, T', hg, hu, hr⟩
    have hA' : HA W' := (ha W').2 fun j f' l' hf' hl' => by
      obtain ⟨m, HD2, q1, q2, q3, q4, q5, q6⟩ := (ha W).1 ha0 j f' l' hf' hl'
      refine ⟨m, HD2, q1, q2, q3, ?_, q5, q6⟩
      exact q5 _ _ q4 (hu.mono fun k hk => hk.symm.imp id (fun h => Nat.le_trans q2 (hT k h)))
    refine ⟨hv, T', hg, hu, ?_⟩
    rcases hr with ⟨hj, hi⟩ | ⟨pre, hp, hj, hi⟩
    · exact .inl ⟨hj, hi.1, hA'⟩
    · exact .inr ⟨pre, hp, hj, trivial⟩
  refine (of_c w.heap.size (InU X) (fun _ W => SrcsX n₀ X W ∧ HA W) A c fs ls w hs hA hsrc (Nat.le_refl _) (fun _ => ((srcsX_firm n₀ X).mono hn).and hfa) (fun k hk => Nat.lt_of_lt_of_le (hx.low k hk) hn) htot hln).mono ?_
  rintro e w' ⟨g, h1, h2, HD, h3, h4, h5, h6⟩
  refine ⟨g, h1, h2, w'.heap.size, fun W => HA W ∧ HD W, Nat.le_trans hn h2.size, Nat.le_refl _, (hfa.mono h2.size).and h3, ⟨hfa.later hw h2, h4⟩, fun W W' h u => ⟨hua _ _ h.1 (u.mono fun k hk => hk.imp id (fun h => Nat.le_trans h2.size h)), h5 _ _ h.2 u⟩, ?_⟩
  exact h6.mono (Nat.le_refl _) (fun k h => h) (fun W h => ⟨⟨h.1, h.2.1⟩, h.2.2⟩) (fun W h => ⟨h.1.1, h.1.2, h.2⟩) (fun W h => ⟨h.1.1, h.1.2, h.2⟩)
/-- A source as such an iterator. -/
theorem srcV (n₀ : Nat) (X : List Src) (hd : NoDup X) {k : Nat} {s : Src} (hk : X[k]? = some s) (W : World) (hn : n₀ ≤ W.heap.size) : OfV n₀ X (fvS s) s.l W := by
  refine ⟨n₀, fun _ => True, Nat.le_refl _, hn, fun _ _ h _ => h, trivial, fun _ _ h _ => h, ?_⟩
  refine ⟨_, _, _, rfl, enters_of Try.func26 (by kernel_rfl) rfl, fun W => ?_⟩
  rintro fn cap J Jx T hJ hJx hT h0 ⟨⟨f, hf⟩, _⟩ hY
  refine (all_it n₀ X f hd k s hk W fn cap J Jx T hJ hJx hT h0 hf (fun pre x T1 W1 a b c d e => hY pre x T1 W1 a ⟨b, trivial⟩ c d e)).mono ?_
  rintro e W' ⟨hv, T', hg, hu, hr⟩
  exact ⟨hv, T', hg, hu, hr.imp (fun h => ⟨h.1, ⟨_, h.2⟩, trivial⟩) (fun ⟨p, a, b, c⟩ => ⟨p, a, b, c, trivial⟩)⟩
/-- Sources, made one by one. -/
structure SrcSt (w : World) (n : Nat) (X : List Src) : Prop where
  src : SrcsE w.heap.size X (fun _ => (0, 0)) w
  low : ∀ s ∈ X, n ≤ s.p
  nod : NoDup X
theorem SrcSt.nil (w : World) (n : Nat) : SrcSt w n [] := ⟨fun k s h => by simp at h, fun s h => by simp at h, fun i j s t h => by simp at h⟩
theorem SrcSt.later {w w' : World} {n : Nat} {X : List Src} (h : SrcSt w n X) (hb : Below w.heap.size w w') : SrcSt w' n X := ⟨(h.src.upd (Upd.of_below (S := fun _ => False) hb) (fun k h => h.elim)).mono hb.size, h.low, h.nod⟩
theorem SrcSt.lt {w : World} {n : Nat} {X : List Src} (h : SrcSt w n X) {k : Nat} (hk : SX X k) : k < w.heap.size := by
  obtain ⟨s, hs, hk⟩ := hk
  obtain ⟨j, hj⟩ := List.getElem?_of_mem hs
  obtain ⟨h1, h2, h3, h4⟩ := h.src j s hj
  rcases hk with rfl | ⟨hl, o, e⟩
  · exact h3
  · exact (h4 hl k o e).1
theorem SrcSt.add {w w1 : World} {n : Nat} {X : List Src} (h : SrcSt w n X) (hb : Below w.heap.size w w1) (hn : n ≤ w.heap.size) (s : Src) (hs : w1.heap[s.p]? = some (.cells #[.slice s.A s.l.length s.c, .int .i64 0, .int .i64 0] 39 (0, 0)))
    (hsl : Sl encE 4 w1 s.A s.l) (hp : w.heap.size ≤ s.p) (hA : ∀ b o, s.A = some ⟨b, o, none⟩ → w.heap.size ≤ b ∧ b < w1.heap.size ∧ b ≠ s.p) : SrcSt w1 n (X ++ [s]) := by
  have h1 := h.later hb
  have hps := blk_lt hs
  have hbs := hb.size
  have hin : ∀ b, InU (X ++ [s]) b → InU X b ∨ b = s.p := fun b hb => by
    obtain ⟨i, t2, h2, e⟩ := hb
    rcases snoc_at h2 with h2 | ⟨_, rfl⟩
    · exact .inl ⟨i, t2, h2, e⟩
    · exact .inr e.symm
  refine ⟨fun j t hj => ?_, fun t ht => ?_, fun i j a b hi hj e => ?_⟩
  · rcases snoc_at hj with hj | ⟨hj, rfl⟩
    · obtain ⟨a1, a2, a3, a4⟩ := h1.src j t hj
      refine ⟨a1, a2, a3, fun hl b o e => ⟨(a4 hl b o e).1, fun hx => ?_⟩⟩
      rcases hin b hx with hx | hx
      · exact (a4 hl b o e).2 hx
      · have := h.lt (k := b) ⟨t, List.mem_of_getElem? hj, .inr ⟨hl, o, e⟩⟩
        omega
    · refine ⟨hs, hsl, hps, fun hl b o e => ⟨(hA b o e).2.1, fun hx => ?_⟩⟩
      rcases hin b hx with ⟨i, t2, h2, e2⟩ | hx
      · have := h.lt (k := b) ⟨t2, List.mem_of_getElem? h2, .inl e2⟩
        have := hA b o e
        omega
      · exact (hA b o e).2.2 hx
  · rcases List.mem_append.1 ht with ht | ht
    · exact h.low t ht
    · rw [List.mem_singleton.1 ht]; omega
  · rcases snoc_at hi with m1 | ⟨m1, e1⟩ <;> rcases snoc_at hj with m2 | ⟨m2, e2⟩
    · exact h.nod i j a b m1 m2 e
    · have := h.lt (k := a.p) ⟨a, List.mem_of_getElem? m1, .inl rfl⟩
      rw [e2] at e
      omega
    · have := h.lt (k := b.p) ⟨b, List.mem_of_getElem? m2, .inl rfl⟩
      rw [e1] at e
      omega
    · omega
end Go.Proofs.Ytdpijhpjicbecaa.H
