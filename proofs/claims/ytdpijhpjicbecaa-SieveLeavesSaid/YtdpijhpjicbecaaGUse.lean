/- Of and Keys over the law's sources, whatever their counters: as contracts to use. Conditions: sizes. -/
import Derived.Test.YtdpijhpjicbecaaGSeq3
import Derived.Test.YtdpijhpjicbecaaGRun2
import Derived.Test.YtdpijhpjicbecaaGFew
namespace Go.Proofs.Ytdpijhpjicbecaa.H
open Go Go.RowKit Go.Deep Go.Shelf Go.Proofs Go.Proofs.YtdpijhpjicbecaaW.PrintWords
set_option linter.unusedVariables false
set_option linter.unusedSimpArgs false
/-- The sources stand, with some counters. -/
def SrcsX (n₀ : Nat) (X : List Src) (W : World) : Prop := ∃ f, SrcsE n₀ X f W
theorem srcsX_firm (n₀ : Nat) (X : List Src) : Firm n₀ (SrcsX n₀ X) := fun W W' ⟨f, h⟩ u => ⟨f, srcsE_firm n₀ X f _ _ h u⟩
theorem SrcsX.low {n₀ : Nat} {X : List Src} {W : World} (h : SrcsX n₀ X W) : ∀ k, InU X k → k < n₀ := fun k ⟨j, s, hj, e⟩ => by
  obtain ⟨f, h⟩ := h
  rw [← e]
  exact (h j s hj).2.2.1
theorem SrcsX.mono {n₀ n : Nat} {X : List Src} {W : World} (h : SrcsX n₀ X W) (hn : n₀ ≤ n) : SrcsX n X W := h.imp fun f h => h.mono hn
theorem srcs_ex (n₀ : Nat) (X : List Src) (hd : NoDup X) : Srcs n₀ (InU X) (fun _ => SrcsX n₀ X) (X.map fvS) (X.map (·.l)) := by
  refine ⟨by simp, fun k f l hf hl => ?_⟩
  rw [List.getElem?_map] at hf hl
  cases hs : X[k]? with
  | none => rw [hs] at hf; cases hf
  | some s =>
    rw [hs] at hf hl
    injection hf with hf
    injection hl with hl
    subst hf; subst hl
    refine ⟨_, _, _, rfl, enters_of Try.func26 (by kernel_rfl) rfl, fun W => ?_⟩
    rintro fn cap J Jx T hJ hJx hT h0 ⟨f, hf⟩ hY
    refine (all_it n₀ X f hd k s hs W fn cap J Jx T hJ hJx hT h0 hf (fun pre x T1 W1 a b c d e => hY pre x T1 W1 a trivial c d e)).mono ?_
    rintro e W' ⟨hv, T', hg, hu, hr⟩
    refine ⟨hv, T', hg, hu, hr.imp (fun h => ⟨h.1, _, h.2⟩) (fun ⟨p, a, b, _⟩ => ⟨p, a, b, trivial⟩)⟩
/-- An iterator over the sources' entries that is held. -/
def OfV (n₀ : Nat) (X : List Src) (f : FV) (l : List Ent) (W : World) : Prop :=
  ∃ (n : Nat) (HD : World → Prop), n₀ ≤ n ∧ n ≤ W.heap.size ∧ Firm n HD ∧ HD W ∧ (∀ W W', HD W → Upd (fun k => InU X k ∨ n ≤ k) W W' → HD W') ∧ IterUV Try.prog (valF f) encA n (InU X) (fun W => SrcsX n₀ X W ∧ HD W) (fun W => SrcsX n₀ X W ∧ HD W) (fun W => SrcsX n₀ X W ∧ HD W) l
def KeyVS (n₀ : Nat) (X : List Src) (f : FV) (l : List (List Ent)) (W : World) : Prop :=
  ∃ (n : Nat) (HD : World → Prop), n₀ ≤ n ∧ n ≤ W.heap.size ∧ Firm n HD ∧ HD W ∧ (∀ W W', HD W → Upd (fun k => InU X k ∨ n ≤ k) W W' → HD W') ∧ KeyV f n (InU X) (fun W => SrcsX n₀ X W ∧ HD W) (fun W => SrcsX n₀ X W ∧ HD W) l
theorem srcOf_c (n₀ : Nat) (X : List Src) (A : Option Addr) (c : Nat) (w : World) (hs : Sl encF 1 w A (X.map fvS)) (hA : X = [] → (A = none ∧ c = 0) ∨ ∃ b o, A = some ⟨b, o, none⟩) (hd : NoDup X) (hx : SrcsX n₀ X w) (hn : n₀ ≤ w.heap.size) (htot : totL (X.map (·.l)) < 1000000000) (hln : X.length < 1000000000) :
    Calls Try.prog 16 #[.slice A X.length c] w fun e w' => ∃ f : FV, e = .returned (valF f) ∧ Below w.heap.size w w' ∧ OfV n₀ X f (mergeL (X.map (·.l))) w' := by
  have h := of_c n₀ (InU X) (fun _ => SrcsX n₀ X) A c (X.map fvS) (X.map (·.l)) w hs (fun h => hA (by simpa using h)) (srcs_ex n₀ X hd) hn (fun _ => srcsX_firm n₀ X) hx.low htot (by simpa using hln)
  rw [List.length_map] at h
  refine h.mono ?_
  rintro e w' ⟨f, h1, h2, HD, h3, h4, h5, h6⟩
  exact ⟨f, h1, h2, w'.heap.size, HD, Nat.le_trans hn h2.size, Nat.le_refl _, h3, h4, h5, h6⟩
theorem srcKeys_c (n₀ : Nat) (X : List Src) (A : Option Addr) (c : Nat) (w : World) (hs : Sl encF 1 w A (X.map fvS)) (hA : X = [] → (A = none ∧ c = 0) ∨ ∃ b o, A = some ⟨b, o, none⟩) (hd : NoDup X) (hx : SrcsX n₀ X w) (hn : n₀ ≤ w.heap.size) (htot : totL (X.map (·.l)) < 1000000000) (hln : X.length < 1000000000) :
    Calls Try.prog 18 #[.slice A X.length c] w fun e w' => ∃ f : FV, e = .returned (valF f) ∧ Below w.heap.size w w' ∧ KeyVS n₀ X f (groupsL (mergeL (X.map (·.l)))) w' := by
  have h := keys_c n₀ (InU X) (fun _ => SrcsX n₀ X) A c (X.map fvS) (X.map (·.l)) w hs (fun h => hA (by simpa using h)) (srcs_ex n₀ X hd) hn (fun _ => srcsX_firm n₀ X) hx.low htot (by simpa using hln)
  rw [List.length_map] at h
  refine h.mono ?_
  rintro e w' ⟨f, h1, h2, HD, h3, h4, h5, gf, fa, lb, h6, h7, h8⟩
  exact ⟨f, h1, h2, w'.heap.size, HD, Nat.le_trans hn h2.size, Nat.le_refl _, h3, h4, h5, gf, fa, lb, h6, h7, h8⟩
theorem OfV.upd {n₀ : Nat} {X : List Src} {f : FV} {l : List Ent} {S : Nat → Prop} {W W' : World} (h : OfV n₀ X f l W) (u : Upd S W W') (hS : ∀ k, S k → W.heap.size ≤ k) : OfV n₀ X f l W' := by
  obtain ⟨n, HD, h1, h2, h3, h4, h5, h6⟩ := h
  exact ⟨n, HD, h1, Nat.le_trans h2 u.size, h3, h3 _ _ h4 (u.mono fun k hk => Nat.le_trans h2 (hS k hk)), h5, h6⟩
theorem OfV.updU {n₀ : Nat} {X : List Src} {f : FV} {l : List Ent} {W W' : World} (h : OfV n₀ X f l W) (u : Upd (InU X) W W') : OfV n₀ X f l W' := by
  obtain ⟨n, HD, h1, h2, h3, h4, h5, h6⟩ := h
  exact ⟨n, HD, h1, Nat.le_trans h2 u.size, h3, h5 _ _ h4 (u.mono fun k hk => .inl hk), h5, h6⟩
theorem OfV.later {n₀ : Nat} {X : List Src} {f : FV} {l : List Ent} {W W' : World} (h : OfV n₀ X f l W) (hb : Below W.heap.size W W') : OfV n₀ X f l W' := h.upd (Upd.of_below (S := fun _ => False) hb) (fun k h => h.elim)
theorem KeyVS.updU {n₀ : Nat} {X : List Src} {f : FV} {l : List (List Ent)} {W W' : World} (h : KeyVS n₀ X f l W) (u : Upd (InU X) W W') : KeyVS n₀ X f l W' := by
  obtain ⟨n, HD, h1, h2, h3, h4, h5, h6⟩ := h
  exact ⟨n, HD, h1, Nat.le_trans h2 u.size, h3, h5 _ _ h4 (u.mono fun k hk => .inl hk), h5, h6⟩
theorem KeyVS.later {n₀ : Nat} {X : List Src} {f : FV} {l : List (List Ent)} {W W' : World} (h : KeyVS n₀ X f l W) (hb : Below W.heap.size W W') : KeyVS n₀ X f l W' := by
  obtain ⟨n, HD, h1, h2, h3, h4, h5, h6⟩ := h
  exact ⟨n, HD, h1, Nat.le_trans h2 hb.size, h3, h3 _ _ h4 (Upd.of_below (hb.mono h2 |> fun _ => hb)), h5, h6⟩
theorem SrcsX.later {n₀ : Nat} {X : List Src} {W W' : World} (h : SrcsX n₀ X W) (hn : n₀ ≤ W.heap.size) (hb : Below W.heap.size W W') : SrcsX n₀ X W' := (srcsX_firm n₀ X).mono hn |> fun k => k.later h hb
theorem takenOf_c (n₀ : Nat) (X : List Src) (f : FV) (l : List Ent) (n : Int) (w : World) (hf : OfV n₀ X f l w) (hx : SrcsX n₀ X w) (hl : l.length < 1000000000) :
    Calls Try.prog 19 #[valF f, .int .i64 n] w fun e w' => ∃ v, e = .returned (.tuple #[v, .bool true]) ∧ Own encE 53 4 w' w.heap.size v (takeN n l) ∧ Upd (InU X) w w' ∧ SrcsX n₀ X w' := by
  obtain ⟨m, HD, h1, h2, h3, h4, h5, h6⟩ := hf
  have hfm := ((srcsX_firm n₀ X).mono h1).and h3
  refine (taken11_c (valF f) n m (InU X) _ _ l w h6 hfm hfm ⟨hx, h4⟩ h2 (by omega)).mono ?_
  rintro e w' ⟨v, h7, h8, h9, h10⟩
  refine ⟨v, h7, h8, h9, ?_⟩
  split at h10 <;> exact h10.1
theorem runsKeys_c (n₀ : Nat) (X : List Src) (f : FV) (l : List (List Ent)) (n : Int) (w : World) (hf : KeyVS n₀ X f l w) (hx : SrcsX n₀ X w) (hl : l.length < 1000000000) (hxl : ∀ x ∈ l, x.length < 1000000000) :
    Calls Try.prog 20 #[valF f, .int .i64 n] w fun e w' => ∃ v L, e = .returned (.tuple #[v, .bool true]) ∧ L.map (·.2.2) = takeN n l ∧ MadeE w' w.heap.size v L ∧ Upd (InU X) w w' ∧ SrcsX n₀ X w' := by
  obtain ⟨m, HD, h1, h2, h3, h4, h5, h6⟩ := hf
  have hfm := ((srcsX_firm n₀ X).mono h1).and h3
  refine (runs11_c f n m (InU X) _ _ l w h6 hfm hfm ⟨hx, h4⟩ h2 hl hxl).mono ?_
  rintro e w' ⟨v, L, h7, h8, h9, h10, h11⟩
  refine ⟨v, L, h7, h8, h9, h10, ?_⟩
  split at h11 <;> exact h11.1
theorem groups_len (l : List Ent) : (groupsL l).length ≤ l.length := by
  have h1 := groups_flat l
  have h2 : ∀ g ∈ groupsL l, 1 ≤ g.length := fun g hg => by
    have := groups_ne hg
    cases g with
    | nil => exact absurd rfl this
    | cons a g => simp
  have h3 : ∀ (G : List (List Ent)), (∀ g ∈ G, 1 ≤ g.length) → G.length ≤ G.flatten.length := by
    intro G
    induction G with
    | nil => intro _; simp
    | cons a G ih => intro h; have := ih (fun g hg => h g (by simp [hg])); have := h a (by simp); rw [List.flatten_cons, List.length_append, List.length_cons]; omega
  have := h3 _ h2
  rw [h1] at this
  exact this
theorem groups_each (l : List Ent) : ∀ g ∈ groupsL l, g.length ≤ l.length := fun g hg => by
  have h1 := groups_flat l
  have : g.Sublist (groupsL l).flatten := List.sublist_flatten_of_mem hg
  rw [h1] at this
  exact this.length_le
end Go.Proofs.Ytdpijhpjicbecaa.H
