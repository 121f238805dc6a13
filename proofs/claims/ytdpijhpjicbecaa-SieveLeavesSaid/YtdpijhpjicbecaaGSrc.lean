/- The law's sources: lists that are gone through, with counters. No conditions. -/
import Derived.Test.YtdpijhpjicbecaaGKey
namespace Go.Proofs.Ytdpijhpjicbecaa.H
open Go Go.RowKit Go.Deep Go.Shelf Go.Proofs Go.Proofs.YtdpijhpjicbecaaW.PrintWords
set_option linter.unusedVariables false
set_option linter.unusedSimpArgs false
attribute [local go_sem] Oper.semAt_some
/-- A source: its block, its list. -/
structure Src where
  p : Nat
  A : Option Addr
  c : Nat
  l : List Ent
abbrev Cnt := Nat → Int × Int
def bump : Nat → Int → Int
  | 0, g => g
  | n + 1, g => wrap64 (bump n g + 1)
/-- The k-th is asked, and gives n. -/
def raise (k n : Nat) (f : Cnt) : Cnt := fun j => if j = k then (wrap64 ((f j).1 + 1), bump n (f j).2) else f j
def InU (X : List Src) (k : Nat) : Prop := ∃ (j : Nat) (s : Src), X[j]? = some s ∧ s.p = k
def NoDup (X : List Src) : Prop := ∀ (i j : Nat) (s t : Src), X[i]? = some s → X[j]? = some t → s.p = t.p → i = j
theorem Sl.upd2 {α : Type} {enc : α → List Value} {sz : Nat} {w w' : World} {A : Option Addr} {l : List α} {S : Nat → Prop} (h : Sl enc sz w A l) (u : Upd S w w') (hn : l ≠ [] → ∀ b o, A = some ⟨b, o, none⟩ → ¬ S b) : Sl enc sz w' A l := by
  by_cases hl : l = []
  · subst hl
    exact Sl.nil _ _ _ _
  · exact h.upd u (hn hl)
/-- The sources stand, with these counters. -/
def SrcsE (n₀ : Nat) (X : List Src) (f : Cnt) (W : World) : Prop := ∀ (k : Nat) (s : Src), X[k]? = some s → W.heap[s.p]? = some (.cells #[.slice s.A s.l.length s.c, .int .i64 (f k).1, .int .i64 (f k).2] 39 (0, 0)) ∧ Sl encE 4 W s.A s.l ∧ s.p < n₀ ∧ (s.l ≠ [] → ∀ b o, s.A = some ⟨b, o, none⟩ → b < n₀ ∧ ¬ InU X b)
theorem SrcsE.upd {n₀ : Nat} {X : List Src} {f : Cnt} {S : Nat → Prop} {W W' : World} (h : SrcsE n₀ X f W) (u : Upd S W W') (hS : ∀ k, S k → n₀ ≤ k) : SrcsE n₀ X f W' := fun k s hk => by
  obtain ⟨h1, h2, h3, h4⟩ := h k s hk
  exact ⟨u.heap h1 (fun hx => by have := hS _ hx; omega), h2.upd2 u (fun hl b o e hx => by have := hS _ hx; have := (h4 hl b o e).1; omega), h3, h4⟩
theorem srcsE_firm (n₀ : Nat) (X : List Src) (f : Cnt) : Firm n₀ (SrcsE n₀ X f) := fun W W' h u => h.upd u (fun k hk => hk)
theorem SrcsE.mono {n₀ n : Nat} {X : List Src} {f : Cnt} {W : World} (h : SrcsE n₀ X f W) (hn : n₀ ≤ n) : SrcsE n X f W := fun k s hk => by
  obtain ⟨h1, h2, h3, h4⟩ := h k s hk
  exact ⟨h1, h2, by omega, fun hl b o e => ⟨by have := (h4 hl b o e).1; omega, (h4 hl b o e).2⟩⟩
/-- The k-th one's counters are others. -/
theorem SrcsE.raised {n₀ : Nat} {X : List Src} {f : Cnt} {S : Nat → Prop} {W W' : World} {k : Nat} {s : Src} (h : SrcsE n₀ X f W) (hd : NoDup X) (hk : X[k]? = some s) {n : Nat} (u : Upd S W W') (hS : ∀ j, S j → n₀ ≤ j ∨ j = s.p)
    (hr : W'.heap[s.p]? = some (.cells #[.slice s.A s.l.length s.c, .int .i64 (wrap64 ((f k).1 + 1)), .int .i64 (bump n (f k).2)] 39 (0, 0))) : SrcsE n₀ X (raise k n f) W' := fun j t hj => by
  obtain ⟨h1, h2, h3, h4⟩ := h j t hj
  refine ⟨?_, h2.upd2 u (fun hl b o e hx => ?_), h3, h4⟩
  · by_cases e : j = k
    · subst e
      rw [hk] at hj
      injection hj with hj
      subst hj
      unfold raise
      rw [if_pos rfl]
      exact hr
    · unfold raise
      rw [if_neg e]
      refine u.heap h1 (fun hx => ?_)
      rcases hS _ hx with h | h
      · omega
      · exact e (hd j k t s hj hk h)
  · rcases hS _ hx with h | h
    · have := (h4 hl b o e).1; omega
    · exact (h4 hl b o e).2 ⟨k, s, hk, h.symm⟩
theorem take_suc {α : Type} {l : List α} {j : Nat} {e : α} (h : l[j]? = some e) : l.take (j + 1) = l.take j ++ [e] := by
  rw [List.take_add_one, h]; rfl
set_option maxHeartbeats 1600000 in
set_option maxRecDepth 100000 in
theorem all_it (n₀ : Nat) (X : List Src) (f : Cnt) (hd : NoDup X) (k : Nat) (s : Src) (hk : X[k]? = some s) (W : World) :
    IterU Try.prog 26 #[.pointer (some ⟨s.p, 0, none⟩)] #[] encA n₀ (InU X) (SrcsE n₀ X f) (fun W => ∃ f, SrcsE n₀ X f W) (SrcsE n₀ X (raise k s.l.length f)) s.l W := by
  intro fn cap J Jx T hJ hJx hT h0 hi0 hY
  obtain ⟨hrow, hsl, hp, hA⟩ := hi0 k s hk
  have hm := hsl.1
  have hTp : ¬ T s.p := fun h => by have := hT _ h; omega
  obtain ⟨p, hpe⟩ : ∃ p, s.p = p := ⟨_, rfl⟩
  have HEND := Lib.hid (show ∀ (nn : Nat) (S : Nat → Prop) (W' : World), Upd S W W' → (∀ j, S j → n₀ ≤ j ∨ j = p) → W'.heap[p]? = some (.cells #[.slice s.A s.l.length s.c, .int .i64 (wrap64 ((f k).1 + 1)), .int .i64 (bump nn (f k).2)] 39 (0, 0)) → SrcsE n₀ X (raise k nn f) W' from fun nn S W' u hS hr => hi0.raised hd hk u (by rw [hpe]; exact hS) (by rw [hpe]; exact hr))
  have HIN := Lib.hid (show InU X p from ⟨k, s, hk, hpe⟩)
  rw [hpe] at hrow hp hTp ⊢
  obtain ⟨a, ha⟩ : ∃ a, (f k).1 = a := ⟨_, rfl⟩
  obtain ⟨g, hg⟩ : ∃ g, (f k).2 = g := ⟨_, rfl⟩
  obtain ⟨A, hAe⟩ : ∃ A, s.A = A := ⟨_, rfl⟩
  obtain ⟨c, hce⟩ : ∃ c, s.c = c := ⟨_, rfl⟩
  obtain ⟨l, hle⟩ : ∃ l, s.l = l := ⟨_, rfl⟩
  rw [ha, hg, hAe, hce, hle] at hrow HEND
  rw [hAe, hle] at hsl
  rw [hAe, hle] at hA
  rw [hle] at hm hY ⊢
  clear ha hg hAe hce hi0 hpe hk
  clear hle
  have HAN := Lib.hid (show l ≠ [] → ∀ b o, A = some ⟨b, o, none⟩ → ¬ T b ∧ b ≠ p from fun hl b o e => ⟨fun h => by have := hT _ h; have := (hA hl b o e).1; omega, fun h => (hA hl b o e).2 (by rw [h]; exact HIN.out)⟩)
  have HPW := Lib.hid (blk_lt hrow)
  have f1 : W.frozen? ⟨p, 1, none⟩ = false := blk_frozen hrow 1
  have c1 : W.cell? ⟨p, 1, none⟩ = some (.int .i64 a) := (blk_cell hrow 1).trans rfl
  obtain ⟨m, hmm⟩ : ∃ m, l.length = m := ⟨_, rfl⟩
  have HM := Lib.hid hmm
  have hrow2 := blk_set hrow 1 (.int .i64 (wrap64 (a + 1)))
  have HROW := Lib.hid (show (W.setCell ⟨p, 1, none⟩ (.int .i64 (wrap64 (a + 1)))).heap[p]? = some (.cells #[.slice A m c, .int .i64 (wrap64 (a + 1)), .int .i64 (bump 0 g)] 39 (0, 0)) from by rw [← hmm]; exact hrow2)
  have u1 : Upd (fun k => k = p) W (W.setCell ⟨p, 1, none⟩ (.int .i64 (wrap64 (a + 1)))) := Upd.setCell _ _ _ rfl
  have HST := Lib.hid (show Upd (fun k => T k ∨ k = p) W (W.setCell ⟨p, 1, none⟩ (.int .i64 (wrap64 (a + 1)))) ∧ J [] T (W.setCell ⟨p, 1, none⟩ (.int .i64 (wrap64 (a + 1)))) from ⟨u1.mono (fun k hk => .inr hk), hJ.move h0 (u1.same fun k hk => ⟨hJ.lt h0 hk, fun e => hTp (by rw [← e]; exact hk)⟩)⟩)
  rw [hmm] at HEND hm
  have HY := Lib.hid hY
  have HJ := Lib.hid hJ
  have HJX := Lib.hid hJx
  have HT := Lib.hid hT
  have HS := Lib.hid hsl
  have HP := Lib.hid hp
  have HTP := Lib.hid hTp
  clear hY hJ hJx hT hsl hp hTp hrow hrow2 hA hmm u1 h0
  refine (callsIn_wide (n := 8)).1 ?_
  refine callsIn_of_wp Try.func26 rfl trivial ?_ rfl
  simp only [Try.ntmps26, List.size_toArray, List.length_cons, List.length_nil, Nat.reduceAdd, Nat.reduceSub, Array.replicate_succ, Array.replicate_zero, List.push_toArray, List.append_toArray, List.nil_append, List.cons_append]
  gi_wp2
  gi_loopw [4] (fun s4 wr => ∃ (i : Nat) (T1 : Nat → Prop), s4 = .int .i64 (i : Int) ∧ i ≤ m ∧ J (l.take i) T1 wr ∧ Grow T T1 W ∧ Upd (fun k => T k ∨ k = p) W wr ∧ wr.heap[p]? = some (.cells #[.slice A m c, .int .i64 (wrap64 (a + 1)), .int .i64 (bump i g)] 39 (0, 0))) (fun s4 wr => m - (intOf s4).toNat)
  case atStart => exact ⟨0, T, rfl, by omega, by simpa using HST.out.2, Grow.refl _ _, HST.out.1, HROW.out⟩
  case round =>
    obtain ⟨i, T1, rfl, hi, hj, hgr, hu, hr⟩ := hrel
    generalize wr = wq at *
    have c0 : wq.cell? ⟨p, 0, none⟩ = some (.slice A m c) := (blk_cell hr 0).trans rfl
    have c2 : wq.cell? ⟨p, 2, none⟩ = some (.int .i64 (bump i g)) := (blk_cell hr 2).trans rfl
    have f2 : wq.frozen? ⟨p, 2, none⟩ = false := blk_frozen hr 2
    have i1 : (0 : Int) ≤ i := by omega
    have HJ1 := Lib.hid hj
    have HG := Lib.hid hgr
    have HU := Lib.hid hu
    have HR := Lib.hid hr
    clear hj hgr hu hr
    by_cases hlt : i < m
    · have i2 : (i : Int) < m := by omega
      obtain ⟨x, hx⟩ := getElem?_of_lt (l := l) (by rw [HM.out]; exact hlt : i < l.length)
      obtain ⟨W2, hW2⟩ : ∃ Z, wq.setCell ⟨p, 2, none⟩ (.int .i64 (wrap64 (bump i g + 1))) = Z := ⟨_, rfl⟩
      have r2 : W2.heap[p]? = some (.cells #[.slice A m c, .int .i64 (wrap64 (a + 1)), .int .i64 (bump (i + 1) g)] 39 (0, 0)) := by rw [← hW2]; exact blk_set HR.out 2 _
      have u2 : Upd (fun k => k = p) wq W2 := by rw [← hW2]; exact Upd.setCell _ _ _ rfl
      have hu2 : Upd (fun k => T k ∨ k = p) W W2 := HU.out.step u2 (fun k hk => .inl (.inr hk))
      have hT1p : ¬ T1 p := fun h => by
        rcases HG.out p h with h | h
        · exact HTP.out h
        · have := HPW.out
          omega
      have hj2 : J (l.take i) T1 W2 := HJ.out.move HJ1.out (u2.same fun k hk => ⟨HJ.out.lt HJ1.out hk, fun e => hT1p (by rw [← e]; exact hk)⟩)
      have hpre : l.take i ++ [x] = l.take (i + 1) := (take_suc hx).symm
      have huU : ∀ W', Upd (fun k => T k ∨ k = p) W W' → Upd (fun k => T k ∨ InU X k) W W' := fun W' u => u.mono (fun k hk => hk.imp id (fun e => by rw [e]; exact HIN.out))
      have HCALL := Lib.hid ((HY.out (l.take i) x T1 W2 hj2 ⟨_, HEND.out (i + 1) _ W2 hu2 (fun j hj => hj.imp (HT.out j) id) r2⟩ HG.out (huU _ hu2) (by rw [hpre]; exact List.take_prefix _ _)).mono fun e W1 h => h.bool)
      obtain ⟨b1, o1, hA1, hb1, hc1⟩ := (HS.out.upd2 hu2 (fun hl b o e h => by
        rcases h with h | h
        · exact (HAN.out hl b o e).1 h
        · exact (HAN.out hl b o e).2 h)).at hx
      subst hA1
      have x0 : W2.cell? ⟨b1, o1 + i * 4, none⟩ = some (.string x.1) := hc1 0 _ rfl
      have x1 : W2.cell? ⟨b1, o1 + i * 4 + 1, none⟩ = some (.int .u64 x.2.1) := hc1 1 _ rfl
      have x2 : W2.cell? ⟨b1, o1 + i * 4 + 2, none⟩ = some (.bool x.2.2.1) := hc1 2 _ rfl
      have x3 : W2.cell? ⟨b1, o1 + i * 4 + 3, none⟩ = some (.string x.2.2.2) := hc1 3 _ rfl
      have d0 : W2.cell? ⟨p, 0, none⟩ = some (.slice (some ⟨b1, o1, none⟩) m c) := (blk_cell r2 0).trans rfl
      have HAFT := Lib.hid (show ∀ (T3 : Nat → Prop) (W5 : World), Grow T1 T3 W2 → Upd T1 W2 W5 → Grow T T3 W ∧ Upd (fun k => T k ∨ k = p) W W5 ∧ W5.heap[p]? = some (.cells #[.slice (some ⟨b1, o1, none⟩) m c, .int .i64 (wrap64 (a + 1)), .int .i64 (bump (i + 1) g)] 39 (0, 0)) from fun T3 W5 hg3 hu3 =>
        ⟨HG.out.trans hg3 hu2.size, hu2.step hu3 (fun k hk => (HG.out k hk).imp .inl id), hu3.heap r2 hT1p⟩)
      have HPR := Lib.hid hpre
      have HUU := Lib.hid huU
      clear hc1 hb1 r2 u2 hu2 hT1p hj2 hpre hx huU
      rcases HCALL.out with ⟨l2, rfl, rfl, fn', tmps', assign', body', hy', hR⟩ | ⟨f', rfl, henter', hC'⟩
      · have HC := Lib.hid hR
        have hy2 := show (Instr.yield l2 #[.agg #[.string x.1, .int .u64 x.2.1, .bool x.2.2.1, .string x.2.2.2]]).run Try.prog W2 = _ from hy'
        clear hR HCALL hy'
        gi_wp2_with fail
        refine (RoundIn.wide HC.out).mono ?_
        rintro e' W5 ⟨b, T3, rfl, hg3, hu3, hj3, hx3⟩
        have HF := Lib.hid (HAFT.out T3 W5 hg3 hu3)
        cases b with
        | true =>
          have HJ3 := Lib.hid (hj3 rfl)
          clear hj3 hx3 hg3 hu3
          gi_wp2
          go_roundw
          case rel => exact ⟨i + 1, T3, by first | rfl | simp, by omega, by rw [← HPR.out]; exact HJ3.out, HF.out⟩
          case measure => simp [intOf]; omega
        | false =>
          have HJ3 := Lib.hid (hx3 rfl)
          clear hj3 hx3 hg3 hu3
          gi_wp2
          refine bodyPost_ret (results_none rfl _ _ _) rfl ?_
          exact ⟨⟨_, rfl⟩, T3, HF.out.1, HUU.out _ HF.out.2.1, .inr ⟨_, by rw [HPR.out]; exact List.take_prefix _ _, HJ3.out, ⟨_, HEND.out (i + 1) _ W5 HF.out.2.1 (fun j hj => hj.imp (HT.out j) id) HF.out.2.2⟩⟩⟩
      · have HC := Lib.hid hC'
        clear hC' HCALL
        gi_wp2_with fail
        refine ⟨trivial, ?_⟩
        refine (callsIn_wide.2 HC.out).mono ?_
        rintro e' W5 ⟨b, T3, rfl, hg3, hu3, hj3, hx3⟩
        have HF := Lib.hid (HAFT.out T3 W5 hg3 hu3)
        cases b with
        | true =>
          have HJ3 := Lib.hid (hj3 rfl)
          clear hj3 hx3 hg3 hu3
          gi_wp2
          go_roundw
          case rel => exact ⟨i + 1, T3, by first | rfl | simp, by omega, by rw [← HPR.out]; exact HJ3.out, HF.out⟩
          case measure => simp [intOf]; omega
        | false =>
          have HJ3 := Lib.hid (hx3 rfl)
          clear hj3 hx3 hg3 hu3
          gi_wp2
          refine bodyPost_ret (results_none rfl _ _ _) rfl ?_
          exact ⟨⟨_, rfl⟩, T3, HF.out.1, HUU.out _ HF.out.2.1, .inr ⟨_, by rw [HPR.out]; exact List.take_prefix _ _, HJ3.out, ⟨_, HEND.out (i + 1) _ W5 HF.out.2.1 (fun j hj => hj.imp (HT.out j) id) HF.out.2.2⟩⟩⟩
    · have him : m = i := by omega
      subst him
      have HFIN := Lib.hid (show ∃ T', Grow T T' W ∧ Upd (fun k => T k ∨ InU X k) W wq ∧ ((J l T' wq ∧ SrcsE n₀ X (raise k m f) wq) ∨ ∃ pre, pre <+: l ∧ Jx pre T' wq ∧ ∃ f, SrcsE n₀ X f wq) from
        ⟨T1, HG.out, HU.out.mono (fun k hk => hk.imp id (fun e => by rw [e]; exact HIN.out)), .inl ⟨by have := HJ1.out; rwa [List.take_of_length_le (by rw [HM.out]; exact Nat.le_refl _)] at this, HEND.out _ _ wq HU.out (fun j hj => hj.imp (HT.out j) id) HR.out⟩⟩)
      gi_wp2
      go_end0
      rw [HM.out]
      exact ⟨⟨_, rfl⟩, HFIN.out⟩
/-- The source's method as a value. -/
theorem all_v (n₀ : Nat) (X : List Src) (f : Cnt) (hd : NoDup X) (k : Nat) (s : Src) (hk : X[k]? = some s) :
    IterUV Try.prog (valF (26, #[.pointer (some ⟨s.p, 0, none⟩)], #[])) encA n₀ (InU X) (SrcsE n₀ X f) (fun W => ∃ f, SrcsE n₀ X f W) (SrcsE n₀ X (raise k s.l.length f)) s.l :=
  ⟨_, _, _, rfl, enters_of Try.func26 (by kernel_rfl) rfl, fun W => all_it n₀ X f hd k s hk W⟩
end Go.Proofs.Ytdpijhpjicbecaa.H
