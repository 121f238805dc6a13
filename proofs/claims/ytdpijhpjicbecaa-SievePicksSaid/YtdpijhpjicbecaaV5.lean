/- screelaw12's sources: lists as iterators. Conditions: sizes. -/
import Derived.Test.YtdpijhpjicbecaaV4
namespace Go.Proofs.Ytdpijhpjicbecaa.H
open Go Go.RowKit Go.Deep Go.Shelf Go.Proofs Go.Proofs.YtdpijhpjicbecaaW.PrintWords
set_option linter.unusedVariables false
set_option linter.unusedSimpArgs false
attribute [local go_sem] Oper.semAt_some
def noU : Nat → Prop := fun _ => False
/-- A box at b that holds a list of entries; all below n₀. -/
structure SrcB (n₀ b : Nat) (A : Option Addr) (c : Nat) (l : List Ent) (W : World) : Prop where
  lt : b < n₀
  row : W.heap[b]? = some (.cells #[.slice A l.length c] 27 (0, 0))
  sl : Sl encE 4 W A l
  low : l ≠ [] → ∀ g o, A = some ⟨g, o, none⟩ → g < n₀
theorem SrcB.upd {n₀ b : Nat} {A : Option Addr} {c : Nat} {l : List Ent} {S : Nat → Prop} {W W' : World} (h : SrcB n₀ b A c l W) (u : Upd S W W') (hS : ∀ k, S k → n₀ ≤ k) : SrcB n₀ b A c l W' :=
  ⟨h.lt, u.heap h.row (fun hx => by have := hS _ hx; have := h.lt; omega), h.sl.upd2 u (fun hl g o e hx => by have := hS _ hx; have := h.low hl g o e; omega), h.low⟩
theorem srcB_firm (n₀ b : Nat) (A : Option Addr) (c : Nat) (l : List Ent) : Firm n₀ (SrcB n₀ b A c l) := fun W W' h u => h.upd u (fun k hk => hk)
theorem SrcB.mono {n₀ n b : Nat} {A : Option Addr} {c : Nat} {l : List Ent} {W : World} (h : SrcB n₀ b A c l W) (hn : n₀ ≤ n) : SrcB n b A c l W := ⟨Nat.lt_of_lt_of_le h.lt hn, h.row, h.sl, fun hl g o e => Nat.lt_of_lt_of_le (h.low hl g o e) hn⟩
set_option maxHeartbeats 1600000 in
set_option maxRecDepth 100000 in
theorem src1_it (n₀ b : Nat) (A : Option Addr) (c : Nat) (l : List Ent) (W : World) :
    IterU Try.prog 75 #[] #[.pointer (some ⟨b, 0, none⟩)] encA n₀ noU (SrcB n₀ b A c l) (SrcB n₀ b A c l) (SrcB n₀ b A c l) l W := by
  intro fn cap J Jx T hJ hJx hT h0 hi0 hY
  have hm := hi0.sl.1
  obtain ⟨m, hmm⟩ : ∃ m, l.length = m := ⟨_, rfl⟩
  have HM := Lib.hid hmm
  rw [hmm] at hm
  have HEND := Lib.hid (show ∀ (W' : World), Upd T W W' → SrcB n₀ b A c l W' from fun W' u => hi0.upd u hT)
  have HY := Lib.hid hY
  have HJ := Lib.hid hJ
  have HJX := Lib.hid hJx
  have HT := Lib.hid hT
  have H0 := Lib.hid h0
  clear hY hJ hJx hT h0 hi0 hmm
  refine (callsIn_wide (n := 8)).1 ?_
  refine callsIn_of_wp Try.func75 rfl trivial ?_ rfl
  simp only [Try.ntmps75, List.size_toArray, List.length_cons, List.length_nil, Nat.reduceAdd, Nat.reduceSub, Array.replicate_succ, Array.replicate_zero, List.push_toArray, List.append_toArray, List.nil_append, List.cons_append]
  gi_wp2
  gi_loopw [3] (fun s3 wr => ∃ (i : Nat) (T1 : Nat → Prop), s3 = .int .i64 (i : Int) ∧ i ≤ m ∧ J (l.take i) T1 wr ∧ Grow T T1 W ∧ Upd T W wr) (fun s3 wr => m - (intOf s3).toNat)
  case atStart => exact ⟨0, T, rfl, by omega, by simpa using H0.out, Grow.refl _ _, Upd.refl _ _⟩
  case round =>
    obtain ⟨i, T1, rfl, hi, hj, hgr, hu⟩ := hrel
    generalize wr = W2 at *
    have hsb := HEND.out W2 hu
    have c0 : W2.cell? ⟨b, 0, none⟩ = some (.slice A m c) := by have := blk_cell hsb.row 0; rw [HM.out] at this; exact this.trans rfl
    have i1 : (0 : Int) ≤ i := by omega
    have HJ1 := Lib.hid hj
    have HG := Lib.hid hgr
    have HU := Lib.hid hu
    have HSL := Lib.hid hsb.sl
    clear hj hgr hu hsb
    by_cases hlt : i < m
    · have i2 : (i : Int) < m := by omega
      obtain ⟨x, hx⟩ := getElem?_of_lt (l := l) (by rw [HM.out]; exact hlt : i < l.length)
      have hpre : l.take i ++ [x] = l.take (i + 1) := (take_suc hx).symm
      have HCALL := Lib.hid ((HY.out (l.take i) x T1 W2 HJ1.out (HEND.out W2 HU.out) HG.out (HU.out.mono fun k hk => .inl hk) (by rw [hpre]; exact List.take_prefix _ _)).mono fun e W1 h => h.bool)
      obtain ⟨b1, o1, hA1, hb1, hc1⟩ := HSL.out.at hx
      subst hA1
      have x0 : W2.cell? ⟨b1, o1 + i * 4, none⟩ = some (.string x.1) := hc1 0 _ rfl
      have x1 : W2.cell? ⟨b1, o1 + i * 4 + 1, none⟩ = some (.int .u64 x.2.1) := hc1 1 _ rfl
      have x2 : W2.cell? ⟨b1, o1 + i * 4 + 2, none⟩ = some (.bool x.2.2.1) := hc1 2 _ rfl
      have x3 : W2.cell? ⟨b1, o1 + i * 4 + 3, none⟩ = some (.string x.2.2.2) := hc1 3 _ rfl
      have HAFT := Lib.hid (show ∀ (T3 : Nat → Prop) (W5 : World), Grow T1 T3 W2 → Upd T1 W2 W5 → Grow T T3 W ∧ Upd T W W5 from fun T3 W5 hg3 hu3 =>
        ⟨HG.out.trans hg3 HU.out.size, HU.out.step hu3 (fun k hk => HG.out k hk)⟩)
      have HPR := Lib.hid hpre
      clear hc1 hb1 hpre hx
      rcases HCALL.out with ⟨l2, rfl, rfl, fn', tmps', assign', body', hy', hR⟩ | ⟨f', rfl, henter', hC'⟩
      · have HC := Lib.hid hR
        have hy2 := show (Instr.yield l2 #[.agg #[.string x.1, .int .u64 x.2.1, .bool x.2.2.1, .string x.2.2.2]]).run Try.prog W2 = _ from hy'
        clear hR HCALL hy'
        gi_wp2_with fail
        refine (RoundIn.wide HC.out).mono ?_
        rintro e' W5 ⟨b, T3, rfl, hg3, hu3, hj3, hx3⟩
        have HF := Lib.hid (HAFT.out T3 W5 hg3 hu3)
        cases b with
        | true =>
          have HJ3 := Lib.hid (hj3 rfl)
          clear hj3 hx3 hg3 hu3
          gi_wp2
          go_roundw
          case rel => exact ⟨i + 1, T3, by first | rfl | simp, by omega, by rw [← HPR.out]; exact HJ3.out, HF.out⟩
          case measure => simp [intOf]; omega
        | false =>
          have HJ3 := Lib.hid (hx3 rfl)
          clear hj3 hx3 hg3 hu3
          gi_wp2
          refine bodyPost_ret (results_none rfl _ _ _) rfl ?_
          exact ⟨⟨_, rfl⟩, T3, HF.out.1, HF.out.2.mono fun k hk => .inl hk, .inr ⟨_, by rw [HPR.out]; exact List.take_prefix _ _, HJ3.out, HEND.out W5 HF.out.2⟩⟩
      · have HC := Lib.hid hC'
        clear hC' HCALL
        gi_wp2_with fail
        refine ⟨trivial, ?_⟩
        refine (callsIn_wide.2 HC.out).mono ?_
        rintro e' W5 ⟨b, T3, rfl, hg3, hu3, hj3, hx3⟩
        have HF := Lib.hid (HAFT.out T3 W5 hg3 hu3)
        cases b with
        | true =>
          have HJ3 := Lib.hid (hj3 rfl)
          clear hj3 hx3 hg3 hu3
          gi_wp2
          go_roundw
          case rel => exact ⟨i + 1, T3, by first | rfl | simp, by omega, by rw [← HPR.out]; exact HJ3.out, HF.out⟩
          case measure => simp [intOf]; omega
        | false =>
          have HJ3 := Lib.hid (hx3 rfl)
          clear hj3 hx3 hg3 hu3
          gi_wp2
          refine bodyPost_ret (results_none rfl _ _ _) rfl ?_
          exact ⟨⟨_, rfl⟩, T3, HF.out.1, HF.out.2.mono fun k hk => .inl hk, .inr ⟨_, by rw [HPR.out]; exact List.take_prefix _ _, HJ3.out, HEND.out W5 HF.out.2⟩⟩
    · have him : m = i := by omega
      subst him
      have HFIN := Lib.hid (show ∃ T', Grow T T' W ∧ Upd (fun k => T k ∨ noU k) W W2 ∧ ((J l T' W2 ∧ SrcB n₀ b A c l W2) ∨ ∃ pre, pre <+: l ∧ Jx pre T' W2 ∧ SrcB n₀ b A c l W2) from
        ⟨T1, HG.out, HU.out.mono fun k hk => .inl hk, .inl ⟨by have := HJ1.out; rwa [List.take_of_length_le (by rw [HM.out]; exact Nat.le_refl _)] at this, HEND.out W2 HU.out⟩⟩)
      gi_wp2
      go_end0
      exact ⟨⟨_, rfl⟩, HFIN.out⟩
/-- source(l) as a value. -/
def fv1 (p : Nat) : FV := (75, #[], #[.pointer (some ⟨p, 0, none⟩)])
theorem src1_v (n₀ b : Nat) (A : Option Addr) (c : Nat) (l : List Ent) : IterUV Try.prog (valF (fv1 b)) encA n₀ noU (SrcB n₀ b A c l) (SrcB n₀ b A c l) (SrcB n₀ b A c l) l :=
  ⟨_, _, _, rfl, enters_of Try.func75 (by kernel_rfl) rfl, fun W => src1_it n₀ b A c l W⟩
set_option maxRecDepth 100000 in
theorem source_c (A : Option Addr) (n c : Nat) (w : World) :
    Calls Try.prog 43 #[.slice A n c] w fun e w' => e = .returned (valF (fv1 w.heap.size)) ∧ w' = w.alloc (.cells #[.slice A n c] 27) := by
  go_enter Try.func43, Try.ntmps43
  go_wp2
  go_ret
  exact ⟨rfl, rfl⟩
/-- Sources over lists: boxes ps. -/
def SrcsL (n₀ : Nat) (ps : List Nat) (L : List HE) (W : World) : Prop := ∀ (k : Nat) (p : Nat) (h : HE), ps[k]? = some p → L[k]? = some h → SrcB n₀ p h.1 h.2.1 h.2.2 W
theorem srcsL_firm (n₀ : Nat) (ps : List Nat) (L : List HE) : Firm n₀ (SrcsL n₀ ps L) := fun W W' h u k p x hp hx => (h k p x hp hx).upd u (fun k hk => hk)
theorem SrcsL.mono {n₀ n : Nat} {ps : List Nat} {L : List HE} {W : World} (h : SrcsL n₀ ps L W) (hn : n₀ ≤ n) : SrcsL n ps L W := fun k p x hp hx => (h k p x hp hx).mono hn
theorem srcs_L (n₀ : Nat) (ps : List Nat) (L : List HE) (hl : ps.length = L.length) : Srcs n₀ noU (fun _ => SrcsL n₀ ps L) (ps.map fv1) (L.map (·.2.2)) := by
  refine ⟨by simp [hl], fun k f l hf hl' => ?_⟩
  rw [List.getElem?_map] at hf hl'
  cases hp : ps[k]? with
  | none => rw [hp] at hf; cases hf
  | some p =>
    cases hx : L[k]? with
    | none => rw [hx] at hl'; cases hl'
    | some x =>
      rw [hp] at hf
      rw [hx] at hl'
      injection hf with hf
      injection hl' with hl'
      subst hf; subst hl'
      refine ⟨_, _, _, rfl, enters_of Try.func75 (by kernel_rfl) rfl, fun W => ?_⟩
      rintro fn cap J Jx T hJ hJx hT h0 hi hY
      have HEND : ∀ W', Upd (fun k => T k ∨ noU k) W W' → SrcsL n₀ ps L W' := fun W' u => srcsL_firm n₀ ps L _ _ hi (u.mono fun k hk => hk.elim (hT k) (fun h => h.elim))
      refine (src1_it n₀ p x.1 x.2.1 x.2.2 W fn cap J Jx T hJ hJx hT h0 (hi k p x hp hx) (fun pre y T1 W1 a b c d e => hY pre y T1 W1 a trivial c d e)).mono ?_
      rintro e W' ⟨hv, T', hg, hu, hr⟩
      exact ⟨hv, T', hg, hu, hr.imp (fun h => ⟨h.1, HEND _ hu⟩) (fun ⟨p, a, b, _⟩ => ⟨p, a, b, trivial⟩)⟩
theorem Sl2.low {w : World} {A : Option Addr} {L : List HE} (h : Sl2 w A L) : ∀ x ∈ L, x.2.2 ≠ [] → ∀ g o, x.1 = some ⟨g, o, none⟩ → g < w.heap.size := fun x hx hne g o e => by
  rcases (h.2 x hx).2 with h | ⟨b, o', hA, hlt, _⟩
  · exact absurd h hne
  · rw [hA] at e
    injection e with e
    injection e with e
    omega
set_option maxHeartbeats 3200000 in
set_option maxRecDepth 100000 in
theorem sources12_c (A : Option Addr) (c : Nat) (L : List HE) (w : World) (hs : Sl2 w A L) (hl : L.length < 1000000000) :
    Calls Try.prog 40 #[.slice A L.length c] w fun e w' => ∃ v ps, e = .returned v ∧ ps.length = L.length ∧ Own encF 31 1 w' w.heap.size v (ps.map fv1) ∧ SrcsL w'.heap.size ps L w' ∧ (∀ p ∈ ps, w.heap.size ≤ p) ∧ Below w.heap.size w w' := by
  have hm := hs.1.1
  have HLOW := Lib.hid hs.low
  have HS := Lib.hid hs
  obtain ⟨n, hn⟩ : ∃ n, L.length = n := ⟨_, rfl⟩
  rw [hn] at hm hl ⊢
  have HN := Lib.hid hn
  clear hs hn
  go_enter Try.func40, Try.ntmps40
  go_wp2_with fail
  go_loopw [3, 4] (fun s3 s4 wr => ∃ (k : Nat) (ps : List Nat), s4 = .int .i64 k ∧ k ≤ n ∧ ps.length = k ∧ Own encF 31 1 wr w.heap.size s3 (ps.map fv1) ∧ (∀ (j p : Nat) (h : HE), ps[j]? = some p → L[j]? = some h → w.heap.size ≤ p ∧ wr.heap[p]? = some (.cells #[.slice h.1 h.2.2.length h.2.1] 27 (0, 0))) ∧ (∀ p ∈ ps, w.heap.size ≤ p ∧ s3.ownBlock ≠ some p) ∧ Below w.heap.size w wr) (fun s3 s4 wr => n - (intOf s4).toNat)
  case atStart => exact ⟨0, [], rfl, by omega, rfl, Own.nil _ _ _ _ _, (fun j p h hp => by cases hp), (fun p hp => by cases hp), Below.refl _ _⟩
  case round =>
    obtain ⟨k, ps, rfl, hk, hpl, ho, hps, hfar, hb⟩ := hrel
    obtain ⟨A1, c1, rfl⟩ := own_slice ho
    have hll : (ps.map fv1).length = k := by rw [List.length_map]; exact hpl
    rw [hll] at ho hfar ⊢
    have HO := Lib.hid ho
    have HB := Lib.hid hb
    have HLL := Lib.hid hll
    have HPL := Lib.hid hpl
    have HPS := Lib.hid hps
    have HFAR := Lib.hid hfar
    clear ho hb hll hpl hps hfar
    generalize wr = W5 at *
    by_cases hlt : k < n
    · obtain ⟨x, hx⟩ := getElem?_of_lt (l := L) (by rw [HN.out]; exact hlt : k < L.length)
      obtain ⟨b2, o2, hB2, hb2, hc2⟩ := (HS.out.1.later HB.out).at hx
      subst hB2
      obtain ⟨q, hq⟩ : ∃ q, x.2.2.length = q := ⟨_, rfl⟩
      have y0 : W5.cell? ⟨b2, o2 + k, none⟩ = some (.slice x.1 q x.2.1) := by have := hc2 0 _ rfl; rw [hq] at this; simpa using this
      have HX := Lib.hid hx
      have HQ := Lib.hid hq
      have HSC := Lib.hid (source_c x.1 q x.2.1 W5)
      clear hc2 hx hq
      have i1 : (0 : Int) ≤ k := by omega
      have i2 : (k : Int) < n := by omega
      have HSC := Lib.hid (show Calls Try.prog 43 #[.slice x.1 q x.2.1] W5 (fun e W6 => e = .returned (.func (.func 75) #[] #[.pointer (some ⟨W5.heap.size, 0, none⟩)]) ∧ Below W5.heap.size W5 W6 ∧ W6.heap[W5.heap.size]? = some (.cells #[.slice x.1 q x.2.1] 27 (0, 0)) ∧ W6.heap.size = W5.heap.size + 1) from HSC.out.mono fun e W6 ⟨h1, h2⟩ => ⟨h1, by rw [h2]; exact (Below.refl _ _).alloc (Nat.le_refl _) _, by rw [h2]; exact heap_alloc_new _ _, by rw [h2]; simp⟩)
      go_wp2_with (first | (go_at_call 43; refine HSC.out.mono ?_; rintro _ W6 ⟨rfl, hb6, hr6, hz6⟩; have HB6 := Lib.hid hb6; have HR6 := Lib.hid hr6; have HZ6 := Lib.hid hz6; clear hb6 hr6 hz6) | (at_builtin; refine wpList_app rfl (.tmp 11) (.tmp 17) rfl uSlF infoF rfl (by decide) (by decide) okF (.slice A1 k c1) (ps.map fv1) rfl (base := w.heap.size) ?c1 (some ⟨W6.heap.size, 0, none⟩) 1 [fv1 W5.heap.size] rfl ?c2 ?c3 ?c4 ?_))
      case c1 => exact (HO.out.below HB6.out).below ((Below.refl _ _).alloc (Nat.le_refl _) _)
      case c2 => exact Sl.one okF W6 (fv1 W5.heap.size) 31 rfl
      case c3 => have := HLL.out; simp only [this, List.length_cons, List.length_nil]; omega
      case c4 => have := HB.out.size; have := HB6.out.size; simp; omega
      intro v1 w1 ho1 hg1 hat1
      have hown : ∀ k, (Value.slice A1 (ps.map fv1).length c1).ownBlock = some k → k < W5.heap.size := fun k hk => (HO.out.block_lt (by rw [HLL.out] at hk; exact hk)).2
      obtain ⟨A2, c2, rfl⟩ := own_slice ho1
      have hsz1 : W6.heap.size + 1 ≤ w1.heap.size := by have := hg1.size; simpa using this
      have hnew : ∀ j : Nat, (Value.slice A1 k c1).ownBlock ≠ some j → j < W6.heap.size → w1.heap[j]? = W6.heap[j]? := fun j hj hlt => by
        have h1 := (Upd.of_grown hg1 (S := fun i => (Value.slice A1 k c1).ownBlock = some i) (fun i hi => hi)).block j (by simp; omega) (by exact hj)
        rw [h1]
        exact Below.heap_alloc _ _ _ hlt
      have HBN := Lib.hid (((HB.out.trans (HB6.out.mono HB.out.size)).alloc (by have := HB.out.size; have := HB6.out.size; omega) (.cells #[valF (fv1 W5.heap.size)] 31)).grown hg1 (by have := HB.out.size; have := HB6.out.size; simp; omega) (fun k hk => (HO.out.block_lt hk).1))
      have HON := Lib.hid (show Own encF 31 1 w1 w.heap.size (.slice A2 ((ps ++ [W5.heap.size]).map fv1).length c2) ((ps ++ [W5.heap.size]).map fv1) from by rw [List.map_append]; exact ho1)
      have h5 := HB.out.size
      have h6 := HZ6.out
      have HPN := Lib.hid (show ∀ (j p : Nat) (h : HE), (ps ++ [W5.heap.size])[j]? = some p → L[j]? = some h → w.heap.size ≤ p ∧ w1.heap[p]? = some (.cells #[.slice h.1 h.2.2.length h.2.1] 27 (0, 0)) from fun j p h hp hh => by
        by_cases hj : j < ps.length
        · rw [List.getElem?_append_left hj] at hp
          obtain ⟨h1, h2⟩ := HPS.out j p h hp hh
          have h3 := blk_lt h2
          exact ⟨h1, (hnew p (HFAR.out p (List.mem_of_getElem? hp)).2 (by omega)).trans (blk_below h2 HB6.out)⟩
        · rw [List.getElem?_append_right (by omega)] at hp
          have hj0 : j - ps.length = 0 := by
            by_cases h0 : j - ps.length = 0
            · exact h0
            · rw [List.getElem?_eq_none (by simp; omega)] at hp; cases hp
          rw [hj0] at hp
          injection hp with hp
          have hjk : j = k := by have := HPL.out; omega
          rw [hjk, HX.out] at hh
          injection hh with hh
          subst hh
          subst hp
          refine ⟨h5, (hnew _ (fun e => by have := (HO.out.block_lt e).2; omega) (by omega)).trans ?_⟩
          rw [HR6.out, HQ.out])
      have HFN := Lib.hid (show ∀ p ∈ ps ++ [W5.heap.size], w.heap.size ≤ p ∧ (Value.slice A2 ((ps ++ [W5.heap.size]).map fv1).length c2).ownBlock ≠ some p from fun p hp => by
        have hlt5 : p < W6.heap.size ∧ w.heap.size ≤ p ∧ (Value.slice A1 k c1).ownBlock ≠ some p := by
          rcases List.mem_append.1 hp with hp | hp
          · obtain ⟨j, hj⟩ := List.getElem?_of_mem hp
            have hjl : j < L.length := by have := (List.getElem?_eq_some_iff.1 hj).1; have := HPL.out; have := HN.out; omega
            obtain ⟨y, hy⟩ := getElem?_of_lt hjl
            have := blk_lt (HPS.out j p y hj hy).2
            exact ⟨by omega, (HFAR.out p hp).1, (HFAR.out p hp).2⟩
          · rw [List.mem_singleton.1 hp]
            exact ⟨by omega, h5, fun e => by have := (HO.out.block_lt e).2; omega⟩
        refine ⟨hlt5.2.1, fun e => ?_⟩
        have e : (Value.slice A2 (ps.map fv1 ++ [fv1 W5.heap.size]).length c2).ownBlock = some p := by rw [List.map_append] at e; exact e
        rcases hat1 with h | h
        · rw [e] at h; exact hlt5.2.2 h.symm
        · rw [e] at h; injection h with h; omega)
      have HPLN := Lib.hid (show (ps ++ [W5.heap.size]).length = k + 1 from by have := HPL.out; simp; omega)
      rw [show (ps.map fv1 ++ [fv1 W5.heap.size]).length = ((ps ++ [W5.heap.size]).map fv1).length from by simp]
      clear ho1 hg1 hat1 hown hsz1 hnew h5 h6
      go_wp2
      go_roundw
      case rel => exact ⟨k + 1, ps ++ [W5.heap.size], by first | rfl | simp, by omega, HPLN.out, HON.out, HPN.out, HFN.out, HBN.out⟩
      case measure => simp [intOf]; omega
    · have hk2 : n = k := by omega
      subst hk2
      have HFIN := Lib.hid (show SrcsL W5.heap.size ps L W5 from fun j p h hp hh => by
        obtain ⟨h1, h2⟩ := HPS.out j p h hp hh
        refine ⟨blk_lt h2, h2, (HS.out.2 h (List.mem_of_getElem? hh)).later HB.out, fun hl g o e => ?_⟩
        have := HLOW.out h (List.mem_of_getElem? hh) hl g o e
        have := HB.out.size
        omega)
      go_wp2
      go_ret
      exact ⟨_, ps, rfl, HPL.out, HO.out, HFIN.out, fun p hp => (HFAR.out p hp).1, HB.out⟩
end Go.Proofs.Ytdpijhpjicbecaa.H
