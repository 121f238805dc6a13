/- SieveLeaves' function: it looks at the iterator within itself, and stops. Conditions: sizes. (genvg.py) -/
import Derived.Test.YtdpijhpjicbecaaVF
namespace Go.Proofs.Ytdpijhpjicbecaa.H
open Go Go.RowKit Go.Deep Go.Shelf Go.Proofs Go.Proofs.YtdpijhpjicbecaaW.PrintWords
set_option linter.unusedVariables false
set_option linter.unusedSimpArgs false
attribute [local go_sem] Oper.semAt_some
/-- The variables: what came, and whether all was well; T: their blocks. -/
structure LeavAt (n₀ bK bO : Nat) (pre : List Ent) (T : Nat → Prop) (W : World) : Prop where
  w : W.heap[bK]? = some (.cells #[.bool true] 4 (0, 0))
  o : ∃ v, W.heap[bO]? = some (.cells #[v] 27 (0, 0)) ∧ Own encE 53 4 W n₀ v pre ∧ (∀ k, v.ownBlock = some k → k ≠ bK ∧ k ≠ bO) ∧ ∀ k, T k ↔ k = bK ∨ k = bO ∨ v.ownBlock = some k
  far : bK ≠ bO
  up : n₀ ≤ bK ∧ n₀ ≤ bO
theorem LeavAt.same {n₀ bK bO : Nat} {pre : List Ent} {T : Nat → Prop} {W W' : World} (h : LeavAt n₀ bK bO pre T W) (hs : Same T W W') : LeavAt n₀ bK bO pre T W' := by
  obtain ⟨v, ho, hown, hv, hf⟩ := h.o
  exact ⟨(hs.block _ ((hf _).2 (.inl rfl))).trans h.w, ⟨v, (hs.block _ ((hf _).2 (.inr (.inl rfl)))).trans ho, hown.move (fun k hk _ => hs.block k ((hf k).2 (.inr (.inr hk)))), hv, hf⟩, h.far, h.up⟩
theorem LeavAt.lt {n₀ bK bO : Nat} {pre : List Ent} {T : Nat → Prop} {W : World} (h : LeavAt n₀ bK bO pre T W) {k : Nat} (hk : T k) : k < W.heap.size := by
  obtain ⟨v, ho, hown, hv, hf⟩ := h.o
  rcases (hf k).1 hk with rfl | rfl | hk
  · exact blk_lt h.w
  · exact blk_lt ho
  · exact (hown.block_lt hk).2
theorem leav_foot (n₀ bK bO : Nat) (P : List Ent → Prop) : Foot (fun (p : List Ent) T W => LeavAt n₀ bK bO p T W ∧ P p) :=
  ⟨fun h hk => h.1.lt hk, fun h hs => ⟨h.1.same hs, h.2⟩⟩
theorem LeavAt.ge {n₀ bK bO : Nat} {pre : List Ent} {T : Nat → Prop} {W : World} (h : LeavAt n₀ bK bO pre T W) : ∀ k, T k → n₀ ≤ k := fun k hk => by
  obtain ⟨v, ho, hown, hv, hf⟩ := h.o
  obtain ⟨u2, u3⟩ := h.up
  rcases (hf k).1 hk with rfl | rfl | hk
  · exact u2
  · exact u3
  · exact (hown.block_lt hk).1
set_option maxHeartbeats 6400000 in
set_option maxRecDepth 100000 in
theorem leav1_c (n₀ bK bO bS bW bN : Nat) (f : FV) (kl : List Ent) (Aw : Option Addr) (cw : Nat) (n : Int) (pre : List Ent) (e : Ent) (T : Nat → Prop) (w : World) (h : LeavAt n₀ bK bO pre T w) (hl : pre.length < 1000000000) (hkl : kl.length < 1000000000)
    (hS : w.heap[bS]? = some (.cells #[valF f] 31 (0, 0))) (hW : w.heap[bW]? = some (.cells #[.slice Aw kl.length cw] 27 (0, 0))) (hN : w.heap[bN]? = some (.cells #[.int .i64 n] 3 (0, 0))) (hsl : Sl encE 4 w Aw kl)
    (hd : ¬ T bS ∧ ¬ T bW ∧ ¬ T bN ∧ (kl ≠ [] → ∀ g o, Aw = some ⟨g, o, none⟩ → ¬ T g)) (hheld : ∀ W, Upd T w W → KHeld f kl W) :
    Calls Try.prog 44 #[.agg (encE e).toArray, .pointer (some ⟨bO, 0, none⟩), .pointer (some ⟨bS, 0, none⟩), .pointer (some ⟨bW, 0, none⟩), .pointer (some ⟨bK, 0, none⟩), .pointer (some ⟨bN, 0, none⟩)] w fun en w' =>
      en = .returned (.bool (decide ((pre.length : Int) + 1 < n))) ∧ ∃ T', Grow T T' w ∧ Upd T w w' ∧ LeavAt n₀ bK bO (pre ++ [e]) T' w' := by
  obtain ⟨v, ho, hown, hv, hft⟩ := h.o
  have hn : n₀ ≤ w.heap.size := Nat.le_trans h.up.1 (Nat.le_of_lt (blk_lt h.w))
  obtain ⟨A, c, rfl⟩ := own_slice hown
  have hb0 : Below n₀ w (w.alloc (.cells #[.string e.1, .int .u64 e.2.1, .bool e.2.2.1, .string e.2.2.2] 53)) := (Below.refl _ _).alloc hn _
  have e3 := blk_alloc ho (.cells #[.string e.1, .int .u64 e.2.1, .bool e.2.2.1, .string e.2.2.2] 53)
  have c2 := (blk_cell e3 0).trans (show _ = some (Value.slice A pre.length c) from rfl)
  have hb1 := boxEnt (e := e) (heap_alloc_new w (.cells #[.string e.1, .int .u64 e.2.1, .bool e.2.2.1, .string e.2.2.2] 53))
  have x0 := hb1 0 _ rfl
  have x1 := hb1 1 _ rfl
  have x2 := hb1 2 _ rfl
  have x3 := hb1 3 _ rfl
  have HT := Lib.hid h
  have HO := Lib.hid ho
  have HV := Lib.hid hv
  have HFT := Lib.hid hft
  have HOWN := Lib.hid hown
  have HB0 := Lib.hid hb0
  have HS := Lib.hid hS
  have HW := Lib.hid hW
  have HN := Lib.hid hN
  have HSL := Lib.hid hsl
  have HD := Lib.hid hd
  have HH := Lib.hid hheld
  have HKL := Lib.hid hkl
  clear h ho hown hv hft e3 hb1 hb0 hS hW hN hsl hd hheld hkl
  unfold encE
  go_enter Try.func44, Try.ntmps44
  go_wp2_with (at_builtin; refine wpList_app rfl (.tmp 10) (.tmp 12) rfl uSlE infoE rfl (by decide) (by decide) okE (.slice A pre.length c) pre rfl (base := n₀) ?c1 (some ⟨w.heap.size + 1, 0, none⟩) 1 [e] rfl ?c2 ?c3 ?c4 ?_)
  case c1 => exact (HOWN.out.below ((Below.refl _ _).alloc (Nat.le_refl _) _)).below ((Below.refl _ _).alloc (Nat.le_refl _) _)
  case c2 => have := Sl.one okE (w.alloc (.cells #[.string e.1, .int .u64 e.2.1, .bool e.2.2.1, .string e.2.2.2] 53)) e 53 (cs := #[.string e.1, .int .u64 e.2.1, .bool e.2.2.1, .string e.2.2.2]) rfl; simpa using this
  case c3 => simp; omega
  case c4 => simp; omega
  intro v1 w1 ho1 hg1 hat1
  obtain ⟨A1, k1, rfl⟩ := own_slice ho1
  simp only [List.length_append, List.length_cons, List.length_nil, Nat.zero_add] at ho1 hat1 ⊢
  have hv := HV.out
  have hT := HT.out
  have r2 := blk_grown (blk_alloc (blk_alloc hT.w _) _) hg1 (by intro e1; exact (hv _ e1.symm).1 rfl)
  have r3 := blk_grown (blk_alloc (blk_alloc HO.out _) _) hg1 (by intro e1; exact (hv _ e1.symm).2 rfl)
  have hlt2 := blk_lt hT.w
  have hlt3 := blk_lt HO.out
  have hv1 : ∀ k, (Value.slice A1 (pre.length + 1) k1).ownBlock = some k → k ≠ bK ∧ k ≠ bO := by
    intro k hk
    rcases hat1 with h | h
    · exact hv k (by rw [← h]; exact hk)
    · rw [h] at hk
      injection hk with hk
      try simp at hk
      exact ⟨by omega, by omega⟩
  have fKO := hT.far
  have f3 : w1.frozen? ⟨bO, 0, none⟩ = false := blk_frozen r3 0
  have d3 : w1.cell? ⟨bO, 0, none⟩ = some (.slice A pre.length c) := (blk_cell r3 0).trans rfl
  have s2 := blk_far (p := ⟨bO, 0, none⟩) r2 fKO (.slice A1 (pre.length + 1) k1)
  have s3 := blk_set r3 0 (.slice A1 (pre.length + 1) k1)
  have ho2 : Own encE 53 4 (w1.setCell ⟨bO, 0, none⟩ (.slice A1 (pre.length + 1) k1)) n₀ (.slice A1 (pre.length + 1) k1) (pre ++ [e]) := ho1.upd (Upd.setCell (S := fun k => k = bO) w1 0 _ rfl) (fun k hk => (hv1 k hk).2)
  obtain ⟨W2, hW2⟩ : ∃ Z, w1.setCell ⟨bO, 0, none⟩ (.slice A1 (pre.length + 1) k1) = Z := ⟨_, rfl⟩
  rw [hW2] at s2 s3 ho2
  have hft := HFT.out
  have hku : Upd T w w1 := ((Upd.alloc w _).trans (Upd.alloc _ _)).trans (Upd.of_grown hg1 (fun k hk => (hft k).2 (.inr (.inr hk))))
  have hTO : T bO := (hft _).2 (.inr (.inl rfl))
  have hu2 : Upd T w W2 := by rw [← hW2]; exact hku.trans (Upd.setCell _ _ _ hTO)
  have hgr : Grow T (fun k => k = bK ∨ k = bO ∨ (Value.slice A1 (pre.length + 1) k1).ownBlock = some k) w := fun k hk => by
    rcases hk with h | h | h
    · exact .inl ((hft _).2 (.inl h))
    · exact .inl ((hft _).2 (.inr (.inl h)))
    · rcases hat1 with h2 | h2
      · exact .inl ((hft _).2 (.inr (.inr (by rw [← h2]; exact h))))
      · rw [h2] at h
        injection h with h
        try simp at h
        exact .inr (by omega)
  have HGR := Lib.hid hgr
  have HU2 := Lib.hid hu2
  have HL2 := Lib.hid (show LeavAt n₀ bK bO (pre ++ [e]) (fun k => k = bK ∨ k = bO ∨ (Value.slice A1 (pre.length + 1) k1).ownBlock = some k) W2 from ⟨s2, ⟨_, s3, ho2, hv1, fun _ => Iff.rfl⟩, hT.far, hT.up⟩)
  have g3 : W2.cell? ⟨bO, 0, none⟩ = some (.slice A1 (pre.length + 1) k1) := (blk_cell s3 0).trans rfl
  have hS2 := hu2.heap HS.out HD.out.1
  have hW2' := hu2.heap HW.out HD.out.2.1
  have hN2 := hu2.heap HN.out HD.out.2.2.1
  have g4 : W2.cell? ⟨bN, 0, none⟩ = some (.int .i64 n) := (blk_cell hN2 0).trans rfl
  have g5 : W2.cell? ⟨bS, 0, none⟩ = some (valF f) := (blk_cell hS2 0).trans rfl
  have g6 : W2.cell? ⟨bW, 0, none⟩ = some (.slice Aw kl.length cw) := (blk_cell hW2' 0).trans rfl
  have HHL := Lib.hid (HH.out W2 hu2)
  have HSL2 := Lib.hid (HSL.out.upd2 hu2 HD.out.2.2.2)
  have HN2 := Lib.hid hN2
  have HW2 := Lib.hid hW2'
  clear hft hku hTO hgr HFT r2 r3 hv hT hlt2 hlt3 hv1 fKO s2 s3 ho2 ho1 hg1 hat1 c2 x0 x1 x2 x3 HT HO HV HOWN HB0 hu2 hS2 hW2' hN2
  have n1 : pre.length + 1 < 2932031007320 := by omega
  go_upto_region 2 with fail
  try rw [hW2]
  clear hW2 f3 d3
  cases pre with
  | cons p0 pr =>
    obtain ⟨m, hm⟩ : ∃ m, (p0 :: pr).length = m := ⟨_, rfl⟩
    have hm1 : 1 ≤ m := by rw [← hm]; simp
    rw [hm] at g3 n1 HL2 HGR ⊢
    have j1 : ¬ (m : Int) + 1 = 1 := by omega
    have j2 : ((m : Int) + 1 == 1) = false := by rw [beq_eq_false_iff_ne]; omega
    have HMM := Lib.hid hm
    clear hl hm
    go_wp2_with fail
    go_ret
    exact ⟨by rw [HMM.out]; rfl, _, HGR.out, HU2.out, HL2.out⟩
  | nil =>
    obtain ⟨q, hq⟩ : ∃ q, kl.length = q := ⟨_, rfl⟩
    have HQ := Lib.hid hq
    rw [hq] at g6 HKL HW2
    have hql := HKL.out
    have HG := Lib.hid (heldGives_c f kl (q : Int) W2 HHL.out (by rw [HQ.out]; omega) (by rw [HQ.out]; exact Int.le_refl _))
    simp only [List.length_nil] at g3 HL2 HGR ⊢
    clear hq hl n1
    go_wp2_with fail
    refine HG.out.mono ?_
    clear HG
    rintro _ W3 ⟨v3, rfl, ho3, hb3⟩
    obtain ⟨A3, c3, rfl⟩ := own_slice ho3
    have hw3 := blk_below HW2.out hb3
    have g7 : W3.cell? ⟨bW, 0, none⟩ = some (.slice Aw q cw) := (blk_cell hw3 0).trans rfl
    have HSM := Lib.hid (same12_c A3 c3 kl Aw cw kl W3 (own_sl ho3 (fun x => (okE x).1)) (HSL2.out.later hb3))
    rw [decide_eq_true rfl, HQ.out] at HSM
    rw [HQ.out]
    have HB3 := Lib.hid hb3
    have g3' := g3
    clear ho3 hb3 hw3 g4 g5 g6
    go_wp2_with fail
    refine HSM.out.mono ?_
    clear HSM
    rintro _ W4 ⟨rfl, hb4⟩
    have hb24 := HB3.out.trans (hb4.mono HB3.out.size)
    have hl4 := HL2.out.same (Same.of_below hb24 (fun k hk => HL2.out.lt hk))
    have HB4 := Lib.hid hb24
    have h1 : W4.cell? ⟨bK, 0, none⟩ = some (.bool true) := (blk_cell hl4.w 0).trans rfl
    have h2 : W4.frozen? ⟨bK, 0, none⟩ = false := blk_frozen hl4.w 0
    obtain ⟨W5, hW5⟩ : ∃ Z, W4.setCell ⟨bK, 0, none⟩ (.bool true) = Z := ⟨_, rfl⟩
    have hb5 : Below W4.heap.size W4 W5 := by rw [← hW5]; exact bel_same hl4.w _
    have hl5 := hl4.same (Same.of_below hb5 (fun k hk => hl4.lt hk))
    have HL5 := Lib.hid hl5
    have HB5 := Lib.hid (HB4.out.trans (hb5.mono HB4.out.size))
    have hn5 := blk_below HN2.out HB5.out
    have g8 : W5.cell? ⟨bN, 0, none⟩ = some (.int .i64 n) := (blk_cell hn5 0).trans rfl
    have g9 : W5.cell? ⟨bO, 0, none⟩ = some (.slice A1 1 k1) := by
      have e1 := cell_later HB5.out g3'
      simpa using e1
    go_upto_region 5 with fail
    try rw [hW5]
    clear hW5 hb4 hb24 hl4 hb5 hl5 hn5 h1 h2
    go_wp2_with fail
    go_ret
    exact ⟨by simp, _, HGR.out, HU2.out.trans (Upd.of_below HB5.out), HL5.out⟩
end Go.Proofs.Ytdpijhpjicbecaa.H
