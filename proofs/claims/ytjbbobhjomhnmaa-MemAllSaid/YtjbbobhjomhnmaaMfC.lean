/- MemAll's walk (printed by genmfc.py). Conditions: sizes. -/
import Derived.Test.YtjbbobhjomhnmaaMfB
import Derived.Deep.DeepCutAuto
namespace Go.Proofs.Ytjbbobhjomhnmaa.H
open Go Go.RowKit Go.Deep Go.Shelf Go.Proofs Go.Proofs.YtjbbobhjomhnmaaW.PrintWords
set_option linter.unusedVariables false
set_option linter.unusedSimpArgs false
theorem put2_heap {W : World} {b : Nat} {v0 v1 u0 u1 : Value} {t : TypeId} (h : W.heap[b]? = some (.cells #[v0, v1] t (0, 0))) : ((W.setCell ⟨b, 0, none⟩ u0).setCell ⟨b, 1, none⟩ u1).heap[b]? = some (.cells #[u0, u1] t (0, 0)) :=
  (blk_set (blk_set h 0 u0) 1 u1).trans rfl
theorem neBy_run (t : TypeId) (x y : Operand) (a : Int) (W : World) : (do eqGuard .neq t x y (.int .u8 a) (.int .u8 a); binOp .neq t (.int .u8 a) (.int .u8 a) : Sem Value).run Try.prog W = .ok (.bool false) W := by
  go_simp
theorem two_new (w : World) (o o' : Obj) : ((w.alloc o).alloc o').heap[w.heap.size]? = some o ∧ ((w.alloc o).alloc o').heap[w.heap.size + 1]? = some o' := ⟨blk_alloc (World.alloc_heap_new w o) _, by simpa using World.alloc_heap_new (w.alloc o) o'⟩
set_option maxHeartbeats 12800000 in
set_option maxRecDepth 100000 in
theorem memAll_c (A : Option Addr) (c : Nat) (draws : List Int) (Ao : Option Addr) (co : Nat) (other : List Int) (B : Option Addr) (d : Nat) (l : List Op6) (wS : World) (haS : Sl encB 1 wS A draws) (hal : draws.length ≤ 140737488351232) (hby : ∀ x ∈ draws, U8 x) (hoS : Sl encB 1 wS Ao other) (hol : other.length ≤ 140737488351232) (hoy : ∀ x ∈ other, U8 x)
    (hlS : Scr6 wS B l) (hlk : ∀ x ∈ l, (-9223372036854775808 ≤ x.n ∧ x.n ≤ 9223372036854775807) ∧ (0 ≤ x.at_ ∧ x.at_ ≤ 18446744073709551615)) :
    Calls Try.prog 10 #[.slice A draws.length c, .slice Ao other.length co, .slice B l.length d] wS fun e w' => e = .returned (.bool true) ∧ Below wS.heap.size wS w' := by
  have HFEW := Lib.hid (few6_c B d l wS hlS)
  have HAS := Lib.hid haS
  have HOS := Lib.hid hoS
  have HLS := Lib.hid hlS
  have HALS := Lib.hid hal
  have HOLS := Lib.hid hol
  have HBYS := Lib.hid hby
  have HOYS := Lib.hid hoy
  have HLKS := Lib.hid hlk
  clear haS hoS hlS hal hol hby hoy hlk
  go_enter Try.func10, Try.ntmps10
  go_wp2_with fail
  refine HFEW.out.mono ?_
  rintro _ w ⟨bf, rfl, hfew, hbf⟩
  have HBF := Lib.hid hbf
  have HFW := Lib.hid hfew
  clear hbf hfew
  cases bf with
  | false =>
    go_wp2
    go_ret
    exact ⟨rfl, HBF.out⟩
  | true =>
  have hll := HFW.out rfl
  have ha := HAS.out.later HBF.out
  have ho := HOS.out.later HBF.out
  have hl : Scr6 w B l := ⟨HLS.out.sl.later HBF.out, fun o h => (HLS.out.each o h).later HBF.out, HLS.out.ok⟩
  have hal := HALS.out
  have hol := HOLS.out
  have hby := HBYS.out
  have hoy := HOYS.out
  have hlk := HLKS.out
  clear HAS HOS HLS HALS HOLS HBYS HOYS HLKS HFEW HFW
  obtain ⟨w1, hw1⟩ : ∃ Z, w.alloc (.cells #[.slice none 0 0, .slice none 0 0, .slice none 0 0, .slice none 0 0, .slice none 0 0, .slice none 0 0, .slice none 0 0, .slice none 0 0, .slice none 0 0, .slice none 0 0, .slice none 0 0, .slice none 0 0, .slice none 0 0, .slice none 0 0, .slice none 0 0, .slice none 0 0, .slice none 0 0, .slice none 0 0, .slice none 0 0, .slice none 0 0, .slice none 0 0, .slice none 0 0, .slice none 0 0, .slice none 0 0, .slice none 0 0, .slice none 0 0, .slice none 0 0, .slice none 0 0] 41) = Z := ⟨_, rfl⟩
  have hb1 : Below w.heap.size w w1 := by rw [← hw1]; exact (Below.refl _ _).alloc (Nat.le_refl _) _
  have hr1 : RoomIs w1 w.heap.size [] (.slice none 0 0) (.slice none 0 0) := by
    refine ⟨by rw [← hw1]; exact (heap_alloc_new w _).trans rfl, Own.nil _ _ _ _ _, Own.nil _ _ _ _ _, fun x hx => (by cases hx), ⟨fun x hx => (by cases hx), fun h => (by cases h), fun h => (by cases h), fun k h => (by cases h)⟩, fun x hx => (by cases hx), fun x hx => (by cases hx)⟩
  have HBY1 := Lib.hid (bytes_c w.heap.size [] _ _ A c draws hal w1 (ha.later hb1) hr1 (by simp))
  have HA := Lib.hid ha
  have HO := Lib.hid ho
  have HL := Lib.hid hl
  have HAL := Lib.hid hal
  have HOL := Lib.hid hol
  have HAY := Lib.hid hby
  have HOY := Lib.hid hoy
  have HLK := Lib.hid hlk
  have HB1 := Lib.hid hb1
  have hRR : ∀ k, RoomR w.heap.size [] (.slice none 0 0) (.slice none 0 0) k → w.heap.size ≤ k := fun k hk => by
    rcases hk with rfl | hk | hk | ⟨x, hx, _⟩
    · exact Nat.le_refl _
    · cases hk
    · cases hk
    · cases hx
  have HRR := Lib.hid hRR
  obtain ⟨n1, hn1⟩ : ∃ n, draws.length = n := ⟨_, rfl⟩
  obtain ⟨n2, hn2⟩ : ∃ n, other.length = n := ⟨_, rfl⟩
  obtain ⟨ln, hln⟩ : ∃ n, l.length = n := ⟨_, rfl⟩
  have HN1 := Lib.hid hn1
  have HN2 := Lib.hid hn2
  have HLN := Lib.hid hln
  rw [hn1] at HBY1 hal
  rw [hn2] at hol
  have HSUM := Lib.hid (show ln + sumL l ≤ 10000 by rw [← hln]; exact hll)
  rw [hln] at hll
  try rw [hn1]
  try rw [hn2]
  try rw [hln]
  clear ha ho hl hb1 hr1 hby hoy hlk hRR hn1 hn2 hln
  go_wp2_with fail
  refine HBY1.out.mono ?_
  rintro _ w2 ⟨f1, cf1, u1, u2, rfl, hr2, hs2, hf2, hk2, hu2, hg2⟩
  rw [List.nil_append] at hr2 hg2
  have hb12 := hu2.below HB1.out (fun k hk => by
    rcases hk with rfl | hk | hk
    · exact Nat.le_refl _
    · cases hk
    · cases hk)
  have HB2 := Lib.hid hb12
  have HR2 := Lib.hid hr2
  have HS2 := Lib.hid hs2
  have HK2 := Lib.hid hk2
  have HF1 := Lib.hid (show w.heap.size ≤ f1 by have := HB1.out.size; omega)
  have HG2 := Lib.hid (show ∀ k, RoomR w.heap.size [(f1, n1, cf1)] u1 u2 k → w.heap.size ≤ k from fun k hk => by
    rcases hg2 k hk with h | h
    · exact HRR.out k h
    · have := HB1.out.size; omega)
  have HBY2 := Lib.hid (bytes_c w.heap.size [(f1, n1, cf1)] u1 u2 Ao co other HOL.out w2 (HO.out.later hb12) hr2 (by simp))
  rw [HN2.out] at HBY2
  clear hr2 hs2 hf2 hk2 hu2 hg2 hb12 hw1 HBY1
  go_wp2_with fail
  refine HBY2.out.mono ?_
  rintro _ w3 ⟨f2, cf2, v1, v2, rfl, hr3, hs3, hf3, hk3, hu3, hg3⟩
  obtain ⟨z1, z2, z3, z4⟩ := HR2.out.far
  have hff := z1 (f1, n1, cf1) (by simp)
  have hnf : ¬ RoomW w.heap.size u1 u2 f1 := fun h => by
    rcases h with h | h | h
    · exact hff.1 h
    · exact hff.2.1 h
    · exact hff.2.2 h
  have hb13 := hu3.below HB2.out (fun k hk => HG2.out k (by
    rcases hk with h | h | h
    · exact .inl h
    · exact .inr (.inl h)
    · exact .inr (.inr (.inl h))))
  have HB3 := Lib.hid hb13
  have HR3 := Lib.hid (show RoomIs w3 w.heap.size [(f1, n1, cf1), (f2, n2, cf2)] v1 v2 from hr3)
  have HS1 := Lib.hid (HS2.out.upd hu3 (fun b o e => by injection e with e; injection e with e1 e2; subst e1; exact hnf))
  have HS3 := Lib.hid hs3
  have HK1 := Lib.hid (show ∃ cs, w3.heap[f1]? = some (.cells cs 5 (0, 0)) from by obtain ⟨cs, h⟩ := HK2.out; exact ⟨cs, hu3.heap h hnf⟩)
  have HG3 := Lib.hid (show ∀ k, RoomR w.heap.size [(f1, n1, cf1), (f2, n2, cf2)] v1 v2 k → w.heap.size ≤ k from fun k hk => by
    rcases hg3 k hk with h | h
    · exact HG2.out k h
    · have := HB2.out.size; omega)
  have HFF := Lib.hid (show f1 < f2 from by have := HR2.out.lt f1 (.inr (.inr (.inr ⟨(f1, n1, cf1), by simp, rfl⟩))); omega)
  have HF2 := Lib.hid (show w.heap.size ≤ f2 by have := HB2.out.size; omega)
  have HNA := Lib.hid (mnew_c (some ⟨f1, 0, none⟩) (n1 + 600) draws w3 HS1.out (by have := HAL.out; omega) HAY.out)
  rw [HN1.out] at HNA
  clear hr3 hs3 hf3 hk3 hu3 hg3 hb13 z1 z2 z3 z4 hff hnf HBY2 HS2 HK2 HR2 HG2
  go_wp2_with fail
  refine HNA.out.mono ?_
  rintro _ w4 ⟨ta, ga, Sa, rfl, hma, hSa, hta, hb4⟩
  have HSA := Lib.hid (show ∀ k, (Sa k ∨ k = ta) → w3.heap.size ≤ k from fun k hk => hk.elim (hSa k) (fun e => by rw [e]; exact hta))
  have HSKA := Lib.hid hma
  have HB34 := Lib.hid hb4
  have HB4 := Lib.hid (HB3.out.trans (hb4.mono HB3.out.size))
  have HRA := Lib.hid (refNew6_c w4)
  clear hSa hma hta hb4 HNA
  go_wp2_with fail
  refine HRA.out.mono ?_
  rintro _ w5 ⟨ma, ra, Ra, rfl, hrfa, hRa, hmma, hb5⟩
  have HRFA := Lib.hid hrfa
  have HRA2 := Lib.hid (show ∀ k, (Ra k ∨ k = ma) → w4.heap.size ≤ k from fun k hk => hk.elim (hRa k) (fun e => by rw [e]; exact hmma))
  have HB45 := Lib.hid hb5
  have HB5 := Lib.hid (HB4.out.trans (hb5.mono HB4.out.size))
  clear hrfa hRa hmma hb5 HRA
  obtain ⟨X, hX⟩ : ∃ Z, w5.alloc (.cells #[.pointer none, .pointer none] 105) = Z := ⟨_, rfl⟩
  have rX : X.heap[w5.heap.size]? = some (.cells #[.pointer none, .pointer none] 105 (0, 0)) := by rw [← hX]; exact heap_alloc_new _ _
  have yX0 : X.cell? ⟨w5.heap.size, 0, none⟩ = some (.pointer none) := (blk_cell rX 0).trans rfl
  have yX1 : X.cell? ⟨w5.heap.size, 1, none⟩ = some (.pointer none) := (blk_cell rX 1).trans rfl
  have gX0 : X.frozen? ⟨w5.heap.size, 0, none⟩ = false := blk_frozen rX 0
  have gX1 : X.frozen? ⟨w5.heap.size, 1, none⟩ = false := blk_frozen rX 1
  obtain ⟨Xa, hXa⟩ : ∃ Z4, (X.setCell ⟨w5.heap.size, 0, none⟩ (.pointer (some ⟨ta, 0, none⟩))).setCell ⟨w5.heap.size, 1, none⟩ (.pointer (some ⟨ma, 0, none⟩)) = Z4 := ⟨_, rfl⟩
  have qX : Xa.heap[w5.heap.size]? = some (.cells #[.pointer (some ⟨ta, 0, none⟩), .pointer (some ⟨ma, 0, none⟩)] 105 (0, 0)) := by rw [← hXa]; exact put2_heap rX
  have bX : Below w5.heap.size w5 Xa := by
    rw [← hXa, ← hX]
    exact ((Below.refl _ _).alloc (Nat.le_refl _) _).trans (((Upd.setCell (S := fun k => k = w5.heap.size) _ _ _ rfl).trans (Upd.setCell _ _ _ rfl)).bel (fun k hk => by omega) (by simp))
  have BX := Lib.hid bX
  have QX := Lib.hid qX
  clear bX qX rX
  have HBA := Lib.hid (HB5.out.trans (BX.out.mono HB5.out.size))
  have HB3A := Lib.hid ((HB34.out.trans (HB45.out.mono HB34.out.size)).trans (BX.out.mono (HB34.out.trans (HB45.out.mono HB34.out.size)).size))
  have HNB := Lib.hid (mnew_c (some ⟨f2, 0, none⟩) (n2 + 600) other Xa (HS3.out.later HB3A.out) (by have := HOL.out; omega) HOY.out)
  rw [HN2.out] at HNB
  go_wp2_with fail
  refine HNB.out.mono ?_
  rintro _ w6 ⟨tb, gb, Sb, rfl, hmb, hSb, htb, hb6⟩
  have HSB := Lib.hid (show ∀ k, (Sb k ∨ k = tb) → Xa.heap.size ≤ k from fun k hk => hk.elim (hSb k) (fun e => by rw [e]; exact htb))
  have HSKB := Lib.hid hmb
  have HBX6 := Lib.hid hb6
  have HB6 := Lib.hid (HBA.out.trans (hb6.mono HBA.out.size))
  have HRB := Lib.hid (refNew6_c w6)
  clear hSb hmb htb hb6 HNB
  go_wp2_with fail
  refine HRB.out.mono ?_
  rintro _ w7 ⟨mb, rb, Rb, rfl, hrfb, hRb, hmmb, hb7⟩
  have HRFB := Lib.hid hrfb
  have HRB2 := Lib.hid (show ∀ k, (Rb k ∨ k = mb) → w6.heap.size ≤ k from fun k hk => hk.elim (hRb k) (fun e => by rw [e]; exact hmmb))
  have HB67 := Lib.hid hb7
  have HB7 := Lib.hid (HB6.out.trans (hb7.mono HB6.out.size))
  clear hrfb hRb hmmb hb7 HRB
  obtain ⟨Y, hY⟩ : ∃ Z, w7.alloc (.cells #[.pointer none, .pointer none] 105) = Z := ⟨_, rfl⟩
  have rY : Y.heap[w7.heap.size]? = some (.cells #[.pointer none, .pointer none] 105 (0, 0)) := by rw [← hY]; exact heap_alloc_new _ _
  have yY0 : Y.cell? ⟨w7.heap.size, 0, none⟩ = some (.pointer none) := (blk_cell rY 0).trans rfl
  have yY1 : Y.cell? ⟨w7.heap.size, 1, none⟩ = some (.pointer none) := (blk_cell rY 1).trans rfl
  have gY0 : Y.frozen? ⟨w7.heap.size, 0, none⟩ = false := blk_frozen rY 0
  have gY1 : Y.frozen? ⟨w7.heap.size, 1, none⟩ = false := blk_frozen rY 1
  obtain ⟨Ya, hYa⟩ : ∃ Z4, (Y.setCell ⟨w7.heap.size, 0, none⟩ (.pointer (some ⟨tb, 0, none⟩))).setCell ⟨w7.heap.size, 1, none⟩ (.pointer (some ⟨mb, 0, none⟩)) = Z4 := ⟨_, rfl⟩
  have qY : Ya.heap[w7.heap.size]? = some (.cells #[.pointer (some ⟨tb, 0, none⟩), .pointer (some ⟨mb, 0, none⟩)] 105 (0, 0)) := by rw [← hYa]; exact put2_heap rY
  have bY : Below w7.heap.size w7 Ya := by
    rw [← hYa, ← hY]
    exact ((Below.refl _ _).alloc (Nat.le_refl _) _).trans (((Upd.setCell (S := fun k => k = w7.heap.size) _ _ _ rfl).trans (Upd.setCell _ _ _ rfl)).bel (fun k hk => by omega) (by simp))
  have BY := Lib.hid bY
  have QY := Lib.hid qY
  clear bY qY rY
  have HBB := Lib.hid (HB7.out.trans (BY.out.mono HB7.out.size))
  have HX7 := Lib.hid (HBX6.out.trans (HB67.out.mono HBX6.out.size))
  have HXY := Lib.hid (HX7.out.trans (BY.out.mono HX7.out.size))
  have HROY := Lib.hid ((HR3.out.later HB3A.out).later HXY.out)
  have QXY := Lib.hid (blk_below QX.out HXY.out)
  have hbB : Below Ya.heap.size Ya Ya := Below.refl _ _
  have HBWB := Lib.hid (HBB.out.trans (hbB.mono HBB.out.size))
  have H3B := Lib.hid ((HB3A.out.trans (HXY.out.mono HB3A.out.size)).trans (hbB.mono (HB3A.out.trans (HXY.out.mono HB3A.out.size)).size))
  have PA := Lib.hid (show PairS Ya draws ⟨ta, ga, ma, ra, Sa, Ra, mem0⟩ from by
    have h4B : Below w4.heap.size w4 Ya := (HB45.out.trans ((BX.out.trans ((HXY.out.trans (hbB.mono HXY.out.size)).mono BX.out.size)).mono HB45.out.size))
    have h5B : Below w5.heap.size w5 Ya := BX.out.trans ((HXY.out.trans (hbB.mono HXY.out.size)).mono BX.out.size)
    exact ⟨HSKA.out.later h4B, HRFA.out.later h5B, fun k h1 h2 => by have := HSKA.out.lt6 k h1; have := HRA2.out k h2; omega, ⟨rfl, rfl, fun e he => by cases he⟩⟩)
  have PB := Lib.hid (show PairS Ya other ⟨tb, gb, mb, rb, Sb, Rb, mem0⟩ from by
    have h7B : Below w7.heap.size w7 Ya := BY.out.trans (hbB.mono BY.out.size)
    exact ⟨(HSKB.out.later HB67.out).later h7B, HRFB.out.later h7B, fun k h1 h2 => by have := HSKB.out.lt6 k h1; have := HRB2.out k h2; omega, ⟨rfl, rfl, fun e he => by cases he⟩⟩)
  have RM := Lib.hid (HROY.out.later hbB)
  have BA := Lib.hid (blk_below QXY.out hbB)
  have BB := Lib.hid (blk_below QY.out hbB)
  have FS1 := Lib.hid (HS1.out.later H3B.out)
  have FS2 := Lib.hid (HS3.out.later H3B.out)
  have FK1 := Lib.hid (show ∃ cs, Ya.heap[f1]? = some (.cells cs 5 (0, 0)) from by obtain ⟨cs, h⟩ := HK1.out; exact ⟨cs, blk_below h H3B.out⟩)
  have HRLO := Lib.hid (show ∀ k, RoomR w.heap.size [(f1, n1, cf1), (f2, n2, cf2)] v1 v2 k → w.heap.size ≤ k ∧ k < w3.heap.size from fun k hk => ⟨HG3.out k hk, HR3.out.lt k hk⟩)
  have PAL := Lib.hid (show ∀ k, Bk ⟨ta, ga, ma, ra, Sa, Ra, mem0⟩ k → w3.heap.size ≤ k ∧ k < w5.heap.size from fun k hk => by
    have h1 := HB34.out.size
    have h2 := HB45.out.size
    rcases hk with hk | hk
    · exact ⟨HSA.out k hk, by have := HSKA.out.lt6 k hk; omega⟩
    · exact ⟨by have := HRA2.out k hk; omega, HRFA.out.lt k hk⟩)
  have PBL := Lib.hid (show ∀ k, Bk ⟨tb, gb, mb, rb, Sb, Rb, mem0⟩ k → w5.heap.size < k ∧ k < w7.heap.size from fun k hk => by
    have h1 := blk_lt QX.out
    have h2 := HBX6.out.size
    have h3 := HB67.out.size
    rcases hk with hk | hk
    · exact ⟨by have := HSB.out k hk; omega, by have := HSKB.out.lt6 k hk; omega⟩
    · exact ⟨by have := HRB2.out k hk; omega, HRFB.out.lt k hk⟩)
  have BSZ := Lib.hid (show w3.heap.size ≤ w5.heap.size ∧ w5.heap.size < w7.heap.size ∧ w7.heap.size < Ya.heap.size from ⟨(HB34.out.trans (HB45.out.mono HB34.out.size)).size, Nat.lt_of_lt_of_le (blk_lt QX.out) HX7.out.size, Nat.lt_of_lt_of_le (blk_lt QY.out) hbB.size⟩)
  have x0 : Ya.cell? ⟨w5.heap.size, 0, none⟩ = some (.pointer (some ⟨ta, 0, none⟩)) := (blk_cell BA.out 0).trans rfl
  have x1 : Ya.cell? ⟨w7.heap.size, 0, none⟩ = some (.pointer (some ⟨tb, 0, none⟩)) := (blk_cell BB.out 0).trans rfl
  clear hbB
  go_wp2_with fail
  go_loopw [12] (fun s12 wr => ∃ i : Nat, s12 = .int .i64 (i : Int) ∧ i ≤ n1 ∧ Upd (fun k => k = f1) Ya wr ∧ RoomIs wr w.heap.size [(f1, n1, cf1), (f2, n2, cf2)] v1 v2 ∧ (∃ cs, wr.heap[f1]? = some (.cells cs 5 (0, 0))) ∧ ∀ k x, i ≤ k → draws[k]? = some x → wr.cell? ⟨f1, k, none⟩ = some (.int .u8 x)) (fun s12 wr => n1 - (intOf s12).toNat)
  case atStart => exact ⟨0, rfl, by omega, Upd.refl _ _, RM.out, FK1.out, fun k x _ hx => by
    obtain ⟨_, _, e, _, h⟩ := FS1.out.at hx
    injection e with e
    injection e with e1 e2
    subst e1
    subst e2
    simpa using h 0 _ rfl⟩
  case round =>
    obtain ⟨i, rfl, hi, hu, hrm, hck, hcl⟩ := hrel
    generalize wr = wq at *
    have HU := Lib.hid hu
    have HRM := Lib.hid hrm
    have HCK := Lib.hid hck
    have HCL := Lib.hid hcl
    clear hu hrm hck hcl
    by_cases hin : i < n1
    · have i1 : (0 : Int) ≤ i := by omega
      have i2 : (i : Int) < n1 := by omega
      obtain ⟨y, hy⟩ := getElem?_of_lt (l := draws) (by rw [HN1.out]; exact hin : i < draws.length)
      have hy8 := HAY.out y (List.mem_of_getElem? hy)
      obtain ⟨b0, o0, hA, hbl, hc⟩ := HA.out.at hy
      subst hA
      have Y0 := Lib.hid (show wq.cell? ⟨b0, o0 + i, none⟩ = some (.int .u8 y) from by
        have h1 := HBWB.out.cell (p := ⟨b0, o0 + i, none⟩) hbl
        have h2 : w.cell? ⟨b0, o0 + i, none⟩ = some (.int .u8 y) := by simpa using hc 0 _ rfl
        exact HU.out.cell (h1.trans h2) (fun e => by have := HF1.out; simp only at e; omega))
      have y1 : wq.cell? ⟨f1, i, none⟩ = some (.int .u8 y) := HCL.out i y (Nat.le_refl _) hy
      have Y1 := Lib.hid (show wq.cell? ⟨f1, 0 + i, none⟩ = some (.int .u8 y) by simpa using y1)
      clear hc hbl y1
      go_wp2_with fail
      refine wp_region_calmB 8 (by kernel_rfl) (by kernel_rfl) ?_
      simp only [List.take_succ_cons, List.take_zero, List.drop_succ_cons, List.drop_zero]
      refine chain0 ?_
      refine @chain _ _ _ _ _ _ _ _ 52 (.slice (some ⟨f1, 0, none⟩) n1 (n1 + 600)) (by rfl) (by rfl) (by exact fun W2 hW => run_mv (by rfl) (by exact eval_base (by kernel_rfl) (by rfl)) hW) ?_
      refine @chain _ _ _ _ _ _ _ _ 53 (.int .i64 (i : Int)) (by rfl) (by rfl) (by exact fun W2 hW => run_mv (by rfl) (by exact eval_base (by kernel_rfl) (by rfl)) hW) ?_
      refine @chain _ _ _ _ _ _ _ _ 54 (.pointer (some ⟨f1, 0 + i, none⟩)) (by rfl) (by rfl) (by exact fun W2 hW => run_ia (u := .slice (some ⟨f1, 0, none⟩) n1 (n1 + 600)) (v := .int .i64 (i : Int)) (by rfl) (by exact eval_look (by kernel_rfl) (by kernel_rfl)) (by exact eval_look (by kernel_rfl) (by kernel_rfl)) (fun W => idxBy_run _ _ _ _ _ (by omega) W) hW) ?_
      refine @chain _ _ _ _ _ _ _ _ 55 (.int .u8 y) (by rfl) (by rfl) (by exact fun W2 hW => run_lw (by rfl) (by exact eval_look (by kernel_rfl) (by kernel_rfl)) (fun W hW => ldBy _ _ _ _ (cell_later hW Y1.out)) hW) ?_
      refine @chain _ _ _ _ _ _ _ _ 56 (.slice (some ⟨b0, o0, none⟩) n1 c) (by rfl) (by rfl) (by exact fun W2 hW => run_mv (by rfl) (by exact eval_base (by kernel_rfl) (by rfl)) hW) ?_
      refine @chain _ _ _ _ _ _ _ _ 57 (.int .i64 (i : Int)) (by rfl) (by rfl) (by exact fun W2 hW => run_mv (by rfl) (by exact eval_base (by kernel_rfl) (by rfl)) hW) ?_
      refine @chain _ _ _ _ _ _ _ _ 58 (.pointer (some ⟨b0, o0 + i, none⟩)) (by rfl) (by rfl) (by exact fun W2 hW => run_ia (u := .slice (some ⟨b0, o0, none⟩) n1 c) (v := .int .i64 (i : Int)) (by rfl) (by exact eval_look (by kernel_rfl) (by kernel_rfl)) (by exact eval_look (by kernel_rfl) (by kernel_rfl)) (fun W => idxBy_run _ _ _ _ _ (by omega) W) hW) ?_
      refine @chain _ _ _ _ _ _ _ _ 59 (.int .u8 y) (by rfl) (by rfl) (by exact fun W2 hW => run_lw (by rfl) (by exact eval_look (by kernel_rfl) (by kernel_rfl)) (fun W hW => ldBy _ _ _ _ (cell_later hW Y0.out)) hW) ?_
      refine calm_nil (fun W2 hW2 => ?_)
      refine Eq.mpr (congrArg (fun a => wpList _ _ _ _ a W2) (show _ = (⟨#[Value.slice (some ⟨b0, o0, none⟩) n1 c, Value.slice Ao n2 co, Value.slice B ln d, undef, undef, undef, u6, Value.pointer (some ⟨w.heap.size, 0, none⟩), Value.slice (some ⟨f1, 0, none⟩) n1 (n1 + 600), Value.slice (some ⟨f2, 0, none⟩) n2 (n2 + 600), Value.pointer (some ⟨w5.heap.size, 0, none⟩), Value.pointer (some ⟨w7.heap.size, 0, none⟩), Value.int IntKind.i64 (i : Int), undef, undef, undef, undef, undef, undef, Value.slice B ln d, Value.bool true, Value.bool false, Value.agg #[Value.slice none 0 0, Value.slice none 0 0, Value.slice none 0 0, Value.slice none 0 0, Value.slice none 0 0, Value.slice none 0 0, Value.slice none 0 0, Value.slice none 0 0, Value.slice none 0 0, Value.slice none 0 0, Value.slice none 0 0, Value.slice none 0 0, Value.slice none 0 0, Value.slice none 0 0, Value.slice none 0 0, Value.slice none 0 0, Value.slice none 0 0, Value.slice none 0 0, Value.slice none 0 0, Value.slice none 0 0, Value.slice none 0 0, Value.slice none 0 0, Value.slice none 0 0, Value.slice none 0 0, Value.slice none 0 0, Value.slice none 0 0, Value.slice none 0 0, Value.slice none 0 0], Value.pointer (some ⟨w.heap.size, 0, none⟩), Value.pointer (some ⟨w.heap.size, 0, none⟩), Value.slice (some ⟨b0, o0, none⟩) n1 c, Value.slice (some ⟨f1, 0, none⟩) n1 (n1 + 600), Value.pointer (some ⟨w.heap.size, 0, none⟩), Value.slice Ao n2 co, Value.slice (some ⟨f2, 0, none⟩) n2 (n2 + 600), Value.slice (some ⟨f1, 0, none⟩) n1 (n1 + 600), Value.pointer (some ⟨ta, 0, none⟩), Value.pointer (some ⟨ma, 0, none⟩), Value.agg #[Value.pointer (some ⟨ta, 0, none⟩), Value.pointer (some ⟨ma, 0, none⟩)], Value.slice (some ⟨f2, 0, none⟩) n2 (n2 + 600), Value.pointer (some ⟨tb, 0, none⟩), Value.pointer (some ⟨mb, 0, none⟩), Value.agg #[Value.pointer (some ⟨tb, 0, none⟩), Value.pointer (some ⟨mb, 0, none⟩)], Value.pointer (some ⟨w5.heap.size, 0, none⟩), Value.pointer (some ⟨ta, 0, none⟩), Value.bool false, Value.bool false, Value.pointer (some ⟨w7.heap.size, 0, none⟩), Value.pointer (some ⟨tb, 0, none⟩), Value.bool false, Value.bool false, Value.int IntKind.i64 (i : Int), Value.slice (some ⟨f1, 0, none⟩) n1 (n1 + 600), Value.int IntKind.i64 (n1 : Int), Value.bool true, u50, u51, Value.slice (some ⟨f1, 0, none⟩) n1 (n1 + 600), Value.int IntKind.i64 (i : Int), Value.pointer (some ⟨f1, 0 + i, none⟩), Value.int IntKind.u8 y, Value.slice (some ⟨b0, o0, none⟩) n1 c, Value.int IntKind.i64 (i : Int), Value.pointer (some ⟨b0, o0 + i, none⟩), Value.int IntKind.u8 y, u60, u61, u62, u63, u64, u65, u66, u67, u68, undef, undef, undef, undef, undef, undef, undef, undef, undef, undef, undef, undef, undef, undef, undef, undef, undef, undef, undef, undef, undef, undef, undef, undef, undef, undef, undef, undef, undef, undef, undef, undef, undef, undef, undef, undef, undef, undef, undef, undef, undef, undef, undef, undef, undef, undef, undef, undef, undef, undef, undef, undef, undef, undef, undef, undef, undef, undef, undef, undef, undef, undef, undef, undef, undef, undef, undef, undef, undef, undef, undef, undef, undef, undef, undef, undef, undef, undef, undef], []⟩ : Act) by kernel_rfl)) ?_
      have HW2 := Lib.hid hW2
      clear hW2
      have y2 : W2.cell? ⟨f1, i, none⟩ = some (.int .u8 y) := by simpa using cell_later HW2.out Y1.out
      obtain ⟨cs, hcs⟩ := HCK.out
      have hcs2 := blk_below hcs HW2.out
      have z2 : W2.frozen? ⟨f1, i, none⟩ = false := blk_frozen hcs2 i
      have HCS := Lib.hid hcs2
      have HDY := Lib.hid hy
      clear hcs hcs2 hy
      go_wp2
      go_roundw
      case rel => exact ⟨i + 1, by first | rfl | simp, by omega, (HU.out.trans (Upd.of_below HW2.out)).trans (Upd.setCell _ _ _ rfl), (HRM.out.later HW2.out).wrote (x := (f1, n1, cf1)) (by simp) hin _, ⟨_, blk_set HCS.out i _⟩, fun k x hk hx => by
        rw [World.cell?_setCell_other _ _ _ _ (by intro e; injection e with e1 e2; omega)]
        exact cell_later HW2.out (HCL.out k x (by omega) hx)⟩
      case measure => simp [intOf]; omega
    · have hi2 : n1 = i := by omega
      clear hin hi
      subst hi2
      have hf1l : f1 < w3.heap.size := (HRLO.out f1 (.inr (.inr (.inr ⟨(f1, n1, cf1), by simp, rfl⟩)))).2
      have PAQ := Lib.hid (PA.out.upd HU.out (fun k hk e => by have := (PAL.out k hk).1; omega))
      have PBQ := Lib.hid (PB.out.upd HU.out (fun k hk e => by have := (PBL.out k hk).1; have := BSZ.out.1; omega))
      have BAQ := Lib.hid (HU.out.heap BA.out (fun e => by have := BSZ.out.1; omega))
      have BBQ := Lib.hid (HU.out.heap BB.out (fun e => by have := BSZ.out; omega))
      have FS2Q := Lib.hid (show Sl encB 1 wq (some ⟨f2, 0, none⟩) other from FS2.out.upd HU.out (fun b o e => by
        injection e with e
        injection e with e1 e2
        subst e1
        intro e3
        have := HRM.out.one (f1, n1, cf1) (by simp) (f2, n2, cf2) (by simp) e3.symm
        injection this with k1 k2
        have h1 := HFF.out
        omega))
      have HAI := Lib.hid (show AllIs6 wq wq ⟨ta, ga, ma, ra, Sa, Ra, mem0⟩ ⟨tb, gb, mb, rb, Sb, Rb, mem0⟩ draws other (.slice none 0 0) [] (fun k => Bk ⟨ta, ga, ma, ra, Sa, Ra, mem0⟩ k ∨ Bk ⟨tb, gb, mb, rb, Sb, Rb, mem0⟩ k) from
        ⟨PAQ.out, PBQ.out, fun k h1 h2 => by have := (PAL.out k h1).2; have := (PBL.out k h2).1; omega, Own.nil _ _ _ _ _, fun x hx => (by cases hx), fun x hx => (by cases hx), fun k hk => (by cases hk), fun k hk => .inl hk, Upd.refl _ _⟩)
      have HWQ := Lib.hid (HU.out.below HBWB.out (fun k hk => by have := HF1.out; omega))
      have HTL := Lib.hid (show ∀ k, (Bk ⟨ta, ga, ma, ra, Sa, Ra, mem0⟩ k ∨ Bk ⟨tb, gb, mb, rb, Sb, Rb, mem0⟩ k) → w3.heap.size ≤ k ∧ k ≠ w5.heap.size ∧ k < w7.heap.size from fun k hk => by
        have h := BSZ.out
        rcases hk with hk | hk
        · have := PAL.out k hk; omega
        · have := PBL.out k hk; omega)
      have HW3 := Lib.hid (show w.heap.size ≤ w3.heap.size from HB3.out.size)
      clear hf1l
      go_wp2_with fail
      go_loopw [13, 14] (fun s13 s14 wr => ∃ (i : Nat) (S1 R1 : Nat → Prop) (M1 : MemV) (S2 R2 : Nat → Prop) (M2 : MemV) (ks : List KL6), s14 = .int .i64 (i : Int) ∧ i ≤ ln ∧ AllIs6 wq wr ⟨ta, ga, ma, ra, S1, R1, M1⟩ ⟨tb, gb, mb, rb, S2, R2, M2⟩ draws other s13 ks (fun k => Bk ⟨ta, ga, ma, ra, Sa, Ra, mem0⟩ k ∨ Bk ⟨tb, gb, mb, rb, Sb, Rb, mem0⟩ k) ∧ M1.L.length ≤ sumL (l.take i) ∧ M2.L.length ≤ sumL (l.take i) ∧ ks.length ≤ i) (fun s13 s14 wr => ln - (intOf s14).toNat)
      case atStart => exact ⟨0, Sa, Ra, mem0, Sb, Rb, mem0, [], rfl, by omega, HAI.out, Nat.zero_le _, Nat.zero_le _, Nat.le_refl _⟩
      case round =>
        obtain ⟨i, S1, R1, M1, S2, R2, M2, ks, rfl, hi, hall, hla, hlb, hks⟩ := hrel
        generalize wr = ws at *
        have HALL := Lib.hid hall
        have HLA := Lib.hid hla
        have HLB := Lib.hid hlb
        clear hall hla hlb
        by_cases hin : i < ln
        · have i1 : (0 : Int) ≤ i := by omega
          have i2 : (i : Int) < ln := by omega
          obtain ⟨x, hx⟩ := getElem?_of_lt (l := l) (by rw [HLN.out]; exact hin : i < l.length)
          have hxk := HLK.out x (List.mem_of_getElem? hx)
          obtain ⟨b0, o0, hA, hbl, hc⟩ := HL.out.sl.at hx
          subst hA
          have hxm := List.mem_of_getElem? hx
          have HSX := Lib.hid (HL.out.each x hxm)
          have HOX := Lib.hid (HL.out.ok x hxm)
          have HSN := Lib.hid (show sumL (l.take (i + 1)) = sumL (l.take i) + x.L.length by rw [take_snoc' hx, sumL_append]; simp [sumL])
          have HSB2 := Lib.hid (show sumL (l.take (i + 1)) ≤ 10000 by
            have h1 : sumL l = sumL (l.take (i + 1)) + sumL (l.drop (i + 1)) := by rw [← sumL_append, List.take_append_drop]
            have := HSUM.out
            omega)
          have HXK := Lib.hid hxk
          have HCX := Lib.hid (show ∀ j u, (encO6 x)[j]? = some u → ws.cell? ⟨b0, o0 + i * 6 + j, none⟩ = some u from fun j u hu =>
            HALL.out.upd.cell ((HWQ.out.cell (p := ⟨b0, o0 + i * 6 + j, none⟩) hbl).trans (hc j u hu)) (fun hn => by have h1 : w3.heap.size ≤ b0 := (HTL.out _ hn).1; have h2 := HW3.out; omega))
          have HSW := Lib.hid (show Sl encW 3 ws x.A x.L from by
            by_cases hne : x.L = []
            · rw [hne]; exact Sl.nil _ _ _ _
            · refine (HSX.out.later HWQ.out).upd HALL.out.upd (fun b p e hn => ?_)
              obtain ⟨z, hz⟩ := List.exists_mem_of_ne_nil _ hne
              obtain ⟨jz, hj⟩ := List.getElem?_of_mem hz
              obtain ⟨b1, o1, e1, hl1, _⟩ := HSX.out.at hj
              rw [e] at e1
              injection e1 with e1
              injection e1 with e1
              have h1 := (HTL.out _ hn).1
              have h2 := HW3.out
              omega)
          have HXA := Lib.hid (show x.L ≠ [] → ∀ b' p, x.A = some ⟨b', p, none⟩ → ¬ (Bk ⟨ta, ga, ma, ra, S1, R1, M1⟩ b' ∨ Bk ⟨tb, gb, mb, rb, S2, R2, M2⟩ b') from fun hne b' p e hn => by
            obtain ⟨z, hz⟩ := List.exists_mem_of_ne_nil _ hne
            obtain ⟨jz, hj⟩ := List.getElem?_of_mem hz
            obtain ⟨b1, o1, e1, hl1, _⟩ := HSX.out.at hj
            rw [e] at e1
            injection e1 with e1
            injection e1 with e1
            have h2 := HW3.out
            rcases HALL.out.low _ hn with h1 | h1
            · have := (HTL.out _ h1).1; omega
            · have := HWQ.out.size; omega)
          have y0 : ws.cell? ⟨b0, o0 + i * 6, none⟩ = some (.int .i64 x.kd) := HCX.out 0 _ rfl
          have y1 : ws.cell? ⟨b0, o0 + i * 6 + 1, none⟩ = some (.bool x.sec) := HCX.out 1 _ rfl
          have y2 : ws.cell? ⟨b0, o0 + i * 6 + 2, none⟩ = some (.int .u64 x.at_) := HCX.out 2 _ rfl
          have y3 : ws.cell? ⟨b0, o0 + i * 6 + 3, none⟩ = some (.string x.key) := HCX.out 3 _ rfl
          have y4 : ws.cell? ⟨b0, o0 + i * 6 + 4, none⟩ = some (.slice x.A x.L.length x.c) := HCX.out 4 _ rfl
          have y5 : ws.cell? ⟨b0, o0 + i * 6 + 5, none⟩ = some (.int .i64 x.n) := HCX.out 5 _ rfl
          have BAS := Lib.hid (HALL.out.upd.heap BAQ.out (fun hn => (HTL.out _ hn).2.1 rfl))
          have BBS := Lib.hid (HALL.out.upd.heap BBQ.out (fun hn => by have := (HTL.out _ hn).2.2; omega))
          have a0 : ws.cell? ⟨w5.heap.size, 0, none⟩ = some (.pointer (some ⟨ta, 0, none⟩)) := (blk_cell BAS.out 0).trans rfl
          have a1 : ws.cell? ⟨w5.heap.size, 1, none⟩ = some (.pointer (some ⟨ma, 0, none⟩)) := (blk_cell BAS.out 1).trans rfl
          clear hx hbl hc
          have hb0s : b0 < ws.heap.size := World.block_lt_of_cell? ws _ y0
          have hbas : w5.heap.size < ws.heap.size := World.block_lt_of_cell? ws _ a0
          have n1' : b0 ≠ ws.heap.size := by omega
          have n2' : b0 ≠ ws.heap.size + 1 := by omega
          have n3' : w5.heap.size ≠ ws.heap.size := by omega
          have n4' : w5.heap.size ≠ ws.heap.size + 1 := by omega
          have zy0 := fun o => (cell_later ((Below.refl ws.heap.size ws).alloc (Nat.le_refl _) o) y0)
          have ty0 := fun o o' => (cell_later (((Below.refl ws.heap.size ws).alloc (Nat.le_refl _) o).alloc (by simp) o') y0)
          have zy1 := fun o => (cell_later ((Below.refl ws.heap.size ws).alloc (Nat.le_refl _) o) y1)
          have ty1 := fun o o' => (cell_later (((Below.refl ws.heap.size ws).alloc (Nat.le_refl _) o).alloc (by simp) o') y1)
          have zy2 := fun o => (cell_later ((Below.refl ws.heap.size ws).alloc (Nat.le_refl _) o) y2)
          have ty2 := fun o o' => (cell_later (((Below.refl ws.heap.size ws).alloc (Nat.le_refl _) o).alloc (by simp) o') y2)
          have zy3 := fun o => (cell_later ((Below.refl ws.heap.size ws).alloc (Nat.le_refl _) o) y3)
          have ty3 := fun o o' => (cell_later (((Below.refl ws.heap.size ws).alloc (Nat.le_refl _) o).alloc (by simp) o') y3)
          have zy4 := fun o => (cell_later ((Below.refl ws.heap.size ws).alloc (Nat.le_refl _) o) y4)
          have ty4 := fun o o' => (cell_later (((Below.refl ws.heap.size ws).alloc (Nat.le_refl _) o).alloc (by simp) o') y4)
          have zy5 := fun o => (cell_later ((Below.refl ws.heap.size ws).alloc (Nat.le_refl _) o) y5)
          have ty5 := fun o o' => (cell_later (((Below.refl ws.heap.size ws).alloc (Nat.le_refl _) o).alloc (by simp) o') y5)
          have za0 := fun o => (cell_later ((Below.refl ws.heap.size ws).alloc (Nat.le_refl _) o) a0)
          have ta0 := fun o o' => (cell_later (((Below.refl ws.heap.size ws).alloc (Nat.le_refl _) o).alloc (by simp) o') a0)
          have za1 := fun o => (cell_later ((Below.refl ws.heap.size ws).alloc (Nat.le_refl _) o) a1)
          have ta1 := fun o o' => (cell_later (((Below.refl ws.heap.size ws).alloc (Nat.le_refl _) o).alloc (by simp) o') a1)
          go_upto_region 19 with fail
          go_cut [15, 16] (fun s15 s16 wx => ∃ bp bo : Nat, s15 = .pointer (some ⟨bp, 0, none⟩) ∧ s16 = .pointer (some ⟨bo, 0, none⟩) ∧ bp ≠ bo ∧ ws.heap.size ≤ bp ∧ ws.heap.size ≤ bo ∧ wx.heap[bp]? = some (.cells #[.pointer (some ⟨ta, 0, none⟩), .pointer (some ⟨ma, 0, none⟩)] 105 (0, 0)) ∧
            wx.heap[bo]? = some (.cells (encO6 x).toArray 108 (0, 0)) ∧ Below ws.heap.size ws wx)
          case first =>
            go_region
            all_goals (go_wp2_with fail)
            all_goals go_meet
            all_goals first | exact ⟨ws.heap.size, ws.heap.size + 1, rfl, rfl, by omega, by omega, by omega, (two_new ws _ _).1, (two_new ws _ _).2, (((Below.refl _ _).alloc (Nat.le_refl _) _).alloc (by simp) _).drew⟩ | exact ⟨ws.heap.size + 1, ws.heap.size, rfl, rfl, by omega, by omega, by omega, (two_new ws _ _).2, (two_new ws _ _).1, (((Below.refl _ _).alloc (Nat.le_refl _) _).alloc (by simp) _).drew⟩
          case rest =>
            obtain ⟨bp, bo, rfl, rfl, hne, hbp, hbo, qp, qo, hbx⟩ := hcut
            generalize wc = wt at *
            have QP := Lib.hid qp
            have QO := Lib.hid qo
            have HBX := Lib.hid hbx
            have HNE := Lib.hid hne
            have HBP := Lib.hid hbp
            have HBO := Lib.hid hbo
            have s1 : wt.cell? ⟨bo, 1, none⟩ = some (.bool x.sec) := (blk_cell qo 1).trans rfl
            clear qp qo hbx hne hbp hbo y0 y1 y2 y3 y4 y5 a0 a1 zy0 ty0 zy1 ty1 zy2 ty2 zy3 ty3 zy4 ty4 zy5 ty5 za0 ta0 za1 ta1 n1' n2' n3' n4' hb0s hbas
            obtain ⟨sc, hsc⟩ : ∃ s, x.sec = s := ⟨_, rfl⟩
            rw [hsc] at s1
            have HSC := Lib.hid hsc
            clear hsc
            go_upto_if 81 with fail
            go_cut [15] (fun s15 wx => s15 = .pointer (some ⟨bp, 0, none⟩) ∧ wx.heap[bp]? = some (.cells #[.pointer (some ⟨pick2 sc ta tb, 0, none⟩), .pointer (some ⟨pick2 sc ma mb, 0, none⟩)] 105 (0, 0)) ∧ wx.heap[bo]? = some (.cells (encO6 x).toArray 108 (0, 0)) ∧ Below ws.heap.size ws wx)
            case first =>
              cases sc with
              | false =>
                go_wp2_with fail
                go_meet
                exact ⟨rfl, QP.out, QO.out, HBX.out⟩
              | true =>
                have b0' : wt.cell? ⟨w7.heap.size, 0, none⟩ = some (.pointer (some ⟨tb, 0, none⟩)) := (blk_cell (blk_below BBS.out HBX.out) 0).trans rfl
                have b1' : wt.cell? ⟨w7.heap.size, 1, none⟩ = some (.pointer (some ⟨mb, 0, none⟩)) := (blk_cell (blk_below BBS.out HBX.out) 1).trans rfl
                have p0 : wt.cell? ⟨bp, 0, none⟩ = some (.pointer (some ⟨ta, 0, none⟩)) := (blk_cell QP.out 0).trans rfl
                have p1 : wt.cell? ⟨bp, 1, none⟩ = some (.pointer (some ⟨ma, 0, none⟩)) := (blk_cell QP.out 1).trans rfl
                have g0 : wt.frozen? ⟨bp, 0, none⟩ = false := blk_frozen QP.out 0
                have g1 : wt.frozen? ⟨bp, 1, none⟩ = false := blk_frozen QP.out 1
                go_wp2_with fail
                go_meet
                exact ⟨rfl, put2_heap QP.out, blk_far (blk_far QO.out (p := ⟨bp, 0, none⟩) (fun e => HNE.out e.symm) _) (p := ⟨bp, 1, none⟩) (fun e => HNE.out e.symm) _, (HBX.out.setCell (p := ⟨bp, 0, none⟩) HBP.out _).setCell (p := ⟨bp, 1, none⟩) HBP.out _⟩
            case rest =>
              obtain ⟨rfl, qp, qo, hbx⟩ := hcut
              generalize wc = wu at *
              have QPU := Lib.hid qp
              have QOU := Lib.hid qo
              have HALU := Lib.hid (HALL.out.later hbx)
              have HWS := Lib.hid hbx.size
              have HNS := Lib.hid (show ∀ k, ws.heap.size ≤ k → ¬ (Bk ⟨ta, ga, ma, ra, S1, R1, M1⟩ k ∨ Bk ⟨tb, gb, mb, rb, S2, R2, M2⟩ k) from fun k hk hn => by have := HALL.out.lt k hn; omega)
              have hpl := plays_all HALU.out x (HSW.out.later hbx) HXA.out HOX.out HXK.out.2 (by have := HLA.out; have := HSB2.out; have := HSN.out; simp only; omega) (by have := HLB.out; have := HSB2.out; have := HSN.out; simp only; omega) (by have := HSB2.out; have := HSN.out; omega)
              rw [HSC.out] at hpl
              have HPL := Lib.hid (show Calls Try.prog 48 #[.agg #[.pointer (some ⟨pick2 sc ta tb, 0, none⟩), .pointer (some ⟨pick2 sc ma mb, 0, none⟩)], .agg #[.int .i64 x.kd, .bool x.sec, .int .u64 x.at_, .string x.key, .slice x.A x.L.length x.c, .int .i64 x.n]] wu fun en w' => en = .returned (.bool true) ∧ Upd (fun k => Bk ⟨ta, ga, ma, ra, S1, R1, M1⟩ k ∨ Bk ⟨tb, gb, mb, rb, S2, R2, M2⟩ k) wu w' ∧
                ∃ S3 R3 M3 S4 R4 M4, AllIs6 wq w' ⟨ta, ga, ma, ra, S3, R3, M3⟩ ⟨tb, gb, mb, rb, S4, R4, M4⟩ draws other _ ks (fun k => Bk ⟨ta, ga, ma, ra, Sa, Ra, mem0⟩ k ∨ Bk ⟨tb, gb, mb, rb, Sb, Rb, mem0⟩ k) ∧ M3.L.length ≤ M1.L.length + x.L.length ∧ M4.L.length ≤ M2.L.length + x.L.length from hpl)
              have p0 : wu.cell? ⟨bp, 0, none⟩ = some (.pointer (some ⟨pick2 sc ta tb, 0, none⟩)) := (blk_cell qp 0).trans rfl
              have p1 : wu.cell? ⟨bp, 1, none⟩ = some (.pointer (some ⟨pick2 sc ma mb, 0, none⟩)) := (blk_cell qp 1).trans rfl
              have o0' : wu.cell? ⟨bo, 0, none⟩ = some (.int .i64 x.kd) := (blk_cell qo 0).trans rfl
              have o1 : wu.cell? ⟨bo, 1, none⟩ = some (.bool x.sec) := (blk_cell qo 1).trans rfl
              have o2 : wu.cell? ⟨bo, 2, none⟩ = some (.int .u64 x.at_) := (blk_cell qo 2).trans rfl
              have o3 : wu.cell? ⟨bo, 3, none⟩ = some (.string x.key) := (blk_cell qo 3).trans rfl
              have o4 : wu.cell? ⟨bo, 4, none⟩ = some (.slice x.A x.L.length x.c) := (blk_cell qo 4).trans rfl
              have o5 : wu.cell? ⟨bo, 5, none⟩ = some (.int .i64 x.n) := (blk_cell qo 5).trans rfl
              clear qp qo hbx s1 hpl
              go_wp2_with fail
              refine HPL.out.mono ?_
              rintro _ wv ⟨rfl, huv, S3, R3, M3, S4, R4, M4, hallv, hlc, hld⟩
              have HLC := Lib.hid (show M3.L.length ≤ sumL (l.take (i + 1)) by have := HLA.out; have := HSN.out; omega)
              have HLD := Lib.hid (show M4.L.length ≤ sumL (l.take (i + 1)) by have := HLB.out; have := HSN.out; omega)
              have QPV := Lib.hid (huv.heap QPU.out (HNS.out _ HBP.out))
              have QOV := Lib.hid (huv.heap QOU.out (HNS.out _ HBO.out))
              have HALV := Lib.hid hallv
              have HBKV := Lib.hid (fun k hk => (HALL.out.row.block_lt (k := k) hk).2)
              have hkp := keeps_all hallv x (by omega)
              rw [HSC.out] at hkp
              have HKP := Lib.hid (show Calls Try.prog 49 #[.agg #[.pointer (some ⟨pick2 sc ta tb, 0, none⟩), .pointer (some ⟨pick2 sc ma mb, 0, none⟩)], .agg #[.int .i64 x.kd, .bool x.sec, .int .u64 x.at_, .string x.key, .slice x.A x.L.length x.c, .int .i64 x.n], _] wv _ from hkp)
              have q0 : wv.cell? ⟨bp, 0, none⟩ = some (.pointer (some ⟨pick2 sc ta tb, 0, none⟩)) := (blk_cell QPV.out 0).trans rfl
              have q1 : wv.cell? ⟨bp, 1, none⟩ = some (.pointer (some ⟨pick2 sc ma mb, 0, none⟩)) := (blk_cell QPV.out 1).trans rfl
              have v0 : wv.cell? ⟨bo, 0, none⟩ = some (.int .i64 x.kd) := (blk_cell QOV.out 0).trans rfl
              have v1' : wv.cell? ⟨bo, 1, none⟩ = some (.bool x.sec) := (blk_cell QOV.out 1).trans rfl
              have v2' : wv.cell? ⟨bo, 2, none⟩ = some (.int .u64 x.at_) := (blk_cell QOV.out 2).trans rfl
              have v3 : wv.cell? ⟨bo, 3, none⟩ = some (.string x.key) := (blk_cell QOV.out 3).trans rfl
              have v4 : wv.cell? ⟨bo, 4, none⟩ = some (.slice x.A x.L.length x.c) := (blk_cell QOV.out 4).trans rfl
              have v5 : wv.cell? ⟨bo, 5, none⟩ = some (.int .i64 x.n) := (blk_cell QOV.out 5).trans rfl
              clear huv hallv hlc hld hkp p0 p1 o0' o1 o2 o3 o4 o5 HPL
              go_wp2_with fail
              refine HKP.out.mono ?_
              rintro _ wy ⟨kv', ks', rfl, hallx, hlx, hux⟩
              have QOX := Lib.hid (hux.heap QOV.out (fun hn => by
                have h1 := HBKV.out bo hn
                have h2 := HBO.out
                omega))
              have HALX := Lib.hid hallx
              clear hallx hux q0 q1 v0 v1' v2' v3 v4 v5 HKP
              obtain ⟨Ak, ck, hkv⟩ := own_slice HALX.out.row
              subst hkv
              obtain ⟨kn, hkn⟩ : ∃ n, ks'.length = n := ⟨_, rfl⟩
              have HKN := Lib.hid hkn
              rw [hkn] at HALX hlx ⊢
              have x0 : wy.cell? ⟨bo, 0, none⟩ = some (.int .i64 x.kd) := (blk_cell QOX.out 0).trans rfl
              have x5 : wy.cell? ⟨bo, 5, none⟩ = some (.int .i64 x.n) := (blk_cell QOX.out 5).trans rfl
              clear hkn
              by_cases h7 : x.kd = 11
              · by_cases hk0 : kn = 0
                · have i9 : ¬ (0 : Int) < kn := by omega
                  have HK0 := Lib.hid hk0
                  clear hk0
                  go_wp2
                  go_roundw
                  case rel => exact ⟨i + 1, S3, R3, M3, S4, R4, M4, ks', by first | rfl | simp, by omega, HALX.out, HLC.out, HLD.out, by rw [HKN.out]; omega⟩
                  case measure => simp [intOf]; omega
                · have i9 : (0 : Int) < kn := by omega
                  have HPC := Lib.hid (place6_c x.n kn HXK.out.1 ⟨i9, by omega⟩ wy)
                  clear hk0
                  go_wp2_with fail
                  refine HPC.out.mono ?_
                  rintro _ _ ⟨p, rfl, hpn, rfl⟩
                  have j1 : (0 : Int) ≤ p := by omega
                  obtain ⟨xk, hxk2⟩ := getElem?_of_lt (l := ks') (by rw [HKN.out]; omega : p < ks'.length)
                  obtain ⟨_, _, ev, _, hsk, _⟩ := HALX.out.row.slice (fun x => (okL6 ta ma tb mb x).1)
                  injection ev with e1 e2 e3
                  rw [← e1] at hsk
                  obtain ⟨b4, o4, hA4, _, hc4⟩ := hsk.at hxk2
                  subst hA4
                  have HNOW := Lib.hid (now_all HALX.out (by have := HLC.out; have := HSB2.out; simp only; omega) (by have := HLD.out; have := HSB2.out; simp only; omega) (List.mem_of_getElem? hxk2))
                  obtain ⟨fv, hfv⟩ : ∃ f, keptV6 xk.b xk.wh = f := ⟨_, rfl⟩
                  rw [hfv] at HNOW
                  have l0 : wy.cell? ⟨b4, o4 + p * 9, none⟩ = some (fv) := by rw [← hfv]; exact hc4 0 _ rfl
                  have l1 : wy.cell? ⟨b4, o4 + p * 9 + 1, none⟩ = some (.pointer (some ⟨pick2 xk.sec ta tb, 0, none⟩)) := hc4 1 _ rfl
                  have l2 : wy.cell? ⟨b4, o4 + p * 9 + 2, none⟩ = some (.pointer (some ⟨pick2 xk.sec ma mb, 0, none⟩)) := hc4 2 _ rfl
                  have l3 : wy.cell? ⟨b4, o4 + p * 9 + 3, none⟩ = some (.int .i64 xk.o.kd) := hc4 3 _ rfl
                  have l4 : wy.cell? ⟨b4, o4 + p * 9 + 4, none⟩ = some (.bool xk.o.sec) := hc4 4 _ rfl
                  have l5 : wy.cell? ⟨b4, o4 + p * 9 + 5, none⟩ = some (.int .u64 xk.o.at_) := hc4 5 _ rfl
                  have l6 : wy.cell? ⟨b4, o4 + p * 9 + 6, none⟩ = some (.string xk.o.key) := hc4 6 _ rfl
                  have l7 : wy.cell? ⟨b4, o4 + p * 9 + 7, none⟩ = some (.slice xk.o.A xk.o.L.length xk.o.c) := hc4 7 _ rfl
                  have l8 : wy.cell? ⟨b4, o4 + p * 9 + 8, none⟩ = some (.int .i64 xk.o.n) := hc4 8 _ rfl
                  clear hxk2 hsk hc4 e1 e2 e3 hfv
                  go_wp2_with fail
                  refine HNOW.out.mono ?_
                  rintro _ wn ⟨rfl, hbn⟩
                  have HALN := Lib.hid (HALX.out.later hbn)
                  clear hbn l0 l1 l2 l3 l4 l5 l6 l7 l8
                  go_wp2
                  go_roundw
                  case rel => exact ⟨i + 1, S3, R3, M3, S4, R4, M4, ks', by first | rfl | simp, by omega, HALN.out, HLC.out, HLD.out, by rw [HKN.out]; omega⟩
                  case measure => simp [intOf]; omega
              · go_wp2
                go_roundw
                case rel => exact ⟨i + 1, S3, R3, M3, S4, R4, M4, ks', by first | rfl | simp, by omega, HALX.out, HLC.out, HLD.out, by rw [HKN.out]; omega⟩
                case measure => simp [intOf]; omega
        · have hi9 : ln = i := by omega
          clear hin hi
          subst hi9
          have HSUB := Lib.hid (show sumL (l.take ln) ≤ 10000 by
            have h1 : sumL l = sumL (l.take ln) + sumL (l.drop ln) := by rw [← sumL_append, List.take_append_drop]
            have := HSUM.out
            omega)
          obtain ⟨Ak, ck, hkv⟩ := own_slice HALL.out.row
          subst hkv
          obtain ⟨kn, hkn⟩ : ∃ n, ks.length = n := ⟨_, rfl⟩
          have HKN := Lib.hid hkn
          rw [hkn] at HALL hks ⊢
          clear hkn
          go_wp2_with fail
          go_loopw [17] (fun s17 wr => ∃ j : Nat, s17 = .int .i64 (j : Int) ∧ j ≤ kn ∧ Below ws.heap.size ws wr) (fun s17 wr => kn - (intOf s17).toNat)
          case atStart => exact ⟨0, rfl, by omega, Below.refl _ _⟩
          case round =>
            obtain ⟨p, rfl, hp, hbj⟩ := hrel
            generalize wr = wy at *
            have HBJ := Lib.hid hbj
            have HALX := Lib.hid (HALL.out.later hbj)
            clear hbj
            have j1 : (0 : Int) ≤ p := by omega
            by_cases hjn : p < kn
            · have j2 : (p : Int) < kn := by omega
              obtain ⟨xk, hxk2⟩ := getElem?_of_lt (l := ks) (by rw [HKN.out]; omega : p < ks.length)
              obtain ⟨_, _, ev, _, hsk, _⟩ := HALX.out.row.slice (fun x => (okL6 ta ma tb mb x).1)
              injection ev with e1 e2 e3
              rw [← e1] at hsk
              obtain ⟨b4, o4, hA4, _, hc4⟩ := hsk.at hxk2
              subst hA4
              have HNOW := Lib.hid (now_all HALX.out (by have := HLA.out; have := HSUB.out; simp only; omega) (by have := HLB.out; have := HSUB.out; simp only; omega) (List.mem_of_getElem? hxk2))
              obtain ⟨fv, hfv⟩ : ∃ f, keptV6 xk.b xk.wh = f := ⟨_, rfl⟩
              rw [hfv] at HNOW
              have l0 : wy.cell? ⟨b4, o4 + p * 9, none⟩ = some (fv) := by rw [← hfv]; exact hc4 0 _ rfl
              have l1 : wy.cell? ⟨b4, o4 + p * 9 + 1, none⟩ = some (.pointer (some ⟨pick2 xk.sec ta tb, 0, none⟩)) := hc4 1 _ rfl
              have l2 : wy.cell? ⟨b4, o4 + p * 9 + 2, none⟩ = some (.pointer (some ⟨pick2 xk.sec ma mb, 0, none⟩)) := hc4 2 _ rfl
              have l3 : wy.cell? ⟨b4, o4 + p * 9 + 3, none⟩ = some (.int .i64 xk.o.kd) := hc4 3 _ rfl
              have l4 : wy.cell? ⟨b4, o4 + p * 9 + 4, none⟩ = some (.bool xk.o.sec) := hc4 4 _ rfl
              have l5 : wy.cell? ⟨b4, o4 + p * 9 + 5, none⟩ = some (.int .u64 xk.o.at_) := hc4 5 _ rfl
              have l6 : wy.cell? ⟨b4, o4 + p * 9 + 6, none⟩ = some (.string xk.o.key) := hc4 6 _ rfl
              have l7 : wy.cell? ⟨b4, o4 + p * 9 + 7, none⟩ = some (.slice xk.o.A xk.o.L.length xk.o.c) := hc4 7 _ rfl
              have l8 : wy.cell? ⟨b4, o4 + p * 9 + 8, none⟩ = some (.int .i64 xk.o.n) := hc4 8 _ rfl
              clear hxk2 hsk hc4 e1 e2 e3 hfv
              go_wp2_with fail
              refine HNOW.out.mono ?_
              rintro _ wn ⟨rfl, hbn⟩
              have HBN := Lib.hid (HBJ.out.trans (hbn.mono HBJ.out.size))
              clear hbn l0 l1 l2 l3 l4 l5 l6 l7 l8
              go_wp2
              go_roundw
              case rel => exact ⟨p + 1, by first | rfl | simp, by omega, HBN.out⟩
              case measure => simp [intOf]; omega
            · have hi8 : kn = p := by omega
              clear hp hjn
              subst hi8
              have HWY := Lib.hid ((HALX.out.upd.below HWQ.out (fun k hk => by have := (HTL.out k hk).1; have := HW3.out; omega)))
              have HF2Y := Lib.hid (FS2Q.out.upd HALX.out.upd (fun b o e hn => by
                injection e with e
                injection e with e1 e2
                subst e1
                have h1 := (HTL.out _ hn).1
                have h2 := (HRLO.out f2 (.inr (.inr (.inr ⟨(f2, n2, cf2), by simp, rfl⟩)))).2
                omega))
              go_wp2_with fail
              go_loopw [18] (fun s18 wr => ∃ m : Nat, s18 = .int .i64 (m : Int) ∧ m ≤ n2 ∧ Below wy.heap.size wy wr) (fun s18 wr => n2 - (intOf s18).toNat)
              case atStart => exact ⟨0, rfl, by omega, Below.refl _ _⟩
              case round =>
                obtain ⟨m4, rfl, hi4, hbm⟩ := hrel
                generalize wr = wz at *
                have HBM := Lib.hid hbm
                clear hbm
                by_cases him : m4 < n2
                · have m1 : (0 : Int) ≤ m4 := by omega
                  have m2 : (m4 : Int) < n2 := by omega
                  obtain ⟨y, hy⟩ := getElem?_of_lt (l := other) (by rw [HN2.out]; exact him : m4 < other.length)
                  obtain ⟨b0, o0, hA, hbl, hc⟩ := HO.out.at hy
                  subst hA
                  obtain ⟨_, _, ef, _, hcf⟩ := (HF2Y.out.later HBM.out).at hy
                  injection ef with ef
                  injection ef with ef1 ef2
                  subst ef1
                  subst ef2
                  have Y0 := Lib.hid (show wz.cell? ⟨b0, o0 + m4, none⟩ = some (.int .u8 y) from by
                    have h2 : w.cell? ⟨b0, o0 + m4, none⟩ = some (.int .u8 y) := by simpa using hc 0 _ rfl
                    exact ((HWY.out.trans (HBM.out.mono HWY.out.size)).cell (p := ⟨b0, o0 + m4, none⟩) hbl).trans h2)
                  have Y1 := Lib.hid (show wz.cell? ⟨f2, 0 + m4, none⟩ = some (.int .u8 y) by simpa using hcf 0 _ rfl)
                  clear hc hbl hcf hy
                  go_wp2_with fail
                  refine wp_region_calmB 8 (by kernel_rfl) (by kernel_rfl) ?_
                  simp only [List.take_succ_cons, List.take_zero, List.drop_succ_cons, List.drop_zero]
                  refine chain0 ?_
                  refine @chain _ _ _ _ _ _ _ _ 129 (.slice (some ⟨f2, 0, none⟩) n2 (n2 + 600)) (by rfl) (by rfl) (by exact fun W2 hW => run_mv (by rfl) (by exact eval_base (by kernel_rfl) (by rfl)) hW) ?_
                  refine @chain _ _ _ _ _ _ _ _ 130 (.int .i64 (m4 : Int)) (by rfl) (by rfl) (by exact fun W2 hW => run_mv (by rfl) (by exact eval_base (by kernel_rfl) (by rfl)) hW) ?_
                  refine @chain _ _ _ _ _ _ _ _ 131 (.pointer (some ⟨f2, 0 + m4, none⟩)) (by rfl) (by rfl) (by exact fun W2 hW => run_ia (u := .slice (some ⟨f2, 0, none⟩) n2 (n2 + 600)) (v := .int .i64 (m4 : Int)) (by rfl) (by exact eval_look (by kernel_rfl) (by kernel_rfl)) (by exact eval_look (by kernel_rfl) (by kernel_rfl)) (fun W => idxBy_run _ _ _ _ _ (by omega) W) hW) ?_
                  refine @chain _ _ _ _ _ _ _ _ 132 (.int .u8 y) (by rfl) (by rfl) (by exact fun W2 hW => run_lw (by rfl) (by exact eval_look (by kernel_rfl) (by kernel_rfl)) (fun W hW => ldBy _ _ _ _ (cell_later hW Y1.out)) hW) ?_
                  refine @chain _ _ _ _ _ _ _ _ 133 (.slice (some ⟨b0, o0, none⟩) n2 co) (by rfl) (by rfl) (by exact fun W2 hW => run_mv (by rfl) (by exact eval_base (by kernel_rfl) (by rfl)) hW) ?_
                  refine @chain _ _ _ _ _ _ _ _ 134 (.int .i64 (m4 : Int)) (by rfl) (by rfl) (by exact fun W2 hW => run_mv (by rfl) (by exact eval_base (by kernel_rfl) (by rfl)) hW) ?_
                  refine @chain _ _ _ _ _ _ _ _ 135 (.pointer (some ⟨b0, o0 + m4, none⟩)) (by rfl) (by rfl) (by exact fun W2 hW => run_ia (u := .slice (some ⟨b0, o0, none⟩) n2 co) (v := .int .i64 (m4 : Int)) (by rfl) (by exact eval_look (by kernel_rfl) (by kernel_rfl)) (by exact eval_look (by kernel_rfl) (by kernel_rfl)) (fun W => idxBy_run _ _ _ _ _ (by omega) W) hW) ?_
                  refine @chain _ _ _ _ _ _ _ _ 136 (.int .u8 y) (by rfl) (by rfl) (by exact fun W2 hW => run_lw (by rfl) (by exact eval_look (by kernel_rfl) (by kernel_rfl)) (fun W hW => ldBy _ _ _ _ (cell_later hW Y0.out)) hW) ?_
                  refine calm_nil (fun W2 hW2 => ?_)
                  refine Eq.mpr (congrArg (fun a => wpList _ _ _ _ a W2) (show _ = (⟨#[Value.slice A n1 c, Value.slice (some ⟨b0, o0, none⟩) n2 co, Value.slice B ln d, undef, undef, undef, u6, Value.pointer (some ⟨w.heap.size, 0, none⟩), Value.slice (some ⟨f1, 0, none⟩) n1 (n1 + 600), Value.slice (some ⟨f2, 0, none⟩) n2 (n2 + 600), Value.pointer (some ⟨w5.heap.size, 0, none⟩), Value.pointer (some ⟨w7.heap.size, 0, none⟩), Value.int IntKind.i64 (n1 : Int), Value.slice Ak kn ck, Value.int IntKind.i64 (ln : Int), u15, u16, Value.int IntKind.i64 (kn : Int), Value.int IntKind.i64 (m4 : Int), Value.slice B ln d, Value.bool true, Value.bool false, Value.agg #[Value.slice none 0 0, Value.slice none 0 0, Value.slice none 0 0, Value.slice none 0 0, Value.slice none 0 0, Value.slice none 0 0, Value.slice none 0 0, Value.slice none 0 0, Value.slice none 0 0, Value.slice none 0 0, Value.slice none 0 0, Value.slice none 0 0, Value.slice none 0 0, Value.slice none 0 0, Value.slice none 0 0, Value.slice none 0 0, Value.slice none 0 0, Value.slice none 0 0, Value.slice none 0 0, Value.slice none 0 0, Value.slice none 0 0, Value.slice none 0 0, Value.slice none 0 0, Value.slice none 0 0, Value.slice none 0 0, Value.slice none 0 0, Value.slice none 0 0, Value.slice none 0 0], Value.pointer (some ⟨w.heap.size, 0, none⟩), Value.pointer (some ⟨w.heap.size, 0, none⟩), Value.slice A n1 c, Value.slice (some ⟨f1, 0, none⟩) n1 (n1 + 600), Value.pointer (some ⟨w.heap.size, 0, none⟩), Value.slice (some ⟨b0, o0, none⟩) n2 co, Value.slice (some ⟨f2, 0, none⟩) n2 (n2 + 600), Value.slice (some ⟨f1, 0, none⟩) n1 (n1 + 600), Value.pointer (some ⟨ta, 0, none⟩), Value.pointer (some ⟨ma, 0, none⟩), Value.agg #[Value.pointer (some ⟨ta, 0, none⟩), Value.pointer (some ⟨ma, 0, none⟩)], Value.slice (some ⟨f2, 0, none⟩) n2 (n2 + 600), Value.pointer (some ⟨tb, 0, none⟩), Value.pointer (some ⟨mb, 0, none⟩), Value.agg #[Value.pointer (some ⟨tb, 0, none⟩), Value.pointer (some ⟨mb, 0, none⟩)], Value.pointer (some ⟨w5.heap.size, 0, none⟩), Value.pointer (some ⟨ta, 0, none⟩), Value.bool false, Value.bool false, Value.pointer (some ⟨w7.heap.size, 0, none⟩), Value.pointer (some ⟨tb, 0, none⟩), Value.bool false, Value.bool false, Value.int IntKind.i64 (n1 : Int), Value.slice (some ⟨f1, 0, none⟩) n1 (n1 + 600), Value.int IntKind.i64 (n1 : Int), Value.bool false, u50, u51, u52, u53, u54, u55, u56, u57, u58, u59, u60, u61, u62, u63, u64, u65, u66, u67, u68, Value.int IntKind.i64 (ln : Int), Value.slice B ln d, Value.int IntKind.i64 (ln : Int), Value.bool false, u73, u74, u75, u76, u77, u78, u79, u80, u81, u82, u83, u84, u85, u86, u87, u88, u89, u90, u91, u92, u93, u94, u95, u96, u97, u98, u99, u100, u101, u102, u103, u104, u105, u106, u107, u108, u109, u110, Value.int IntKind.i64 (kn : Int), Value.slice Ak kn ck, Value.int IntKind.i64 (kn : Int), Value.bool false, u115, u116, u117, u118, u119, u120, u121, u122, Value.int IntKind.i64 (m4 : Int), Value.slice (some ⟨f2, 0, none⟩) n2 (n2 + 600), Value.int IntKind.i64 (n2 : Int), Value.bool true, u127, u128, Value.slice (some ⟨f2, 0, none⟩) n2 (n2 + 600), Value.int IntKind.i64 (m4 : Int), Value.pointer (some ⟨f2, 0 + m4, none⟩), Value.int IntKind.u8 y, Value.slice (some ⟨b0, o0, none⟩) n2 co, Value.int IntKind.i64 (m4 : Int), Value.pointer (some ⟨b0, o0 + m4, none⟩), Value.int IntKind.u8 y, u137, undef, undef, undef, undef, undef, undef, undef, undef, undef, undef], []⟩ : Act) by kernel_rfl)) ?_
                  have HW2 := Lib.hid hW2
                  clear hW2
                  go_wp2
                  go_roundw
                  case rel => exact ⟨m4 + 1, by first | rfl | simp, by omega, HBM.out.trans (HW2.out.mono HBM.out.size)⟩
                  case measure => simp [intOf]; omega
                · have m2 : (n2 : Int) ≤ m4 := by omega
                  clear him hi4
                  have HALZ := Lib.hid (HALX.out.later HBM.out)
                  have HRZ := Lib.hid (HRM.out.upd HALZ.out.upd (fun k hk hn => by have := (HRLO.out k hk).2; have := (HTL.out k hn).1; omega))
                  have BAZ := Lib.hid (HALZ.out.upd.heap BAQ.out (fun hn => (HTL.out _ hn).2.1 rfl))
                  have BBZ := Lib.hid (HALZ.out.upd.heap BBQ.out (fun hn => by have := (HTL.out _ hn).2.2; omega))
                  have HHA := Lib.hid (holds6_c HALZ.out.pa (by have := HLA.out; have := HSUB.out; simp only; omega))
                  have a0 : wz.cell? ⟨w5.heap.size, 0, none⟩ = some (.pointer (some ⟨ta, 0, none⟩)) := (blk_cell BAZ.out 0).trans rfl
                  have a1 : wz.cell? ⟨w5.heap.size, 1, none⟩ = some (.pointer (some ⟨ma, 0, none⟩)) := (blk_cell BAZ.out 1).trans rfl
                  go_wp2_with fail
                  refine HHA.out.mono ?_
                  rintro _ x1 ⟨rfl, hb1⟩
                  have HX1 := Lib.hid hb1
                  have HHB := Lib.hid (holds6_c (HALZ.out.later hb1).pb (by have := HLB.out; have := HSUB.out; simp only; omega))
                  have b0' : x1.cell? ⟨w7.heap.size, 0, none⟩ = some (.pointer (some ⟨tb, 0, none⟩)) := (blk_cell (blk_below BBZ.out hb1) 0).trans rfl
                  have b1' : x1.cell? ⟨w7.heap.size, 1, none⟩ = some (.pointer (some ⟨mb, 0, none⟩)) := (blk_cell (blk_below BBZ.out hb1) 1).trans rfl
                  clear hb1 a0 a1
                  go_wp2_with fail
                  refine HHB.out.mono ?_
                  rintro _ x2 ⟨rfl, hb2⟩
                  have HX2 := Lib.hid (HX1.out.trans (hb2.mono HX1.out.size))
                  have HHR := Lib.hid (hold_c w.heap.size _ v1 v2 x2 (HRZ.out.later HX2.out) (by simp))
                  clear hb2 b0' b1'
                  go_wp2_with fail
                  refine HHR.out.mono ?_
                  rintro _ x3 ⟨rfl, hb3⟩
                  have HX3 := Lib.hid (HX2.out.trans (hb3.mono HX2.out.size))
                  clear hb3
                  go_wp2
                  go_ret
                  exact ⟨by first | rfl | simp, HBF.out.trans (((HWY.out.trans (HBM.out.mono HWY.out.size)).trans (HX3.out.mono (HWY.out.trans (HBM.out.mono HWY.out.size)).size)).mono HBF.out.size)⟩
end Go.Proofs.Ytjbbobhjomhnmaa.H
