/- The law's pair of memtables (screelaw6): adds, walked (printed by genmf6.py). Conditions: sizes. -/
import Derived.Test.YtjbbobhjomhnmaaMf6
namespace Go.Proofs.Ytjbbobhjomhnmaa.H
open Go Go.RowKit Go.Deep Go.Shelf Go.Proofs Go.Proofs.YtjbbobhjomhnmaaW.PrintWords
set_option linter.unusedVariables false
set_option linter.unusedSimpArgs false
abbrev spoil : Wri := (⟨#[115, 112, 111, 105, 108, 116]⟩, false, ⟨#[115, 112, 111, 105, 108, 116]⟩)
theorem RoomV.apart {w : World} {g : Nat} {l : List Wri} {f cf p cp q cq : Nat} (h : RoomV w g l f cf p cp q cq) : f ≠ g ∧ f ≠ p ∧ f ≠ q := by
  obtain ⟨h1, h2, h3, h4, h5, cs, h6⟩ := h
  obtain ⟨x, hx⟩ : ∃ x, (l ++ marks 40)[0]? = some x := getElem?_of_lt (by rw [List.length_append, marks_len]; omega)
  obtain ⟨_, _, e, _, hc⟩ := h4.at hx
  injection e with e
  injection e with e1 e2
  subst e1
  subst e2
  have h0 : w.cell? ⟨f, 0, none⟩ = some (.string x.1) := by simpa using hc 0 _ rfl
  refine ⟨fun e => ?_, fun e => ?_, fun e => ?_⟩
  · subst e
    rw [show w.cell? ⟨f, 0, none⟩ = some (.slice none 0 0) from (blk_cell h1 0).trans rfl] at h0
    cases h0
  · subst e
    rw [h2] at h0
    cases h0
  · subst e
    rw [h3] at h0
    cases h0
/-- One of what was lent is written over. -/
theorem RoomV.put {w w' : World} {g : Nat} {l : List Wri} {f cf p cp q cq i : Nat} (h : RoomV w g l f cf p cp q cq) (hi : i < l.length) (x : Wri)
    (hw : w' = ((w.setCell ⟨f, i * 3, none⟩ (.string x.1)).setCell ⟨f, i * 3 + 1, none⟩ (.bool x.2.1)).setCell ⟨f, i * 3 + 2, none⟩ (.string x.2.2)) : RoomV w' g (l.set i x) f cf p cp q cq ∧ Upd (fun k => k = f) w w' := by
  obtain ⟨n1, n2, n3⟩ := h.apart
  have hu : Upd (fun k => k = f) w w' := by
    rw [hw]
    exact ((Upd.setCell (S := fun k => k = f) w (i * 3) (.string x.1) rfl).trans (Upd.setCell _ (i * 3 + 1) (.bool x.2.1) rfl)).trans (Upd.setCell _ (i * 3 + 2) (.string x.2.2) rfl)
  obtain ⟨h1, h2, h3, h4, h5, cs, h6⟩ := h
  refine ⟨⟨hu.heap h1 (fun e => n1 e.symm), ?_, ?_, ⟨?_, ?_⟩, by rw [List.length_set]; exact h5, ?_⟩, hu⟩
  · rw [List.length_set]; exact hu.cell h2 (fun e => n2 e.symm)
  · rw [List.length_set]; exact hu.cell h3 (fun e => n3 e.symm)
  · have := h4.1
    simpa [List.length_append] using this
  · rcases h4.2 with h0 | ⟨b, o, e, hlt, hc⟩
    · have := congrArg List.length h0
      rw [List.length_append, marks_len] at this
      simp at this
    · injection e with e
      injection e with e1 e2
      subst e1
      subst e2
      refine .inr ⟨f, 0, rfl, Nat.lt_of_lt_of_le hlt hu.size, fun j y hj k u hk => ?_⟩
      have hk3 : k < 3 := (List.getElem?_eq_some_iff.1 hk).1
      rw [← List.set_append_left _ _ hi, List.getElem?_set] at hj
      split at hj
      · rename_i hij
        subst hij
        rw [if_pos (by rw [List.length_append]; omega)] at hj
        injection hj with hj
        subst hj
        have z0 : w'.heap[f]? = some (.cells (((cs.setIfInBounds (i * 3) (.string x.1)).setIfInBounds (i * 3 + 1) (.bool x.2.1)).setIfInBounds (i * 3 + 2) (.string x.2.2)) 89 (0, 0)) := by
          rw [hw]
          exact blk_set (blk_set (blk_set h6 _ _) _ _) _ _
        have hsz : i * 3 + 2 < cs.size := by
          obtain ⟨y, hy⟩ : ∃ y, (l ++ marks 40)[i]? = some y := getElem?_of_lt (by rw [List.length_append]; omega)
          have h9 := hc i y hy 2 _ rfl
          rw [blk_cell h6] at h9
          have := (Array.getElem?_eq_some_iff.1 h9).1
          omega
        rw [blk_cell z0]
        rcases k with _ | _ | _ | k
        · rw [show (encW x)[0]? = some (.string x.1) from rfl] at hk
          rw [← hk]
          simp [Array.getElem?_setIfInBounds]
          omega
        · rw [show (encW x)[1]? = some (.bool x.2.1) from rfl] at hk
          rw [← hk]
          simp [Array.getElem?_setIfInBounds]
          omega
        · rw [show (encW x)[2]? = some (.string x.2.2) from rfl] at hk
          rw [← hk]
          simp [Array.getElem?_setIfInBounds]
          omega
        · omega
      · rename_i hij
        have h9 := hc j y hj k u hk
        rw [hw, World.cell?_setCell_other _ _ _ _ (by intro e; injection e with e1 e2; omega), World.cell?_setCell_other _ _ _ _ (by intro e; injection e with e1 e2; omega), World.cell?_setCell_other _ _ _ _ (by intro e; injection e with e1 e2; omega)]
        exact h9
  · rw [hw]
    exact ⟨_, blk_set (blk_set (blk_set h6 _ _) _ _) _ _⟩
set_option maxHeartbeats 6400000 in
set_option maxRecDepth 100000 in
theorem adds6_c {w : World} {t g m r : Nat} {S R : Nat → Prop} {draws : List Int} {M : MemV} (h : Pair6 w t g m r S R draws M) (o : Op6) (hs : Sl encW 3 w o.A o.L) (hA : o.L ≠ [] → ∀ b p, o.A = some ⟨b, p, none⟩ → ¬ ((S b ∨ b = t) ∨ (R b ∨ b = m)))
    (hok : ∀ x ∈ o.L, x.1.size ≤ 140737488351232 ∧ x.2.2.size ≤ 140737488351232) (hat : 0 ≤ o.at_ ∧ o.at_ ≤ 18446744073709551615) (hl : M.L.length ≤ 50000) (hL : o.L.length ≤ 50000) :
    Calls Try.prog 96 #[.agg #[.pointer (some ⟨t, 0, none⟩), .pointer (some ⟨m, 0, none⟩)], .agg (encO6 o).toArray] w fun en w' => en = .returned (.bool true) ∧ Upd (fun k => (S k ∨ k = t) ∨ (R k ∨ k = m)) w w' ∧ ∃ S' R', Grow S S' w ∧ Grow R R' w ∧ Pair6 w' t g m r S' R' draws (addM draws M o.at_ o.L) := by
  obtain ⟨w2, hw2⟩ : ∃ Z, (w.alloc (.cells #[.pointer (some ⟨t, 0, none⟩), .pointer (some ⟨m, 0, none⟩)] 105)).alloc (.cells (encO6 o).toArray 108) = Z := ⟨_, rfl⟩
  have hb2 : Below w.heap.size w w2 := by rw [← hw2]; exact ((Below.refl _ _).alloc (Nat.le_refl _) _).alloc (by simp) _
  have q1 : w2.heap[w.heap.size]? = some (.cells #[.pointer (some ⟨t, 0, none⟩), .pointer (some ⟨m, 0, none⟩)] 105 (0, 0)) := by rw [← hw2]; exact blk_alloc (heap_alloc_new _ _) _
  have q2 : w2.heap[w.heap.size + 1]? = some (.cells (encO6 o).toArray 108 (0, 0)) := by rw [← hw2]; simpa using heap_alloc_new (w.alloc (.cells #[.pointer (some ⟨t, 0, none⟩), .pointer (some ⟨m, 0, none⟩)] 105)) (.cells (encO6 o).toArray 108)
  obtain ⟨ln, hln⟩ : ∃ n, o.L.length = n := ⟨_, rfl⟩
  obtain ⟨w3, hw3⟩ : ∃ Z, w2.alloc (.cells #[.slice none 0 0, .slice none 0 0, .slice none 0 0, .slice none 0 0, .slice none 0 0, .slice none 0 0, .slice none 0 0, .slice none 0 0, .slice none 0 0, .slice none 0 0, .slice none 0 0, .slice none 0 0, .slice none 0 0, .slice none 0 0, .slice none 0 0, .slice none 0 0, .slice none 0 0, .slice none 0 0, .slice none 0 0, .slice none 0 0, .slice none 0 0, .slice none 0 0, .slice none 0 0, .slice none 0 0, .slice none 0 0, .slice none 0 0, .slice none 0 0, .slice none 0 0] 41) = Z := ⟨_, rfl⟩
  have hb3 : Below w2.heap.size w2 w3 := by rw [← hw3]; exact (Below.refl _ _).alloc (Nat.le_refl _) _
  have q3 : w3.heap[w2.heap.size]? = some (.cells (Array.replicate 28 (.slice none 0 0)) 41 (0, 0)) := by rw [← hw3]; exact (heap_alloc_new _ _).trans rfl
  have hb23 := hb2.trans (hb3.mono hb2.size)
  have p4 : w3.cell? ⟨w.heap.size + 1, 4, none⟩ = some (.slice o.A o.L.length o.c) := (blk_cell (blk_below q2 hb3) 4).trans rfl
  have HWR := Lib.hid (writes_c w2.heap.size o.A o.c o.L (by omega) w3 (hs.later hb23) q3)
  have HP := Lib.hid h
  have HS := Lib.hid hs
  have HA := Lib.hid hA
  have HOK := Lib.hid hok
  have HAT := Lib.hid hat
  have HL := Lib.hid hl
  have HB2 := Lib.hid hb2
  have Q1W := Lib.hid q1
  have Q2W := Lib.hid q2
  have HSZ2 := Lib.hid (show w.heap.size + 1 < w2.heap.size from blk_lt q2)
  have HSZ3 := Lib.hid (show w2.heap.size < w3.heap.size from blk_lt q3)
  have HLN := Lib.hid hln
  rw [hln] at p4 HWR
  rw [hln] at hL
  clear h hs hA hok hat hl hb2 hb3 hb23 q1 q2 q3 hln
  go_enter Try.func96, Try.ntmps96
  go_wp2_with fail
  try rw [hw2, hw3]
  refine HWR.out.mono ?_
  rintro _ W1 ⟨f, cf, p, cp, q, cq, rfl, hr, hk, hfp⟩
  have HB1 := Lib.hid (show Below w2.heap.size w2 W1 from by
    rw [← hw3] at hk
    exact Kb.below ((Below.refl _ _).alloc (Nat.le_refl _) _) (by simp) hk)
  have HR := Lib.hid hr
  have HFP := Lib.hid hfp
  have HSZ1 := Lib.hid (show w2.heap.size < W1.heap.size from Nat.lt_of_lt_of_le HSZ3.out hk.size)
  have HFL := Lib.hid (show f < W1.heap.size from by obtain ⟨_, _, _, _, _, cs, h6⟩ := hr; exact blk_lt h6)
  clear hr hk hfp p4
  have HBW := Lib.hid (HB2.out.trans (HB1.out.mono HB2.out.size))
  have HM1 := Lib.hid (HP.out.later HBW.out)
  have Q1 := Lib.hid (blk_below Q1W.out HB1.out)
  have Q2 := Lib.hid (blk_below Q2W.out HB1.out)
  have HNS := Lib.hid (show ∀ k, (k = w.heap.size ∨ k = w.heap.size + 1) → ¬ ((S k ∨ k = t) ∨ (R k ∨ k = m)) from fun k hk hn => by
    have := HP.out.lt k hn
    omega)
  have HNF := Lib.hid (show ∀ k, w.heap.size ≤ k → ¬ ((S k ∨ k = t) ∨ (R k ∨ k = m)) from fun k hk hn => by
    have := HP.out.lt k hn
    omega)
  have HIN := Lib.hid (show Sl encW 3 W1 (some ⟨f, 0, none⟩) o.L from HR.out.lent)
  have HOA := Lib.hid (show Sl encW 3 W1 o.A o.L from HS.out.later HBW.out)
  have HLE := Lib.hid (show w.heap.size ≤ f from by have := HFP.out.1; have := HSZ3.out; have := HSZ2.out; omega)
  have had1 := fun W hW => add_1st (w1 := W1) (t := t) (g := g) (m := m) (r := r) (S := S) (R := R) (draws := draws) (M := M) (f := o.at_) (l := o.L) (A := some ⟨f, 0, none⟩) (c := ln + 40) (W := W) hW HIN.out (fun _ b p e => by
    injection e with e
    injection e with e1
    rw [← e1]
    exact HNF.out f HLE.out) HOK.out (by have := HL.out; omega)
  have had2 := fun W hW => add_2nd (w1 := W1) (t := t) (g := g) (m := m) (r := r) (S := S) (R := R) (draws := draws) (M := M) (f := o.at_) (l := o.L) (A := o.A) (c := o.c) (W := W) hW HOA.out HA.out HM1.out HAT.out (by have := HL.out; omega)
  have hsa := fun (s : Nat) (W : World) (hW : AddR W1 t g m r S R draws M (addM draws M o.at_ o.L) s W) => show Calls Try.prog 117 #[.slice (some ⟨f, 0, none⟩) o.L.length (ln + 40), .slice o.A o.L.length o.c] W fun e W' => e = .returned (.bool true) ∧ AddR W1 t g m r S R draws M (addM draws M o.at_ o.L) s W' from
    (sameWrites6_c (some ⟨f, 0, none⟩) o.A (ln + 40) o.c o.L W (HIN.out.upd hW.1 (fun b p e => by
      injection e with e
      injection e with e1
      rw [← e1]
      exact HNF.out f HLE.out)) (by
      by_cases hne : o.L = []
      · rw [hne]; exact Sl.nil _ _ _ _
      · exact HOA.out.upd hW.1 (fun b p e => HA.out hne b p e))).mono fun e W' ⟨he, hb⟩ => ⟨he, hW.later hb⟩
  obtain ⟨ca, hca⟩ : ∃ x, codeA M o.L = x := ⟨_, rfl⟩
  simp only [HLN.out, hca] at had1 had2 hsa
  have HAD1 := Lib.hid had1
  have HAD2 := Lib.hid had2
  have HSA := Lib.hid hsa
  clear had1 had2 hsa hca
  go_wp2_with fail
  refine wp_region_step (AddR W1 t g m r S R draws M (addM draws M o.at_ o.L)) (fun (a b : Nat) => a ≤ b) Nat.le_refl (fun _ _ _ => Nat.le_trans) 0 [0, 0, 0, 0, 0, 2, 0, 0, 0, 0, 0, 0, 2, 0, 0, 0, 0, 0, 0, 0] [.pointer (some ⟨w.heap.size, 0, none⟩), .pointer (some ⟨t, 0, none⟩), .pointer (some ⟨w.heap.size + 1, 2, none⟩), .int .u64 o.at_, .slice (some ⟨f, 0, none⟩) ln (ln + 40), undef, .pointer (some ⟨w.heap.size, 1, none⟩), .pointer (some ⟨m, 0, none⟩), .pointer (some ⟨w.heap.size + 1, 2, none⟩), .int .u64 o.at_, .pointer (some ⟨w.heap.size + 1, 4, none⟩), .slice o.A ln o.c, undef, .bool false, .bool false, .slice (some ⟨f, 0, none⟩) ln (ln + 40), .pointer (some ⟨w.heap.size + 1, 4, none⟩), .slice o.A ln o.c, .bool true, .bool false] 20 (by kernel_rfl) (by kernel_rfl) ⟨Upd.of_below (Below.refl _ _).drew, HM1.out.later (Below.refl _ _).drew⟩ ?_
  simp only [List.take_succ_cons, List.take_zero, List.drop_succ_cons, List.drop_zero]
  refine schain0 ?_
  refine @schain _ _ _ _ _ _ _ _ _ _ _ _ _ _ 14 (.pointer (some ⟨w.heap.size, 0, none⟩)) (by rfl) (by rfl) (by kernel_rfl) (by rfl) (by exact fun s' W2 hW => srun_fa (p := .pointer (some ⟨w.heap.size, 0, none⟩)) (by rfl) (by exact eval_base (by kernel_rfl) (by rfl)) (fun W => by first | kernel_rfl | go_simp) hW) ?_
  refine @schain _ _ _ _ _ _ _ _ _ _ _ _ _ _ 15 (.pointer (some ⟨t, 0, none⟩)) (by rfl) (by rfl) (by kernel_rfl) (by rfl) (by exact fun s' W2 hW => srun_ld (by rfl) (by exact eval_look (by kernel_rfl) (by kernel_rfl)) (ldTp _ _ _ _ ((blk_cell (hW.1.heap Q1.out (HNS.out _ (.inl rfl))) 0).trans rfl)) hW) ?_
  refine @schain _ _ _ _ _ _ _ _ _ _ _ _ _ _ 16 (.pointer (some ⟨w.heap.size + 1, 2, none⟩)) (by rfl) (by rfl) (by kernel_rfl) (by rfl) (by exact fun s' W2 hW => srun_fa (p := .pointer (some ⟨w.heap.size + 1, 0, none⟩)) (by rfl) (by exact eval_base (by kernel_rfl) (by rfl)) (fun W => by first | kernel_rfl | go_simp) hW) ?_
  refine @schain _ _ _ _ _ _ _ _ _ _ _ _ _ _ 17 (.int .u64 o.at_) (by rfl) (by rfl) (by kernel_rfl) (by rfl) (by exact fun s' W2 hW => srun_ld (by rfl) (by exact eval_look (by kernel_rfl) (by kernel_rfl)) (ldU _ _ _ _ ((blk_cell (hW.1.heap Q2.out (HNS.out _ (.inr rfl))) 2).trans rfl)) hW) ?_
  refine @schain _ _ _ _ _ _ _ _ _ _ _ _ _ _ 18 (.slice (some ⟨f, 0, none⟩) ln (ln + 40)) (by rfl) (by rfl) (by kernel_rfl) (by rfl) (by exact fun s' W2 hW => srun_mv (by rfl) (by exact eval_base (by kernel_rfl) (by rfl)) hW) ?_
  refine @schainW _ _ _ _ _ _ _ _ _ _ _ _ _ _ 19 (.int .i64 ca) (1) (by rfl) (by kernel_rfl) (by rfl) (by decide) (by exact fun W2 hW => srun_call (vs := #[.pointer (some ⟨t, 0, none⟩), .int .u64 o.at_, .slice (some ⟨f, 0, none⟩) ln (ln + 40)]) (by rfl) (by kernel_rfl) (enters_of Try.func35 (by kernel_rfl) (by rfl)) (HAD1.out W2 hW)) ?_
  refine @schain _ _ _ _ _ _ _ _ _ _ _ _ _ _ 20 (.pointer (some ⟨w.heap.size, 1, none⟩)) (by rfl) (by rfl) (by kernel_rfl) (by rfl) (by exact fun s' W2 hW => srun_fa (p := .pointer (some ⟨w.heap.size, 0, none⟩)) (by rfl) (by exact eval_base (by kernel_rfl) (by rfl)) (fun W => by first | kernel_rfl | go_simp) hW) ?_
  refine @schain _ _ _ _ _ _ _ _ _ _ _ _ _ _ 21 (.pointer (some ⟨m, 0, none⟩)) (by rfl) (by rfl) (by kernel_rfl) (by rfl) (by exact fun s' W2 hW => srun_ld (by rfl) (by exact eval_look (by kernel_rfl) (by kernel_rfl)) (ldRt _ _ _ _ ((blk_cell (hW.1.heap Q1.out (HNS.out _ (.inl rfl))) 1).trans rfl)) hW) ?_
  refine @schain _ _ _ _ _ _ _ _ _ _ _ _ _ _ 22 (.pointer (some ⟨w.heap.size + 1, 2, none⟩)) (by rfl) (by rfl) (by kernel_rfl) (by rfl) (by exact fun s' W2 hW => srun_fa (p := .pointer (some ⟨w.heap.size + 1, 0, none⟩)) (by rfl) (by exact eval_base (by kernel_rfl) (by rfl)) (fun W => by first | kernel_rfl | go_simp) hW) ?_
  refine @schain _ _ _ _ _ _ _ _ _ _ _ _ _ _ 23 (.int .u64 o.at_) (by rfl) (by rfl) (by kernel_rfl) (by rfl) (by exact fun s' W2 hW => srun_ld (by rfl) (by exact eval_look (by kernel_rfl) (by kernel_rfl)) (ldU _ _ _ _ ((blk_cell (hW.1.heap Q2.out (HNS.out _ (.inr rfl))) 2).trans rfl)) hW) ?_
  refine @schain _ _ _ _ _ _ _ _ _ _ _ _ _ _ 24 (.pointer (some ⟨w.heap.size + 1, 4, none⟩)) (by rfl) (by rfl) (by kernel_rfl) (by rfl) (by exact fun s' W2 hW => srun_fa (p := .pointer (some ⟨w.heap.size + 1, 0, none⟩)) (by rfl) (by exact eval_base (by kernel_rfl) (by rfl)) (fun W => by first | kernel_rfl | go_simp) hW) ?_
  refine @schain _ _ _ _ _ _ _ _ _ _ _ _ _ _ 25 (.slice o.A ln o.c) (by rfl) (by rfl) (by kernel_rfl) (by rfl) (by exact fun s' W2 hW => srun_ld (by rfl) (by exact eval_look (by kernel_rfl) (by kernel_rfl)) (ldHw _ _ _ _ _ _ ((blk_cell (hW.1.heap Q2.out (HNS.out _ (.inr rfl))) 4).trans (by rw [← HLN.out]; rfl))) hW) ?_
  refine @schainW _ _ _ _ _ _ _ _ _ _ _ _ _ _ 26 (.int .i64 ca) (2) (by rfl) (by kernel_rfl) (by rfl) (by decide) (by exact fun W2 hW => srun_call (vs := #[.pointer (some ⟨m, 0, none⟩), .int .u64 o.at_, .slice o.A ln o.c]) (by rfl) (by kernel_rfl) (enters_of Try.func116 (by kernel_rfl) (by rfl)) (HAD2.out W2 hW)) ?_
  refine @schain _ _ _ _ _ _ _ _ _ _ _ _ _ _ 27 (.bool false) (by rfl) (by rfl) (by kernel_rfl) (by rfl) (by exact fun s' W2 hW => srun_bo (u := .int .i64 ca) (v := .int .i64 ca) (by rfl) (by exact eval_look (by kernel_rfl) (by kernel_rfl)) (by exact eval_look (by kernel_rfl) (by kernel_rfl)) (fun W => by go_simp) hW) ?_
  refine @schain _ _ _ _ _ _ _ _ _ _ _ _ _ _ 28 (.bool false) (by rfl) (by rfl) (by kernel_rfl) (by rfl) (by exact fun s' W2 hW => srun_mv (by rfl) (by exact eval_look (by kernel_rfl) (by kernel_rfl)) hW) ?_
  refine @schain _ _ _ _ _ _ _ _ _ _ _ _ _ _ 29 (.slice (some ⟨f, 0, none⟩) ln (ln + 40)) (by rfl) (by rfl) (by kernel_rfl) (by rfl) (by exact fun s' W2 hW => srun_mv (by rfl) (by exact eval_base (by kernel_rfl) (by rfl)) hW) ?_
  refine @schain _ _ _ _ _ _ _ _ _ _ _ _ _ _ 30 (.pointer (some ⟨w.heap.size + 1, 4, none⟩)) (by rfl) (by rfl) (by kernel_rfl) (by rfl) (by exact fun s' W2 hW => srun_fa (p := .pointer (some ⟨w.heap.size + 1, 0, none⟩)) (by rfl) (by exact eval_base (by kernel_rfl) (by rfl)) (fun W => by first | kernel_rfl | go_simp) hW) ?_
  refine @schain _ _ _ _ _ _ _ _ _ _ _ _ _ _ 31 (.slice o.A ln o.c) (by rfl) (by rfl) (by kernel_rfl) (by rfl) (by exact fun s' W2 hW => srun_ld (by rfl) (by exact eval_look (by kernel_rfl) (by kernel_rfl)) (ldHw _ _ _ _ _ _ ((blk_cell (hW.1.heap Q2.out (HNS.out _ (.inr rfl))) 4).trans (by rw [← HLN.out]; rfl))) hW) ?_
  refine @schain _ _ _ _ _ _ _ _ _ _ _ _ _ _ 32 (.bool true) (by rfl) (by rfl) (by kernel_rfl) (by rfl) (by exact fun s' W2 hW => srun_call (vs := #[.slice (some ⟨f, 0, none⟩) ln (ln + 40), .slice o.A ln o.c]) (by rfl) (by kernel_rfl) (enters_of Try.func117 (by kernel_rfl) (by rfl)) (HSA.out s' W2 hW)) ?_
  refine @schain _ _ _ _ _ _ _ _ _ _ _ _ _ _ 33 (.bool false) (by rfl) (by rfl) (by kernel_rfl) (by rfl) (by exact fun s' W2 hW => srun_uo (u := .bool true) (by rfl) (by exact eval_look (by kernel_rfl) (by kernel_rfl)) (fun W => by go_simp) hW) ?_
  refine snil (fun W2 hW2 => ?_)
  refine Eq.mpr (congrArg (fun a => wpList _ _ _ _ a W2) (show _ = (⟨#[Value.agg #[Value.pointer (some ⟨t, 0, none⟩), Value.pointer (some ⟨m, 0, none⟩)], Value.agg (encO6 o).toArray, Value.pointer (some ⟨w.heap.size, 0, none⟩), Value.pointer (some ⟨w.heap.size + 1, 0, none⟩), Value.bool false, Value.pointer (some ⟨w2.heap.size, 0, none⟩), Value.slice (some ⟨f, 0, none⟩) ln (ln + 40), undef, Value.agg #[Value.slice none 0 0, Value.slice none 0 0, Value.slice none 0 0, Value.slice none 0 0, Value.slice none 0 0, Value.slice none 0 0, Value.slice none 0 0, Value.slice none 0 0, Value.slice none 0 0, Value.slice none 0 0, Value.slice none 0 0, Value.slice none 0 0, Value.slice none 0 0, Value.slice none 0 0, Value.slice none 0 0, Value.slice none 0 0, Value.slice none 0 0, Value.slice none 0 0, Value.slice none 0 0, Value.slice none 0 0, Value.slice none 0 0, Value.slice none 0 0, Value.slice none 0 0, Value.slice none 0 0, Value.slice none 0 0, Value.slice none 0 0, Value.slice none 0 0, Value.slice none 0 0], Value.pointer (some ⟨w2.heap.size, 0, none⟩), Value.pointer (some ⟨w2.heap.size, 0, none⟩), Value.pointer (some ⟨w.heap.size + 1, 4, none⟩), Value.slice o.A ln o.c, Value.slice (some ⟨f, 0, none⟩) ln (ln + 40), Value.pointer (some ⟨w.heap.size, 0, none⟩), Value.pointer (some ⟨t, 0, none⟩), Value.pointer (some ⟨w.heap.size + 1, 2, none⟩), Value.int IntKind.u64 o.at_, Value.slice (some ⟨f, 0, none⟩) ln (ln + 40), Value.int IntKind.i64 ca, Value.pointer (some ⟨w.heap.size, 1, none⟩), Value.pointer (some ⟨m, 0, none⟩), Value.pointer (some ⟨w.heap.size + 1, 2, none⟩), Value.int IntKind.u64 o.at_, Value.pointer (some ⟨w.heap.size + 1, 4, none⟩), Value.slice o.A ln o.c, Value.int IntKind.i64 ca, Value.bool false, Value.bool false, Value.slice (some ⟨f, 0, none⟩) ln (ln + 40), Value.pointer (some ⟨w.heap.size + 1, 4, none⟩), Value.slice o.A ln o.c, Value.bool true, Value.bool false, undef, undef, undef, undef, undef, undef, undef, undef, undef, undef, undef, undef, undef], []⟩ : Act) by kernel_rfl)) ?_
  have HW := Lib.hid hW2
  clear hW2
  obtain ⟨hu, S', R', hg1, hg2, hp⟩ := HW.out
  have HU := Lib.hid hu
  have HG1 := Lib.hid hg1
  have HG2 := Lib.hid hg2
  have HPP := Lib.hid hp
  have HR2 := Lib.hid (HR.out.upd hu (fun k hk => HNF.out k (by have := HFP.out; have := HSZ3.out; have := HSZ2.out; rcases hk with rfl | rfl | rfl | rfl <;> omega)))
  clear hu hg1 hg2 hp
  go_wp2_with fail
  go_loopw [7] (fun s7 wr => ∃ (i : Nat) (l' : List Wri), s7 = .int .i64 (i : Int) ∧ i ≤ ln ∧ l'.length = ln ∧ RoomV wr w2.heap.size l' f cf p cp q cq ∧ Upd (fun k => k = f) W2 wr) (fun s7 wr => ln - (intOf s7).toNat)
  case atStart => exact ⟨0, o.L, rfl, by omega, HLN.out, HR2.out, Upd.refl _ _⟩
  case round =>
    obtain ⟨i, l', rfl, hi, hll, hr, hu⟩ := hrel
    generalize wr = wq at *
    have HLL := Lib.hid hll
    have HRQ := Lib.hid hr
    have HUQ := Lib.hid hu
    clear hll hr hu
    have i1 : (0 : Int) ≤ i := by omega
    by_cases hlt : i < ln
    · have i2 : (i : Int) < ln := by omega
      obtain ⟨x, hx⟩ := getElem?_of_lt (l := l') (by rw [HLL.out]; exact hlt : i < l'.length)
      obtain ⟨_, _, e, _, hc⟩ := HRQ.out.lent.at hx
      injection e with e
      injection e with e1 e2
      subst e1
      subst e2
      have x0 : wq.cell? ⟨f, i * 3, none⟩ = some (.string x.1) := by simpa using hc 0 _ rfl
      have x1 : wq.cell? ⟨f, i * 3 + 1, none⟩ = some (.bool x.2.1) := by simpa using hc 1 _ rfl
      have x2 : wq.cell? ⟨f, i * 3 + 2, none⟩ = some (.string x.2.2) := by simpa using hc 2 _ rfl
      obtain ⟨cs, hcs⟩ := HRQ.out.2.2.2.2.2
      have f0 : wq.frozen? ⟨f, i * 3, none⟩ = false := blk_frozen hcs _
      have f1 : wq.frozen? ⟨f, i * 3 + 1, none⟩ = false := blk_frozen hcs _
      have f2 : wq.frozen? ⟨f, i * 3 + 2, none⟩ = false := blk_frozen hcs _
      have HPU := Lib.hid (HRQ.out.put (by rw [HLL.out]; exact hlt) spoil rfl)
      clear hc hx hcs
      go_wp2
      go_roundw
      case rel => exact ⟨i + 1, l'.set i spoil, by first | rfl | simp, by omega, by rw [List.length_set]; exact HLL.out, HPU.out.1, HUQ.out.trans HPU.out.2⟩
      case measure => simp [intOf]; omega
    · have hni : ln = i := by omega
      clear hlt hi
      subst hni
      have HHO := Lib.hid (holdV_c w2.heap.size l' f cf p cp q cq (by rw [HLL.out]; omega) wq HRQ.out)
      go_wp2_with fail
      refine HHO.out.mono ?_
      rintro _ w9 ⟨rfl, hb9⟩
      have HB9 := Lib.hid hb9
      clear hb9
      go_wp2
      go_ret
      have hs1 := HBW.out.size
      have hs2 := HU.out.size
      have hfn : ∀ k, ((S' k ∨ k = t) ∨ (R' k ∨ k = m)) → ¬ k = f := fun k hk e => by
        subst e
        have h1 := HFL.out
        have h2 := HLE.out
        rcases hk with (hk | hk) | (hk | hk)
        · rcases HG1.out k hk with h | h
          · exact HNF.out k h2 (.inl (.inl h))
          · omega
        · exact HNF.out k h2 (.inl (.inr hk))
        · rcases HG2.out k hk with h | h
          · exact HNF.out k h2 (.inr (.inl h))
          · omega
        · exact HNF.out k h2 (.inr (.inr hk))
      refine ⟨rfl, (((Upd.of_below HBW.out).trans HU.out).step HUQ.out (fun k hk => .inr (by rw [hk]; exact HLE.out))).step (Upd.of_below (S := fun _ => False) HB9.out) (fun k hk => hk.elim), S', R', fun k hk => ?_, fun k hk => ?_, (HPP.out.upd HUQ.out hfn).later HB9.out⟩
      · rcases HG1.out k hk with h | h
        · exact .inl h
        · exact .inr (by omega)
      · rcases HG2.out k hk with h | h
        · exact .inl h
        · exact .inr (by omega)
end Go.Proofs.Ytjbbobhjomhnmaa.H
