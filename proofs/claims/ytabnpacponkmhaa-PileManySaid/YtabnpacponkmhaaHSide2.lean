/- screelaw4: a side: Pop, Top, Len, nothing. Conditions: fewer than 2^40 lie in it. -/
import Derived.Test.YtabnpacponkmhaaHSide
namespace Go.Proofs.Ytabnpacponkmhaa.H
open Go.RowKit Go.Deep Go.Proofs Go.Proofs.YtabnpacponkmhaaW.PrintWords
set_option linter.unusedVariables false
set_option linter.unusedSimpArgs false
theorem least_head {o x : Int} {r B : List Int} (hw : IsHeap (aheadL o) (x :: r)) (pm : (x :: r).Perm B) : leastL o B x = true ∧ x ∈ B := by
  have hm : x ∈ B := pm.mem_iff.1 (by simp)
  refine ⟨?_, hm⟩
  unfold leastL
  rw [Bool.and_eq_true]
  refine ⟨by simpa using hm, ?_⟩
  rw [List.all_eq_true]
  intro y hy
  rw [hw.head (aheadL_weak o) y (pm.mem_iff.2 hy)]
  rfl
theorem took_pm {o x : Int} {r B : List Int} (pm : (x :: r).Perm B) : (popL (aheadL o) (x :: r)).Perm (tookL B (B.idxOf x)) := by
  have hm : x ∈ B := pm.mem_iff.1 (by simp)
  have hi := List.idxOf_lt_length_of_mem hm
  have h1 := tookL_perm B (B.idxOf x) hi
  rw [List.getElem_idxOf hi] at h1
  exact (popL_perm _ x r).trans ((List.perm_cons x).1 (pm.trans h1.symm))
theorem Upd.drewN_below (w : World) (n : Nat) : Below w.heap.size w (w.drewN n) := ⟨rfl, rfl, rfl, Nat.le_refl _, fun _ _ => rfl⟩
section
variable {w w2 : World} {sp : Nat} {S : Nat → Prop} {o : Int} {n : Nat} {g bp c : Nat} {SH SB : Nat → Prop} {H B : List Int} {top : Int} {told : Bool}
theorem played_same (hb : Below w.heap.size w w2) (h : SideAt w2 sp (fun k => S k ∧ k < w.heap.size) o g bp c SH SB H B top told) (hl : B.length = n) : Played w sp S o n w2 :=
  ⟨⟨g, bp, c, _, _, _, _, _, _, h.mono (fun k hk => .inl hk.1), hl⟩, Upd.of_below hb⟩
theorem SideAt.set3 (h : SideAt w2 sp S o g bp c SH SB H B top told) (t : Bool) (ht : t = true → ∃ r, H = top :: r) : SideAt (w2.setCell ⟨sp, 3, none⟩ (.bool t)) sp S o g bp c SH SB H B top t := by
  have u : Upd (fun k => k = sp) w2 (w2.setCell ⟨sp, 3, none⟩ (.bool t)) := Upd.setCell w2 3 _ rfl
  exact ⟨(blk_set h.st 3 _).trans rfl, h.hp.upd u (fun k hk e => (h.dH k hk).2.1 e), u.cell h.cl h.ne, h.bg.upd u (fun k hk e => (h.dB k hk).2.1 e), h.dH, h.dB, h.sS, h.sC, h.ne, h.hw, h.pm, ht⟩
theorem SideAt.set2 (h : SideAt w2 sp S o g bp c SH SB H B top told) (t : Int) (tb : Bool) (ht : tb = true → ∃ r, H = t :: r) : SideAt ((w2.setCell ⟨sp, 2, none⟩ (.int .i64 t)).setCell ⟨sp, 3, none⟩ (.bool tb)) sp S o g bp c SH SB H B t tb := by
  have u : Upd (fun k => k = sp) w2 ((w2.setCell ⟨sp, 2, none⟩ (.int .i64 t)).setCell ⟨sp, 3, none⟩ (.bool tb)) := (Upd.setCell (S := fun k => k = sp) w2 2 _ rfl).trans (Upd.setCell (S := fun k => k = sp) _ 3 _ rfl)
  have hs : (w2.setCell ⟨sp, 2, none⟩ (.int .i64 t)).heap[sp]? = _ := blk_set h.st 2 (.int .i64 t)
  exact ⟨(blk_set hs 3 _).trans rfl, h.hp.upd u (fun k hk e => (h.dH k hk).2.1 e), u.cell h.cl h.ne, h.bg.upd u (fun k hk e => (h.dB k hk).2.1 e), h.dH, h.dB, h.sS, h.sC, h.ne, h.hw, h.pm, ht⟩
theorem played_told (hb : Below w.heap.size w w2) (h : SideAt w2 sp (fun k => S k ∧ k < w.heap.size) o g bp c SH SB H B top told) (hl : B.length = n) (t : Bool) (ht : t = true → ∃ r, H = top :: r) : Played w sp S o n (w2.setCell ⟨sp, 3, none⟩ (.bool t)) :=
  ⟨⟨g, bp, c, _, _, _, _, _, _, (h.set3 t ht).mono (fun k hk => .inl hk.1), hl⟩, (Upd.of_below hb).trans (Upd.setCell w2 3 _ h.sS.1)⟩
theorem played_top (hb : Below w.heap.size w w2) (h : SideAt w2 sp (fun k => S k ∧ k < w.heap.size) o g bp c SH SB H B top told) (hl : B.length = n) (t : Int) (tb : Bool) (ht : tb = true → ∃ r, H = t :: r) : Played w sp S o n ((w2.setCell ⟨sp, 2, none⟩ (.int .i64 t)).setCell ⟨sp, 3, none⟩ (.bool tb)) :=
  ⟨⟨g, bp, c, _, _, _, _, _, _, (h.set2 t tb ht).mono (fun k hk => .inl hk.1), hl⟩, ((Upd.of_below hb).trans (Upd.setCell w2 2 _ h.sS.1)).trans (Upd.setCell _ 3 _ h.sS.1)⟩
end
set_option maxHeartbeats 3200000 in
theorem plays_2n (sp : Nat) (S : Nat → Prop) (o : Int) (n : Nat) (N : Int) (sec : Bool) (hn : n < 100000000000) (w : World) (g bp c : Nat) (SH SB : Nat → Prop) (B : List Int) (top : Int) (told : Bool) (h : SideAt w sp S o g bp c SH SB [] B top told) (hlen : B.length = n) :
    Calls Try.prog 15 #[.pointer (some ⟨sp, 0, none⟩), opV 2 N sec] w fun e w' => e = .returned (.bool true) ∧ Played w sp S o (n - 1) w' := by
  have ht := h.tight
  have hlt : sp < w.heap.size := blk_lt h.st
  have s0 : w.cell? ⟨sp, 0, none⟩ = some (.pointer (some ⟨g, 0, none⟩)) := (blk_cell h.st 0).trans rfl
  have s1 : w.cell? ⟨sp, 1, none⟩ = some (.pointer (some ⟨bp, 0, none⟩)) := (blk_cell h.st 1).trans rfl
  have HT := Lib.hid ht
  have HLen := Lib.hid hlen
  have HB := Lib.hid ((Below.refl w.heap.size w).alloc (Nat.le_refl _) (.cells #[.int .i64 2, .int .i64 N, .bool sec] 27 (0, 0)))
  have hH1 := ht.hp.later HB.out
  have hB1 := ht.bg.later HB.out
  have hst1 : sideB (w.alloc (.cells #[.int .i64 2, .int .i64 N, .bool sec] 27 (0, 0))) sp g bp top told := (HB.out.block sp hlt).trans ht.st
  have hC1 := (CellI.stays (S := fun _ => False) (fun h => h)).later ht.cl HB.out
  have HH1 := Lib.hid hH1
  have HB1 := Lib.hid hB1
  have HST1 := Lib.hid hst1
  have HC1 := Lib.hid hC1
  have e0 : sp ≠ w.heap.size := by omega
  have s0' := (HB.out.cell (p := ⟨sp, 0, none⟩) hlt).trans s0
  have s1' := (HB.out.cell (p := ⟨sp, 1, none⟩) hlt).trans s1
  clear ht h hlen hH1 hB1 hst1 hC1 s0 s1
  unfold opV
  go_enter Try.func15, Try.ntmps15
  go_wp2_with fail
  refine (pop_none g _ _ _ HH1.out).mono ?_
  rintro e w1 ⟨rfl, rfl⟩
  go_wp2_with fail
  have hBn : B = [] := by simpa using HT.out.pm.symm
  subst hBn
  refine (shows_no sp g bp _ o top told _ HST1.out HB1.out).mono ?_
  rintro e w2 ⟨rfl, hb2⟩
  have hbw : Below w.heap.size w w2 := HB.out.trans (hb2.mono HB.out.size)
  have hS2 := HT.out.upd (Upd.of_below (S := fun _ => False) hbw) (fun _ _ h => h)
  have t3 : w2.cell? ⟨sp, 3, none⟩ = some (.bool told) := (blk_cell hS2.st 3).trans rfl
  have f3 : w2.frozen? ⟨sp, 3, none⟩ = false := blk_frozen hS2.st 3
  have HS2 := Lib.hid hS2
  have HBW := Lib.hid hbw
  clear hS2 hb2 hbw s0' s1'
  go_wp2
  go_ret
  exact ⟨rfl, played_told HBW.out HS2.out (by rw [← HLen.out]; rfl) false (by simp)⟩

set_option maxHeartbeats 3200000 in
theorem plays_2s (sp : Nat) (S : Nat → Prop) (o : Int) (n : Nat) (N : Int) (sec : Bool) (hn : n < 100000000000) (w : World) (g bp c : Nat) (SH SB : Nat → Prop) (x : Int) (r B : List Int) (top : Int) (told : Bool) (h : SideAt w sp S o g bp c SH SB (x :: r) B top told) (hlen : B.length = n) :
    Calls Try.prog 15 #[.pointer (some ⟨sp, 0, none⟩), opV 2 N sec] w fun e w' => e = .returned (.bool true) ∧ Played w sp S o (n - 1) w' := by
  have ht := h.tight
  have hlt : sp < w.heap.size := blk_lt h.st
  have s0 : w.cell? ⟨sp, 0, none⟩ = some (.pointer (some ⟨g, 0, none⟩)) := (blk_cell h.st 0).trans rfl
  have s1 : w.cell? ⟨sp, 1, none⟩ = some (.pointer (some ⟨bp, 0, none⟩)) := (blk_cell h.st 1).trans rfl
  have HT := Lib.hid ht
  have HLen := Lib.hid hlen
  have HB := Lib.hid ((Below.refl w.heap.size w).alloc (Nat.le_refl _) (.cells #[.int .i64 2, .int .i64 N, .bool sec] 27 (0, 0)))
  have hH1 := ht.hp.later HB.out
  have hB1 := ht.bg.later HB.out
  have hst1 : sideB (w.alloc (.cells #[.int .i64 2, .int .i64 N, .bool sec] 27 (0, 0))) sp g bp top told := (HB.out.block sp hlt).trans ht.st
  have hC1 := (CellI.stays (S := fun _ => False) (fun h => h)).later ht.cl HB.out
  have hleast := least_head ht.hw ht.pm
  have HH1 := Lib.hid hH1
  have HB1 := Lib.hid hB1
  have HST1 := Lib.hid hst1
  have HC1 := Lib.hid hC1
  have e0 : sp ≠ w.heap.size := by omega
  have s0' := (HB.out.cell (p := ⟨sp, 0, none⟩) hlt).trans s0
  have s1' := (HB.out.cell (p := ⟨sp, 1, none⟩) hlt).trans s1
  have HLeast := Lib.hid hleast
  clear hleast ht h hlen hH1 hB1 hst1 hC1 s0 s1
  unfold opV
  go_enter Try.func15, Try.ntmps15
  go_wp2_with fail
  refine (pop_some g _ 35 _ _ _ (lessOrder c o) x r (by have := HT.out.pm.length_eq; have := HLen.out; simp at *; omega) _ HH1.out HC1.out (CellI.stays (fun e => (HT.out.dH c e).2.2.1 rfl))).mono ?_
  rintro e w1 ⟨rfl, hh1, hu1⟩
  have hst1 : sideB w1 sp g bp top told := hu1.heap HST1.out (fun e => (HT.out.dH sp e).2.1 rfl)
  have hB1 : BagIs w1 bp (fun k => SB k ∧ k < w.heap.size) o B := HB1.out.upd hu1 (fun k hk e => (HT.out.dH k e).2.2.2 hk)
  have HU1 := Lib.hid hu1
  have HHP := Lib.hid hh1
  have HST := Lib.hid hst1
  have HBG := Lib.hid hB1
  clear hh1 hu1 hst1 hB1 s0' s1'
  go_wp2_with fail
  refine (shows_yes sp g bp _ o top x told B (by have := HLen.out; omega) _ HST.out HBG.out (fun e => by obtain ⟨r', e'⟩ := HT.out.tl e; injection e') HLeast.out.1).mono ?_
  rintro e w2 ⟨rfl, hb2⟩
  have hst2 : sideB w2 sp g bp top told := (hb2.block sp (blk_lt HST.out)).trans HST.out
  have t1 : w2.cell? ⟨sp, 1, none⟩ = some (.pointer (some ⟨bp, 0, none⟩)) := (blk_cell hst2 1).trans rfl
  have HST2 := Lib.hid hst2
  have HBW2 := Lib.hid hb2
  clear hst2 hb2
  go_wp2_with fail
  refine (take_c bp _ o B x (by have := HLen.out; omega) _ (HBG.out.later HBW2.out)).mono ?_
  rintro e w3 ⟨rfl, hb3, hu3⟩
  rw [if_pos HLeast.out.2] at hb3
  have hst3 : sideB w3 sp g bp top told := hu3.heap HST2.out (fun e => (HT.out.dB sp e).2.1 rfl)
  have t3 : w3.cell? ⟨sp, 3, none⟩ = some (.bool told) := (blk_cell hst3 3).trans rfl
  have f3 : w3.frozen? ⟨sp, 3, none⟩ = false := blk_frozen hst3 3
  have hh3 := (HHP.out.later HBW2.out).upd hu3 (fun k hk e => (HT.out.dH k hk).2.2.2 e)
  have hC3 : CellI c o w3 := (CellI.stays (fun e => (HT.out.dB c e).2.2 rfl)) w2 w3 ((CellI.stays (S := fun _ => False) (fun h => h)).later ((CellI.stays (fun e => (HT.out.dH c e).2.2.1 rfl)) _ w1 HC1.out HU1.out) HBW2.out) hu3
  have hUp : Upd (fun k => S k ∧ k < w.heap.size) w w3 := (((Upd.of_below HB.out).trans (HU1.out.mono (fun k hk => (HT.out.dH k hk).1))).trans (Upd.of_below HBW2.out)).trans (hu3.mono (fun k hk => (HT.out.dB k hk).1))
  have hS3 : ∀ w4 top' told', sideB w4 sp g bp top' told' → Upd (fun k => k = sp) w3 w4 → told' = false → SideAt w4 sp (fun k => S k ∧ k < w.heap.size) o g bp c (fun k => SH k ∧ k < w.heap.size) (fun k => SB k ∧ k < w.heap.size) (popL (aheadL o) (x :: r)) (tookL B (B.idxOf x)) top' told' := fun w4 top' told' hs u ht =>
    ⟨hs, hh3.upd u (fun k hk e => (HT.out.dH k hk).2.1 e), u.cell hC3 HT.out.ne, hb3.upd u (fun k hk e => (HT.out.dB k hk).2.1 e), HT.out.dH, HT.out.dB, HT.out.sS, HT.out.sC, HT.out.ne, popL_heap (aheadL_weak o) x r HT.out.hw, took_pm HT.out.pm, by rw [ht]; simp⟩
  have hst4 := blk_set hst3 3 (.bool false)
  have HS4 := Lib.hid (hS3 (w3.setCell ⟨sp, 3, none⟩ (.bool false)) top false (hst4.trans rfl) (Upd.setCell w3 3 _ rfl) rfl)
  have HUP := Lib.hid (hUp.trans (Upd.setCell w3 3 (.bool false) HT.out.sS))
  clear hS3 hst4 hh3 hC3 hb3 hu3 hst3 hUp t1
  go_wp2
  go_ret
  exact ⟨rfl, ⟨g, bp, c, _, _, _, _, _, _, HS4.out.mono (fun k hk => .inl hk.1), by rw [tookL_length _ _ (List.idxOf_lt_length_of_mem HLeast.out.2), HLen.out]⟩, HUP.out.mono (fun k hk => hk.1)⟩

set_option maxHeartbeats 3200000 in
theorem plays_3n (sp : Nat) (S : Nat → Prop) (o : Int) (n : Nat) (N : Int) (sec : Bool) (hn : n < 100000000000) (w : World) (g bp c : Nat) (SH SB : Nat → Prop) (B : List Int) (top : Int) (told : Bool) (h : SideAt w sp S o g bp c SH SB [] B top told) (hlen : B.length = n) :
    Calls Try.prog 15 #[.pointer (some ⟨sp, 0, none⟩), opV 3 N sec] w fun e w' => e = .returned (.bool true) ∧ Played w sp S o n w' := by
  have ht := h.tight
  have hlt : sp < w.heap.size := blk_lt h.st
  have s0 : w.cell? ⟨sp, 0, none⟩ = some (.pointer (some ⟨g, 0, none⟩)) := (blk_cell h.st 0).trans rfl
  have s1 : w.cell? ⟨sp, 1, none⟩ = some (.pointer (some ⟨bp, 0, none⟩)) := (blk_cell h.st 1).trans rfl
  have HT := Lib.hid ht
  have HLen := Lib.hid hlen
  have HB := Lib.hid ((Below.refl w.heap.size w).alloc (Nat.le_refl _) (.cells #[.int .i64 3, .int .i64 N, .bool sec] 27 (0, 0)))
  have hH1 := ht.hp.later HB.out
  have hB1 := ht.bg.later HB.out
  have hst1 : sideB (w.alloc (.cells #[.int .i64 3, .int .i64 N, .bool sec] 27 (0, 0))) sp g bp top told := (HB.out.block sp hlt).trans ht.st
  have hC1 := (CellI.stays (S := fun _ => False) (fun h => h)).later ht.cl HB.out
  have HH1 := Lib.hid hH1
  have HB1 := Lib.hid hB1
  have HST1 := Lib.hid hst1
  have HC1 := Lib.hid hC1
  have e0 : sp ≠ w.heap.size := by omega
  have s0' := (HB.out.cell (p := ⟨sp, 0, none⟩) hlt).trans s0
  have s1' := (HB.out.cell (p := ⟨sp, 1, none⟩) hlt).trans s1
  clear ht h hlen hH1 hB1 hst1 hC1 s0 s1
  unfold opV
  go_enter Try.func15, Try.ntmps15
  go_wp2_with fail
  refine (top_c g _ _ _ _ HH1.out).mono ?_
  rintro e w1 ⟨rfl, rfl⟩
  go_wp2_with fail
  have hBn : B = [] := by simpa using HT.out.pm.symm
  subst hBn
  refine (shows_no sp g bp _ o top told _ HST1.out HB1.out).mono ?_
  rintro e w2 ⟨rfl, hb2⟩
  have hbw : Below w.heap.size w w2 := HB.out.trans (hb2.mono HB.out.size)
  have hS2 := HT.out.upd (Upd.of_below (S := fun _ => False) hbw) (fun _ _ h => h)
  have t2 : w2.cell? ⟨sp, 2, none⟩ = some (.int .i64 top) := (blk_cell hS2.st 2).trans rfl
  have f2 : w2.frozen? ⟨sp, 2, none⟩ = false := blk_frozen hS2.st 2
  have t3 : w2.cell? ⟨sp, 3, none⟩ = some (.bool told) := (blk_cell hS2.st 3).trans rfl
  have f3 : w2.frozen? ⟨sp, 3, none⟩ = false := blk_frozen hS2.st 3
  have HS2 := Lib.hid hS2
  have HBW := Lib.hid hbw
  clear hS2 hb2 hbw s0' s1'
  go_wp2
  go_ret
  exact ⟨rfl, played_top HBW.out HS2.out HLen.out 0 false (by simp)⟩

set_option maxHeartbeats 3200000 in
theorem plays_3s (sp : Nat) (S : Nat → Prop) (o : Int) (n : Nat) (N : Int) (sec : Bool) (hn : n < 100000000000) (w : World) (g bp c : Nat) (SH SB : Nat → Prop) (x : Int) (r B : List Int) (top : Int) (told : Bool) (h : SideAt w sp S o g bp c SH SB (x :: r) B top told) (hlen : B.length = n) :
    Calls Try.prog 15 #[.pointer (some ⟨sp, 0, none⟩), opV 3 N sec] w fun e w' => e = .returned (.bool true) ∧ Played w sp S o n w' := by
  have ht := h.tight
  have hlt : sp < w.heap.size := blk_lt h.st
  have s0 : w.cell? ⟨sp, 0, none⟩ = some (.pointer (some ⟨g, 0, none⟩)) := (blk_cell h.st 0).trans rfl
  have s1 : w.cell? ⟨sp, 1, none⟩ = some (.pointer (some ⟨bp, 0, none⟩)) := (blk_cell h.st 1).trans rfl
  have HT := Lib.hid ht
  have HLen := Lib.hid hlen
  have HB := Lib.hid ((Below.refl w.heap.size w).alloc (Nat.le_refl _) (.cells #[.int .i64 3, .int .i64 N, .bool sec] 27 (0, 0)))
  have hH1 := ht.hp.later HB.out
  have hB1 := ht.bg.later HB.out
  have hst1 : sideB (w.alloc (.cells #[.int .i64 3, .int .i64 N, .bool sec] 27 (0, 0))) sp g bp top told := (HB.out.block sp hlt).trans ht.st
  have hC1 := (CellI.stays (S := fun _ => False) (fun h => h)).later ht.cl HB.out
  have hleast := least_head ht.hw ht.pm
  have HH1 := Lib.hid hH1
  have HB1 := Lib.hid hB1
  have HST1 := Lib.hid hst1
  have HC1 := Lib.hid hC1
  have e0 : sp ≠ w.heap.size := by omega
  have s0' := (HB.out.cell (p := ⟨sp, 0, none⟩) hlt).trans s0
  have s1' := (HB.out.cell (p := ⟨sp, 1, none⟩) hlt).trans s1
  have HLeast := Lib.hid hleast
  clear hleast ht h hlen hH1 hB1 hst1 hC1 s0 s1
  unfold opV
  go_enter Try.func15, Try.ntmps15
  go_wp2_with fail
  refine (top_c g _ _ _ _ HH1.out).mono ?_
  rintro e w1 ⟨rfl, rfl⟩
  go_wp2_with fail
  refine (shows_yes sp g bp _ o top x told B (by have := HLen.out; omega) _ HST1.out HB1.out (fun e => by obtain ⟨r', e'⟩ := HT.out.tl e; injection e') HLeast.out.1).mono ?_
  rintro e w2 ⟨rfl, hb2⟩
  have hbw : Below w.heap.size w w2 := HB.out.trans (hb2.mono HB.out.size)
  have hS2 := HT.out.upd (Upd.of_below (S := fun _ => False) hbw) (fun _ _ h => h)
  have t2 : w2.cell? ⟨sp, 2, none⟩ = some (.int .i64 top) := (blk_cell hS2.st 2).trans rfl
  have f2 : w2.frozen? ⟨sp, 2, none⟩ = false := blk_frozen hS2.st 2
  have t3 : w2.cell? ⟨sp, 3, none⟩ = some (.bool told) := (blk_cell hS2.st 3).trans rfl
  have f3 : w2.frozen? ⟨sp, 3, none⟩ = false := blk_frozen hS2.st 3
  have HS2 := Lib.hid hS2
  have HBW := Lib.hid hbw
  clear hS2 hb2 hbw s0' s1'
  go_wp2
  go_ret
  exact ⟨rfl, played_top HBW.out HS2.out HLen.out x true (fun _ => ⟨r, rfl⟩)⟩

set_option maxHeartbeats 3200000 in
theorem plays_4 (sp : Nat) (S : Nat → Prop) (o : Int) (n : Nat) (N : Int) (sec : Bool) (hn : n < 100000000000) (w : World) (g bp c : Nat) (SH SB : Nat → Prop) (H B : List Int) (top : Int) (told : Bool) (h : SideAt w sp S o g bp c SH SB H B top told) (hlen : B.length = n) :
    Calls Try.prog 15 #[.pointer (some ⟨sp, 0, none⟩), opV 4 N sec] w fun e w' => e = .returned (.bool true) ∧ Played w sp S o n w' := by
  have ht := h.tight
  have hlt : sp < w.heap.size := blk_lt h.st
  have s0 : w.cell? ⟨sp, 0, none⟩ = some (.pointer (some ⟨g, 0, none⟩)) := (blk_cell h.st 0).trans rfl
  have s1 : w.cell? ⟨sp, 1, none⟩ = some (.pointer (some ⟨bp, 0, none⟩)) := (blk_cell h.st 1).trans rfl
  have HT := Lib.hid ht
  have HLen := Lib.hid hlen
  have HB := Lib.hid ((Below.refl w.heap.size w).alloc (Nat.le_refl _) (.cells #[.int .i64 4, .int .i64 N, .bool sec] 27 (0, 0)))
  have hH1 := ht.hp.later HB.out
  have hB1 := ht.bg.later HB.out
  have hst1 : sideB (w.alloc (.cells #[.int .i64 4, .int .i64 N, .bool sec] 27 (0, 0))) sp g bp top told := (HB.out.block sp hlt).trans ht.st
  have hC1 := (CellI.stays (S := fun _ => False) (fun h => h)).later ht.cl HB.out
  have hle : H.length = B.length := ht.pm.length_eq
  obtain ⟨A, cp, hb, _⟩ := hB1.parts
  have c1 : (w.alloc (.cells #[.int .i64 4, .int .i64 N, .bool sec] 27 (0, 0))).cell? ⟨bp, 1, none⟩ = some (.slice A B.length cp) := (blk_cell hb 1).trans rfl
  clear hb
  rw [← hle] at c1
  have HLN := Lib.hid (fun W (b : Below (w.alloc (.cells #[.int .i64 4, .int .i64 N, .bool sec] 27 (0, 0))).heap.size (w.alloc (.cells #[.int .i64 4, .int .i64 N, .bool sec] 27 (0, 0))) W) => len_c g _ _ H W (hH1.later b))
  have HH1 := Lib.hid hH1
  have HB1 := Lib.hid hB1
  have HST1 := Lib.hid hst1
  have HC1 := Lib.hid hC1
  have e0 : sp ≠ w.heap.size := by omega
  have s0' := (HB.out.cell (p := ⟨sp, 0, none⟩) hlt).trans s0
  have s1' := (HB.out.cell (p := ⟨sp, 1, none⟩) hlt).trans s1
  clear hle ht h hlen hH1 hB1 hst1 hC1 s0 s1
  unfold opV
  go_enter Try.func15, Try.ntmps15
  go_wp2_with fail
  go_quiet ((go_at_call 31; exact quiet_left (HLN.out _ ((Upd.drewN_below _ _)))))
  have hbw : Below w.heap.size w ((w.alloc (.cells #[.int .i64 4, .int .i64 N, .bool sec] 27 (0, 0))).drewN nq) := HB.out.trans ((Upd.drewN_below _ _).mono HB.out.size)
  have hS2 := HT.out.upd (Upd.of_below (S := fun _ => False) hbw) (fun _ _ h => h)
  have HS2 := Lib.hid hS2
  have HBW := Lib.hid hbw
  clear hS2 hbw s0' s1' c1
  go_wp2
  go_ret
  exact ⟨by simp, played_same HBW.out HS2.out HLen.out⟩

set_option maxHeartbeats 3200000 in
theorem plays_o (sp : Nat) (S : Nat → Prop) (o : Int) (n : Nat) (N : Int) (sec : Bool) (hn : n < 100000000000) (w : World) (g bp c : Nat) (SH SB : Nat → Prop) (H B : List Int) (top : Int) (told : Bool) (h : SideAt w sp S o g bp c SH SB H B top told) (hlen : B.length = n) (K : Int) (k1 : (K == 1) = false) (k2 : (K == 2) = false) (k3 : (K == 3) = false) (k4 : (K == 4) = false) :
    Calls Try.prog 15 #[.pointer (some ⟨sp, 0, none⟩), opV K N sec] w fun e w' => e = .returned (.bool true) ∧ Played w sp S o n w' := by
  have ht := h.tight
  have hlt : sp < w.heap.size := blk_lt h.st
  have s0 : w.cell? ⟨sp, 0, none⟩ = some (.pointer (some ⟨g, 0, none⟩)) := (blk_cell h.st 0).trans rfl
  have s1 : w.cell? ⟨sp, 1, none⟩ = some (.pointer (some ⟨bp, 0, none⟩)) := (blk_cell h.st 1).trans rfl
  have HT := Lib.hid ht
  have HLen := Lib.hid hlen
  have HB := Lib.hid ((Below.refl w.heap.size w).alloc (Nat.le_refl _) (.cells #[.int .i64 K, .int .i64 N, .bool sec] 27 (0, 0)))
  have hH1 := ht.hp.later HB.out
  have hB1 := ht.bg.later HB.out
  have hst1 : sideB (w.alloc (.cells #[.int .i64 K, .int .i64 N, .bool sec] 27 (0, 0))) sp g bp top told := (HB.out.block sp hlt).trans ht.st
  have hC1 := (CellI.stays (S := fun _ => False) (fun h => h)).later ht.cl HB.out
  have HH1 := Lib.hid hH1
  have HB1 := Lib.hid hB1
  have HST1 := Lib.hid hst1
  have HC1 := Lib.hid hC1
  have e0 : sp ≠ w.heap.size := by omega
  have s0' := (HB.out.cell (p := ⟨sp, 0, none⟩) hlt).trans s0
  have s1' := (HB.out.cell (p := ⟨sp, 1, none⟩) hlt).trans s1
  clear ht h hlen hH1 hB1 hst1 hC1 s0 s1
  unfold opV
  go_enter Try.func15, Try.ntmps15
  go_wp2
  have HS2 := HT.out.upd (Upd.of_below (S := fun _ => False) HB.out) (fun _ _ h => h)
  go_ret
  exact ⟨rfl, played_same HB.out HS2 HLen.out⟩

end Go.Proofs.Ytabnpacponkmhaa.H
