/- The laws KeyBatches, KeyWeighs, KeyEntries, walked. No conditions but bounds. -/
import Derived.Test.YtdeomnbmbhkecaaHRoom3
import Derived.Test.YtdeomnbmbhkecaaHKey8
import Derived.Test.YtdeomnbmbhkecaaHKey6
namespace Go.Proofs.Ytdeomnbmbhkecaa.H
open Go.RowKit Go.Deep Go.Proofs.YtdeomnbmbhkecaaW.PrintWords
set_option linter.unusedVariables false
set_option linter.unusedSimpArgs false
set_option maxHeartbeats 6400000 in
set_option maxRecDepth 100000 in
theorem keyBatches_c (A : Option Addr) (c : Nat) (l : List Wri) (w : World) (hs : Sl encW 3 w A l) :
    Calls Try.prog 11 #[.slice A l.length c] w fun e w' => e = .returned (.bool true) ∧ Below w.heap.size w w' := by
  have hm := hs.1
  by_cases h1 : 4096 < l.length
  · go_enter Try.func11, Try.ntmps11
    go_wp2
    go_ret
    exact ⟨by simp, Below.refl _ _⟩
  · go_enter Try.func11, Try.ntmps11
    go_wp2_with fail
    refine (writes_c w.heap.size A c l (by omega) _ (hs.later ((Below.refl _ _).alloc (Nat.le_refl _) _)) ((heap_alloc_new w _).trans rfl)).mono ?_
    rintro e W ⟨f, cf, p, cp, q', cq, rfl, hr, hk⟩
    have hB0 : Below w.heap.size w W := Kb.below ((Below.refl _ _).alloc (Nat.le_refl _) _) (by simp) hk
    have hB : Below W.heap.size W W := Below.refl _ _
    have hsW := hs.later hB0
    have HR := Lib.hid hr
    have HS := Lib.hid hsW
    clear hr hk hsW hs
    go_wp2_with fail
    refine (checkbatch_c (some ⟨f, 0, none⟩) (l.length + 40) l _ (HR.out.lent.later hB)).mono ?_
    rintro e w1 ⟨rfl, hb⟩
    replace hB := hB.trans (hb.mono hB.size)
    clear hb
    go_wp2_with fail
    refine (num_c _ _).mono ?_
    rintro e w2 ⟨rfl, rfl⟩
    go_wp2_with fail
    refine (refcheckbatch_c A c l _ (HS.out.later hB)).mono ?_
    rintro e w3 ⟨rfl, hb⟩
    replace hB := hB.trans (hb.mono hB.size)
    clear hb
    go_wp2_with fail
    refine (sameWrites_c (some ⟨f, 0, none⟩) A (l.length + 40) c l _ (HR.out.lent.later hB) (HS.out.later hB)).mono ?_
    rintro e w4 ⟨rfl, hd⟩
    replace hB := hB.trans (hd.below _)
    clear hd
    go_wp2_with fail
    refine (hold_c w.heap.size l f cf p cp q' cq (by omega) _ (HR.out.later hB)).mono ?_
    rintro e w5 ⟨rfl, hb⟩
    replace hB := hB.trans (hb.mono hB.size)
    clear hb
    go_wp2
    go_ret
    exact ⟨by simp, hB0.trans (hB.mono hB0.size)⟩
set_option maxHeartbeats 6400000 in
set_option maxRecDepth 100000 in
theorem keyWeighs_c (ek : ByteArray) (en : Int) (ed : Bool) (ev : ByteArray) (hk1 : ek.size ≤ 140737488351232) (hv1 : ev.size ≤ 140737488351232) (A : Option Addr) (c : Nat) (l : List Wri) (hq : ∀ x ∈ l, OkW x) (w : World) (hs : Sl encW 3 w A l) :
    Calls Try.prog 10 #[.agg #[.string ek, .int .u64 en, .bool ed, .string ev], .slice A l.length c] w fun e w' => e = .returned (.bool true) ∧ Below w.heap.size w w' := by
  have hm := hs.1
  by_cases h1 : 4096 < l.length
  · go_enter Try.func10, Try.ntmps10
    go_wp2
    go_ret
    exact ⟨by simp, (Below.refl _ _).alloc (Nat.le_refl _) _⟩
  · go_enter Try.func10, Try.ntmps10
    go_wp2_with fail
    refine (writes_c (w.heap.size + 1) A c l (by omega) _ (hs.later (((Below.refl _ _).alloc (Nat.le_refl _) _).alloc (by simp) _)) ((alloc2_new w _ _).trans rfl)).mono ?_
    rintro e W ⟨f, cf, p, cp, q', cq, rfl, hr, hk⟩
    have hB0 : Below w.heap.size w W := Kb.below (((Below.refl _ _).alloc (Nat.le_refl _) _).alloc (by simp) _) (by simp) hk
    have hB : Below W.heap.size W W := Below.refl _ _
    have hsW := hs.later hB0
    have hbx : W.heap[w.heap.size]? = some (.cells #[.string ek, .int .u64 en, .bool ed, .string ev] 55 (0, 0)) :=
      (hk.block w.heap.size (by simp; omega) (by omega)).trans ((Below.heap_alloc _ _ _ (by simp)).trans (heap_alloc_new w _))
    have a0 : W.cell? ⟨w.heap.size, 0, none⟩ = some (.string ek) := (blk_cell hbx 0).trans rfl
    have a1 : W.cell? ⟨w.heap.size, 1, none⟩ = some (.int .u64 en) := (blk_cell hbx 1).trans rfl
    have a2 : W.cell? ⟨w.heap.size, 2, none⟩ = some (.bool ed) := (blk_cell hbx 2).trans rfl
    have a3 : W.cell? ⟨w.heap.size, 3, none⟩ = some (.string ev) := (blk_cell hbx 3).trans rfl
    have zx := blk_lt hbx
    clear hbx
    have HR := Lib.hid hr
    have HS := Lib.hid hsW
    clear hr hk hsW hs
    go_wp2_with fail
    go_region_held3 (fun w' => W.heap.size ≤ w'.heap.size ∧ Below W.heap.size W w' ∧ w'.cell? ⟨w.heap.size, 0, none⟩ = some (.string ek) ∧ w'.cell? ⟨w.heap.size, 1, none⟩ = some (.int .u64 en) ∧ w'.cell? ⟨w.heap.size, 2, none⟩ = some (.bool ed) ∧ w'.cell? ⟨w.heap.size, 3, none⟩ = some (.string ev))
      (first | (exact ⟨Nat.le_refl _, hB.drew, a0, a1, a2, a3⟩) | assumption | (go_split_ands; refine ⟨by have := hb.size; omega, Below.trans (by assumption) (hb.mono (by omega)), ?_, ?_, ?_, ?_⟩ <;> (rw [hb.cell (by simp <;> omega)]; assumption)))
      (first | (go_at_call 25; refine (weight_c _ _ _ _ hk1 hv1 _).mono ?_; rintro e w2 ⟨rfl, hb⟩) | (go_at_call 26; refine (refweight_c _ _ _ _ hk1 hv1 _).mono ?_; rintro e w2 ⟨rfl, hb⟩))
    rename_i hH
    replace hB := hH.2.1
    clear hH a0 a1 a2 a3
    go_wp2_with fail
    refine (batchweight_c (some ⟨f, 0, none⟩) (l.length + 40) l (by omega) hq _ (HR.out.lent.later hB)).mono ?_
    rintro e w3 ⟨rfl, hb⟩
    replace hB := hB.trans (hb.mono hB.size)
    clear hb
    go_wp2_with fail
    refine (refbatchweight_c A c l (by omega) hq _ (HS.out.later hB)).mono ?_
    rintro e w4 ⟨rfl, hb⟩
    replace hB := hB.trans (hb.mono hB.size)
    clear hb
    go_wp2_with fail
    refine (sameWrites_c (some ⟨f, 0, none⟩) A (l.length + 40) c l _ (HR.out.lent.later hB) (HS.out.later hB)).mono ?_
    rintro e w5 ⟨rfl, hd⟩
    replace hB := hB.trans (hd.below _)
    clear hd
    go_wp2_with fail
    refine (hold_c (w.heap.size + 1) l f cf p cp q' cq (by omega) _ (HR.out.later hB)).mono ?_
    rintro e w6 ⟨rfl, hb⟩
    replace hB := hB.trans (hb.mono hB.size)
    clear hb
    go_wp2
    go_ret
    exact ⟨by simp, hB0.trans (hB.mono hB0.size)⟩
set_option maxHeartbeats 6400000 in
set_option maxRecDepth 100000 in
theorem keyEntries_c (fi : Int) (A : Option Addr) (c : Nat) (l : List Wri) (w : World) (hs : Sl encW 3 w A l) :
    Calls Try.prog 9 #[.int .u64 fi, .slice A l.length c] w fun e w' => e = .returned (.bool true) ∧ Below w.heap.size w w' := by
  have hm := hs.1
  by_cases h1 : 4096 < l.length
  · go_enter Try.func9, Try.ntmps9
    go_wp2
    go_ret
    exact ⟨by simp, Below.refl _ _⟩
  · go_enter Try.func9, Try.ntmps9
    go_wp2_with fail
    refine (writes_c w.heap.size A c l (by omega) _ (hs.later ((Below.refl _ _).alloc (Nat.le_refl _) _)) ((heap_alloc_new w _).trans rfl)).mono ?_
    rintro e W ⟨f, cf, p, cp, q', cq, rfl, hr, hk⟩
    have hB0 : Below w.heap.size w W := Kb.below ((Below.refl _ _).alloc (Nat.le_refl _) _) (by simp) hk
    have hB : Below W.heap.size W W := Below.refl _ _
    have hsW := hs.later hB0
    have HR := Lib.hid hr
    have HS := Lib.hid hsW
    clear hr hk hsW hs
    go_wp2_with fail
    refine (entries_c fi (some ⟨f, 0, none⟩) (l.length + 40) l (by omega) _ (HR.out.lent.later hB)).mono ?_
    rintro e w1 ⟨v1, rfl, ho, hb⟩
    replace hB := hB.trans (hb.mono hB.size)
    have hB1 : Below w1.heap.size w1 w1 := Below.refl _ _
    obtain ⟨A1, c1, rfl, _, hx1, _⟩ := ho.slice encE_len
    have HX1 := Lib.hid hx1
    rw [ents_len]
    clear hb ho hx1
    go_wp2_with fail
    refine (refentries_c fi A c l (by omega) _ (HS.out.later hB)).mono ?_
    rintro e w2 ⟨v2, rfl, ho, hb⟩
    replace hB := hB.trans (hb.mono hB.size)
    have hx1 := HX1.out.later hb
    obtain ⟨A2, c2, rfl, _, hx2, _⟩ := ho.slice encE_len
    have hse := sameEntries_c A1 A2 c1 c2 (ents fi l) w2 hx1 hx2
    rw [ents_len] at hse ⊢
    have HSE := Lib.hid hse
    clear hb ho hx1 hx2 HX1 hB1 hse
    go_wp2_with fail
    refine HSE.out.mono ?_
    rintro e w3 ⟨rfl, hd⟩
    replace hB := hB.trans (hd.below _)
    clear hd HSE
    go_wp2_with fail
    refine (sameWrites_c (some ⟨f, 0, none⟩) A (l.length + 40) c l _ (HR.out.lent.later hB) (HS.out.later hB)).mono ?_
    rintro e w4 ⟨rfl, hd⟩
    replace hB := hB.trans (hd.below _)
    clear hd
    go_wp2_with fail
    refine (hold_c w.heap.size l f cf p cp q' cq (by omega) _ (HR.out.later hB)).mono ?_
    rintro e w5 ⟨rfl, hb⟩
    replace hB := hB.trans (hb.mono hB.size)
    clear hb
    go_wp2
    go_ret
    exact ⟨by simp, hB0.trans (hB.mono hB0.size)⟩
end Go.Proofs.Ytdeomnbmbhkecaa.H
