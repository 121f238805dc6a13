/- Room.Hold: the marks behind what was lent stand. Conditions: the room holds one list of writes. -/
import Derived.Test.YtdeomnbmbhkecaaHRoom1
namespace Go.Proofs.Ytdeomnbmbhkecaa.H
open Go.RowKit Go.Deep Go.Proofs.YtdeomnbmbhkecaaW.PrintWords
set_option linter.unusedVariables false
set_option linter.unusedSimpArgs false
theorem hold35_c (g : Nat) (w : World) (h : w.cell? ⟨g, 0, none⟩ = some (.slice none 0 0)) : Calls Try.prog 35 #[.pointer (some ⟨g, 0, none⟩)] w fun e w' => e = .returned (.bool true) ∧ w = w' := by
  go_enter Try.func35, Try.ntmps35
  go_wp2
  refine wp_loop_rounds 1 ?_
  rw [rounds_succ]
  go_wp2
  go_ret
  exact ⟨by simp, rfl⟩
theorem hold36_c (g : Nat) (w : World) (h : w.cell? ⟨g, 2, none⟩ = some (.slice none 0 0)) : Calls Try.prog 36 #[.pointer (some ⟨g, 0, none⟩)] w fun e w' => e = .returned (.bool true) ∧ w = w' := by
  go_enter Try.func36, Try.ntmps36
  go_wp2
  refine wp_loop_rounds 1 ?_
  rw [rounds_succ]
  go_wp2
  go_ret
  exact ⟨by simp, rfl⟩
theorem hold37_c (g : Nat) (w : World) (h : w.cell? ⟨g, 4, none⟩ = some (.slice none 0 0)) : Calls Try.prog 37 #[.pointer (some ⟨g, 0, none⟩)] w fun e w' => e = .returned (.bool true) ∧ w = w' := by
  go_enter Try.func37, Try.ntmps37
  go_wp2
  refine wp_loop_rounds 1 ?_
  rw [rounds_succ]
  go_wp2
  go_ret
  exact ⟨by simp, rfl⟩
theorem hold38_c (g : Nat) (w : World) (h : w.cell? ⟨g, 6, none⟩ = some (.slice none 0 0)) : Calls Try.prog 38 #[.pointer (some ⟨g, 0, none⟩)] w fun e w' => e = .returned (.bool true) ∧ w = w' := by
  go_enter Try.func38, Try.ntmps38
  go_wp2
  refine wp_loop_rounds 1 ?_
  rw [rounds_succ]
  go_wp2
  go_ret
  exact ⟨by simp, rfl⟩
theorem hold39_c (g : Nat) (w : World) (h : w.cell? ⟨g, 8, none⟩ = some (.slice none 0 0)) : Calls Try.prog 39 #[.pointer (some ⟨g, 0, none⟩)] w fun e w' => e = .returned (.bool true) ∧ w = w' := by
  go_enter Try.func39, Try.ntmps39
  go_wp2
  refine wp_loop_rounds 1 ?_
  rw [rounds_succ]
  go_wp2
  go_ret
  exact ⟨by simp, rfl⟩
theorem hold40_c (g : Nat) (w : World) (h : w.cell? ⟨g, 10, none⟩ = some (.slice none 0 0)) : Calls Try.prog 40 #[.pointer (some ⟨g, 0, none⟩)] w fun e w' => e = .returned (.bool true) ∧ w = w' := by
  go_enter Try.func40, Try.ntmps40
  go_wp2
  refine wp_loop_rounds 1 ?_
  rw [rounds_succ]
  go_wp2
  go_ret
  exact ⟨by simp, rfl⟩
theorem hold42_c (g : Nat) (w : World) (h : w.cell? ⟨g, 14, none⟩ = some (.slice none 0 0)) : Calls Try.prog 42 #[.pointer (some ⟨g, 0, none⟩)] w fun e w' => e = .returned (.bool true) ∧ w = w' := by
  go_enter Try.func42, Try.ntmps42
  go_wp2
  refine wp_loop_rounds 1 ?_
  rw [rounds_succ]
  go_wp2
  go_ret
  exact ⟨by simp, rfl⟩
theorem hold43_c (g : Nat) (w : World) (h : w.cell? ⟨g, 16, none⟩ = some (.slice none 0 0)) : Calls Try.prog 43 #[.pointer (some ⟨g, 0, none⟩)] w fun e w' => e = .returned (.bool true) ∧ w = w' := by
  go_enter Try.func43, Try.ntmps43
  go_wp2
  refine wp_loop_rounds 1 ?_
  rw [rounds_succ]
  go_wp2
  go_ret
  exact ⟨by simp, rfl⟩
theorem hold44_c (g : Nat) (w : World) (h : w.cell? ⟨g, 18, none⟩ = some (.slice none 0 0)) : Calls Try.prog 44 #[.pointer (some ⟨g, 0, none⟩)] w fun e w' => e = .returned (.bool true) ∧ w = w' := by
  go_enter Try.func44, Try.ntmps44
  go_wp2
  refine wp_loop_rounds 1 ?_
  rw [rounds_succ]
  go_wp2
  go_ret
  exact ⟨by simp, rfl⟩
theorem hold45_c (g : Nat) (w : World) (h : w.cell? ⟨g, 20, none⟩ = some (.slice none 0 0)) : Calls Try.prog 45 #[.pointer (some ⟨g, 0, none⟩)] w fun e w' => e = .returned (.bool true) ∧ w = w' := by
  go_enter Try.func45, Try.ntmps45
  go_wp2
  refine wp_loop_rounds 1 ?_
  rw [rounds_succ]
  go_wp2
  go_ret
  exact ⟨by simp, rfl⟩
theorem hold46_c (g : Nat) (w : World) (h : w.cell? ⟨g, 22, none⟩ = some (.slice none 0 0)) : Calls Try.prog 46 #[.pointer (some ⟨g, 0, none⟩)] w fun e w' => e = .returned (.bool true) ∧ w = w' := by
  go_enter Try.func46, Try.ntmps46
  go_wp2
  refine wp_loop_rounds 1 ?_
  rw [rounds_succ]
  go_wp2
  go_ret
  exact ⟨by simp, rfl⟩
theorem hold47_c (g : Nat) (w : World) (h : w.cell? ⟨g, 24, none⟩ = some (.slice none 0 0)) : Calls Try.prog 47 #[.pointer (some ⟨g, 0, none⟩)] w fun e w' => e = .returned (.bool true) ∧ w = w' := by
  go_enter Try.func47, Try.ntmps47
  go_wp2
  refine wp_loop_rounds 1 ?_
  rw [rounds_succ]
  go_wp2
  go_ret
  exact ⟨by simp, rfl⟩
theorem hold48_c (g : Nat) (w : World) (h : w.cell? ⟨g, 26, none⟩ = some (.slice none 0 0)) : Calls Try.prog 48 #[.pointer (some ⟨g, 0, none⟩)] w fun e w' => e = .returned (.bool true) ∧ w = w' := by
  go_enter Try.func48, Try.ntmps48
  go_wp2
  refine wp_loop_rounds 1 ?_
  rw [rounds_succ]
  go_wp2
  go_ret
  exact ⟨by simp, rfl⟩
set_option maxHeartbeats 6400000 in
set_option maxRecDepth 100000 in
theorem hold41_c (g : Nat) (l : List Wri) (f cf p cp q cq : Nat) (hn : l.length ≤ 4096) (w : World) (hr : RoomW w g l f cf p cp q cq) : Calls Try.prog 41 #[.pointer (some ⟨g, 0, none⟩)] w fun e w' => e = .returned (.bool true) ∧ Below w.heap.size w w' := by
  obtain ⟨hg, hp, hq, hs, hcf⟩ := hr
  have c12 : w.cell? ⟨g, 12, none⟩ = some (.slice (some ⟨p, 0, none⟩) 1 cp) := (blk_cell hg 12).trans rfl
  have c13 : w.cell? ⟨g, 13, none⟩ = some (.slice (some ⟨q, 0, none⟩) 1 cq) := (blk_cell hg 13).trans rfl
  have zg := World.block_lt_of_cell? w _ c12
  have zp := World.block_lt_of_cell? w _ hp
  have zq := World.block_lt_of_cell? w _ hq
  have HC12 := Lib.hid c12
  have HC13 := Lib.hid c13
  have HP := Lib.hid hp
  have HQ := Lib.hid hq
  have HS := Lib.hid hs
  clear hg c12 c13 hp hq hs
  go_enter Try.func41, Try.ntmps41
  go_wp2
  go_loopg [3] 1 (fun gk v3 wr => ∃ i : Nat, gk = 1 - i ∧ i ≤ 1 ∧ v3 = .int .i64 i ∧ Below w.heap.size w wr)
  case atStart => exact ⟨0, by omega, by omega, rfl, Below.refl _ _⟩
  case round =>
    obtain ⟨i, hgk, hi, rfl, hB⟩ := hrel
    have HGK := Lib.hid hgk
    have c12 := (hB.cell (p := ⟨g, 12, none⟩) zg).trans HC12.out
    have c13 := (hB.cell (p := ⟨g, 13, none⟩) zg).trans HC13.out
    have hp := (hB.cell (p := ⟨p, 0, none⟩) zp).trans HP.out
    have hq := (hB.cell (p := ⟨q, 0, none⟩) zq).trans HQ.out
    have HB := Lib.hid hB
    clear hgk hB
    by_cases hlt : i < 1
    · have i0 : i = 0 := by omega
      subst i0
      go_wp2_with fail
      go_loopg [5] 40 (fun gk v5 wr => ∃ m : Nat, gk = 40 - m ∧ m ≤ 40 ∧ v5 = .int .i64 (l.length + m) ∧ Below w.heap.size w wr)
      case atStart => exact ⟨0, by omega, by omega, by go_num, HB.out⟩
      case round =>
        obtain ⟨m, hgk2, hm, rfl, hB2⟩ := hrel
        have HGK2 := Lib.hid hgk2
        have d12 := (hB2.cell (p := ⟨g, 12, none⟩) zg).trans HC12.out
        have d13 := (hB2.cell (p := ⟨g, 13, none⟩) zg).trans HC13.out
        have dp := (hB2.cell (p := ⟨p, 0, none⟩) zp).trans HP.out
        have HB2 := Lib.hid hB2
        clear hgk2 hB2 c12 c13 hp hq
        by_cases hlt2 : m < 40
        · have hx : (l ++ marks 40)[l.length + m]? = some (markW m) := by
            rw [List.getElem?_append_right (by omega)]
            simp [marks, hlt2]
          rcases (HS.out.later (HB2.out.mono (Nat.le_refl _))).at hx with ⟨b, o, hA, hbl, hc⟩
          injection hA with hA
          injection hA with h1 h2
          subst h1; subst h2
          have e0 : wr.cell? ⟨f, (l.length + m) * 3, none⟩ = some (.string (wordB m)) := by simpa [markW] using hc 0 _ rfl
          have e1 : wr.cell? ⟨f, (l.length + m) * 3 + 1, none⟩ = some (.bool false) := by simpa [markW] using hc 1 _ rfl
          have e2 : wr.cell? ⟨f, (l.length + m) * 3 + 2, none⟩ = some (.string ⟨#[]⟩) := by simpa [markW] using hc 2 _ rfl
          clear hc hx
          go_wp2_with fail
          have ew : IntKind.i64.wrap ((l.length : Int) + (m : Int) - (l.length : Int)) = (m : Int) := by
            rw [show (l.length : Int) + (m : Int) - (l.length : Int) = (m : Int) by omega]
            exact IntWalk.i64_in _ (by omega)
          go_region_held3 (fun w' => w'.cell? ⟨wr.heap.size, 0, none⟩ = some (.string (wordB m)) ∧ w'.cell? ⟨wr.heap.size, 1, none⟩ = some (.bool false) ∧ w'.cell? ⟨wr.heap.size, 2, none⟩ = some (.string ⟨#[]⟩)) (go_keep)
            (first | (go_at_call 54; refine (word_c m (by omega) _).mono ?_; rintro e w2 ⟨rfl, rfl⟩))
          rename_i hH
          clear hH ew
          go_wp2
          go_roundg (40 - (m + 1))
          case measure => have := HGK2.out; omega
          case rel => exact ⟨m + 1, rfl, by omega, by go_num, (HB2.out.alloc HB2.out.size _).drew⟩
        · have hm40 : m = 40 := by omega
          subst hm40
          go_wp2
          go_roundg 0
          case measure => have := HGK.out; omega
          case rel => exact ⟨1, by omega, by omega, by go_num, HB2.out⟩
    · have i1 : i = 1 := by omega
      subst i1
      go_wp2
      go_ret
      exact ⟨by simp, HB.out⟩
end Go.Proofs.Ytdeomnbmbhkecaa.H
