/- Room.Hold, whole. Conditions: the room holds one list of writes. -/
import Derived.Test.YtdeomnbmbhkecaaHRoom2
namespace Go.Proofs.Ytdeomnbmbhkecaa.H
open Go.RowKit Go.Deep Go.Proofs.YtdeomnbmbhkecaaW.PrintWords
set_option linter.unusedVariables false
set_option linter.unusedSimpArgs false
set_option maxHeartbeats 6400000 in
set_option maxRecDepth 100000 in
theorem hold_c (g : Nat) (l : List Wri) (f cf p cp q cq : Nat) (hn : l.length ≤ 4096) (w : World) (hr : RoomW w g l f cf p cp q cq) : Calls Try.prog 24 #[.pointer (some ⟨g, 0, none⟩)] w fun e w' => e = .returned (.bool true) ∧ Below w.heap.size w w' := by
  have glt : g < w.heap.size := blk_lt hr.1
  have c35 : w.cell? ⟨g, 0, none⟩ = some (.slice none 0 0) := (blk_cell hr.1 0).trans rfl
  have c36 : w.cell? ⟨g, 2, none⟩ = some (.slice none 0 0) := (blk_cell hr.1 2).trans rfl
  have c37 : w.cell? ⟨g, 4, none⟩ = some (.slice none 0 0) := (blk_cell hr.1 4).trans rfl
  have c38 : w.cell? ⟨g, 6, none⟩ = some (.slice none 0 0) := (blk_cell hr.1 6).trans rfl
  have c39 : w.cell? ⟨g, 8, none⟩ = some (.slice none 0 0) := (blk_cell hr.1 8).trans rfl
  have c40 : w.cell? ⟨g, 10, none⟩ = some (.slice none 0 0) := (blk_cell hr.1 10).trans rfl
  have c42 : w.cell? ⟨g, 14, none⟩ = some (.slice none 0 0) := (blk_cell hr.1 14).trans rfl
  have c43 : w.cell? ⟨g, 16, none⟩ = some (.slice none 0 0) := (blk_cell hr.1 16).trans rfl
  have c44 : w.cell? ⟨g, 18, none⟩ = some (.slice none 0 0) := (blk_cell hr.1 18).trans rfl
  have c45 : w.cell? ⟨g, 20, none⟩ = some (.slice none 0 0) := (blk_cell hr.1 20).trans rfl
  have c46 : w.cell? ⟨g, 22, none⟩ = some (.slice none 0 0) := (blk_cell hr.1 22).trans rfl
  have c47 : w.cell? ⟨g, 24, none⟩ = some (.slice none 0 0) := (blk_cell hr.1 24).trans rfl
  have c48 : w.cell? ⟨g, 26, none⟩ = some (.slice none 0 0) := (blk_cell hr.1 26).trans rfl
  have HR := Lib.hid hr
  clear hr
  have C42 := Lib.hid c42
  have C43 := Lib.hid c43
  have C44 := Lib.hid c44
  have C45 := Lib.hid c45
  have C46 := Lib.hid c46
  have C47 := Lib.hid c47
  have C48 := Lib.hid c48
  clear c42 c43 c44 c45 c46 c47 c48
  go_enter Try.func24, Try.ntmps24
  go_wp2_with (first | (go_at_call 35; refine (hold35_c g _ (by assumption)).mono ?_; rintro e w2 ⟨rfl, rfl⟩) | (go_at_call 36; refine (hold36_c g _ (by assumption)).mono ?_; rintro e w2 ⟨rfl, rfl⟩) | (go_at_call 37; refine (hold37_c g _ (by assumption)).mono ?_; rintro e w2 ⟨rfl, rfl⟩) | (go_at_call 38; refine (hold38_c g _ (by assumption)).mono ?_; rintro e w2 ⟨rfl, rfl⟩) | (go_at_call 39; refine (hold39_c g _ (by assumption)).mono ?_; rintro e w2 ⟨rfl, rfl⟩) | (go_at_call 40; refine (hold40_c g _ (by assumption)).mono ?_; rintro e w2 ⟨rfl, rfl⟩))
  refine (hold41_c g l f cf p cp q cq hn w HR.out).mono ?_
  rintro e w1 ⟨rfl, hb⟩
  have d42 := (hb.cell (p := ⟨g, 14, none⟩) glt).trans C42.out
  have d43 := (hb.cell (p := ⟨g, 16, none⟩) glt).trans C43.out
  have d44 := (hb.cell (p := ⟨g, 18, none⟩) glt).trans C44.out
  have d45 := (hb.cell (p := ⟨g, 20, none⟩) glt).trans C45.out
  have d46 := (hb.cell (p := ⟨g, 22, none⟩) glt).trans C46.out
  have d47 := (hb.cell (p := ⟨g, 24, none⟩) glt).trans C47.out
  have d48 := (hb.cell (p := ⟨g, 26, none⟩) glt).trans C48.out
  clear c35 c36 c37 c38 c39 c40
  go_wp2_with (first | (go_at_call 42; refine (hold42_c g _ (by assumption)).mono ?_; rintro e w2 ⟨rfl, rfl⟩) | (go_at_call 43; refine (hold43_c g _ (by assumption)).mono ?_; rintro e w2 ⟨rfl, rfl⟩) | (go_at_call 44; refine (hold44_c g _ (by assumption)).mono ?_; rintro e w2 ⟨rfl, rfl⟩) | (go_at_call 45; refine (hold45_c g _ (by assumption)).mono ?_; rintro e w2 ⟨rfl, rfl⟩) | (go_at_call 46; refine (hold46_c g _ (by assumption)).mono ?_; rintro e w2 ⟨rfl, rfl⟩) | (go_at_call 47; refine (hold47_c g _ (by assumption)).mono ?_; rintro e w2 ⟨rfl, rfl⟩) | (go_at_call 48; refine (hold48_c g _ (by assumption)).mono ?_; rintro e w2 ⟨rfl, rfl⟩))
  go_ret
  exact ⟨by simp, hb⟩
end Go.Proofs.Ytdeomnbmbhkecaa.H
