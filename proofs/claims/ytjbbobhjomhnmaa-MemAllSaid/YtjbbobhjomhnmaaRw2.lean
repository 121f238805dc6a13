/- Room.Hold of a room that holds one list of writes: the marks behind it stand. Conditions: sizes. -/
import Derived.Test.YtjbbobhjomhnmaaRw1
namespace Go.Proofs.Ytjbbobhjomhnmaa.H
open Go Go.RowKit Go.Deep Go.Shelf Go.Proofs Go.Proofs.YtjbbobhjomhnmaaW.PrintWords
set_option linter.unusedVariables false
set_option linter.unusedSimpArgs false
theorem holdBytes0_c (g : Nat) (w : World) (h : w.cell? ⟨g, 0, none⟩ = some (.slice none 0 0)) : Calls Try.prog 59 #[.pointer (some ⟨g, 0, none⟩)] w fun e w' => e = .returned (.bool true) ∧ w = w' := by
  go_enter Try.func59, Try.ntmps59
  go_wp2
  refine wp_loop_rounds 1 ?_
  rw [rounds_succ]
  go_wp2
  go_ret
  exact ⟨by simp, rfl⟩
set_option maxHeartbeats 6400000 in
set_option maxRecDepth 100000 in
theorem holdW_c (g : Nat) (l : List Wri) (f cf p cp q cq : Nat) (hn : l.length ≤ 100000) (w : World) (hr : RoomV w g l f cf p cp q cq) : Calls Try.prog 65 #[.pointer (some ⟨g, 0, none⟩)] w fun e w' => e = .returned (.bool true) ∧ Below w.heap.size w w' := by
  obtain ⟨hg, hp, hq, hs, hcf, _⟩ := hr
  have c12 : w.cell? ⟨g, 12, none⟩ = some (.slice (some ⟨p, 0, none⟩) 1 cp) := (blk_cell hg 12).trans rfl
  have c13 : w.cell? ⟨g, 13, none⟩ = some (.slice (some ⟨q, 0, none⟩) 1 cq) := (blk_cell hg 13).trans rfl
  have zg := World.block_lt_of_cell? w _ c12
  have zp := World.block_lt_of_cell? w _ hp
  have zq := World.block_lt_of_cell? w _ hq
  have HC12 := Lib.hid c12
  have HC13 := Lib.hid c13
  have HP := Lib.hid hp
  have HQ := Lib.hid hq
  have HS := Lib.hid hs
  clear hg c12 c13 hp hq hs
  go_enter Try.func65, Try.ntmps65
  go_wp2
  go_loopg [3] 1 (fun gk v3 wr => ∃ i : Nat, gk = 1 - i ∧ i ≤ 1 ∧ v3 = .int .i64 i ∧ Below w.heap.size w wr)
  case atStart => exact ⟨0, by omega, by omega, rfl, Below.refl _ _⟩
  case round =>
    obtain ⟨i, hgk, hi, rfl, hB⟩ := hrel
    have HGK := Lib.hid hgk
    have c12 := (hB.cell (p := ⟨g, 12, none⟩) zg).trans HC12.out
    have c13 := (hB.cell (p := ⟨g, 13, none⟩) zg).trans HC13.out
    have hp := (hB.cell (p := ⟨p, 0, none⟩) zp).trans HP.out
    have hq := (hB.cell (p := ⟨q, 0, none⟩) zq).trans HQ.out
    have HB := Lib.hid hB
    clear hgk hB
    by_cases hlt : i < 1
    · have i0 : i = 0 := by omega
      subst i0
      go_wp2_with fail
      go_loopg [5] 40 (fun gk v5 wr => ∃ m : Nat, gk = 40 - m ∧ m ≤ 40 ∧ v5 = .int .i64 (l.length + m) ∧ Below w.heap.size w wr)
      case atStart => exact ⟨0, by omega, by omega, by go_num, HB.out⟩
      case round =>
        obtain ⟨m, hgk2, hm, rfl, hB2⟩ := hrel
        have HGK2 := Lib.hid hgk2
        have d12 := (hB2.cell (p := ⟨g, 12, none⟩) zg).trans HC12.out
        have d13 := (hB2.cell (p := ⟨g, 13, none⟩) zg).trans HC13.out
        have dp := (hB2.cell (p := ⟨p, 0, none⟩) zp).trans HP.out
        have HB2 := Lib.hid hB2
        clear hgk2 hB2 c12 c13 hp hq
        by_cases hlt2 : m < 40
        · have hx : (l ++ marks 40)[l.length + m]? = some (markW m) := by
            rw [List.getElem?_append_right (by omega)]
            simp [marks, hlt2]
          rcases (HS.out.later (HB2.out.mono (Nat.le_refl _))).at hx with ⟨b, o, hA, hbl, hc⟩
          injection hA with hA
          injection hA with h1 h2
          subst h1; subst h2
          have e0 : wr.cell? ⟨f, (l.length + m) * 3, none⟩ = some (.string (wordB m)) := by simpa [markW] using hc 0 _ rfl
          have e1 : wr.cell? ⟨f, (l.length + m) * 3 + 1, none⟩ = some (.bool false) := by simpa [markW] using hc 1 _ rfl
          have e2 : wr.cell? ⟨f, (l.length + m) * 3 + 2, none⟩ = some (.string ⟨#[]⟩) := by simpa [markW] using hc 2 _ rfl
          clear hc hx
          go_wp2_with fail
          have ew : IntKind.i64.wrap ((l.length : Int) + (m : Int) - (l.length : Int)) = (m : Int) := by
            rw [show (l.length : Int) + (m : Int) - (l.length : Int) = (m : Int) by omega]
            exact IntWalk.i64_in _ (by omega)
          go_region_held3 (fun w' => w'.cell? ⟨wr.heap.size, 0, none⟩ = some (.string (wordB m)) ∧ w'.cell? ⟨wr.heap.size, 1, none⟩ = some (.bool false) ∧ w'.cell? ⟨wr.heap.size, 2, none⟩ = some (.string ⟨#[]⟩)) (go_keep)
            (first | (go_at_call 106; refine (word_c m (by omega) _).mono ?_; rintro e w2 ⟨rfl, rfl⟩))
          rename_i hH
          clear hH ew
          go_wp2
          go_roundg (40 - (m + 1))
          case measure => have := HGK2.out; omega
          case rel => exact ⟨m + 1, rfl, by omega, by go_num, (HB2.out.alloc HB2.out.size _).drew⟩
        · have hm40 : m = 40 := by omega
          subst hm40
          go_wp2
          go_roundg 0
          case measure => have := HGK.out; omega
          case rel => exact ⟨1, by omega, by omega, by go_num, HB2.out⟩
    · have i1 : i = 1 := by omega
      subst i1
      go_wp2
      go_ret
      exact ⟨by simp, HB.out⟩
set_option maxHeartbeats 6400000 in
set_option maxRecDepth 100000 in
theorem holdV_c (g : Nat) (l : List Wri) (f cf p cp q cq : Nat) (hn : l.length ≤ 100000) (w : World) (hr : RoomV w g l f cf p cp q cq) : Calls Try.prog 15 #[.pointer (some ⟨g, 0, none⟩)] w fun e w' => e = .returned (.bool true) ∧ Below w.heap.size w w' := by
  have HH := Lib.hid (holdW_c g l f cf p cp q cq hn w hr)
  have HR := Lib.hid hr.1
  have H0 := Lib.hid (holdBytes0_c g w ((blk_cell hr.1 0).trans rfl))
  have H2 := Lib.hid (holdInts_c g w ((blk_cell hr.1 2).trans rfl))
  have H4 := Lib.hid (holdNums_c g w ((blk_cell hr.1 4).trans rfl))
  have H6 := Lib.hid (holdTexts_c g w ((blk_cell hr.1 6).trans rfl))
  have H8 := Lib.hid (holdEntries_c g w ((blk_cell hr.1 8).trans rfl))
  have H10 := Lib.hid (holdPairs_c g w ((blk_cell hr.1 10).trans rfl))
  clear hr
  go_enter Try.func15, Try.ntmps15
  go_wp2_with fail
  refine H0.out.mono ?_
  rintro _ _ ⟨rfl, rfl⟩
  go_wp2_with fail
  refine H2.out.mono ?_
  rintro _ _ ⟨rfl, rfl⟩
  go_wp2_with fail
  refine H4.out.mono ?_
  rintro _ _ ⟨rfl, rfl⟩
  go_wp2_with fail
  refine H6.out.mono ?_
  rintro _ _ ⟨rfl, rfl⟩
  go_wp2_with fail
  refine H8.out.mono ?_
  rintro _ _ ⟨rfl, rfl⟩
  go_wp2_with fail
  refine H10.out.mono ?_
  rintro _ _ ⟨rfl, rfl⟩
  go_wp2_with fail
  refine HH.out.mono ?_
  rintro _ w1 ⟨rfl, hb⟩
  have HB := Lib.hid hb
  have hrow := blk_below HR.out hb
  have K14 := Lib.hid (holdTables_c g w1 ((blk_cell hrow 14).trans rfl))
  have K16 := Lib.hid (holdPlaces_c g w1 ((blk_cell hrow 16).trans rfl))
  have K18 := Lib.hid (holdPlaceds_c g w1 ((blk_cell hrow 18).trans rfl))
  have K20 := Lib.hid (holdChunks_c g w1 ((blk_cell hrow 20).trans rfl))
  have K22 := Lib.hid (holdGroups_c g w1 ((blk_cell hrow 22).trans rfl))
  have K24 := Lib.hid (holdFiles_c g w1 ((blk_cell hrow 24).trans rfl))
  have K26 := Lib.hid (holdSteps_c g w1 ((blk_cell hrow 26).trans rfl))
  clear hb hrow
  go_wp2_with fail
  refine K14.out.mono ?_
  rintro _ _ ⟨rfl, rfl⟩
  go_wp2_with fail
  refine K16.out.mono ?_
  rintro _ _ ⟨rfl, rfl⟩
  go_wp2_with fail
  refine K18.out.mono ?_
  rintro _ _ ⟨rfl, rfl⟩
  go_wp2_with fail
  refine K20.out.mono ?_
  rintro _ _ ⟨rfl, rfl⟩
  go_wp2_with fail
  refine K22.out.mono ?_
  rintro _ _ ⟨rfl, rfl⟩
  go_wp2_with fail
  refine K24.out.mono ?_
  rintro _ _ ⟨rfl, rfl⟩
  go_wp2_with fail
  refine K26.out.mono ?_
  rintro _ _ ⟨rfl, rfl⟩
  go_wp2
  go_ret
  exact ⟨by first | rfl | simp, HB.out⟩
end Go.Proofs.Ytjbbobhjomhnmaa.H
