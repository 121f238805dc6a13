/- Room: Bytes, Hold, of a room that holds copies of bytes alone (printed by genroom2.py). Conditions: sizes. -/
import Derived.Test.YtjbbobhjomhnmaaRoom1
namespace Go.Proofs.Ytjbbobhjomhnmaa.H
open Go Go.RowKit Go.Deep Go.Shelf Go.Proofs Go.Proofs.YtjbbobhjomhnmaaW.PrintWords
set_option linter.unusedVariables false
set_option linter.unusedSimpArgs false
theorem bytes_c (g : Nat) (bs : List RB) (u1 u2 : Value) (A : Option Addr) (c : Nat) (l : List Int) (hn : l.length ≤ 140737488351232) (w : World) (hs : Sl encB 1 w A l) (hR : RoomIs w g bs u1 u2) (hbl : bs.length ≤ 100) :
    Calls Try.prog 12 #[.pointer (some ⟨g, 0, none⟩), .slice A l.length c] w fun e w' => ∃ f cf v1 v2, e = .returned (.slice (some ⟨f, 0, none⟩) l.length (l.length + 600)) ∧ RoomIs w' g (bs ++ [(f, l.length, cf)]) v1 v2 ∧ Sl encB 1 w' (some ⟨f, 0, none⟩) l ∧
      w.heap.size ≤ f ∧ (∃ cs, w'.heap[f]? = some (.cells cs 5 (0, 0))) ∧ Upd (RoomW g u1 u2) w w' ∧ Grow (RoomR g bs u1 u2) (RoomR g (bs ++ [(f, l.length, cf)]) v1 v2) w := by
  have HL := Lib.hid (layBytes_c g bs u1 u2 A c l hn w hs hR hbl)
  clear hs hR
  go_enter Try.func12, Try.ntmps12
  go_wp2_with fail
  refine HL.out.mono ?_
  rintro _ w1 ⟨f, cf, v1, v2, rfl, h1, h2, h3, h6, h4, h5⟩
  have H1 := Lib.hid h1
  have H2 := Lib.hid h2
  have H3 := Lib.hid h3
  have H4 := Lib.hid h4
  have H5 := Lib.hid h5
  have H6 := Lib.hid h6
  clear h1 h2 h3 h4 h5 h6
  go_wp2
  go_ret
  exact ⟨f, cf, v1, v2, rfl, H1.out, H2.out, H3.out, H6.out, H4.out, H5.out⟩
theorem holdInts_c (g : Nat) (w : World) (h : w.cell? ⟨g, 2, none⟩ = some (.slice none 0 0)) : Calls Try.prog 60 #[.pointer (some ⟨g, 0, none⟩)] w fun e w' => e = .returned (.bool true) ∧ w = w' := by
  go_enter Try.func60, Try.ntmps60
  go_wp2
  refine wp_loop_rounds 1 ?_
  rw [rounds_succ]
  go_wp2
  go_ret
  exact ⟨by simp, rfl⟩
theorem holdNums_c (g : Nat) (w : World) (h : w.cell? ⟨g, 4, none⟩ = some (.slice none 0 0)) : Calls Try.prog 61 #[.pointer (some ⟨g, 0, none⟩)] w fun e w' => e = .returned (.bool true) ∧ w = w' := by
  go_enter Try.func61, Try.ntmps61
  go_wp2
  refine wp_loop_rounds 1 ?_
  rw [rounds_succ]
  go_wp2
  go_ret
  exact ⟨by simp, rfl⟩
theorem holdTexts_c (g : Nat) (w : World) (h : w.cell? ⟨g, 6, none⟩ = some (.slice none 0 0)) : Calls Try.prog 62 #[.pointer (some ⟨g, 0, none⟩)] w fun e w' => e = .returned (.bool true) ∧ w = w' := by
  go_enter Try.func62, Try.ntmps62
  go_wp2
  refine wp_loop_rounds 1 ?_
  rw [rounds_succ]
  go_wp2
  go_ret
  exact ⟨by simp, rfl⟩
theorem holdEntries_c (g : Nat) (w : World) (h : w.cell? ⟨g, 8, none⟩ = some (.slice none 0 0)) : Calls Try.prog 63 #[.pointer (some ⟨g, 0, none⟩)] w fun e w' => e = .returned (.bool true) ∧ w = w' := by
  go_enter Try.func63, Try.ntmps63
  go_wp2
  refine wp_loop_rounds 1 ?_
  rw [rounds_succ]
  go_wp2
  go_ret
  exact ⟨by simp, rfl⟩
theorem holdPairs_c (g : Nat) (w : World) (h : w.cell? ⟨g, 10, none⟩ = some (.slice none 0 0)) : Calls Try.prog 64 #[.pointer (some ⟨g, 0, none⟩)] w fun e w' => e = .returned (.bool true) ∧ w = w' := by
  go_enter Try.func64, Try.ntmps64
  go_wp2
  refine wp_loop_rounds 1 ?_
  rw [rounds_succ]
  go_wp2
  go_ret
  exact ⟨by simp, rfl⟩
theorem holdWrites_c (g : Nat) (w : World) (h : w.cell? ⟨g, 12, none⟩ = some (.slice none 0 0)) : Calls Try.prog 65 #[.pointer (some ⟨g, 0, none⟩)] w fun e w' => e = .returned (.bool true) ∧ w = w' := by
  go_enter Try.func65, Try.ntmps65
  go_wp2
  refine wp_loop_rounds 1 ?_
  rw [rounds_succ]
  go_wp2
  go_ret
  exact ⟨by simp, rfl⟩
theorem holdTables_c (g : Nat) (w : World) (h : w.cell? ⟨g, 14, none⟩ = some (.slice none 0 0)) : Calls Try.prog 66 #[.pointer (some ⟨g, 0, none⟩)] w fun e w' => e = .returned (.bool true) ∧ w = w' := by
  go_enter Try.func66, Try.ntmps66
  go_wp2
  refine wp_loop_rounds 1 ?_
  rw [rounds_succ]
  go_wp2
  go_ret
  exact ⟨by simp, rfl⟩
theorem holdPlaces_c (g : Nat) (w : World) (h : w.cell? ⟨g, 16, none⟩ = some (.slice none 0 0)) : Calls Try.prog 67 #[.pointer (some ⟨g, 0, none⟩)] w fun e w' => e = .returned (.bool true) ∧ w = w' := by
  go_enter Try.func67, Try.ntmps67
  go_wp2
  refine wp_loop_rounds 1 ?_
  rw [rounds_succ]
  go_wp2
  go_ret
  exact ⟨by simp, rfl⟩
theorem holdPlaceds_c (g : Nat) (w : World) (h : w.cell? ⟨g, 18, none⟩ = some (.slice none 0 0)) : Calls Try.prog 68 #[.pointer (some ⟨g, 0, none⟩)] w fun e w' => e = .returned (.bool true) ∧ w = w' := by
  go_enter Try.func68, Try.ntmps68
  go_wp2
  refine wp_loop_rounds 1 ?_
  rw [rounds_succ]
  go_wp2
  go_ret
  exact ⟨by simp, rfl⟩
theorem holdChunks_c (g : Nat) (w : World) (h : w.cell? ⟨g, 20, none⟩ = some (.slice none 0 0)) : Calls Try.prog 69 #[.pointer (some ⟨g, 0, none⟩)] w fun e w' => e = .returned (.bool true) ∧ w = w' := by
  go_enter Try.func69, Try.ntmps69
  go_wp2
  refine wp_loop_rounds 1 ?_
  rw [rounds_succ]
  go_wp2
  go_ret
  exact ⟨by simp, rfl⟩
theorem holdGroups_c (g : Nat) (w : World) (h : w.cell? ⟨g, 22, none⟩ = some (.slice none 0 0)) : Calls Try.prog 70 #[.pointer (some ⟨g, 0, none⟩)] w fun e w' => e = .returned (.bool true) ∧ w = w' := by
  go_enter Try.func70, Try.ntmps70
  go_wp2
  refine wp_loop_rounds 1 ?_
  rw [rounds_succ]
  go_wp2
  go_ret
  exact ⟨by simp, rfl⟩
theorem holdFiles_c (g : Nat) (w : World) (h : w.cell? ⟨g, 24, none⟩ = some (.slice none 0 0)) : Calls Try.prog 71 #[.pointer (some ⟨g, 0, none⟩)] w fun e w' => e = .returned (.bool true) ∧ w = w' := by
  go_enter Try.func71, Try.ntmps71
  go_wp2
  refine wp_loop_rounds 1 ?_
  rw [rounds_succ]
  go_wp2
  go_ret
  exact ⟨by simp, rfl⟩
theorem holdSteps_c (g : Nat) (w : World) (h : w.cell? ⟨g, 26, none⟩ = some (.slice none 0 0)) : Calls Try.prog 72 #[.pointer (some ⟨g, 0, none⟩)] w fun e w' => e = .returned (.bool true) ∧ w = w' := by
  go_enter Try.func72, Try.ntmps72
  go_wp2
  refine wp_loop_rounds 1 ?_
  rw [rounds_succ]
  go_wp2
  go_ret
  exact ⟨by simp, rfl⟩
set_option maxHeartbeats 6400000 in
set_option maxRecDepth 100000 in
theorem holdBytes_c (g : Nat) (bs : List RB) (u1 u2 : Value) (w : World) (hR : RoomIs w g bs u1 u2) (hbl : bs.length ≤ 100) : Calls Try.prog 59 #[.pointer (some ⟨g, 0, none⟩)] w fun e w' => e = .returned (.bool true) ∧ Below w.heap.size w w' := by
  obtain ⟨Au, cu, rfl⟩ := own_slice hR.o1
  obtain ⟨Av, cv, rfl⟩ := own_slice hR.o2
  obtain ⟨bn, hbn⟩ : ∃ n, bs.length = n := ⟨_, rfl⟩
  have hbn2 : (lensB bs).length = bn := by unfold lensB; rw [List.length_map, hbn]
  have HBN := Lib.hid hbn
  rw [hbn, hbn2] at hR
  rw [hbn] at hbl
  obtain ⟨_, _, e, _, hs1, _⟩ := hR.o1.slice (fun x => (okRB x).1)
  injection e with e1 e2 e3
  rw [← e1] at hs1
  obtain ⟨_, _, e, _, hs2, _⟩ := hR.o2.slice (fun x => (okI x).1)
  injection e with f1 f2 f3
  rw [← f1] at hs2
  have HS1 := Lib.hid hs1
  have HS2 := Lib.hid hs2
  have HR := Lib.hid hR
  clear hbn hbn2 hR hs1 hs2 e1 e2 e3 f1 f2 f3
  go_enter Try.func59, Try.ntmps59
  go_wp2_with fail
  go_loopw [3] (fun s3 wr => ∃ i : Nat, s3 = .int .i64 (i : Int) ∧ i ≤ bn ∧ Below w.heap.size w wr) (fun s3 wr => bn - (intOf s3).toNat)
  case atStart => exact ⟨0, rfl, by omega, Below.refl _ _⟩
  case round =>
    obtain ⟨i, rfl, hi, hb⟩ := hrel
    generalize wr = wx at *
    have HB := Lib.hid hb
    have c0 : wx.cell? ⟨g, 0, none⟩ = some (.slice Au bn cu) := cell_later hb ((blk_cell HR.out.row 0).trans rfl)
    clear hb
    by_cases hlt : i < bn
    · have i1 : (0 : Int) ≤ i := by omega
      have i2 : (i : Int) < bn := by omega
      obtain ⟨x, hx⟩ := getElem?_of_lt (l := bs) (by rw [HBN.out]; exact hlt : i < bs.length)
      have hxm := List.mem_of_getElem? hx
      have hxs := HR.out.small x hxm
      have HMK := Lib.hid (HR.out.marks x hxm)
      obtain ⟨b1, o1, hA1, _, hc1⟩ := HS1.out.at hx
      obtain ⟨b2, o2, hA2, _, hc2⟩ := HS2.out.at (show (lensB bs)[i]? = some (x.2.1 : Int) by unfold lensB; rw [List.getElem?_map, hx]; rfl)
      subst hA1
      subst hA2
      obtain ⟨xf, xn, xc⟩ := x
      simp only at hxs
      have Y1 := Lib.hid (show w.cell? ⟨b1, o1 + i, none⟩ = some (.slice (some ⟨xf, 0, none⟩) (xn + 600) xc) by simpa using hc1 0 _ rfl)
      have y2 : wx.cell? ⟨b2, o2 + i, none⟩ = some (.int .i64 (xn : Int)) := cell_later HB.out (by simpa using hc2 0 _ rfl)
      have d1 : wx.cell? ⟨g, 1, none⟩ = some (.slice (some ⟨b2, o2, none⟩) bn cv) := cell_later HB.out ((blk_cell HR.out.row 1).trans rfl)
      have C0 := Lib.hid (show w.cell? ⟨g, 0, none⟩ = some (.slice (some ⟨b1, o1, none⟩) bn cu) from (blk_cell HR.out.row 0).trans rfl)
      clear hx hxm hc1 hc2
      go_wp2_with fail
      go_loopw [5] (fun s5 wr => ∃ m : Nat, s5 = .int .i64 ((xn : Int) + (m : Int)) ∧ m ≤ 600 ∧ Below w.heap.size w wr) (fun s5 wr => xn + 600 - (intOf s5).toNat)
      case atStart => exact ⟨0, by simp, by omega, HB.out⟩
      case round =>
        obtain ⟨m, rfl, hm, hb⟩ := hrel
        have HBM := Lib.hid hb
        have c0 : wr.cell? ⟨g, 0, none⟩ = some (.slice (some ⟨b1, o1, none⟩) bn cu) := cell_later hb C0.out
        have y1 : wr.cell? ⟨b1, o1 + i, none⟩ = some (.slice (some ⟨xf, 0, none⟩) (xn + 600) xc) := cell_later hb Y1.out
        clear hb
        have i3 : (0 : Int) ≤ (xn : Int) + (m : Int) := by omega
        by_cases hm6 : m < 600
        · have i4 : (xn : Int) + (m : Int) < (xn : Int) + 600 := by omega
          have y3 : wr.cell? ⟨xf, xn + m, none⟩ = some (.int .u8 (lotB m)) := cell_later HBM.out (by simpa using HMK.out m hm6)
          have hlb := lot_byte m
          obtain ⟨li, hli⟩ : ∃ x, lotI m = x := ⟨_, rfl⟩
          obtain ⟨lb, hlb2⟩ : ∃ x, lotB m = x := ⟨_, rfl⟩
          have HLC := Lib.hid (show Calls Try.prog 105 #[.int .i64 (m : Int)] wr fun e w' => e = .returned (.int .i64 li) ∧ wr = w' by rw [← hli]; exact lot_c m (by omega) wr)
          rw [hli, hlb2] at hlb
          rw [hlb2] at y3
          have hsub : (xn : Int) + (m : Int) - (xn : Int) = (m : Int) := by omega
          clear hli hlb2
          go_wp2_with fail
          refine HLC.out.mono ?_
          rintro _ _ ⟨rfl, rfl⟩
          go_wp2
          go_roundw
          case rel => exact ⟨m + 1, by first | rfl | (congr 1; push_cast; omega) | (simp; omega), by omega, HBM.out⟩
          case measure => simp [intOf]; omega
        · have hm2 : m = 600 := by omega
          have i4 : ¬ (xn : Int) + (m : Int) < (xn : Int) + 600 := by omega
          clear hm6 hm hm2
          go_wp2
          go_roundw
          case rel => exact ⟨i + 1, by first | rfl | simp, by omega, HBM.out⟩
          case measure => simp [intOf]; omega
    · have hi2 : i = bn := by omega
      have i9 : (bn : Int) ≤ i := by omega
      clear hlt hi hi2
      go_wp2
      go_ret
      exact ⟨by first | rfl | simp, HB.out⟩
set_option maxHeartbeats 6400000 in
set_option maxRecDepth 100000 in
theorem hold_c (g : Nat) (bs : List RB) (u1 u2 : Value) (w : World) (hR : RoomIs w g bs u1 u2) (hbl : bs.length ≤ 100) : Calls Try.prog 15 #[.pointer (some ⟨g, 0, none⟩)] w fun e w' => e = .returned (.bool true) ∧ Below w.heap.size w w' := by
  have HH := Lib.hid (holdBytes_c g bs u1 u2 w hR hbl)
  have HR := Lib.hid hR
  clear hR
  go_enter Try.func15, Try.ntmps15
  go_wp2_with fail
  refine HH.out.mono ?_
  rintro _ w1 ⟨rfl, hb⟩
  have HB := Lib.hid hb
  have hrow := blk_below HR.out.row hb
  have c2 : w1.cell? ⟨g, 2, none⟩ = some (.slice none 0 0) := (blk_cell hrow 2).trans rfl
  have c4 : w1.cell? ⟨g, 4, none⟩ = some (.slice none 0 0) := (blk_cell hrow 4).trans rfl
  have c6 : w1.cell? ⟨g, 6, none⟩ = some (.slice none 0 0) := (blk_cell hrow 6).trans rfl
  have c8 : w1.cell? ⟨g, 8, none⟩ = some (.slice none 0 0) := (blk_cell hrow 8).trans rfl
  have c10 : w1.cell? ⟨g, 10, none⟩ = some (.slice none 0 0) := (blk_cell hrow 10).trans rfl
  have c12 : w1.cell? ⟨g, 12, none⟩ = some (.slice none 0 0) := (blk_cell hrow 12).trans rfl
  have c14 : w1.cell? ⟨g, 14, none⟩ = some (.slice none 0 0) := (blk_cell hrow 14).trans rfl
  have c16 : w1.cell? ⟨g, 16, none⟩ = some (.slice none 0 0) := (blk_cell hrow 16).trans rfl
  have c18 : w1.cell? ⟨g, 18, none⟩ = some (.slice none 0 0) := (blk_cell hrow 18).trans rfl
  have c20 : w1.cell? ⟨g, 20, none⟩ = some (.slice none 0 0) := (blk_cell hrow 20).trans rfl
  have c22 : w1.cell? ⟨g, 22, none⟩ = some (.slice none 0 0) := (blk_cell hrow 22).trans rfl
  have c24 : w1.cell? ⟨g, 24, none⟩ = some (.slice none 0 0) := (blk_cell hrow 24).trans rfl
  have c26 : w1.cell? ⟨g, 26, none⟩ = some (.slice none 0 0) := (blk_cell hrow 26).trans rfl
  have H2 := Lib.hid (holdInts_c g w1 c2)
  have H4 := Lib.hid (holdNums_c g w1 c4)
  have H6 := Lib.hid (holdTexts_c g w1 c6)
  have H8 := Lib.hid (holdEntries_c g w1 c8)
  have H10 := Lib.hid (holdPairs_c g w1 c10)
  have H12 := Lib.hid (holdWrites_c g w1 c12)
  have H14 := Lib.hid (holdTables_c g w1 c14)
  have H16 := Lib.hid (holdPlaces_c g w1 c16)
  have H18 := Lib.hid (holdPlaceds_c g w1 c18)
  have H20 := Lib.hid (holdChunks_c g w1 c20)
  have H22 := Lib.hid (holdGroups_c g w1 c22)
  have H24 := Lib.hid (holdFiles_c g w1 c24)
  have H26 := Lib.hid (holdSteps_c g w1 c26)
  clear hb hrow c2 c4 c6 c8 c10 c12 c14 c16 c18 c20 c22 c24 c26
  go_wp2_with fail
  refine H2.out.mono ?_
  rintro _ _ ⟨rfl, rfl⟩
  go_wp2_with fail
  refine H4.out.mono ?_
  rintro _ _ ⟨rfl, rfl⟩
  go_wp2_with fail
  refine H6.out.mono ?_
  rintro _ _ ⟨rfl, rfl⟩
  go_wp2_with fail
  refine H8.out.mono ?_
  rintro _ _ ⟨rfl, rfl⟩
  go_wp2_with fail
  refine H10.out.mono ?_
  rintro _ _ ⟨rfl, rfl⟩
  go_wp2_with fail
  refine H12.out.mono ?_
  rintro _ _ ⟨rfl, rfl⟩
  go_wp2_with fail
  refine H14.out.mono ?_
  rintro _ _ ⟨rfl, rfl⟩
  go_wp2_with fail
  refine H16.out.mono ?_
  rintro _ _ ⟨rfl, rfl⟩
  go_wp2_with fail
  refine H18.out.mono ?_
  rintro _ _ ⟨rfl, rfl⟩
  go_wp2_with fail
  refine H20.out.mono ?_
  rintro _ _ ⟨rfl, rfl⟩
  go_wp2_with fail
  refine H22.out.mono ?_
  rintro _ _ ⟨rfl, rfl⟩
  go_wp2_with fail
  refine H24.out.mono ?_
  rintro _ _ ⟨rfl, rfl⟩
  go_wp2_with fail
  refine H26.out.mono ?_
  rintro _ _ ⟨rfl, rfl⟩
  go_wp2
  go_ret
  exact ⟨by first | rfl | simp, HB.out⟩
end Go.Proofs.Ytjbbobhjomhnmaa.H
