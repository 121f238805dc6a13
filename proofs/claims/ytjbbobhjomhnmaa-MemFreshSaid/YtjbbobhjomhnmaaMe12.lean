/- known: the memtable chapter's first example (printed by genme12.py). No conditions. -/
import Derived.Test.YtjbbobhjomhnmaaMeB
import Derived.Test.YtjbbobhjomhnmaaMe5
import Derived.Test.YtjbbobhjomhnmaaMe0
import Derived.Test.YtjbbobhjomhnmaaSkF
import Derived.Test.YtjbbobhjomhnmaaSk22
namespace Go.Proofs.Ytjbbobhjomhnmaa.H
open Go Go.RowKit Go.Deep Go.Shelf Go.Proofs Go.Proofs.YtjbbobhjomhnmaaW.PrintWords
set_option linter.unusedVariables false
set_option linter.unusedSimpArgs false
def ws3 : List Wri := [(⟨#[97]⟩, false, ⟨#[49]⟩), (⟨#[98]⟩, false, ⟨#[50]⟩), (⟨#[97]⟩, true, ⟨#[]⟩)]
def ea1m : Ent := (⟨#[97]⟩, 1, false, ⟨#[49]⟩)
def eb2m : Ent := (⟨#[98]⟩, 2, false, ⟨#[50]⟩)
def ea3m : Ent := (⟨#[97]⟩, 3, true, ⟨#[]⟩)
def L3m : List EH := [(ea3m, 1), (ea1m, 1), (eb2m, 1)]
def m3m : MemV := ⟨L3m, 1352, 3, false⟩
theorem ents_3 : ents 1 ws3 = [ea1m, eb2m, ea3m] := rfl
theorem chkB_3 : chkB ws3 = 0 := rfl
theorem adds_1 : addS [] mem0 ea1m = ⟨[(ea1m, 1)], 451, 1, false⟩ := by unfold addS mem0; simp only [hasL_eq, insL_eq]; rfl
theorem adds_2 : addS [] ⟨[(ea1m, 1)], 451, 1, false⟩ eb2m = ⟨[(ea1m, 1), (eb2m, 1)], 902, 2, false⟩ := by unfold addS; simp only [hasL_eq, insL_eq]; rfl
theorem adds_3 : addS [] ⟨[(ea1m, 1), (eb2m, 1)], 902, 2, false⟩ ea3m = m3m := by unfold addS m3m L3m; simp only [hasL_eq, insL_eq]; rfl
theorem addF_3 : addF [] mem0 (ents 1 ws3) = m3m := by
  rw [ents_3]
  show addS [] (addS [] (addS [] mem0 ea1m) eb2m) ea3m = m3m
  rw [adds_1, adds_2, adds_3]
theorem gm_2 : getM m3m.L ⟨#[97]⟩ 2 = (ea1m, true) := by
  unfold getM
  rw [show notAhead ⟨#[97]⟩ 2 (allE m3m.L) = [ea1m, eb2m] by rw [notAhead_eq]; rfl]
  exact if_pos rfl
theorem gm_3 : getM m3m.L ⟨#[97]⟩ 3 = (ea3m, true) := by
  unfold getM
  rw [show notAhead ⟨#[97]⟩ 3 (allE m3m.L) = [ea3m, ea1m, eb2m] by rw [notAhead_eq]; rfl]
  exact if_pos rfl
theorem gm_0 : getM m3m.L ⟨#[97]⟩ 0 = (zeroE, false) := by
  unfold getM
  rw [show notAhead ⟨#[97]⟩ 0 (allE m3m.L) = [eb2m] by rw [notAhead_eq]; rfl]
  exact if_neg (by rw [ByteArray.toList_eq, ByteArray.toList_eq]; decide)
theorem all_3 : notAhead ⟨#[]⟩ 18446744073709551615 (allE m3m.L) = [ea3m, ea1m, eb2m] := by rw [notAhead_eq]; rfl
set_option maxHeartbeats 3200000 in
set_option maxRecDepth 100000 in
theorem known6_c (w : World) : Calls Try.prog 30 #[] w fun e w' => e = .returned (.bool true) ∧ Below w.heap.size w w' := by
  have HNEW := Lib.hid (mnew_c none 0 [] w (Sl.nil _ _ _ _) (by decide) (fun x hx => by simp at hx))
  go_enter Try.func30, Try.ntmps30
  go_wp2_with fail
  refine HNEW.out.mono ?_
  rintro e w1 ⟨t, g, S, rfl, hm0, hS, ht, hb1⟩
  obtain ⟨w2, hw2⟩ : ∃ w2, w1.alloc (.cells #[.string ⟨#[97]⟩, .bool false, .string ⟨#[49]⟩, .string ⟨#[98]⟩, .bool false, .string ⟨#[50]⟩, .string ⟨#[97]⟩, .bool true, .string ⟨#[]⟩] 89) = w2 := ⟨_, rfl⟩
  have hb2 : Below w1.heap.size w1 w2 := by rw [← hw2]; exact (Below.refl _ _).alloc (Nat.le_refl _) _
  have hsl : Sl encW 3 w2 (some ⟨w1.heap.size, 0, none⟩) ws3 := by rw [← hw2]; exact Sl.of_block (fun x => (okW x).1) (heap_alloc_new w1 _) rfl (by decide)
  have ha := add_c (hm0.later hb2) 1 (some ⟨w1.heap.size, 0, none⟩) 3 ws3 hsl (by intro x hx; simp [ws3] at hx; rcases hx with rfl | rfl | rfl <;> exact ⟨by decide, by decide⟩) (by decide) (by decide)
  simp only [show mem0.fz = false from rfl, Bool.false_eq_true, if_false, chkB_3, if_true, addF_3, show ws3.length = 3 from rfl] at ha
  have HADD := Lib.hid ha
  have HB12 := Lib.hid (hb1.trans (hb2.mono hb1.size))
  have HSS := Lib.hid hS
  have HT := Lib.hid ht
  clear ha hsl hb2 hb1 hm0 hS ht
  go_wp2_with fail
  refine HADD.out.mono ?_
  rintro e w3 ⟨rfl, hu, S3, hg, hm3⟩
  have HM3 := Lib.hid hm3
  have HB3 := Lib.hid (hu.below HB12.out (fun k hk => by rcases hk with hk | hk; exact HSS.out k hk; rw [hk]; exact HT.out))
  clear hu hg hm3 hw2
  have s1 := get_c HM3.out ⟨#[97]⟩ 2
  rw [gm_2] at s1
  have HS1 := Lib.hid (show Calls Try.prog 43 #[.pointer (some ⟨t, 0, none⟩), .string ⟨#[97]⟩, .int .u64 2] w3 fun e w' => e = .returned (.tuple #[.agg #[.string ⟨#[97]⟩, .int .u64 1, .bool false, .string ⟨#[49]⟩], .bool true]) ∧ Below w3.heap.size w3 w' from s1)
  clear s1
  go_wp2_with fail
  refine HS1.out.mono ?_
  rintro e v1 ⟨rfl, hb1⟩
  obtain ⟨X1, hX1⟩ : ∃ Z, v1.alloc (.cells #[.string ⟨#[]⟩, .int .u64 0, .bool false, .string ⟨#[]⟩] 53) = Z := ⟨_, rfl⟩
  have rX1 : X1.heap[v1.heap.size]? = some (.cells #[.string ⟨#[]⟩, .int .u64 0, .bool false, .string ⟨#[]⟩] 53 (0, 0)) := by rw [← hX1]; exact heap_alloc_new _ _
  obtain ⟨⟨y10, y11, y12, y13⟩, g10, g11, g12, g13⟩ := cells4 rX1
  obtain ⟨X1a, hX1a⟩ : ∃ Z4, (((X1.setCell ⟨v1.heap.size, 0, none⟩ (.string ⟨#[97]⟩)).setCell ⟨v1.heap.size, 1, none⟩ (.int .u64 1)).setCell ⟨v1.heap.size, 2, none⟩ (.bool false)).setCell ⟨v1.heap.size, 3, none⟩ (.string ⟨#[49]⟩) = Z4 := ⟨_, rfl⟩
  have qX1 : X1a.heap[v1.heap.size]? = some (.cells #[.string ⟨#[97]⟩, .int .u64 1, .bool false, .string ⟨#[49]⟩] 53 (0, 0)) := by rw [← hX1a]; exact put4_heap rX1
  have bX1 : Below v1.heap.size v1 X1a := by
    rw [← hX1a, ← hX1]
    exact ((Below.refl _ _).alloc (Nat.le_refl _) _).trans ((put4_upd (S := fun k => k = v1.heap.size) _ _ _ _ _ rfl).bel (fun k hk => by omega) (by simp))
  have BX1 := Lib.hid bX1
  have QX1 := Lib.hid qX1
  clear bX1 qX1 rX1
  have C1 := Lib.hid (show Below w3.heap.size w3 X1a from hb1.trans (BX1.out.mono hb1.size))
  have HMX1 := Lib.hid (HM3.out.later C1.out)
  clear hb1
  have s2 := get_c HMX1.out ⟨#[97]⟩ 3
  rw [gm_3] at s2
  have HS2 := Lib.hid (show Calls Try.prog 43 #[.pointer (some ⟨t, 0, none⟩), .string ⟨#[97]⟩, .int .u64 3] X1a fun e w' => e = .returned (.tuple #[.agg #[.string ⟨#[97]⟩, .int .u64 3, .bool true, .string ⟨#[]⟩], .bool true]) ∧ Below X1a.heap.size X1a w' from s2)
  clear s2
  go_wp2_with fail
  refine HS2.out.mono ?_
  rintro e v2 ⟨rfl, hb2⟩
  obtain ⟨X2, hX2⟩ : ∃ Z, v2.alloc (.cells #[.string ⟨#[]⟩, .int .u64 0, .bool false, .string ⟨#[]⟩] 53) = Z := ⟨_, rfl⟩
  have rX2 : X2.heap[v2.heap.size]? = some (.cells #[.string ⟨#[]⟩, .int .u64 0, .bool false, .string ⟨#[]⟩] 53 (0, 0)) := by rw [← hX2]; exact heap_alloc_new _ _
  obtain ⟨⟨y20, y21, y22, y23⟩, g20, g21, g22, g23⟩ := cells4 rX2
  obtain ⟨X2a, hX2a⟩ : ∃ Z4, (((X2.setCell ⟨v2.heap.size, 0, none⟩ (.string ⟨#[97]⟩)).setCell ⟨v2.heap.size, 1, none⟩ (.int .u64 3)).setCell ⟨v2.heap.size, 2, none⟩ (.bool true)).setCell ⟨v2.heap.size, 3, none⟩ (.string ⟨#[]⟩) = Z4 := ⟨_, rfl⟩
  have qX2 : X2a.heap[v2.heap.size]? = some (.cells #[.string ⟨#[97]⟩, .int .u64 3, .bool true, .string ⟨#[]⟩] 53 (0, 0)) := by rw [← hX2a]; exact put4_heap rX2
  have bX2 : Below v2.heap.size v2 X2a := by
    rw [← hX2a, ← hX2]
    exact ((Below.refl _ _).alloc (Nat.le_refl _) _).trans ((put4_upd (S := fun k => k = v2.heap.size) _ _ _ _ _ rfl).bel (fun k hk => by omega) (by simp))
  have BX2 := Lib.hid bX2
  have QX2 := Lib.hid qX2
  clear bX2 qX2 rX2
  have C2 := Lib.hid (show Below X1a.heap.size X1a X2a from hb2.trans (BX2.out.mono hb2.size))
  have HMX2 := Lib.hid (HMX1.out.later C2.out)
  clear hb2
  have s3 := get_c HMX2.out ⟨#[97]⟩ 0
  rw [gm_0] at s3
  have HS3 := Lib.hid (show Calls Try.prog 43 #[.pointer (some ⟨t, 0, none⟩), .string ⟨#[97]⟩, .int .u64 0] X2a fun e w' => e = .returned (.tuple #[.agg #[.string ⟨#[]⟩, .int .u64 0, .bool false, .string ⟨#[]⟩], .bool false]) ∧ Below X2a.heap.size X2a w' from s3)
  clear s3
  go_wp2_with fail
  refine HS3.out.mono ?_
  rintro e v3 ⟨rfl, hb3⟩
  obtain ⟨X3, hX3⟩ : ∃ Z, v3.alloc (.cells #[.string ⟨#[]⟩, .int .u64 0, .bool false, .string ⟨#[]⟩] 53) = Z := ⟨_, rfl⟩
  have rX3 : X3.heap[v3.heap.size]? = some (.cells #[.string ⟨#[]⟩, .int .u64 0, .bool false, .string ⟨#[]⟩] 53 (0, 0)) := by rw [← hX3]; exact heap_alloc_new _ _
  obtain ⟨⟨y30, y31, y32, y33⟩, g30, g31, g32, g33⟩ := cells4 rX3
  obtain ⟨X3a, hX3a⟩ : ∃ Z4, (((X3.setCell ⟨v3.heap.size, 0, none⟩ (.string ⟨#[]⟩)).setCell ⟨v3.heap.size, 1, none⟩ (.int .u64 0)).setCell ⟨v3.heap.size, 2, none⟩ (.bool false)).setCell ⟨v3.heap.size, 3, none⟩ (.string ⟨#[]⟩) = Z4 := ⟨_, rfl⟩
  have qX3 : X3a.heap[v3.heap.size]? = some (.cells #[.string ⟨#[]⟩, .int .u64 0, .bool false, .string ⟨#[]⟩] 53 (0, 0)) := by rw [← hX3a]; exact put4_heap rX3
  have bX3 : Below v3.heap.size v3 X3a := by
    rw [← hX3a, ← hX3]
    exact ((Below.refl _ _).alloc (Nat.le_refl _) _).trans ((put4_upd (S := fun k => k = v3.heap.size) _ _ _ _ _ rfl).bel (fun k hk => by omega) (by simp))
  have BX3 := Lib.hid bX3
  have QX3 := Lib.hid qX3
  clear bX3 qX3 rX3
  have C3 := Lib.hid (show Below X2a.heap.size X2a X3a from hb3.trans (BX3.out.mono hb3.size))
  have HMX3 := Lib.hid (HMX2.out.later C3.out)
  clear hb3
  have HALL := Lib.hid (mall_v HMX3.out (Below.refl _ _))
  go_wp2_with fail
  refine HALL.out.mono ?_
  rintro e w4 ⟨f, rfl, hit, hb4⟩
  rw [all_3] at hit
  have HTK := Lib.hid (taken6_c f (-1) _ _ w4 hit hb4.size (by decide))
  clear hit
  go_wp2_with fail
  refine HTK.out.mono ?_
  rintro e w5 ⟨v, rfl, hown, hb5⟩
  obtain ⟨A5, c5, rfl⟩ := own_slice hown
  rw [show (takeN (-1) [ea3m, ea1m, eb2m]).length = 3 from rfl]
  clear hown
  have C4 := Lib.hid (hb4.trans (hb5.mono hb4.size))
  have D23 := Lib.hid (C2.out.trans (C3.out.mono C2.out.size))
  have D24 := Lib.hid (D23.out.trans (C4.out.mono D23.out.size))
  have D34 := Lib.hid (C3.out.trans (C4.out.mono C3.out.size))
  have HM5 := Lib.hid (HMX3.out.later C4.out)
  have HBE := Lib.hid (show Below w.heap.size w w5 from (HB3.out.trans (C1.out.mono HB3.out.size)).trans (D24.out.mono (HB3.out.trans (C1.out.mono HB3.out.size)).size))
  obtain ⟨⟨p0, p1, p2, p3⟩, _⟩ := cells4 (blk_below QX1.out D24.out)
  obtain ⟨⟨q0, q1, q2, q3⟩, _⟩ := cells4 (blk_below QX2.out D34.out)
  obtain ⟨⟨r0, r1, r2, r3⟩, _⟩ := cells4 (blk_below QX3.out C4.out)
  have HW := Lib.hid (show Calls Try.prog 39 #[.pointer (some ⟨t, 0, none⟩)] w5 fun e w' => e = .returned (.int .i64 1352) ∧ w5 = w' from mweight_c HM5.out)
  have HL := Lib.hid (show Calls Try.prog 40 #[.pointer (some ⟨t, 0, none⟩)] w5 fun e w' => e = .returned (.int .u64 3) ∧ w5 = w' from mlast_c HM5.out)
  clear hb4 hb5
  go_wp2_with fail
  refine HW.out.mono ?_
  rintro _ _ ⟨rfl, rfl⟩
  go_wp2_with fail
  refine HL.out.mono ?_
  rintro _ _ ⟨rfl, rfl⟩
  go_wp2
  go_ret
  exact ⟨rfl, HBE.out⟩
end Go.Proofs.Ytjbbobhjomhnmaa.H
