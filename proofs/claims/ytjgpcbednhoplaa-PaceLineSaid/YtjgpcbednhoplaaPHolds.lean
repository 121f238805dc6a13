/- PaceHolds: the walk. Conditions: the numbers are ints. -/
import Derived.Test.YtjgpcbednhoplaaPLaws1
namespace Go.Proofs.Ytjgpcbednhoplaa.H
open Go.RowKit Go.Deep Go.Shelf Go.Proofs Go.Proofs.YtjgpcbednhoplaaW.PrintWords
set_option linter.unusedVariables false
set_option linter.unusedSimpArgs false
theorem joined_len (l : List Int) (x : Int) : (joined l x).length ≤ l.length + 1 := by unfold joined; split <;> simp
theorem erase_len (l : List Int) (x : Int) : (l.erase x).length ≤ l.length := List.length_erase_le
theorem BuckIs.tight {w : World} {b : Nat} {S : Nat → Prop} {l : List Int} {t r u : Int} (h : BuckIs w b S l t r u) : BuckIs w b (fun k => S k ∧ k < w.heap.size) l t r u := by
  obtain ⟨g, S', hb, hl, hS, hk⟩ := h
  exact ⟨g, _, hb, hl.tight, ⟨hS, blk_lt hb⟩, fun k h => ⟨⟨(hk k h.1).1, h.2⟩, (hk k h.1).2⟩⟩
set_option maxHeartbeats 3200000 in
set_option maxRecDepth 100000 in
theorem paceHolds_c (rate burst m : Int) (hr : I64 rate) (hu : I64 burst) (hm : I64 m) (A : Option Addr) (c : Nat) (l : List OpT) (w : World) (hs : Sl encOp 3 w A l) (hq : ∀ x ∈ l, QOp x) :
    Calls Try.prog 5 #[.int .i64 rate, .int .i64 burst, .int .i64 m, .slice A l.length c] w fun e w' => e = .returned (.bool true) ∧ Below w.heap.size w w' := by
  have hlen := hs.1
  have HS := Lib.hid hs
  have HQ := Lib.hid hq
  clear hs hq
  obtain ⟨n, hn⟩ : ∃ n, l.length = n := ⟨_, rfl⟩
  rw [hn] at hlen ⊢
  have HN := Lib.hid hn
  clear hn
  have HRR := Lib.hid hr
  have HUU := Lib.hid hu
  obtain ⟨r1, r2⟩ := hr
  obtain ⟨u1, u2⟩ := hu
  obtain ⟨m1, m2⟩ := hm
  go_enter Try.func5, Try.ntmps5
  go_wp2_with fail
  refine (known_c _).mono ?_
  rintro e w1 ⟨rfl, hb1⟩
  have HB1 := Lib.hid hb1
  clear hb1
  by_cases g1 : (n : Int) > 2000
  · go_wp2
    go_ret
    exact ⟨by rfl, HB1.out⟩
  by_cases g2 : rate < 0
  · go_wp2
    go_ret
    exact ⟨by rfl, HB1.out⟩
  by_cases g3 : burst < 0
  · go_wp2
    go_ret
    exact ⟨by rfl, HB1.out⟩
  by_cases g4 : m < 0
  · go_wp2
    go_ret
    exact ⟨by rfl, HB1.out⟩
  by_cases g5 : rate > 1099511627776
  · go_wp2
    go_ret
    exact ⟨by rfl, HB1.out⟩
  by_cases g6 : burst > 1099511627776
  · go_wp2
    go_ret
    exact ⟨by rfl, HB1.out⟩
  by_cases g7 : m > 1099511627776
  · go_wp2
    go_ret
    exact ⟨by rfl, HB1.out⟩
  go_wp2_with fail
  refine (newBucket_c rate burst _).mono ?_
  rw [show abv burst = burst by unfold abv; rw [if_neg (by omega)], show abv rate = rate by unfold abv; rw [if_neg (by omega)]]
  rintro e w2 ⟨b, rfl, hk, hb2⟩
  have HB2 := Lib.hid (HB1.out.trans (hb2.mono HB1.out.size))
  have HZ := Lib.hid HB1.out.size
  have HK2 := Lib.hid (show BuckIs w2 b (fun k => w1.heap.size ≤ k) [] burst rate burst from hk.mono (fun k h => by rcases h with h | h; exact h.elim; exact h))
  have HS2 := Lib.hid hb2.size
  clear hk hb2
  have hn2 : n ≤ 2000 := by omega
  have r3 : 0 ≤ rate := by omega
  have u3 : 0 ≤ burst := by omega
  have m3 : 0 ≤ m := by omega
  have r4 : rate ≤ 1099511627776 := by omega
  have u4 : burst ≤ 1099511627776 := by omega
  have m4 : m ≤ 1099511627776 := by omega
  clear g1 g2 g3 g4 g5 g6 g7 r1 r2 u1 u2 m1 m2
  go_wp2
  go_loopw [11, 12] (fun s11 s12 wr => ∃ (k : Nat) (v t : Int) (ln : List Int), s12 = .int .i64 k ∧ s11 = .int .i64 v ∧ k ≤ n ∧ ln.length ≤ k ∧ 0 ≤ v ∧ v ≤ burst + m ∧ v + t ≤ burst ∧ -1099511627776 ≤ t ∧ t ≤ burst ∧ BuckIs wr b (fun k => w1.heap.size ≤ k) ln t rate burst ∧ Below w.heap.size w wr ∧ w1.heap.size ≤ wr.heap.size) (fun _ s12 _ => n - (intOf s12).toNat)
  case atStart => exact ⟨0, 0, burst, [], rfl, rfl, by omega, by simp, by omega, by omega, by omega, by omega, by omega, HK2.out, HB2.out, HS2.out⟩
  case round =>
    obtain ⟨k, v, t, ln, rfl, rfl, hk, hln, v1, v2, v3, t1, t2, hbk, hbw, hsz⟩ := hrel
    have HBK := Lib.hid hbk
    have HBW := Lib.hid hbw
    have HSZ := Lib.hid hsz
    clear hbk hbw hsz
    have i1 : (0 : Int) ≤ k := by omega
    by_cases hlt : k < n
    · have i2 : (k : Int) < n := by omega
      obtain ⟨⟨kd, who, num⟩, hx⟩ := getElem?_of_lt (l := l) (by have := HN.out; omega : k < l.length)
      have hqx := HQ.out _ (List.mem_of_getElem? hx)
      have HW := Lib.hid (wf_i64 hqx.2.2)
      obtain ⟨b3, o3, rfl, hb3, hc3⟩ := HS.out.at hx
      have HLT := Lib.hid hb3
      have a0 : wr.cell? ⟨b3, o3 + k * 3, none⟩ = some (.int .i64 kd) := (HBW.out.cell (p := ⟨b3, o3 + k * 3, none⟩) hb3).trans (by simpa using hc3 0 _ rfl)
      have a1 : wr.cell? ⟨b3, o3 + k * 3 + 1, none⟩ = some (.int .i64 who) := (HBW.out.cell (p := ⟨b3, o3 + k * 3 + 1, none⟩) hb3).trans (by simpa using hc3 1 _ rfl)
      have a2 : wr.cell? ⟨b3, o3 + k * 3 + 2, none⟩ = some (.int .i64 num) := (HBW.out.cell (p := ⟨b3, o3 + k * 3 + 2, none⟩) hb3).trans (by simpa using hc3 2 _ rfl)
      clear hc3 hqx hx hb3
      by_cases k1 : kd = 1
      · subst k1
        have HB0 := Lib.hid ((HBK.out.tight.upd (Upd.alloc (S := fun _ => False) wr (.cells #[.int .i64 1, .int .i64 who, .int .i64 num] 38)) (fun k _ h => h)).mono (T := fun k => w1.heap.size ≤ k ∧ k ≠ wr.heap.size) (fun k h => ⟨h.1, by have := h.2; omega⟩))
        have HW0 := Lib.hid (HBW.out.alloc HBW.out.size (.cells #[.int .i64 1, .int .i64 who, .int .i64 num] 38))
        have HSO := Lib.hid (World.size_alloc wr (.cells #[.int .i64 1, .int .i64 who, .int .i64 num] 38))
        have HX0 := Lib.hid (heap_alloc_new wr (.cells #[.int .i64 1, .int .i64 who, .int .i64 num] 38))
        have et : ∃ t', mni (sadd t rate) burst = t' ∧ t' ≤ burst ∧ t' ≤ t + rate ∧ -1099511627776 ≤ t' := by
          refine ⟨_, rfl, ?_⟩
          rw [sadd_is (by omega) (by omega)]
          unfold mni
          split <;> omega
        obtain ⟨t', et1, et2, et3, et4⟩ := et
        have HT := Lib.hid (show I64 t from I64.lit (by omega) (by omega))
        by_cases hv : v - rate < 0
        · go_wp2_with fail
          generalize wr.alloc (.cells #[.int .i64 1, .int .i64 who, .int .i64 num] 38) = wo at *
          refine (tick_c _ _ _ _ _ _ _ HB0.out HT.out HRR.out).mono ?_
          rw [et1]
          rintro e w3 ⟨rfl, hk2, hu⟩
          have HKN := Lib.hid (hk2)
          have HWN := Lib.hid (Upd.below HW0.out hu (fun k h => Nat.le_trans HZ.out h.1))
          have HZN := Lib.hid (show w1.heap.size ≤ w3.heap.size by have := hu.size; have := HSZ.out; have := HSO.out; omega)
          have HX3 := Lib.hid (hu.heap HX0.out (fun h => h.2 rfl))
          clear hk2 hu
          go_wp2
          go_roundw
          case rel => exact ⟨k + 1, 0, t', ln, by go_num, rfl, by omega, by omega, by omega, by omega, by omega, by omega, by omega, HKN.out.mono (fun k h => h.1), HWN.out, HZN.out⟩
          case measure => simp [intOf]; omega
        · go_wp2_with fail
          generalize wr.alloc (.cells #[.int .i64 1, .int .i64 who, .int .i64 num] 38) = wo at *
          refine (tick_c _ _ _ _ _ _ _ HB0.out HT.out HRR.out).mono ?_
          rw [et1]
          rintro e w3 ⟨rfl, hk2, hu⟩
          have HKN := Lib.hid (hk2)
          have HWN := Lib.hid (Upd.below HW0.out hu (fun k h => Nat.le_trans HZ.out h.1))
          have HZN := Lib.hid (show w1.heap.size ≤ w3.heap.size by have := hu.size; have := HSZ.out; have := HSO.out; omega)
          have HX3 := Lib.hid (hu.heap HX0.out (fun h => h.2 rfl))
          clear hk2 hu
          go_wp2
          go_roundw
          case rel => exact ⟨k + 1, (v - rate), t', ln, by go_num, rfl, by omega, by omega, by omega, by omega, by omega, by omega, by omega, HKN.out.mono (fun k h => h.1), HWN.out, HZN.out⟩
          case measure => simp [intOf]; omega
      by_cases k3 : kd = 3
      · subst k3
        have HB0 := Lib.hid ((HBK.out.tight.upd (Upd.alloc (S := fun _ => False) wr (.cells #[.int .i64 3, .int .i64 who, .int .i64 num] 38)) (fun k _ h => h)).mono (T := fun k => w1.heap.size ≤ k ∧ k ≠ wr.heap.size) (fun k h => ⟨h.1, by have := h.2; omega⟩))
        have HW0 := Lib.hid (HBW.out.alloc HBW.out.size (.cells #[.int .i64 3, .int .i64 who, .int .i64 num] 38))
        have HSO := Lib.hid (World.size_alloc wr (.cells #[.int .i64 3, .int .i64 who, .int .i64 num] 38))
        have HX0 := Lib.hid (heap_alloc_new wr (.cells #[.int .i64 3, .int .i64 who, .int .i64 num] 38))
        go_wp2_with fail
        generalize wr.alloc (.cells #[.int .i64 3, .int .i64 who, .int .i64 num] 38) = wo at *
        have hmay := may_c b (fun k => w1.heap.size ≤ k ∧ k ≠ wr.heap.size) ln t rate burst who _ HB0.out (by omega)
        rcases hm : mayL ln t who with _ | _
        · rw [hm, if_neg (by simp)] at hmay
          refine hmay.mono ?_
          rintro e w3 ⟨rfl, hk2, hu⟩
          have HKN := Lib.hid (hk2.mono (T := fun k => w1.heap.size ≤ k ∧ k ≠ wr.heap.size) (fun k h => by rcases h with h | h; exact h; exact ⟨by have := HSZ.out; have := HSO.out; omega, by have := HSO.out; omega⟩))
          have HWN := Lib.hid (Upd.below HW0.out hu (fun k h => Nat.le_trans HZ.out h.1))
          have HZN := Lib.hid (show w1.heap.size ≤ w3.heap.size by have := hu.size; have := HSZ.out; have := HSO.out; omega)
          have HX3 := Lib.hid (hu.heap HX0.out (fun h => h.2 rfl))
          clear hk2 hu
          clear hm hmay
          have HJ := Lib.hid (joined_len ln who)
          go_wp2
          go_roundw
          case rel => exact ⟨k + 1, v, t, (joined ln who), by go_num, rfl, by omega, by have := HJ.out; omega, by omega, by omega, by omega, by omega, by omega, HKN.out.mono (fun k h => h.1), HWN.out, HZN.out⟩
          case measure => simp [intOf]; omega
        · rw [hm, if_pos rfl] at hmay
          have tpos : 0 < t := by simp [mayL] at hm; omega
          refine hmay.mono ?_
          rintro e w3 ⟨rfl, hk2, hu⟩
          have HKN := Lib.hid (hk2.mono (T := fun k => w1.heap.size ≤ k ∧ k ≠ wr.heap.size) (fun k h => by rcases h with h | h; exact h; exact ⟨by have := HSZ.out; have := HSO.out; omega, by have := HSO.out; omega⟩))
          have HWN := Lib.hid (Upd.below HW0.out hu (fun k h => Nat.le_trans HZ.out h.1))
          have HZN := Lib.hid (show w1.heap.size ≤ w3.heap.size by have := hu.size; have := HSZ.out; have := HSO.out; omega)
          have HX3 := Lib.hid (hu.heap HX0.out (fun h => h.2 rfl))
          clear hk2 hu
          clear hm hmay
          obtain ⟨nw1, nw2⟩ := HW.out
          have HT := Lib.hid (show I64 t from I64.lit (by omega) (by omega))
          have HE := Lib.hid (erase_len ln who)
          by_cases q1 : num < 0
          · have f1 : w3.cell? ⟨wr.heap.size, 1, none⟩ = some (.int .i64 who) := (blk_cell HX3.out 1).trans rfl
            have f2 : w3.cell? ⟨wr.heap.size, 2, none⟩ = some (.int .i64 num) := (blk_cell HX3.out 2).trans rfl
            have HNN := Lib.hid (show I64 0 from I64.lit (by omega) (by omega))
            have etk : tookL t 0 = t - 0 := by
              unfold tookL
              split
              · rw [sadd_is (by omega) (by omega)]; omega
              · omega
            go_wp2_with fail
            refine (take_c _ _ _ _ _ _ who 0 _ HKN.out HT.out HNN.out).mono ?_
            rw [etk]
            rintro e w4 ⟨rfl, hk4, hu4⟩
            have HK4 := Lib.hid hk4
            have HW4 := Lib.hid (Upd.below HWN.out hu4 (fun k h => Nat.le_trans HZ.out h.1))
            have HZ4 := Lib.hid (Nat.le_trans HZN.out hu4.size)
            clear hk4 hu4 f1 f2 etk
            go_wp2
            go_roundw
            case rel => exact ⟨k + 1, v, (t - 0), (ln.erase who), by go_num, rfl, by omega, by have := HE.out; omega, by omega, by omega, by omega, by omega, by omega, HK4.out.mono (fun k h => h.1), HW4.out, HZ4.out⟩
            case measure => simp [intOf]; omega
          · by_cases q2 : m < num
            · have f1 : w3.cell? ⟨wr.heap.size, 1, none⟩ = some (.int .i64 who) := (blk_cell HX3.out 1).trans rfl
              have f2 : w3.cell? ⟨wr.heap.size, 2, none⟩ = some (.int .i64 num) := (blk_cell HX3.out 2).trans rfl
              have HNN := Lib.hid (show I64 m from I64.lit (by omega) (by omega))
              have etk : tookL t m = t - m := by
                unfold tookL
                split
                · rw [sadd_is (by omega) (by omega)]; omega
                · omega
              go_wp2_with fail
              refine (take_c _ _ _ _ _ _ who m _ HKN.out HT.out HNN.out).mono ?_
              rw [etk]
              rintro e w4 ⟨rfl, hk4, hu4⟩
              have HK4 := Lib.hid hk4
              have HW4 := Lib.hid (Upd.below HWN.out hu4 (fun k h => Nat.le_trans HZ.out h.1))
              have HZ4 := Lib.hid (Nat.le_trans HZN.out hu4.size)
              clear hk4 hu4 f1 f2 etk
              go_wp2
              go_roundw
              case rel => exact ⟨k + 1, (v + m), (t - m), (ln.erase who), by go_num, rfl, by omega, by have := HE.out; omega, by omega, by omega, by omega, by omega, by omega, HK4.out.mono (fun k h => h.1), HW4.out, HZ4.out⟩
              case measure => simp [intOf]; omega
            · have f1 : w3.cell? ⟨wr.heap.size, 1, none⟩ = some (.int .i64 who) := (blk_cell HX3.out 1).trans rfl
              have f2 : w3.cell? ⟨wr.heap.size, 2, none⟩ = some (.int .i64 num) := (blk_cell HX3.out 2).trans rfl
              have HNN := Lib.hid (show I64 num from I64.lit (by omega) (by omega))
              have etk : tookL t num = t - num := by
                unfold tookL
                split
                · rw [sadd_is (by omega) (by omega)]; omega
                · omega
              go_wp2_with fail
              refine (take_c _ _ _ _ _ _ who num _ HKN.out HT.out HNN.out).mono ?_
              rw [etk]
              rintro e w4 ⟨rfl, hk4, hu4⟩
              have HK4 := Lib.hid hk4
              have HW4 := Lib.hid (Upd.below HWN.out hu4 (fun k h => Nat.le_trans HZ.out h.1))
              have HZ4 := Lib.hid (Nat.le_trans HZN.out hu4.size)
              clear hk4 hu4 f1 f2 etk
              go_wp2
              go_roundw
              case rel => exact ⟨k + 1, (v + num), (t - num), (ln.erase who), by go_num, rfl, by omega, by have := HE.out; omega, by omega, by omega, by omega, by omega, by omega, HK4.out.mono (fun k h => h.1), HW4.out, HZ4.out⟩
              case measure => simp [intOf]; omega
      by_cases k4 : kd = 4
      · subst k4
        have HB0 := Lib.hid ((HBK.out.tight.upd (Upd.alloc (S := fun _ => False) wr (.cells #[.int .i64 4, .int .i64 who, .int .i64 num] 38)) (fun k _ h => h)).mono (T := fun k => w1.heap.size ≤ k ∧ k ≠ wr.heap.size) (fun k h => ⟨h.1, by have := h.2; omega⟩))
        have HW0 := Lib.hid (HBW.out.alloc HBW.out.size (.cells #[.int .i64 4, .int .i64 who, .int .i64 num] 38))
        have HSO := Lib.hid (World.size_alloc wr (.cells #[.int .i64 4, .int .i64 who, .int .i64 num] 38))
        have HX0 := Lib.hid (heap_alloc_new wr (.cells #[.int .i64 4, .int .i64 who, .int .i64 num] 38))
        go_wp2_with fail
        generalize wr.alloc (.cells #[.int .i64 4, .int .i64 who, .int .i64 num] 38) = wo at *
        have hmay := may_c b (fun k => w1.heap.size ≤ k ∧ k ≠ wr.heap.size) ln t rate burst who _ HB0.out (by omega)
        rcases hm : mayL ln t who with _ | _
        · rw [hm, if_neg (by simp)] at hmay
          refine hmay.mono ?_
          rintro e w3 ⟨rfl, hk2, hu⟩
          have HKN := Lib.hid (hk2.mono (T := fun k => w1.heap.size ≤ k ∧ k ≠ wr.heap.size) (fun k h => by rcases h with h | h; exact h; exact ⟨by have := HSZ.out; have := HSO.out; omega, by have := HSO.out; omega⟩))
          have HWN := Lib.hid (Upd.below HW0.out hu (fun k h => Nat.le_trans HZ.out h.1))
          have HZN := Lib.hid (show w1.heap.size ≤ w3.heap.size by have := hu.size; have := HSZ.out; have := HSO.out; omega)
          have HX3 := Lib.hid (hu.heap HX0.out (fun h => h.2 rfl))
          clear hk2 hu
          clear hm hmay
          have HJ := Lib.hid (joined_len ln who)
          go_wp2
          go_roundw
          case rel => exact ⟨k + 1, v, t, (joined ln who), by go_num, rfl, by omega, by have := HJ.out; omega, by omega, by omega, by omega, by omega, by omega, HKN.out.mono (fun k h => h.1), HWN.out, HZN.out⟩
          case measure => simp [intOf]; omega
        · rw [hm, if_pos rfl] at hmay
          have tpos : 0 < t := by simp [mayL] at hm; omega
          refine hmay.mono ?_
          rintro e w3 ⟨rfl, hk2, hu⟩
          have HKN := Lib.hid (hk2.mono (T := fun k => w1.heap.size ≤ k ∧ k ≠ wr.heap.size) (fun k h => by rcases h with h | h; exact h; exact ⟨by have := HSZ.out; have := HSO.out; omega, by have := HSO.out; omega⟩))
          have HWN := Lib.hid (Upd.below HW0.out hu (fun k h => Nat.le_trans HZ.out h.1))
          have HZN := Lib.hid (show w1.heap.size ≤ w3.heap.size by have := hu.size; have := HSZ.out; have := HSO.out; omega)
          have HX3 := Lib.hid (hu.heap HX0.out (fun h => h.2 rfl))
          clear hk2 hu
          clear hm hmay
          obtain ⟨nw1, nw2⟩ := HW.out
          have HT := Lib.hid (show I64 t from I64.lit (by omega) (by omega))
          have HE := Lib.hid (erase_len ln who)
          by_cases q1 : num < 0
          · have f1 : w3.cell? ⟨wr.heap.size, 1, none⟩ = some (.int .i64 who) := (blk_cell HX3.out 1).trans rfl
            have f2 : w3.cell? ⟨wr.heap.size, 2, none⟩ = some (.int .i64 num) := (blk_cell HX3.out 2).trans rfl
            have HNN := Lib.hid (show I64 0 from I64.lit (by omega) (by omega))
            have etk : tookL t 0 = t - 0 := by
              unfold tookL
              split
              · rw [sadd_is (by omega) (by omega)]; omega
              · omega
            go_wp2_with fail
            refine (take_c _ _ _ _ _ _ who 0 _ HKN.out HT.out HNN.out).mono ?_
            rw [etk]
            rintro e w4 ⟨rfl, hk4, hu4⟩
            have HK4 := Lib.hid hk4
            have HW4 := Lib.hid (Upd.below HWN.out hu4 (fun k h => Nat.le_trans HZ.out h.1))
            have HZ4 := Lib.hid (Nat.le_trans HZN.out hu4.size)
            clear hk4 hu4 f1 f2 etk
            go_wp2
            go_roundw
            case rel => exact ⟨k + 1, v, (t - 0), (ln.erase who), by go_num, rfl, by omega, by have := HE.out; omega, by omega, by omega, by omega, by omega, by omega, HK4.out.mono (fun k h => h.1), HW4.out, HZ4.out⟩
            case measure => simp [intOf]; omega
          · by_cases q2 : m < num
            · have f1 : w3.cell? ⟨wr.heap.size, 1, none⟩ = some (.int .i64 who) := (blk_cell HX3.out 1).trans rfl
              have f2 : w3.cell? ⟨wr.heap.size, 2, none⟩ = some (.int .i64 num) := (blk_cell HX3.out 2).trans rfl
              have HNN := Lib.hid (show I64 m from I64.lit (by omega) (by omega))
              have etk : tookL t m = t - m := by
                unfold tookL
                split
                · rw [sadd_is (by omega) (by omega)]; omega
                · omega
              go_wp2_with fail
              refine (take_c _ _ _ _ _ _ who m _ HKN.out HT.out HNN.out).mono ?_
              rw [etk]
              rintro e w4 ⟨rfl, hk4, hu4⟩
              have HK4 := Lib.hid hk4
              have HW4 := Lib.hid (Upd.below HWN.out hu4 (fun k h => Nat.le_trans HZ.out h.1))
              have HZ4 := Lib.hid (Nat.le_trans HZN.out hu4.size)
              clear hk4 hu4 f1 f2 etk
              go_wp2
              go_roundw
              case rel => exact ⟨k + 1, (v + m), (t - m), (ln.erase who), by go_num, rfl, by omega, by have := HE.out; omega, by omega, by omega, by omega, by omega, by omega, HK4.out.mono (fun k h => h.1), HW4.out, HZ4.out⟩
              case measure => simp [intOf]; omega
            · have f1 : w3.cell? ⟨wr.heap.size, 1, none⟩ = some (.int .i64 who) := (blk_cell HX3.out 1).trans rfl
              have f2 : w3.cell? ⟨wr.heap.size, 2, none⟩ = some (.int .i64 num) := (blk_cell HX3.out 2).trans rfl
              have HNN := Lib.hid (show I64 num from I64.lit (by omega) (by omega))
              have etk : tookL t num = t - num := by
                unfold tookL
                split
                · rw [sadd_is (by omega) (by omega)]; omega
                · omega
              go_wp2_with fail
              refine (take_c _ _ _ _ _ _ who num _ HKN.out HT.out HNN.out).mono ?_
              rw [etk]
              rintro e w4 ⟨rfl, hk4, hu4⟩
              have HK4 := Lib.hid hk4
              have HW4 := Lib.hid (Upd.below HWN.out hu4 (fun k h => Nat.le_trans HZ.out h.1))
              have HZ4 := Lib.hid (Nat.le_trans HZN.out hu4.size)
              clear hk4 hu4 f1 f2 etk
              go_wp2
              go_roundw
              case rel => exact ⟨k + 1, (v + num), (t - num), (ln.erase who), by go_num, rfl, by omega, by have := HE.out; omega, by omega, by omega, by omega, by omega, by omega, HK4.out.mono (fun k h => h.1), HW4.out, HZ4.out⟩
              case measure => simp [intOf]; omega
      by_cases k5 : kd = 5
      · subst k5
        have HB0 := Lib.hid ((HBK.out.tight.upd (Upd.alloc (S := fun _ => False) wr (.cells #[.int .i64 5, .int .i64 who, .int .i64 num] 38)) (fun k _ h => h)).mono (T := fun k => w1.heap.size ≤ k ∧ k ≠ wr.heap.size) (fun k h => ⟨h.1, by have := h.2; omega⟩))
        have HW0 := Lib.hid (HBW.out.alloc HBW.out.size (.cells #[.int .i64 5, .int .i64 who, .int .i64 num] 38))
        have HSO := Lib.hid (World.size_alloc wr (.cells #[.int .i64 5, .int .i64 who, .int .i64 num] 38))
        have HX0 := Lib.hid (heap_alloc_new wr (.cells #[.int .i64 5, .int .i64 who, .int .i64 num] 38))
        go_wp2_with fail
        generalize wr.alloc (.cells #[.int .i64 5, .int .i64 who, .int .i64 num] 38) = wo at *
        refine (bleave_c _ _ _ _ _ _ who _ HB0.out).mono ?_
        rintro e w3 ⟨rfl, hk2, hu⟩
        have HKN := Lib.hid (hk2)
        have HWN := Lib.hid (Upd.below HW0.out hu (fun k h => Nat.le_trans HZ.out h.1))
        have HZN := Lib.hid (show w1.heap.size ≤ w3.heap.size by have := hu.size; have := HSZ.out; have := HSO.out; omega)
        have HX3 := Lib.hid (hu.heap HX0.out (fun h => h.2 rfl))
        clear hk2 hu
        have HE := Lib.hid (erase_len ln who)
        go_wp2
        go_roundw
        case rel => exact ⟨k + 1, v, t, (ln.erase who), by go_num, rfl, by omega, by have := HE.out; omega, by omega, by omega, by omega, by omega, by omega, HKN.out.mono (fun k h => h.1), HWN.out, HZN.out⟩
        case measure => simp [intOf]; omega
      have e1 : (kd == 1) = false := by simpa using k1
      have e3 : (kd == 3) = false := by simpa using k3
      have e4 : (kd == 4) = false := by simpa using k4
      have e5 : (kd == 5) = false := by simpa using k5
      clear k1 k3 k4 k5
      have HB0 := Lib.hid ((HBK.out.tight.upd (Upd.alloc (S := fun _ => False) wr (.cells #[.int .i64 kd, .int .i64 who, .int .i64 num] 38)) (fun k _ h => h)).mono (T := fun k => w1.heap.size ≤ k ∧ k ≠ wr.heap.size) (fun k h => ⟨h.1, by have := h.2; omega⟩))
      have HW0 := Lib.hid (HBW.out.alloc HBW.out.size (.cells #[.int .i64 kd, .int .i64 who, .int .i64 num] 38))
      have HSO := Lib.hid (World.size_alloc wr (.cells #[.int .i64 kd, .int .i64 who, .int .i64 num] 38))
      have HX0 := Lib.hid (heap_alloc_new wr (.cells #[.int .i64 kd, .int .i64 who, .int .i64 num] 38))
      go_wp2
      go_roundw
      case rel => exact ⟨k + 1, v, t, ln, by go_num, rfl, by omega, by omega, by omega, by omega, by omega, by omega, by omega, HB0.out.mono (fun k h => h.1), HW0.out, (by have := HSZ.out; have := HSO.out; omega)⟩
      case measure => simp [intOf]; omega
    · have hk' : k = n := by omega
      go_wp2
      go_ret
      exact ⟨by rfl, HBW.out⟩
end Go.Proofs.Ytjgpcbednhoplaa.H
