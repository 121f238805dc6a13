/- The laws' helpers: ahead, sameEntries, sameInts. Conditions: sizes. -/
import Derived.Test.YtjbbobhjomhnmaaSk13
import Derived.StillTailTactics
namespace Go.Proofs.Ytjbbobhjomhnmaa.H
open Go Go.RowKit Go.Deep Go.Shelf Go.Proofs Go.Proofs.YtjbbobhjomhnmaaW.PrintWords
set_option linter.unusedVariables false
set_option linter.unusedSimpArgs false
set_option maxHeartbeats 1600000 in
set_option maxRecDepth 100000 in
theorem ahead5_c (x y : Ent) (w : World) : Calls Try.prog 25 #[.agg (encE x).toArray, .agg (encE y).toArray] w fun e w' => e = .returned (.bool (decide (ltE x y))) ∧ Below w.heap.size w w' := by
  have hb : Below w.heap.size w ((w.alloc (.cells #[.string x.1, .int .u64 x.2.1, .bool x.2.2.1, .string x.2.2.2] 53)).alloc (.cells #[.string y.1, .int .u64 y.2.1, .bool y.2.2.1, .string y.2.2.2] 53)) := ((Below.refl _ _).alloc (Nat.le_refl _) _).alloc (by simp) _
  have HB := Lib.hid hb
  clear hb
  unfold encE
  go_enter Try.func25, Try.ntmps25
  go_wp2
  all_goals go_ret
  · rename_i h1
    rw [decide_eq_true ((ltE_iff x y).2 (.inl h1))]
    exact ⟨rfl, HB.out⟩
  · rename_i h1 h2
    have : decide (ltE x y) = decide (y.2.1 < x.2.1) := decide_eq_decide.2 ⟨fun h => by
      rcases (ltE_iff x y).1 h with h | h
      · exact absurd h h1
      · exact h.2, fun h => (ltE_iff x y).2 (.inr ⟨h2, h⟩)⟩
    rw [this]
    exact ⟨rfl, HB.out⟩
  · rename_i h1 h2
    rw [decide_eq_false (fun h => by
      rcases (ltE_iff x y).1 h with h | h
      · exact h1 h
      · exact h2 h.1)]
    exact ⟨rfl, HB.out⟩
theorem bytes_inj {a b : ByteArray} : a.toList = b.toList ↔ a = b := by
  rw [ByteArray.toList_eq, ByteArray.toList_eq]
  exact ⟨fun h => ByteArray.ext (Array.ext' h), fun h => by rw [h]⟩
theorem ent_eq (x y : Ent) : x = y ↔ x.1.toList = y.1.toList ∧ x.2.1 = y.2.1 ∧ x.2.2.1 = y.2.2.1 ∧ x.2.2.2.toList = y.2.2.2.toList := by
  rw [bytes_inj, bytes_inj]
  obtain ⟨a, b, c, d⟩ := x
  obtain ⟨a', b', c', d'⟩ := y
  simp
/-- Two entries, compared. -/
theorem neE_run (x y : Ent) (W : World) : (binOp .neq 53 (.agg #[.string x.1, .int .u64 x.2.1, .bool x.2.2.1, .string x.2.2.2]) (.agg #[.string y.1, .int .u64 y.2.1, .bool y.2.2.1, .string y.2.2.2])).run Try.prog W = .ok (.bool (!decide (x = y))) W := by
  have hd : (x = y) = _ := propext (ent_eq x y)
  simp only [hd]
  go_simp
  (repeat' split) <;> simp_all
theorem eqE_run (x y : Ent) (W : World) : (binOp .eql 53 (.agg #[.string x.1, .int .u64 x.2.1, .bool x.2.2.1, .string x.2.2.2]) (.agg #[.string y.1, .int .u64 y.2.1, .bool y.2.2.1, .string y.2.2.2])).run Try.prog W = .ok (.bool (decide (x = y))) W := by
  have hd : (x = y) = _ := propext (ent_eq x y)
  simp only [hd]
  go_simp
  (repeat' split) <;> simp_all
theorem take_same {α : Type} {l m : List α} {k : Nat} (h : l.take k = m.take k) {x : α} (hx : l[k]? = some x) (hy : m[k]? = some x) : l.take (k + 1) = m.take (k + 1) := by
  rw [List.take_add_one, List.take_add_one, h, hx, hy]
set_option maxHeartbeats 1600000 in
set_option maxRecDepth 100000 in
theorem sameEntries_c (A : Option Addr) (c : Nat) (l : List Ent) (B : Option Addr) (d : Nat) (m : List Ent) (w : World) (ha : Sl encE 4 w A l) (hb : Sl encE 4 w B m) :
    Calls Try.prog 28 #[.slice A l.length c, .slice B m.length d] w fun e w' => e = .returned (.bool (decide (l = m))) ∧ Below w.heap.size w w' := by
  have la := ha.1
  have lb := hb.1
  have HA := Lib.hid ha
  have HB := Lib.hid hb
  clear ha hb
  obtain ⟨n, hn⟩ : ∃ n, l.length = n := ⟨_, rfl⟩
  obtain ⟨n', hn'⟩ : ∃ n, m.length = n := ⟨_, rfl⟩
  rw [hn] at la ⊢
  rw [hn'] at lb ⊢
  have HN := Lib.hid hn
  have HM := Lib.hid hn'
  clear hn hn'
  go_enter Try.func28, Try.ntmps28
  by_cases hlen : n = n'
  · subst hlen
    go_wp2_with fail
    go_loopw [5] (fun s5 wr => ∃ k : Nat, s5 = .int .i64 k ∧ k ≤ n ∧ l.take k = m.take k ∧ Below w.heap.size w wr) (fun s5 wr => n - (intOf s5).toNat)
    case atStart => exact ⟨0, rfl, by omega, by simp, Below.refl _ _⟩
    case round =>
      obtain ⟨k, rfl, hk, htk, hbw⟩ := hrel
      have HT := Lib.hid htk
      have HBW := Lib.hid hbw
      clear htk hbw
      by_cases hlt : k < n
      · obtain ⟨x, hx⟩ := getElem?_of_lt (l := l) (by rw [HN.out]; exact hlt : k < l.length)
        obtain ⟨y, hy⟩ := getElem?_of_lt (l := m) (by rw [HM.out]; exact hlt : k < m.length)
        obtain ⟨b1, o1, hA1, hb1, hc1⟩ := HA.out.at hx
        obtain ⟨b2, o2, hA2, hb2, hc2⟩ := HB.out.at hy
        subst hA1
        subst hA2
        have x0 := (HBW.out.cell (p := ⟨b1, o1 + k * 4 + 0, none⟩) hb1).trans (hc1 0 _ rfl)
        have x1 := (HBW.out.cell (p := ⟨b1, o1 + k * 4 + 1, none⟩) hb1).trans (hc1 1 _ rfl)
        have x2 := (HBW.out.cell (p := ⟨b1, o1 + k * 4 + 2, none⟩) hb1).trans (hc1 2 _ rfl)
        have x3 := (HBW.out.cell (p := ⟨b1, o1 + k * 4 + 3, none⟩) hb1).trans (hc1 3 _ rfl)
        have y0 := (HBW.out.cell (p := ⟨b2, o2 + k * 4 + 0, none⟩) hb2).trans (hc2 0 _ rfl)
        have y1 := (HBW.out.cell (p := ⟨b2, o2 + k * 4 + 1, none⟩) hb2).trans (hc2 1 _ rfl)
        have y2 := (HBW.out.cell (p := ⟨b2, o2 + k * 4 + 2, none⟩) hb2).trans (hc2 2 _ rfl)
        have y3 := (HBW.out.cell (p := ⟨b2, o2 + k * 4 + 3, none⟩) hb2).trans (hc2 3 _ rfl)
        have HX := Lib.hid hx
        have HY := Lib.hid hy
        clear hc1 hc2 hx hy hb1 hb2
        have hne := neE_run x y
        simp only [Nat.add_zero] at x0 y0
        have i1 : (0 : Int) ≤ k := by omega
        have i2 : (k : Int) < n := by omega
        go_wp2_with fail
        go_region
        by_cases hxy : x = y
        · have hd : decide (x = y) = true := decide_eq_true hxy
          simp only [hd, Bool.not_true]
          go_wp2
          go_roundw
          case rel => exact ⟨k + 1, by first | rfl | simp, by omega, take_same HT.out HX.out (by rw [hxy]; exact HY.out), HBW.out.drew⟩
          case measure => simp [intOf]; omega
        · have hd : decide (x = y) = false := decide_eq_false hxy
          simp only [hd, Bool.not_false]
          go_wp2
          go_ret
          have hlm : ¬ l = m := fun e => hxy (by
            have h1 := HX.out
            have h2 := HY.out
            rw [e, h2] at h1
            injection h1 with h1
            exact h1.symm)
          rw [decide_eq_false hlm]
          exact ⟨rfl, HBW.out.drew⟩
      · have hkn : k = n := by omega
        subst hkn
        have hlm : l = m := by
          have := HT.out
          rwa [List.take_of_length_le (by rw [HN.out]; exact Nat.le_refl _), List.take_of_length_le (by rw [HM.out]; exact Nat.le_refl _)] at this
        have HD := Lib.hid (decide_eq_true hlm)
        clear hlm
        go_wp2
        go_ret
        rw [HD.out]
        exact ⟨rfl, HBW.out⟩
  · have hne : ¬ l = m := fun h => hlen (by rw [← HN.out, ← HM.out, h])
    have HNE := Lib.hid (decide_eq_false hne)
    have h1 : ¬ (n : Int) = (n' : Int) := by omega
    go_wp2
    go_ret
    rw [HNE.out]
    exact ⟨rfl, Below.refl _ _⟩
set_option maxHeartbeats 1600000 in
set_option maxRecDepth 100000 in
theorem sameInts_c (A : Option Addr) (c : Nat) (l : List Int) (B : Option Addr) (d : Nat) (m : List Int) (w : World) (ha : Sl encI 1 w A l) (hb : Sl encI 1 w B m) :
    Calls Try.prog 77 #[.slice A l.length c, .slice B m.length d] w fun e w' => e = .returned (.bool (decide (l = m))) ∧ Below w.heap.size w w' := by
  have la := ha.1
  have lb := hb.1
  have HA := Lib.hid ha
  have HB := Lib.hid hb
  clear ha hb
  obtain ⟨n, hn⟩ : ∃ n, l.length = n := ⟨_, rfl⟩
  obtain ⟨n', hn'⟩ : ∃ n, m.length = n := ⟨_, rfl⟩
  rw [hn] at la ⊢
  rw [hn'] at lb ⊢
  have HN := Lib.hid hn
  have HM := Lib.hid hn'
  clear hn hn'
  go_enter Try.func77, Try.ntmps77
  by_cases hlen : n = n'
  · subst hlen
    go_wp2_with fail
    go_loopw [5] (fun s5 wr => ∃ k : Nat, s5 = .int .i64 k ∧ k ≤ n ∧ l.take k = m.take k ∧ Below w.heap.size w wr) (fun s5 wr => n - (intOf s5).toNat)
    case atStart => exact ⟨0, rfl, by omega, by simp, Below.refl _ _⟩
    case round =>
      obtain ⟨k, rfl, hk, htk, hbw⟩ := hrel
      have HT := Lib.hid htk
      have HBW := Lib.hid hbw
      clear htk hbw
      by_cases hlt : k < n
      · obtain ⟨x, hx⟩ := getElem?_of_lt (l := l) (by rw [HN.out]; exact hlt : k < l.length)
        obtain ⟨y, hy⟩ := getElem?_of_lt (l := m) (by rw [HM.out]; exact hlt : k < m.length)
        obtain ⟨b1, o1, hA1, hb1, hc1⟩ := HA.out.at hx
        obtain ⟨b2, o2, hA2, hb2, hc2⟩ := HB.out.at hy
        subst hA1
        subst hA2
        have x0 : wr.cell? ⟨b1, o1 + k, none⟩ = some (.int .i64 x) := by simpa using (HBW.out.cell (p := ⟨b1, o1 + k * 1 + 0, none⟩) hb1).trans (hc1 0 _ rfl)
        have y0 : wr.cell? ⟨b2, o2 + k, none⟩ = some (.int .i64 y) := by simpa using (HBW.out.cell (p := ⟨b2, o2 + k * 1 + 0, none⟩) hb2).trans (hc2 0 _ rfl)
        have HX := Lib.hid hx
        have HY := Lib.hid hy
        clear hc1 hc2 hx hy hb1 hb2
        have i1 : (0 : Int) ≤ k := by omega
        have i2 : (k : Int) < n := by omega
        go_wp2_with fail
        go_region
        by_cases hxy : x = y
        · subst hxy
          go_wp2
          go_roundw
          case rel => exact ⟨k + 1, by first | rfl | simp, by omega, take_same HT.out HX.out HY.out, HBW.out.drew⟩
          case measure => simp [intOf]; omega
        · go_wp2
          go_ret
          have hlm : ¬ l = m := fun e => hxy (by
            have h1 := HX.out
            have h2 := HY.out
            rw [e, h2] at h1
            injection h1 with h1
            exact h1.symm)
          rw [decide_eq_false hlm]
          exact ⟨rfl, HBW.out.drew⟩
      · have hkn : k = n := by omega
        subst hkn
        have hlm : l = m := by
          have := HT.out
          rwa [List.take_of_length_le (by rw [HN.out]; exact Nat.le_refl _), List.take_of_length_le (by rw [HM.out]; exact Nat.le_refl _)] at this
        have HD := Lib.hid (decide_eq_true hlm)
        clear hlm
        go_wp2
        go_ret
        rw [HD.out]
        exact ⟨rfl, HBW.out⟩
  · have hne : ¬ l = m := fun h => hlen (by rw [← HN.out, ← HM.out, h])
    have HNE := Lib.hid (decide_eq_false hne)
    have h1 : ¬ (n : Int) = (n' : Int) := by omega
    go_wp2
    go_ret
    rw [HNE.out]
    exact ⟨rfl, Below.refl _ _⟩
end Go.Proofs.Ytjbbobhjomhnmaa.H
