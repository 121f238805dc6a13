/- pile.Line: Join, All, Leave, and slices.Delete. Conditions: fewer than 2^40 stand in it. -/
import Derived.Test.YtabnpacponkmhaaHLine
import Derived.Deep.RegionLaw
import Derived.IntWalk
namespace Go.Proofs.Ytabnpacponkmhaa.H
open Go.RowKit Go.Deep Go.Proofs.YtabnpacponkmhaaW.PrintWords
set_option linter.unusedVariables false
set_option linter.unusedSimpArgs false
def joined (l : List Int) (x : Int) : List Int := if x ∈ l then l else l ++ [x]
/-- S and what is new. -/
def New (S : Nat → Prop) (w : World) : Nat → Prop := fun k => S k ∨ w.heap.size ≤ k
theorem LineIs.parts {w : World} {g : Nat} {S : Nat → Prop} {l : List Int} (h : LineIs w g S l) :
    ∃ A c, w.heap[g]? = some (.cells #[.slice A l.length c] 66 (0, 0)) ∧ Own encI 3 1 w 0 (.slice A l.length c) l ∧ Sl encI 1 w A l ∧ l.length ≤ c ∧ S g ∧ (∀ k, (Value.slice A l.length c).ownBlock = some k → S k ∧ k ≠ g) ∧ (l ≠ [] → ∃ b, A = some ⟨b, 0, none⟩) := by
  obtain ⟨v, hb, ho, hg, hk⟩ := h
  obtain ⟨A, c, rfl, hlc, hs, hne⟩ := ho.slice (fun x => (okI x).1)
  exact ⟨A, c, hb, ho, hs, hlc, hg, hk, fun h => by obtain ⟨b, hb, _⟩ := hne h; exact ⟨b, hb⟩⟩
set_option maxHeartbeats 1600000 in
theorem join_c (g : Nat) (S : Nat → Prop) (l : List Int) (x : Int) (w : World) (h : LineIs w g S l) (hl : l.length < 1099511627776) :
    Calls Try.prog 10 #[.pointer (some ⟨g, 0, none⟩), .int .i64 x] w fun e w' => e = .returned (.bool (decide (x ∉ l))) ∧ LineIs w' g (New S w) (joined l x) ∧ Upd S w w' := by
  have H0 := Lib.hid h
  obtain ⟨A, c, hb, ho, hs, hlc, hg, hk, _⟩ := h.parts
  have c0 : w.cell? ⟨g, 0, none⟩ = some (.slice A l.length c) := (blk_cell hb 0).trans rfl
  have f0 : w.frozen? ⟨g, 0, none⟩ = false := blk_frozen hb 0
  have HC := Lib.hid (contains_c A c l x w hs)
  have HO := Lib.hid ho
  have HK := Lib.hid hk
  have HB := Lib.hid hb
  clear ho hk hs hb h
  by_cases hm : x ∈ l
  · have e1 : decide (x ∈ l) = true := by simpa using hm
    have e2 : decide (x ∉ l) = false := by simpa using hm
    have e3 : joined l x = l := by simp [joined, hm]
    have E3 := Lib.hid e3
    clear e3
    go_enter Try.func10, Try.ntmps10
    go_wp2_with (go_at_call 32; refine HC.out.mono ?_; rintro e w' ⟨rfl, rfl⟩)
    go_ret
    exact ⟨by simp [hm], by rw [E3.out]; exact H0.out.mono (fun k hk => .inl hk), Upd.refl _ _⟩
  · have e1 : decide (x ∈ l) = false := by simpa using hm
    have e2 : decide (x ∉ l) = true := by simpa using hm
    have e3 : joined l x = l ++ [x] := by simp [joined, hm]
    have E3 := Lib.hid e3
    clear e3
    have hlt := blk_lt HB.out
    go_enter Try.func10, Try.ntmps10
    go_wp2_with (first | (go_at_call 32; refine HC.out.mono ?_; rintro e w' ⟨rfl, rfl⟩) | (at_builtin; refine wpList_app rfl (.tmp 15) (.tmp 17) rfl uSlInt infoInt rfl (by decide) (by decide) okI (.slice A l.length c) l rfl (base := 0) ?c1 (some ⟨w.heap.size, 0, none⟩) 1 [x] rfl ?c2 ?c3 ?c4 ?_))
    case c1 => exact HO.out.below ((Below.refl _ _).alloc (Nat.le_refl _) _)
    case c2 => exact Sl.one okI w x _ rfl
    case c3 => simp; omega
    case c4 => exact Nat.zero_le _
    intro v1 w1 ho1 hg1 hat1
    have hu1 : Upd S w w1 := (Upd.alloc w _).trans (Upd.of_grown hg1 (fun k hk => (HK.out k hk).1))
    have hbx : w1.heap[g]? = some (.cells #[.slice A l.length c] 66 (0, 0)) := by
      have hgg := hg1.block g (by simp; omega) (by intro e; exact (HK.out g e.symm).2 rfl)
      rw [hgg]
      exact (((Below.refl w.heap.size w).alloc (Nat.le_refl _) _).block g hlt).trans HB.out
    have f1 : w1.frozen? ⟨g, 0, none⟩ = false := blk_frozen hbx 0
    have c1 : w1.cell? ⟨g, 0, none⟩ = some (.slice A l.length c) := (blk_cell hbx 0).trans rfl
    have hb2 := blk_set hbx 0 v1
    have hv1 : ∀ k, v1.ownBlock = some k → New S w k ∧ k ≠ g := by
      intro k hk
      rcases hat1 with h | h
      · have := HK.out k (by rw [← h]; exact hk)
        exact ⟨.inl this.1, this.2⟩
      · rw [h] at hk
        injection hk with hk
        try simp at hk
        exact ⟨.inr (by omega), by omega⟩
    obtain ⟨A1, k1, rfl, hk1, hs1, hne1⟩ := ho1.slice (fun x => (okI x).1)
    clear hs1 hne1
    have hset : LineIs (w1.setCell ⟨g, 0, none⟩ (.slice A1 (l ++ [x]).length k1)) g (New S w) (l ++ [x]) :=
      ⟨_, hb2.trans rfl, ho1.upd (Upd.setCell (S := fun k => k = g) w1 0 _ rfl) (fun k hk => (hv1 k hk).2), .inl hg, hv1⟩
    have hus : Upd S w (w1.setCell ⟨g, 0, none⟩ (.slice A1 (l ++ [x]).length k1)) := hu1.trans (Upd.setCell w1 0 _ hg)
    have HS := Lib.hid hset
    have HU := Lib.hid hus
    clear ho1 hg1 hat1 hu1 hbx hb2 hv1 hset hus
    go_wp2
    go_ret
    exact ⟨by simp [hm], by rw [E3.out]; simpa using HS.out, by simpa using HU.out⟩
set_option maxHeartbeats 1600000 in
theorem all_c (g : Nat) (S : Nat → Prop) (l : List Int) (w : World) (h : LineIs w g S l) (hl : l.length < 1099511627776) :
    Calls Try.prog 12 #[.pointer (some ⟨g, 0, none⟩)] w fun e w' => ∃ v, e = .returned v ∧ Own encI 3 1 w' w.heap.size v l ∧ Below w.heap.size w w' := by
  obtain ⟨A, c, hb, ho, hs, hlc, hg, hk, _⟩ := h.parts
  have c0 : w.cell? ⟨g, 0, none⟩ = some (.slice A l.length c) := (blk_cell hb 0).trans rfl
  have HS := Lib.hid hs
  clear ho hk hs hb h
  go_enter Try.func12, Try.ntmps12
  go_wp2_with (at_builtin; refine wpList_app rfl (.const (.slice none 0 0)) (.tmp 6) rfl uSlInt infoInt rfl (by decide) (by decide) okI (.slice none 0 0) [] rfl (base := w.heap.size) ?c1 A c l rfl ?c2 ?c3 ?c4 ?_)
  case c1 => exact Own.nil _ _ _ _ _
  case c2 => exact HS.out
  case c3 => simp; omega
  case c4 => exact Nat.le_refl _
  intro v1 w1 ho1 hg1 hat1
  have hb1 : Below w.heap.size w w1 := (Below.refl _ _).grown hg1 (Nat.le_refl _) (by simp [Value.ownBlock])
  have HO := Lib.hid ho1
  have HB := Lib.hid hb1
  clear ho1 hg1 hat1 hb1
  go_wp2
  go_ret
  exact ⟨v1, by simp, by simpa using HO.out, HB.out⟩
/-- slices.Delete of one, in an own row. -/
theorem delete_c (b c n : Nat) (l : List Int) (i : Nat) (w : World) (ho : Own encI 3 1 w 0 (.slice (some ⟨b, 0, none⟩) (n + 1) c) l) (hn : l.length = n + 1) (hi : i < n + 1) :
    Calls Try.prog 34 #[.slice (some ⟨b, 0, none⟩) (n + 1) c, .int .i64 i, .int .i64 (i + 1)] w fun e w' => e = .returned (.slice (some ⟨b, 0, none⟩) n c) ∧ Own encI 3 1 w' 0 (.slice (some ⟨b, 0, none⟩) n c) (l.take i ++ l.drop (i + 1)) ∧ Upd (fun k => k = b) w w' := by
  obtain ⟨A, c', hv, hlc, hs, hne⟩ := ho.slice (fun x => (okI x).1)
  injection hv with hv1 hv2 hv3
  subst hv1; subst hv3
  clear hne hv2
  have i1 : (n : Int) + 1 ≤ (c : Int) := by omega
  have i2 : (0 : Int) ≤ (n : Int) + 1 := by omega
  have i3 : (i : Int) + 1 ≤ (n : Int) + 1 := by omega
  have i4 : (0 : Int) ≤ (i : Int) + 1 := by omega
  have i5 : (0 : Int) ≤ (i : Int) := by omega
  have i6 : (i : Int) ≤ (i : Int) + 1 := by omega
  have i7 : (i : Int) ≤ (c : Int) := by omega
  have i8 : (n : Int) ≤ (c : Int) := by omega
  have e1 : ((i : Int) == (i : Int) + 1) = false := by simp; omega
  have e2 : ¬ c = n := by omega
  have e3 : ¬ c = i := by omega
  have z1 : i + (l.drop (i + 1)).length = n := by simp; omega
  have z2 : i + (n + 1 - (i + 1)) = n := by omega
  have z4 : i + (n - i) = n := by omega
  have z3 : (l.take i ++ l.drop (i + 1)).length = n := by simp; omega
  have hd : Sl encI 1 w (if c = i + 1 then some ⟨b, 0, none⟩ else some ⟨b, i + 1, none⟩) (l.drop (i + 1)) := by
    split
    · have e : l.drop (i + 1) = [] := List.drop_eq_nil_of_le (by omega)
      rw [e]; exact Sl.nil _ _ _ _
    · simpa using hs.drop_ (i + 1)
  have HD := Lib.hid hd
  have ho' : Own encI 3 1 w 0 (.slice (some ⟨b, 0, none⟩) l.length c) l := by rw [hn]; exact ho
  have HO := Lib.hid ho'
  have z5 : (l.drop (i + 1)).length = n - i := by simp; omega
  have Z1 := Lib.hid z1
  have Z3 := Lib.hid z3
  have Z5 := Lib.hid z5
  clear hs ho hd ho' z1 z3 z5
  go_enter Try.func34, Try.ntmps34
  go_wp2_with fail
  go_region_law (refine step_app_room rfl (.tmp 22) (.tmp 25) rfl uSlInt infoInt (by decide) okI b c i l (by simp [Act.eval, Act.put]) HO.out (by omega) (if c = i + 1 then some ⟨b, 0, none⟩ else some ⟨b, i + 1, none⟩) (c - (i + 1)) (l.drop (i + 1)) (by simp [Act.eval, Act.put, Z5.out]) HD.out (by rw [Z5.out]; omega) ?_; intro w1 hO1 hG1 hZ1)
  rw [Z1.out] at hO1
  have hO2 : Own encI 3 1 w1 0 (.slice (some ⟨b, 0, none⟩) (l.take i ++ l.drop (i + 1)).length c) (l.take i ++ l.drop (i + 1)) := by rw [Z3.out]; exact hO1
  obtain ⟨w2, hr, hO3, hG2, hZ2⟩ := run_clear_room (P := Try.prog) (ty := 0) uSlInt infoInt rfl rfl hO2 (o := n) (n := 1) (c := c - n) (by rw [Z3.out]; exact Nat.le_refl _) (by omega)
  rw [Z3.out] at hO3
  have HO3 := Lib.hid hO3
  have hu : Upd (fun k => k = b) w w2 := ((Upd.drew w).trans (Upd.of_grown hG1 (by intro k hk; injection hk with hk; exact hk.symm))).trans (Upd.of_grown hG2 (by intro k hk; injection hk with hk; exact hk.symm))
  have HU := Lib.hid hu
  clear hO1 hO2 hG1 hG2 hO3 hu
  go_wp2
  all_goals
    go_ret
    refine ⟨by simp, ?_, HU.out⟩
    have hfin := HO3.out
    first | exact hfin | (rw [h] at hfin; exact hfin)
set_option maxHeartbeats 1600000 in
theorem leave_c (g : Nat) (S : Nat → Prop) (l : List Int) (x : Int) (w : World) (h : LineIs w g S l) :
    Calls Try.prog 11 #[.pointer (some ⟨g, 0, none⟩), .int .i64 x] w fun e w' => e = .returned (.bool (decide (x ∈ l))) ∧ LineIs w' g S (l.erase x) ∧ Upd S w w' := by
  have H0 := Lib.hid h
  obtain ⟨A, c, hb, ho, hs, hlc, hg, hk, hne⟩ := h.parts
  have c0 : w.cell? ⟨g, 0, none⟩ = some (.slice A l.length c) := (blk_cell hb 0).trans rfl
  have hlen := hs.1
  have HC := Lib.hid (index_c A c l x w hs)
  have HO := Lib.hid ho
  have HK := Lib.hid hk
  have HB := Lib.hid hb
  have HN := Lib.hid hne
  clear ho hk hs hb h hne
  by_cases hm : x ∈ l
  · obtain ⟨b, rfl⟩ := HN.out (by rintro rfl; simp at hm)
    have hk : l.idxOf x < l.length := List.idxOf_lt_length_of_mem hm
    obtain ⟨n, hn⟩ : ∃ n, l.length = n + 1 := ⟨l.length - 1, by omega⟩
    have e0 : ix l x = (l.idxOf x : Int) := by simp [ix, hm]
    have e3 : l.erase x = l.take (l.idxOf x) ++ l.drop (l.idxOf x + 1) := by
      rw [List.erase_eq_eraseIdx_of_idxOf rfl, List.eraseIdx_eq_take_drop_succ]
    have E3 := Lib.hid e3
    generalize l.idxOf x = i at hk e0 e3 E3
    rw [e0, hn] at HC
    rw [hn] at HO HK HB c0 hk hlc
    have HN' := Lib.hid hn
    have i1 : IntKind.i64.wrap ((i : Int) + 1) = (i : Int) + 1 := IntWalk.i64_in _ (by omega)
    have i2 : decide ((i : Int) < 0) = false := by simp
    have i3 : (0 : Int) ≤ (i : Int) := by omega
    have hlt := blk_lt HB.out
    clear e0 e3 hn
    go_enter Try.func11, Try.ntmps11
    go_wp2_with (go_at_call 33; refine HC.out.mono ?_; rintro e w' ⟨rfl, rfl⟩)
    refine (delete_c b c n l i w HO.out HN'.out hk).mono ?_
    rintro e w1 ⟨rfl, ho1, hu1⟩
    have hbS := HK.out b rfl
    have hb1 : w1.heap[g]? = some (.cells #[.slice (some ⟨b, 0, none⟩) (n + 1) c] 66 (0, 0)) := hu1.heap HB.out (by intro e; exact hbS.2 e.symm)
    have d0 : w1.cell? ⟨g, 0, none⟩ = some (.slice (some ⟨b, 0, none⟩) (n + 1) c) := (blk_cell hb1 0).trans rfl
    have f0 : w1.frozen? ⟨g, 0, none⟩ = false := blk_frozen hb1 0
    have hb2 := blk_set hb1 0 (.slice (some ⟨b, 0, none⟩) n c)
    have hset : LineIs (w1.setCell ⟨g, 0, none⟩ (.slice (some ⟨b, 0, none⟩) n c)) g S (l.erase x) := by
      refine ⟨_, hb2.trans rfl, ?_, hg, ?_⟩
      · rw [E3.out]
        exact ho1.upd (Upd.setCell (S := fun k => k = g) w1 0 _ rfl) (fun k hk => by injection hk with hk; rw [← hk]; exact hbS.2)
      · intro k hk; injection hk with hk; rw [← hk]; exact hbS
    have hus : Upd S w (w1.setCell ⟨g, 0, none⟩ (.slice (some ⟨b, 0, none⟩) n c)) := (hu1.mono (fun k hk => by rw [hk]; exact hbS.1)).trans (Upd.setCell w1 0 _ hg)
    have HS := Lib.hid hset
    have HU := Lib.hid hus
    clear ho1 hu1 hbS hb1 hb2 hset hus
    go_wp2
    go_ret
    exact ⟨by simp [hm], HS.out, HU.out⟩
  · have e0 : ix l x = -1 := by simp [ix, hm]
    have e3 : l.erase x = l := List.erase_of_not_mem hm
    have E3 := Lib.hid e3
    rw [e0] at HC
    clear e3 e0
    go_enter Try.func11, Try.ntmps11
    go_wp2_with (go_at_call 33; refine HC.out.mono ?_; rintro e w' ⟨rfl, rfl⟩)
    go_ret
    exact ⟨by simp [hm], by rw [E3.out]; exact H0.out, Upd.refl _ _⟩
end Go.Proofs.Ytabnpacponkmhaa.H
