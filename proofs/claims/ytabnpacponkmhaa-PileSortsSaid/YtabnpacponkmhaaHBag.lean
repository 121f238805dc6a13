/- screeref4: Ahead, and a bag: contracts. Conditions: fewer than 2^40 lie in it. -/
import Derived.Test.YtabnpacponkmhaaHHeap2
namespace Go.Proofs.Ytabnpacponkmhaa.H
open Go.RowKit Go.Deep Go.Proofs Go.Proofs.YtabnpacponkmhaaW.PrintWords
set_option linter.unusedVariables false
set_option linter.unusedSimpArgs false
def dig (a : Int) : Int := if a.tmod 10 < 0 then -(a.tmod 10) else a.tmod 10
def aheadL (o a b : Int) : Bool := if o = 1 then decide (b < a) else if o = 2 then decide (dig a < dig b) else if o = 3 then false else decide (a < b)
theorem aheadL_weak (o : Int) : Weak (aheadL o) := by
  constructor
  · intro x y
    unfold aheadL
    split
    · simp; omega
    · split
      · simp; omega
      · split
        · simp
        · simp; omega
  · intro x y z
    unfold aheadL
    split
    · simp; omega
    · split
      · simp; omega
      · split
        · simp
        · simp; omega
theorem digit_c (a : Int) (w : World) : Calls Try.prog 45 #[.int .i64 a] w fun e w' => e = .returned (.int .i64 (dig a)) ∧ w = w' := by
  have b1 : a.tmod 10 < 10 := Int.tmod_lt_of_pos a (by omega)
  have b2 : -10 < a.tmod 10 := Int.lt_tmod_of_pos a (by omega)
  by_cases h : a.tmod 10 < 0
  · have e : dig a = -(a.tmod 10) := if_pos h
    have E := Lib.hid e
    clear e
    go_enter Try.func45, Try.ntmps45
    go_wp2
    go_ret
    exact ⟨by rw [E.out]; rfl, rfl⟩
  · have e : dig a = a.tmod 10 := if_neg h
    have E := Lib.hid e
    clear e
    go_enter Try.func45, Try.ntmps45
    go_wp2
    go_ret
    exact ⟨by rw [E.out]; rfl, rfl⟩
set_option maxHeartbeats 800000 in
theorem aheadRef_c (o a b : Int) (w : World) : Calls Try.prog 36 #[.int .i64 o, .int .i64 a, .int .i64 b] w fun e w' => e = .returned (.bool (aheadL o a b)) ∧ w = w' := by
  by_cases h1 : o = 1
  · have e : aheadL o a b = decide (b < a) := if_pos h1
    have g1 : (o == 1) = true := by simpa using h1
    have E := Lib.hid e
    clear e h1
    go_enter Try.func36, Try.ntmps36
    go_wp2
    go_ret
    exact ⟨by rw [E.out]; rfl, rfl⟩
  · have g1 : (o == 1) = false := by simpa using h1
    by_cases h2 : o = 2
    · have e : aheadL o a b = decide (dig a < dig b) := by unfold aheadL; rw [if_neg h1, if_pos h2]
      have g2 : (o == 2) = true := by simpa using h2
      have E := Lib.hid e
      clear e h1 h2
      go_enter Try.func36, Try.ntmps36
      go_wp2_with (go_at_call 45; refine (digit_c _ _).mono ?_; rintro e w' ⟨rfl, rfl⟩)
      go_ret
      exact ⟨by rw [E.out]; rfl, rfl⟩
    · have g2 : (o == 2) = false := by simpa using h2
      by_cases h3 : o = 3
      · have e : aheadL o a b = false := by unfold aheadL; rw [if_neg h1, if_neg h2, if_pos h3]
        have g3 : (o == 3) = true := by simpa using h3
        have E := Lib.hid e
        clear e h1 h2 h3
        go_enter Try.func36, Try.ntmps36
        go_wp2
        go_ret
        exact ⟨by rw [E.out]; rfl, rfl⟩
      · have e : aheadL o a b = decide (a < b) := by unfold aheadL; rw [if_neg h1, if_neg h2, if_neg h3]
        have g3 : (o == 3) = false := by simpa using h3
        have E := Lib.hid e
        clear e h1 h2 h3
        go_enter Try.func36, Try.ntmps36
        go_wp2
        go_ret
        exact ⟨by rw [E.out]; rfl, rfl⟩
/-- The captured variable of a closure: an int in a cell of its own. -/
def CellI (c : Nat) (n : Int) (w : World) : Prop := w.cell? ⟨c, 0, none⟩ = some (.int .i64 n)
theorem CellI.stays {c : Nat} {n : Int} {S : Nat → Prop} (h : ¬ S c) : Stays S (CellI c n) := fun w w' e u => u.cell e h
theorem lessOrder (c : Nat) (o : Int) : LessI 35 #[.pointer (some ⟨c, 0, none⟩)] (CellI c o) (aheadL o) where
  ent := enters_of Try.func35 (by kernel_rfl) rfl
  run := by
    intro w x y hc
    unfold CellI at hc
    show Calls _ _ #[.int .i64 x, .int .i64 y, .pointer (some ⟨c, 0, none⟩)] w _
    go_enter Try.func35, Try.ntmps35
    go_wp2_with (go_at_call 36; refine (aheadRef_c _ _ _ _).mono ?_; rintro e w' ⟨rfl, rfl⟩)
    go_ret
    exact ⟨rfl, Below.refl _ _⟩
/-- odder: some answer. -/
def odd3 (s a b : Int) : Bool := (IntKind.u64.wrap (IntKind.u64.wrap (IntKind.u64.wrap (IntKind.u64.wrap a * 31) + IntKind.u64.wrap (IntKind.u64.wrap b * 17)) + IntKind.u64.wrap s)).tmod 3 == 0
theorem odder_c (s a b : Int) (w : World) : Calls Try.prog 26 #[.int .i64 s, .int .i64 a, .int .i64 b] w fun e w' => e = .returned (.bool (odd3 s a b)) ∧ w = w' := by
  go_enter Try.func26, Try.ntmps26
  go_wp2
  go_ret
  exact ⟨rfl, rfl⟩
theorem lessOdd (c : Nat) (o : Int) : LessI 25 #[.pointer (some ⟨c, 0, none⟩)] (CellI c o) (odd3 o) where
  ent := enters_of Try.func25 (by kernel_rfl) rfl
  run := by
    intro w x y hc
    unfold CellI at hc
    show Calls _ _ #[.int .i64 x, .int .i64 y, .pointer (some ⟨c, 0, none⟩)] w _
    go_enter Try.func25, Try.ntmps25
    go_wp2_with (go_at_call 26; refine (odder_c _ _ _ _).mono ?_; rintro e w' ⟨rfl, rfl⟩)
    go_ret
    exact ⟨rfl, Below.refl _ _⟩
/-! ### The bag -/
/-- A bag: its struct's block g, its list's block; both in S. -/
def BagIs (w : World) (g : Nat) (S : Nat → Prop) (o : Int) (l : List Int) : Prop :=
  ∃ v, w.heap[g]? = some (.cells #[.int .i64 o, v] 39 (0, 0)) ∧ Own encI 3 1 w 0 v l ∧ S g ∧ ∀ k, v.ownBlock = some k → S k ∧ k ≠ g
theorem BagIs.upd {w w' : World} {g : Nat} {S T : Nat → Prop} {o : Int} {l : List Int} (h : BagIs w g S o l) (u : Upd T w w') (hd : ∀ k, S k → ¬ T k) : BagIs w' g S o l := by
  obtain ⟨v, hb, ho, hg, hk⟩ := h
  exact ⟨v, u.heap hb (hd g hg), ho.upd u (fun k e => hd k (hk k e).1), hg, hk⟩
theorem BagIs.later {w w' : World} {g : Nat} {S : Nat → Prop} {o : Int} {l : List Int} (h : BagIs w g S o l) (hb : Below w.heap.size w w') : BagIs w' g S o l :=
  h.upd (Upd.of_below (S := fun _ => False) hb) (fun _ _ h => h)
theorem BagIs.mono {w : World} {g : Nat} {S S' : Nat → Prop} {o : Int} {l : List Int} (h : BagIs w g S o l) (hs : ∀ k, S k → S' k) : BagIs w g S' o l := by
  obtain ⟨v, hb, ho, hg, hk⟩ := h
  exact ⟨v, hb, ho, hs _ hg, fun k e => ⟨hs _ (hk k e).1, (hk k e).2⟩⟩
theorem BagIs.tight {w : World} {g : Nat} {S : Nat → Prop} {o : Int} {l : List Int} (h : BagIs w g S o l) : BagIs w g (fun k => S k ∧ k < w.heap.size) o l := by
  obtain ⟨v, hb, ho, hg, hk⟩ := h
  exact ⟨v, hb, ho, ⟨hg, blk_lt hb⟩, fun k e => ⟨⟨(hk k e).1, (ho.block_lt e).2⟩, (hk k e).2⟩⟩
theorem BagIs.parts {w : World} {g : Nat} {S : Nat → Prop} {o : Int} {l : List Int} (h : BagIs w g S o l) :
    ∃ A c, w.heap[g]? = some (.cells #[.int .i64 o, .slice A l.length c] 39 (0, 0)) ∧ Own encI 3 1 w 0 (.slice A l.length c) l ∧ Sl encI 1 w A l ∧ l.length ≤ c ∧ S g ∧ (∀ k, (Value.slice A l.length c).ownBlock = some k → S k ∧ k ≠ g) ∧ (l ≠ [] → ∃ b, A = some ⟨b, 0, none⟩ ∧ S b ∧ b ≠ g ∧ b < w.heap.size) := by
  obtain ⟨v, hb, ho, hg, hk⟩ := h
  obtain ⟨A, c, rfl, hlc, hs, hne⟩ := ho.slice (fun x => (okI x).1)
  exact ⟨A, c, hb, ho, hs, hlc, hg, hk, fun h => by obtain ⟨b, rfl, _, hlt⟩ := hne h; exact ⟨b, rfl, (hk b rfl).1, (hk b rfl).2, hlt⟩⟩
theorem Own.cellsI {w : World} {base b n c : Nat} {l : List Int} (h : Own encI 3 1 w base (.slice (some ⟨b, 0, none⟩) n c) l) : (∀ i (hi : i < l.length), w.cell? ⟨b, i, none⟩ = some (.int .i64 l[i])) ∧ ∀ i, w.frozen? ⟨b, i, none⟩ = false := by
  obtain ⟨A, c', hv, hlc, hs, hne⟩ := h.slice (fun x => (okI x).1)
  injection hv with h1 h2 h3
  subst h1; subst h2; subst h3
  refine ⟨fun i hi => ?_, fun i => World.ownsRow.frozenAt h i⟩
  obtain ⟨b', o', hA, _, hc⟩ := hs.at (List.getElem?_eq_getElem hi)
  injection hA with hA; injection hA with h1 h2; subst h1; subst h2
  simpa using hc 0 _ rfl
set_option maxHeartbeats 1600000 in
theorem put_c (g : Nat) (S : Nat → Prop) (o : Int) (l : List Int) (x : Int) (hl : l.length < 1000000000000) (w : World) (h : BagIs w g S o l) :
    Calls Try.prog 28 #[.pointer (some ⟨g, 0, none⟩), .int .i64 x] w fun e w' => e = .returned (.tuple #[]) ∧ BagIs w' g (New S w) o (l ++ [x]) ∧ Upd S w w' := by
  obtain ⟨A, c, hb, ho, hs, hlc, hg, hk, _⟩ := h.parts
  have c1 : w.cell? ⟨g, 1, none⟩ = some (.slice A l.length c) := (blk_cell hb 1).trans rfl
  have HO := Lib.hid ho
  have HK := Lib.hid hk
  have HB := Lib.hid hb
  have hlt := blk_lt HB.out
  clear ho hk hs hb h
  go_enter Try.func28, Try.ntmps28
  go_wp2_with (at_builtin; refine wpList_app rfl (.tmp 8) (.tmp 10) rfl uSlInt infoInt rfl (by decide) (by decide) okI (.slice A l.length c) l rfl (base := 0) ?c1 (some ⟨w.heap.size, 0, none⟩) 1 [x] rfl ?c2 ?c3 ?c4 ?_)
  case c1 => exact HO.out.below ((Below.refl _ _).alloc (Nat.le_refl _) _)
  case c2 => exact Sl.one okI w x _ rfl
  case c3 => simp; omega
  case c4 => exact Nat.zero_le _
  intro v1 w1 ho1 hg1 hat1
  have hu1 : Upd S w w1 := (Upd.alloc w _).trans (Upd.of_grown hg1 (fun k hk => (HK.out k hk).1))
  have hbx : w1.heap[g]? = some (.cells #[.int .i64 o, .slice A l.length c] 39 (0, 0)) := by
    have hgg := hg1.block g (by simp; omega) (by intro e; exact (HK.out g e.symm).2 rfl)
    rw [hgg]
    exact (((Below.refl w.heap.size w).alloc (Nat.le_refl _) _).block g hlt).trans HB.out
  have f1 : w1.frozen? ⟨g, 1, none⟩ = false := blk_frozen hbx 1
  have d1 : w1.cell? ⟨g, 1, none⟩ = some (.slice A l.length c) := (blk_cell hbx 1).trans rfl
  have hb2 := blk_set hbx 1 v1
  have hv1 : ∀ k, v1.ownBlock = some k → New S w k ∧ k ≠ g := by
    intro k hk
    rcases hat1 with h | h
    · have := HK.out k (by rw [← h]; exact hk)
      exact ⟨.inl this.1, this.2⟩
    · rw [h] at hk
      injection hk with hk
      try simp at hk
      exact ⟨.inr (by omega), by omega⟩
  obtain ⟨A1, k1, rfl, hk1, hs1, hne1⟩ := ho1.slice (fun x => (okI x).1)
  have hset : BagIs (w1.setCell ⟨g, 1, none⟩ (.slice A1 (l ++ [x]).length k1)) g (New S w) o (l ++ [x]) :=
    ⟨_, hb2.trans rfl, ho1.upd (Upd.setCell (S := fun k => k = g) w1 1 _ rfl) (fun k hk => (hv1 k hk).2), .inl hg, hv1⟩
  have hus : Upd S w (w1.setCell ⟨g, 1, none⟩ (.slice A1 (l ++ [x]).length k1)) := hu1.trans (Upd.setCell w1 1 _ hg)
  have HS := Lib.hid hset
  have HU := Lib.hid hus
  clear ho1 hg1 hat1 hu1 hbx hb2 hv1 hset hus hs1 hne1
  go_wp2
  go_end0
  exact ⟨rfl, by simpa using HS.out, by simpa using HU.out⟩
/-- Least. -/
def leastL (o : Int) (l : List Int) (x : Int) : Bool := decide (x ∈ l) && l.all (fun y => !aheadL o y x)
def leastFrom (o x : Int) : List Int → Bool → Bool
  | [], t => t
  | y :: l, t => if aheadL o y x then false else leastFrom o x l (t || y == x)
theorem leastFrom_eq (o x : Int) (l : List Int) (t : Bool) : leastFrom o x l t = ((t || decide (x ∈ l)) && l.all (fun y => !aheadL o y x)) := by
  induction l generalizing t with
  | nil => simp [leastFrom]
  | cons y l ih =>
    simp only [leastFrom]
    cases h : aheadL o y x with
    | true => simp [h]
    | false =>
      rw [if_neg (by simp), ih]
      simp only [List.all_cons, h, Bool.not_false, Bool.true_and, List.mem_cons]
      congr 1
      by_cases e : y = x
      · subst e; simp
      · have e' : ¬ x = y := fun h => e h.symm
        have e2 : (y == x) = false := by simpa using e
        rw [e2]
        simp [e']
set_option maxHeartbeats 1600000 in
theorem least_c (g : Nat) (S : Nat → Prop) (o : Int) (l : List Int) (x : Int) (hl : l.length < 1000000000000) (w : World) (h : BagIs w g S o l) :
    Calls Try.prog 46 #[.pointer (some ⟨g, 0, none⟩), .int .i64 x] w fun e w' => e = .returned (.bool (leastL o l x)) ∧ Below w.heap.size w w' := by
  have e0 : leastL o l x = leastFrom o x l false := by rw [leastFrom_eq]; simp [leastL]
  rw [e0]
  obtain ⟨A, c, hb, ho, hs, hlc, hg, hk, hne⟩ := h.parts
  have c0 : w.cell? ⟨g, 0, none⟩ = some (.int .i64 o) := (blk_cell hb 0).trans rfl
  have c1 : w.cell? ⟨g, 1, none⟩ = some (.slice A l.length c) := (blk_cell hb 1).trans rfl
  have hlt := blk_lt hb
  have HO := Lib.hid ho
  have HN := Lib.hid hne
  have HC0 := Lib.hid c0
  have HC1 := Lib.hid c1
  generalize hR : leastFrom o x l false = R
  have HR := Lib.hid hR
  clear ho hk hs hb h hne c0 c1 e0 hR
  go_enter Try.func46, Try.ntmps46
  go_wp2
  go_loopw [5, 6] (fun st si wr => ∃ (k : Nat) (t : Bool), si = .int .i64 k ∧ k ≤ l.length ∧ st = .bool t ∧ leastFrom o x (l.drop k) t = R ∧ Below w.heap.size w wr) (fun _ si _ => l.length - (intOf si).toNat)
  case atStart => exact ⟨0, false, rfl, by omega, rfl, HR.out, Below.refl _ _⟩
  case round =>
    obtain ⟨k, t, rfl, hkl, rfl, hL, hB⟩ := hrel
    have c0 : wr.cell? ⟨g, 0, none⟩ = some (.int .i64 o) := (hB.cell (p := ⟨g, 0, none⟩) hlt).trans HC0.out
    have c1 : wr.cell? ⟨g, 1, none⟩ = some (.slice A l.length c) := (hB.cell (p := ⟨g, 1, none⟩) hlt).trans HC1.out
    have HB := Lib.hid hB
    by_cases hk : k < l.length
    · obtain ⟨b, rfl, _, _, hblt⟩ := HN.out (by rintro rfl; simp at hk)
      have ck : wr.cell? ⟨b, k, none⟩ = some (.int .i64 l[k]) := (hB.cell (p := ⟨b, k, none⟩) hblt).trans (HO.out.cellsI.1 k hk)
      have ed : l.drop k = l[k] :: l.drop (k + 1) := List.drop_eq_getElem_cons hk
      rw [ed] at hL
      simp only [leastFrom] at hL
      clear hB ed
      generalize l[k] = y at *
      have i1 : (0 : Int) ≤ (k : Int) := by omega
      have i2 : (k : Int) < (l.length : Int) := by omega
      have HA := Lib.hid (fun W => aheadRef_c o y x W)
      by_cases ha : aheadL o y x = true
      · rw [ha, if_pos rfl] at hL
        rw [ha] at HA
        have HLL := Lib.hid hL
        clear hL ha
        go_wp2
        go_still_tail 12, (by kernel_rfl)
        change wpList _ _ _ _ _ wr.drew
        go_wp2_with (go_at_call 36; refine (HA.out _).mono ?_; rintro e w' ⟨rfl, rfl⟩)
        go_ret
        exact ⟨by rw [HLL.out]; rfl, HB.out.trans ((Below.refl _ _).drew)⟩
      · have ha' : aheadL o y x = false := by simpa using ha
        rw [ha', if_neg (by simp)] at hL
        rw [ha'] at HA
        clear ha ha'
        by_cases hyx : y = x
        · have e1 : (y == x) = true := by simpa using hyx
          rw [e1, Bool.or_true] at hL
          have HLL := Lib.hid hL
          clear hL hyx
          go_wp2
          go_still_tail 12, (by kernel_rfl)
          change wpList _ _ _ _ _ wr.drew
          go_wp2_with (go_at_call 36; refine (HA.out _).mono ?_; rintro e w' ⟨rfl, rfl⟩)
          go_roundw
          case rel => exact ⟨k + 1, true, by go_num, by omega, rfl, HLL.out, HB.out.trans ((Below.refl _ _).drew)⟩
          case measure => simp [intOf]; omega
        · have e1 : (y == x) = false := by simpa using hyx
          rw [e1, Bool.or_false] at hL
          have HLL := Lib.hid hL
          clear hL hyx
          go_wp2
          go_still_tail 12, (by kernel_rfl)
          change wpList _ _ _ _ _ wr.drew
          go_wp2_with (go_at_call 36; refine (HA.out _).mono ?_; rintro e w' ⟨rfl, rfl⟩)
          go_roundw
          case rel => exact ⟨k + 1, t, by go_num, by omega, rfl, HLL.out, HB.out.trans ((Below.refl _ _).drew)⟩
          case measure => simp [intOf]; omega
    · have ed : l.drop k = [] := List.drop_eq_nil_of_le (by omega)
      rw [ed] at hL
      simp only [leastFrom] at hL
      have HLL := Lib.hid hL
      clear hL ed hB
      go_wp2
      go_ret
      exact ⟨by rw [← HLL.out]; rfl, HB.out⟩
/-- What Take leaves: the last in the taken one's place. -/
def tookL (l : List Int) (i : Nat) : List Int := (l.set i (l.getLastD 0)).take (l.length - 1)
theorem tookL_perm (l : List Int) (i : Nat) (hi : i < l.length) : (l[i] :: tookL l i).Perm l := by
  have hne : l ≠ [] := by rintro rfl; simp at hi
  have hz : l.getLastD 0 = l.getLast hne := by rw [List.getLastD_eq_getLast?, List.getLast?_eq_some_getLast hne]; rfl
  have hl : l.dropLast ++ [l.getLast hne] = l := List.dropLast_concat_getLast hne
  unfold tookL
  rw [hz]
  generalize l.getLast hne = z at hl
  generalize l.dropLast = d at hl
  subst hl
  simp only [List.length_append, List.length_singleton, Nat.add_sub_cancel]
  rcases Nat.lt_or_ge i d.length with h | h
  · rw [List.getElem_append_left h, List.set_append_left _ _ h, List.take_left' (by simp)]
    have h1 : (d.set i z).Perm (z :: d.eraseIdx i) := by
      rw [List.set_eq_take_append_cons_drop, if_pos h, List.eraseIdx_eq_take_drop_succ]
      exact List.perm_middle
    have h2 : d.Perm (d[i] :: d.eraseIdx i) := by
      have e : d = d.take i ++ d[i] :: d.drop (i + 1) := by rw [← List.drop_eq_getElem_cons h, List.take_append_drop]
      rw [List.eraseIdx_eq_take_drop_succ]
      conv => lhs; rw [e]
      exact List.perm_middle
    refine (h1.cons d[i]).trans ((List.Perm.swap _ _ _).trans ?_)
    refine (h2.symm.cons z).trans ?_
    exact (List.perm_append_comm (l₁ := [z]) (l₂ := d))
  · have e : i = d.length := by simp at hi; omega
    subst e
    rw [List.getElem_append_right (Nat.le_refl _), List.set_append_right _ _ (Nat.le_refl _), List.take_left' rfl]
    simp only [Nat.sub_self, List.getElem_cons_zero]
    exact (List.perm_append_comm (l₁ := [z]) (l₂ := d))
theorem tookL_length (l : List Int) (i : Nat) (hi : i < l.length) : (tookL l i).length = l.length - 1 := by
  have := (tookL_perm l i hi).length_eq
  simp only [List.length_cons] at this
  omega
theorem BagIs.took {w : World} {g b c : Nat} {S : Nat → Prop} {o z : Int} {l : List Int} (h : BagIs w g S o l) (hw : w.cell? ⟨g, 1, none⟩ = some (.slice (some ⟨b, 0, none⟩) l.length c)) (i : Nat) (hi : i < l.length) (hz : z = l.getLastD 0) :
    ∃ w2, (w.setCell ⟨b, i, none⟩ (.int .i64 z)).drew = w2 ∧ w2.cell? ⟨g, 1, none⟩ = some (.slice (some ⟨b, 0, none⟩) l.length c) ∧ w2.frozen? ⟨g, 1, none⟩ = false ∧
      BagIs (w2.setCell ⟨g, 1, none⟩ (.slice (some ⟨b, 0, none⟩) (l.length - 1) c)) g S o (tookL l i) ∧ Upd S w (w2.setCell ⟨g, 1, none⟩ (.slice (some ⟨b, 0, none⟩) (l.length - 1) c)) := by
  obtain ⟨A', c', hb, ho, hs, hlc, hg, hk, hne⟩ := h.parts
  obtain ⟨b', rfl, hSb, hbg, hlt⟩ := hne (by rintro rfl; simp at hi)
  have c1 : w.cell? ⟨g, 1, none⟩ = some (.slice (some ⟨b', 0, none⟩) l.length c') := (blk_cell hb 1).trans rfl
  rw [c1] at hw
  injection hw with hw
  injection hw with h1 h2 h3
  injection h1 with h1; injection h1 with h1
  subst h1; subst h3
  have u : Upd (fun k => k = b') w (w.setCell ⟨b', i, none⟩ (.int .i64 z)).drew := (Upd.setCell (S := fun k => k = b') w i _ rfl).trans (Upd.drew _)
  have o2 : Own encI 3 1 (w.setCell ⟨b', i, none⟩ (.int .i64 z)).drew 0 (.slice (some ⟨b', 0, none⟩) l.length c') (l.set i z) :=
    (Own.set1 (f := fun x => .int .i64 x) (fun _ => rfl) ho rfl i z).below ((Below.refl _ _).drew)
  have o3 := o2.take1 okI (by simp) (l.length - 1) (by simp)
  have hbx := u.heap hb (fun e => hbg e.symm)
  generalize (w.setCell ⟨b', i, none⟩ (.int .i64 z)).drew = w2 at *
  have d1 : w2.cell? ⟨g, 1, none⟩ = some (.slice (some ⟨b', 0, none⟩) l.length c') := (blk_cell hbx 1).trans rfl
  subst hz
  refine ⟨w2, rfl, d1, blk_frozen hbx 1, ⟨_, (blk_set hbx 1 _).trans rfl, o3.upd (Upd.setCell (S := fun k => k = g) w2 1 _ rfl) (fun k e => by injection e with e; subst e; exact hbg), hg, ?_⟩, (u.mono (fun k hk => by rw [hk]; exact hSb)).trans (Upd.setCell w2 1 _ hg)⟩
  intro k e
  injection e with e
  subst e
  exact ⟨hSb, hbg⟩
set_option maxHeartbeats 1600000 in
theorem take_c (g : Nat) (S : Nat → Prop) (o : Int) (l : List Int) (x : Int) (hl : l.length < 1000000000000) (w : World) (h : BagIs w g S o l) :
    Calls Try.prog 30 #[.pointer (some ⟨g, 0, none⟩), .int .i64 x] w fun e w' => e = .returned (.bool (decide (x ∈ l))) ∧ BagIs w' g S o (if x ∈ l then tookL l (l.idxOf x) else l) ∧ Upd S w w' := by
  have HBag := Lib.hid h
  obtain ⟨A, c, hb, ho, hs, hlc, hg, hk, hne⟩ := h.parts
  have c1 : w.cell? ⟨g, 1, none⟩ = some (.slice A l.length c) := (blk_cell hb 1).trans rfl
  have hlt := blk_lt hb
  have HO := Lib.hid ho
  have HN := Lib.hid hne
  clear ho hk hs hb h hne
  go_enter Try.func30, Try.ntmps30
  go_wp2
  go_loopw [5] (fun si wr => ∃ (k : Nat), si = .int .i64 k ∧ k ≤ l.length ∧ x ∉ l.take k ∧ wr = w) (fun si _ => l.length - (intOf si).toNat)
  case atStart => exact ⟨0, rfl, by omega, by simp, rfl⟩
  case round =>
    obtain ⟨k, rfl, hkl, hN, rfl⟩ := hrel
    by_cases hk : k < l.length
    · obtain ⟨b, rfl, _, _, hblt⟩ := HN.out (by rintro rfl; simp at hk)
      have ck : wr.cell? ⟨b, k, none⟩ = some (.int .i64 l[k]) := HO.out.cellsI.1 k hk
      have hgk : l[k]? = some l[k] := List.getElem?_eq_getElem hk
      by_cases hyx : l[k] = x
      · have hm : x ∈ l := by rw [← hyx]; exact List.getElem_mem hk
        have hix : l.idxOf x = k := by
          have := ix_at (hyx ▸ hgk) hN
          simp only [ix, if_pos hm] at this
          omega
        have e1 : (l[k] == x) = true := by simpa using hyx
        have hlast : l.length - 1 < l.length := by omega
        have cl : wr.cell? ⟨b, l.length - 1, none⟩ = some (.int .i64 l[l.length - 1]) := HO.out.cellsI.1 _ hlast
        have hzz : l[l.length - 1] = l.getLastD 0 := by
          rw [List.getLastD_eq_getLast?, List.getLast?_eq_getElem?, List.getElem?_eq_getElem hlast]; rfl
        have fk := HO.out.cellsI.2 k
        obtain ⟨w2, hw2, k1, k2, k3, k4⟩ := HBag.out.took c1 k hk hzz
        have K3 := Lib.hid k3
        have K4 := Lib.hid k4
        have HW2 := Lib.hid hw2
        have HM := Lib.hid hm
        have HIX := Lib.hid hix
        have E1 := Lib.hid e1
        clear hN hgk hyx hm hix hzz k3 k4 hw2 e1
        generalize l[l.length - 1] = z at *
        have i1 : (0 : Int) ≤ (k : Int) := by omega
        have i2 : (k : Int) < (l.length : Int) := by omega
        have i3 : (0 : Int) ≤ (l.length : Int) - 1 := by omega
        have i4 : (l.length : Int) - 1 < (l.length : Int) := by omega
        have e1 := E1.out
        generalize l[k] = y at *
        go_wp2
        clear e1
        go_region
        rw [HW2.out]
        have i5 : (l.length : Int) - 1 ≤ (c : Int) := by omega
        clear HW2
        go_wp2
        go_region
        go_wp2
        go_ret
        have hm := HM.out
        exact ⟨by simp [hm], by rw [HIX.out]; exact K3.out.later ((Below.refl _ _).drew), K4.out.trans (Upd.drew _)⟩
      · have e1 : (l[k] == x) = false := by simpa using hyx
        have hN' := not_mem_take_succ hgk hN (fun e => hyx e.symm)
        have HN' := Lib.hid hN'
        clear hN hgk hyx hN'
        generalize l[k] = y at *
        go_wp2
        clear e1
        go_roundw
        case rel => exact ⟨k + 1, by go_num, by omega, HN'.out, trivial⟩
        case measure => simp [intOf]; omega
    · have hkk : k = l.length := by omega
      rw [hkk, List.take_length] at hN
      have HN' := Lib.hid hN
      clear hN hkk
      go_wp2
      go_ret
      have hm := HN'.out
      exact ⟨by simp [hm], HBag.out, Upd.refl _ _⟩
end Go.Proofs.Ytabnpacponkmhaa.H
