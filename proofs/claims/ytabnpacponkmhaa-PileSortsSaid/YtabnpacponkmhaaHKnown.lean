/- screelaw4: known, the chapter's first example, is true. Conditions: none. -/
import Derived.Test.YtabnpacponkmhaaHSide
namespace Go.Proofs.Ytabnpacponkmhaa.H
open Go.RowKit Go.Deep Go.Proofs Go.Proofs.YtabnpacponkmhaaW.PrintWords
set_option linter.unusedVariables false
set_option linter.unusedSimpArgs false
/-- The heap behind k pushes; behind k pops. -/
def kin : List Int := [5, 2, 9, 2]
def kout : List Int := [2, 2, 5, 9]
def pushes (k : Nat) : List Int := (kin.take k).foldl (pushL (aheadL 0)) []
def pops : Nat → List Int → List Int
  | 0, l => l
  | k + 1, l => popL (aheadL 0) (pops k l)
theorem pushes_succ (k : Nat) (x : Int) (h : kin[k]? = some x) : pushes (k + 1) = pushL (aheadL 0) (pushes k) x := by
  unfold pushes
  rw [take_succ_of h, List.foldl_append]
  rfl
theorem pushes_heap (k : Nat) : IsHeap (aheadL 0) (pushes k) := by
  unfold pushes
  generalize kin.take k = l
  have : ∀ (l m : List Int), IsHeap (aheadL 0) m → IsHeap (aheadL 0) (l.foldl (pushL (aheadL 0)) m) := by
    intro l
    induction l with
    | nil => intro m h; exact h
    | cons x l ih => intro m h; exact ih _ (pushL_heap (aheadL_weak 0) m x h)
  exact this l [] IsHeap.nil
theorem foldl_push_perm (l m : List Int) : (l.foldl (pushL (aheadL 0)) m).Perm (l.reverse ++ m) := by
  induction l generalizing m with
  | nil => exact List.Perm.refl _
  | cons x l ih =>
    simp only [List.foldl_cons, List.reverse_cons, List.append_assoc]
    exact (ih _).trans (List.Perm.append_left _ (pushL_perm _ m x))
theorem pushes_len (k : Nat) (h : k ≤ 4) : (pushes k).length = k := by
  unfold pushes
  rw [(foldl_push_perm _ _).length_eq]
  simp [kin]
  omega
/-- A heap that holds these: its first is the least of them. -/
theorem pop_least (l : List Int) (x : Int) (m : List Int) (hh : IsHeap (aheadL 0) l) (hp : l.Perm (x :: m)) (hx : ∀ y ∈ m, x ≤ y) : ∃ r, l = x :: r ∧ IsHeap (aheadL 0) (popL (aheadL 0) l) ∧ (popL (aheadL 0) l).Perm m := by
  rcases l with _ | ⟨z, r⟩
  · exact absurd hp.length_eq (by simp)
  · have h1 := hh.head (aheadL_weak 0)
    have hz : z = x := by
      have h2 := h1 x (hp.mem_iff.2 (by simp))
      have h3 : z ∈ x :: m := hp.mem_iff.1 (by simp)
      simp [aheadL] at h2
      rcases List.mem_cons.1 h3 with h | h
      · exact h
      · have := hx z h
        omega
    subst hz
    exact ⟨r, rfl, popL_heap (aheadL_weak 0) z r hh, (popL_perm _ z r).trans ((List.perm_cons z).1 hp)⟩
theorem pops_all : (∃ r, pops 0 (pushes 4) = 2 :: r) ∧ (∃ r, pops 1 (pushes 4) = 2 :: r) ∧ (∃ r, pops 2 (pushes 4) = 5 :: r) ∧ (∃ r, pops 3 (pushes 4) = 9 :: r) ∧ pops 4 (pushes 4) = [] := by
  have h0 : (pushes 4).Perm [2, 2, 5, 9] := by
    refine (foldl_push_perm _ _).trans ?_
    decide
  obtain ⟨r0, e0, h1, p1⟩ := pop_least (pushes 4) 2 [2, 5, 9] (pushes_heap 4) h0 (by simp)
  obtain ⟨r1, e1, h2, p2⟩ := pop_least (pops 1 (pushes 4)) 2 [5, 9] h1 p1 (by simp)
  obtain ⟨r2, e2, h3, p3⟩ := pop_least (pops 2 (pushes 4)) 5 [9] h2 p2 (by simp)
  obtain ⟨r3, e3, h4, p4⟩ := pop_least (pops 3 (pushes 4)) 9 [] h3 p3 (by simp)
  exact ⟨⟨r0, e0⟩, ⟨r1, e1⟩, ⟨r2, e2⟩, ⟨r3, e3⟩, List.perm_nil.1 p4⟩
theorem pops_at (k : Nat) (x : Int) (h : kout[k]? = some x) : ∃ r, pops k (pushes 4) = x :: r := by
  obtain ⟨h0, h1, h2, h3, _⟩ := pops_all
  match k, h with
  | 0, h => simp [kout] at h; subst h; exact h0
  | 1, h => simp [kout] at h; subst h; exact h1
  | 2, h => simp [kout] at h; subst h; exact h2
  | 3, h => simp [kout] at h; subst h; exact h3
  | k + 4, h => simp [kout] at h
theorem pops_len (k : Nat) (h : k ≤ 4) : (pops k (pushes 4)).length = 4 - k := by
  induction k with
  | zero => exact pushes_len 4 (by omega)
  | succ k ih =>
    have ih := ih (by omega)
    show (popL _ (pops k (pushes 4))).length = _
    rcases hp : pops k (pushes 4) with _ | ⟨x, r⟩
    · rw [hp] at ih; simp at ih; omega
    · rw [hp] at ih
      rw [popL_length]
      simp at ih
      omega
/-- The four cells of a literal list. -/
def lit4 (w : World) (b : Nat) (l : List Int) : Prop := ∀ k x, l[k]? = some x → w.cell? ⟨b, k, none⟩ = some (.int .i64 x)
theorem lit4_new (w : World) (a b c d : Int) : lit4 (w.alloc (.cells #[.int .i64 a, .int .i64 b, .int .i64 c, .int .i64 d] 3)) w.heap.size [a, b, c, d] := by
  intro k x h
  rw [blk_cell (heap_alloc_new w _) k]
  match k, h with
  | 0, h => simp at h; subst h; rfl
  | 1, h => simp at h; subst h; rfl
  | 2, h => simp at h; subst h; rfl
  | 3, h => simp at h; subst h; rfl
  | k + 4, h => simp at h
set_option maxHeartbeats 6400000 in
theorem known_c (w : World) : Calls Try.prog 17 #[] w fun e w' => e = .returned (.bool true) ∧ Below w.heap.size w w' := by
  go_enter Try.func17, Try.ntmps17
  go_wp2_with fail
  refine (heap_c 0 w).mono ?_
  rintro e w1 ⟨rfl, hh1, hc1, hb1⟩
  have HH1 := Lib.hid hh1
  have HC1 := Lib.hid hc1
  have HB1 := Lib.hid hb1
  have hlt := hh1.lt
  clear hh1 hc1 hb1
  have HL := Lib.hid (lit4_new w1 5 2 9 2)
  have HBL := Lib.hid ((Below.refl w1.heap.size w1).alloc (Nat.le_refl _) (.cells #[.int .i64 5, .int .i64 2, .int .i64 9, .int .i64 2] 3))
  have HSZ := Lib.hid (World.size_alloc w1 (.cells #[.int .i64 5, .int .i64 2, .int .i64 9, .int .i64 2] 3))
  go_wp2
  generalize w1.alloc (.cells #[.int .i64 5, .int .i64 2, .int .i64 9, .int .i64 2] 3) = wl at *
  have hsz := HSZ.out
  go_loopw [17] (fun s17 wr => ∃ k : Nat, s17 = .int .i64 k ∧ k ≤ 4 ∧ HeapIs wr (w.heap.size + 1) (fun b => b = w.heap.size + 1 ∨ wl.heap.size ≤ b) (ordV w.heap.size) (pushes k) ∧ Upd (fun b => b = w.heap.size + 1 ∨ wl.heap.size ≤ b) wl wr) (fun s17 _ => 4 - (intOf s17).toNat)
  case atStart => exact ⟨0, rfl, by omega, (HH1.out.later HBL.out).mono (fun k hk => .inl hk), Upd.refl _ _⟩
  case round =>
    obtain ⟨k, rfl, hk, hh, hu⟩ := hrel
    have hE : CellI w.heap.size 0 wr := (CellI.stays (S := fun b => b = w.heap.size + 1 ∨ wl.heap.size ≤ b) (fun e => by omega)) wl wr ((CellI.stays (S := fun _ => False) (fun h => h)).later HC1.out HBL.out) hu
    have HE := Lib.hid hE
    have HH := Lib.hid hh
    have HU := Lib.hid hu
    clear hE
    by_cases h4 : k < 4
    · obtain ⟨x, hx⟩ : ∃ x, kin[k]? = some x := ⟨_, List.getElem?_eq_getElem (show k < kin.length from h4)⟩
      have hc : wr.cell? ⟨w1.heap.size, k, none⟩ = some (.int .i64 x) := hu.cell (HL.out k x hx) (fun e => by simp at e; omega)
      have HPS := Lib.hid (pushes_succ k x hx)
      have HP := Lib.hid (push_c (w.heap.size + 1) (fun b => b = w.heap.size + 1 ∨ wl.heap.size ≤ b) 35 _ _ _ (lessOrder w.heap.size 0) (pushes k) x (by rw [pushes_len k hk]; omega) wr hh HE.out (CellI.stays (fun e => by omega)))
      have i1 : (0 : Int) ≤ (k : Int) := by omega
      have i2 : (k : Int) < 4 := by omega
      clear hx hh hu
      go_wp2_with fail
      refine HP.out.mono ?_
      rintro e w2 ⟨rfl, hh2, hu2⟩
      rw [← HPS.out] at hh2
      have HH2 := Lib.hid hh2
      have HU2 := Lib.hid hu2
      clear hh2 hu2 hc
      go_wp2
      go_roundw
      case rel => exact ⟨k + 1, by go_num, by omega, HH2.out.mono (fun b hb => by rcases hb with hb | hb; exact hb; exact .inr (Nat.le_trans HU.out.size hb)), HU.out.trans HU2.out⟩
      case measure => simp [intOf]; omega
    · have h4 : k = 4 := by omega
      subst h4
      obtain ⟨wo, rfl⟩ : ∃ wo : World, wo = wr := ⟨_, rfl⟩
      obtain ⟨r0, e0⟩ := pops_all.1
      have e0 : pushes 4 = 2 :: r0 := e0
      have HTop := top_c _ _ _ _ _ HH.out
      have HLen := len_c _ _ _ _ _ HH.out
      rw [pushes_len 4 (by omega)] at HLen
      rw [e0] at HTop
      have HTop := Lib.hid HTop
      have HLen := Lib.hid HLen
      have HB2 := HB1.out.trans (HBL.out.mono HB1.out.size)
      have HB3 := Upd.below HB2 HU.out (fun k hk => by rcases hk with hk | hk; omega; have := HB2.size; omega)
      have HBL2 := Lib.hid ((Below.refl wo.heap.size wo).alloc (Nat.le_refl _) (.cells #[.int .i64 2, .int .i64 2, .int .i64 5, .int .i64 9] 3))
      have HBW := Lib.hid (HB3.trans (HBL2.out.mono HB3.size))
      have HWO := HU.out.size
      clear e0 hh hu hk HB2 HB3
      go_wp2_with fail
      refine HTop.out.mono ?_
      rintro e w' ⟨rfl, rfl⟩
      go_wp2_with fail
      refine HLen.out.mono ?_
      rintro e w' ⟨rfl, rfl⟩
      have HL2 := Lib.hid (lit4_new wo 2 2 5 9)
      have HSZ2 := Lib.hid (World.size_alloc wo (.cells #[.int .i64 2, .int .i64 2, .int .i64 5, .int .i64 9] 3))
      have HHT := Lib.hid (HH.out.tight.later HBL2.out)
      have HC2 := Lib.hid ((CellI.stays (S := fun _ => False) (fun h => h)).later HE.out HBL2.out)
      clear HTop HLen
      go_wp2
      generalize wo.alloc (.cells #[.int .i64 2, .int .i64 2, .int .i64 5, .int .i64 9] 3) = wm at *
      go_loopw [43] (fun s43 wq => ∃ k : Nat, s43 = .int .i64 k ∧ k ≤ 4 ∧ HeapIs wq (w.heap.size + 1) (fun b => (b = w.heap.size + 1 ∨ wl.heap.size ≤ b) ∧ b < wo.heap.size) (ordV w.heap.size) (pops k (pushes 4)) ∧ Upd (fun b => (b = w.heap.size + 1 ∨ wl.heap.size ≤ b) ∧ b < wo.heap.size) wm wq) (fun s43 _ => 4 - (intOf s43).toNat)
      case atStart => exact ⟨0, rfl, by omega, HHT.out, Upd.refl _ _⟩
      case round =>
        obtain ⟨k, rfl, hk, hh, hu⟩ := hrel
        have hE : CellI w.heap.size 0 wr := (CellI.stays (S := fun b => (b = w.heap.size + 1 ∨ wl.heap.size ≤ b) ∧ b < wo.heap.size) (fun e => by omega)) wm wr HC2.out hu
        have HE2 := Lib.hid hE
        have HH2 := Lib.hid hh
        have HU2 := Lib.hid hu
        clear hE
        by_cases h4 : k < 4
        · obtain ⟨x, hx⟩ : ∃ x, kout[k]? = some x := ⟨_, List.getElem?_eq_getElem (show k < kout.length from h4)⟩
          have hc : wr.cell? ⟨wo.heap.size, k, none⟩ = some (.int .i64 x) := hu.cell (HL2.out k x hx) (fun e => by simp at e)
          obtain ⟨r, er⟩ := pops_at k x hx
          have hps : pops (k + 1) (pushes 4) = popL (aheadL 0) (x :: r) := by rw [← er]; rfl
          have hln := pops_len k hk
          rw [er] at hh hln
          have HP := Lib.hid (pop_some (w.heap.size + 1) _ 35 _ _ _ (lessOrder w.heap.size 0) x r (by simp at hln; omega) wr hh HE2.out (CellI.stays (fun e => by omega)))
          have HPS := Lib.hid hps
          have i1 : (0 : Int) ≤ (k : Int) := by omega
          have i2 : (k : Int) < 4 := by omega
          clear hx hh hu er hps hln
          go_wp2_with fail
          refine HP.out.mono ?_
          rintro e w2 ⟨rfl, hh2, hu2⟩
          rw [← HPS.out] at hh2
          have HH3 := Lib.hid hh2
          have HU3 := Lib.hid hu2
          clear hh2 hu2 hc
          go_wp2
          go_roundw
          case rel => exact ⟨k + 1, by go_num, by omega, HH3.out, HU2.out.trans HU3.out⟩
          case measure => simp [intOf]; omega
        · have h4 : k = 4 := by omega
          subst h4
          rw [pops_all.2.2.2.2] at hh
          have HPN := Lib.hid (pop_none _ _ _ _ hh)
          have HLN := Lib.hid (len_c _ _ _ _ _ hh)
          have HBF := Lib.hid (Upd.below HBW.out hu (fun k hk => by have := hk.1; have := HB1.out.size; omega))
          clear hh hu hk
          go_wp2_with fail
          refine HPN.out.mono ?_
          rintro e w' ⟨rfl, rfl⟩
          go_wp2_with fail
          refine HLN.out.mono ?_
          rintro e w' ⟨rfl, rfl⟩
          go_wp2
          go_ret
          exact ⟨rfl, HBF.out⟩
end Go.Proofs.Ytabnpacponkmhaa.H
