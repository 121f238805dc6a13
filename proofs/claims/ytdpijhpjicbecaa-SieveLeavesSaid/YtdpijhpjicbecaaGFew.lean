/- screelaw11.few. Conditions: sizes. (genfew.py) -/
import Derived.Test.YtdpijhpjicbecaaGLs
namespace Go.Proofs.Ytdpijhpjicbecaa.H
open Go Go.RowKit Go.Deep Go.Shelf Go.Proofs Go.Proofs.YtdpijhpjicbecaaW.PrintWords
set_option linter.unusedVariables false
set_option linter.unusedSimpArgs false
attribute [local go_sem] Oper.semAt_some
abbrev CntV (w : World) (b : Nat) (x : Int) : Prop := w.heap[b]? = some (.cells #[.int .i64 x] 105 (0, 0))
theorem vok_c {w : World} {b : Nat} {x : Int} (h : CntV w b x) : Calls Try.prog 54 #[.pointer (some ⟨b, 0, none⟩)] w fun e w' => e = .returned (.bool (decide (0 ≤ x))) ∧ w = w' := by
  have c0 : w.cell? ⟨b, 0, none⟩ = some (.int .i64 x) := (blk_cell h 0).trans rfl
  clear h
  go_enter Try.func54, Try.ntmps54
  go_wp2
  go_ret
  exact ⟨rfl, rfl⟩
def cntS (x n : Int) : Int := if 0 ≤ x then x - n else x
theorem vadd_c {w : World} {b : Nat} {x : Int} (h : CntV w b x) (n : Int) (hx : -300000000000000 ≤ x ∧ x ≤ 10000) (hn : 0 ≤ n ∧ n ≤ 140737488351240) :
    Calls Try.prog 55 #[.pointer (some ⟨b, 0, none⟩), .int .i64 n] w fun e w' => (∃ v, e = .returned v) ∧ Upd (fun k => k = b) w w' ∧ CntV w' b (cntS x n) := by
  have c0 : w.cell? ⟨b, 0, none⟩ = some (.int .i64 x) := (blk_cell h 0).trans rfl
  have f0 : w.frozen? ⟨b, 0, none⟩ = false := blk_frozen h 0
  have H := Lib.hid h
  clear h
  unfold cntS
  by_cases h0 : 0 ≤ x
  · rw [if_pos h0]
    go_enter Try.func55, Try.ntmps55
    go_wp2
    go_ret
    exact ⟨⟨_, rfl⟩, Upd.setCell _ _ _ rfl, (blk_set H.out 0 _).trans rfl⟩
  · rw [if_neg h0]
    go_enter Try.func55, Try.ntmps55
    go_wp2
    go_ret
    exact ⟨⟨_, rfl⟩, Upd.refl _ _, H.out⟩
theorem vtext_c {w : World} {b : Nat} {x : Int} (h : CntV w b x) (s : ByteArray) (hx : -300000000000000 ≤ x ∧ x ≤ 10000) (hn : s.size ≤ 140737488351232) :
    Calls Try.prog 76 #[.pointer (some ⟨b, 0, none⟩), .string s] w fun e w' => (∃ v, e = .returned v) ∧ Upd (fun k => k = b) w w' ∧ CntV w' b (cntS x (1 + (s.size : Int))) := by
  have HA := Lib.hid (vadd_c h (1 + (s.size : Int)) hx (by omega))
  clear h
  go_enter Try.func76, Try.ntmps76
  go_wp2_with fail
  refine HA.out.mono ?_
  rintro _ w1 ⟨⟨v, rfl⟩, hu, hc⟩
  have HU := Lib.hid hu
  have HC := Lib.hid hc
  clear hu hc
  go_wp2
  go_end0
  exact ⟨⟨_, rfl⟩, HU.out, HC.out⟩
set_option maxHeartbeats 6400000 in
set_option maxRecDepth 100000 in
theorem ventries_c {w : World} {b : Nat} {x : Int} (h : CntV w b x) (A : Option Addr) (c : Nat) (l : List Ent) (hs : Sl encE 4 w A l) (hA : l ≠ [] → ∀ b' o, A = some ⟨b', o, none⟩ → b' ≠ b) (hok : ∀ x ∈ l, x.1.size ≤ 140737488351232 ∧ x.2.2.2.size ≤ 140737488351232) (hx : -300000000000000 ≤ x ∧ x ≤ 10000) :
    Calls Try.prog 56 #[.pointer (some ⟨b, 0, none⟩), .slice A l.length c] w fun e w' => (∃ v, e = .returned v) ∧ Upd (fun k => k = b) w w' ∧ ∃ y, CntV w' b y ∧ (-300000000000000 ≤ y ∧ y ≤ 10000) ∧ (0 ≤ y → y + (l.length : Int) ≤ x) ∧ (y < 0 ∨ 0 ≤ x) := by
  have hm := hs.1
  have H := Lib.hid h
  have HS := Lib.hid hs
  have HA := Lib.hid hA
  have HOK := Lib.hid hok
  have HX := Lib.hid hx
  obtain ⟨n, hn⟩ : ∃ n, l.length = n := ⟨_, rfl⟩
  have HN := Lib.hid hn
  rw [hn] at hm ⊢
  clear h hs hA hok hn hx
  go_enter Try.func56, Try.ntmps56
  go_wp2_with fail
  go_loopw [4] (fun s4 wr => ∃ (i : Nat) (y : Int), s4 = .int .i64 (i : Int) ∧ i ≤ n ∧ Upd (fun k => k = b) w wr ∧ CntV wr b y ∧ (-300000000000000 ≤ y ∧ y ≤ 10000) ∧ (0 ≤ y → y + (i : Int) ≤ x) ∧ (y < 0 ∨ 0 ≤ x)) (fun s4 wr => n - (intOf s4).toNat)
  case atStart => exact ⟨0, x, rfl, by omega, Upd.refl _ _, H.out, HX.out, fun h => by simp, by omega⟩
  case round =>
    obtain ⟨i, y, rfl, hi, hu, hc, hy, hyx, hsg⟩ := hrel
    generalize wr = wq at *
    have HU := Lib.hid hu
    have HC := Lib.hid hc
    have HY := Lib.hid hy
    have HYX := Lib.hid hyx
    have HSG := Lib.hid hsg
    have HOKY := Lib.hid (vok_c hc)
    clear hu hc hy hyx hsg
    have i1 : (0 : Int) ≤ i := by omega
    by_cases hlt : i < n
    · have i2 : (i : Int) < n := by omega
      obtain ⟨z, hz⟩ := getElem?_of_lt (l := l) (by rw [HN.out]; exact hlt : i < l.length)
      have HZ := Lib.hid (HOK.out z (List.mem_of_getElem? hz))
      obtain ⟨b0, o0, hA0, hbl, hc0⟩ := (HS.out.upd HU.out (fun b o e => HA.out (fun e0 => by rw [e0] at hz; simp at hz) b o e)).at hz
      have hb0 := HA.out (fun e0 => by rw [e0] at hz; simp at hz) _ _ hA0
      subst hA0
      by_cases hy0 : 0 ≤ y
      · rw [decide_eq_true hy0] at HOKY
        have X0 := Lib.hid (show wq.cell? ⟨b0, o0 + i * 4, none⟩ = some (.string z.1) from hc0 0 _ rfl)
        have X2 := Lib.hid (show wq.cell? ⟨b0, o0 + i * 4 + 3, none⟩ = some (.string z.2.2.2) from hc0 3 _ rfl)
        have HB0 := Lib.hid hb0
        have HTX := Lib.hid (vtext_c HC.out z.1 HY.out HZ.out.1)
        clear hc0 hbl hz hb0
        go_wp2_with fail
        refine HOKY.out.mono ?_
        rintro _ _ ⟨rfl, rfl⟩
        have x0 := X0.out
        go_wp2_with fail
        refine HTX.out.mono ?_
        rintro _ w1 ⟨⟨v1, rfl⟩, hu1, hc1⟩
        have hs1 : -300000000000000 ≤ cntS y (1 + (z.1.size : Int)) ∧ cntS y (1 + (z.1.size : Int)) ≤ 10000 := by unfold cntS; rw [if_pos hy0]; have := HY.out; have := HZ.out; omega
        have x3 : w1.cell? ⟨b0, o0 + i * 4 + 3, none⟩ = some (.string z.2.2.2) := hu1.cell X2.out HB0.out
        have HU1 := Lib.hid hu1
        have HAD := Lib.hid (vadd_c hc1 (z.2.2.2.size : Int) hs1 (by have := HZ.out; omega))
        clear hu1 hc1 hs1 x0
        go_wp2_with fail
        refine HAD.out.mono ?_
        rintro _ w2 ⟨⟨v2, rfl⟩, hu2, hc2⟩
        have HU2 := Lib.hid ((HU.out.trans HU1.out).trans hu2)
        have HC2 := Lib.hid hc2
        have HE := Lib.hid (show (-300000000000000 ≤ cntS (cntS y (1 + (z.1.size : Int))) (z.2.2.2.size : Int) ∧ cntS (cntS y (1 + (z.1.size : Int))) (z.2.2.2.size : Int) ≤ 10000) ∧ (0 ≤ cntS (cntS y (1 + (z.1.size : Int))) (z.2.2.2.size : Int) → cntS (cntS y (1 + (z.1.size : Int))) (z.2.2.2.size : Int) + ((i + 1 : Nat) : Int) ≤ x) from by
          have h1 := HY.out
          have h2 := HZ.out
          have h3 := HYX.out hy0
          unfold cntS
          rw [if_pos hy0]
          split <;> push_cast <;> omega)
        clear hu2 hc2 x3
        go_wp2
        go_roundw
        case rel => exact ⟨i + 1, _, by first | rfl | simp, by omega, HU2.out, HC2.out, HE.out.1, HE.out.2, by have := HSG.out; omega⟩
        case measure => simp [intOf]; omega
      · rw [decide_eq_false hy0] at HOKY
        clear hc0 hbl hz hb0
        go_wp2_with fail
        refine HOKY.out.mono ?_
        rintro _ _ ⟨rfl, rfl⟩
        go_wp2
        go_end0
        exact ⟨⟨_, rfl⟩, HU.out, y, HC.out, HY.out, fun h => by omega, .inl (by omega)⟩
    · have hni : n = i := by omega
      clear hlt hi
      subst hni
      go_wp2
      go_end0
      exact ⟨⟨_, rfl⟩, HU.out, y, HC.out, HY.out, HYX.out, HSG.out⟩
theorem vmany_c (k : Int) (w : World) : Calls Try.prog 53 #[.int .i64 k] w fun e w' => e = .returned (.pointer (some ⟨w.heap.size, 0, none⟩)) ∧ CntV w' w.heap.size k ∧ Below w.heap.size w w' := by
  go_enter Try.func53, Try.ntmps53
  go_wp2
  go_ret
  exact ⟨rfl, heap_alloc_new _ _, (Below.refl _ _).alloc (Nat.le_refl _) _⟩
def sumL : List HE → Nat
  | [] => 0
  | o :: l => o.2.2.length + sumL l
theorem sumL_append (p q : List HE) : sumL (p ++ q) = sumL p + sumL q := by
  induction p with
  | nil => simp [sumL]
  | cons e p ih => rw [List.cons_append, sumL, sumL, ih]; omega
theorem sumL_tot (l : List HE) : sumL l = totL (l.map (·.2.2)) := by
  induction l with
  | nil => rfl
  | cons a l ih => rw [sumL, ih]; simp [totL]
theorem take_snoc' {α : Type} {l : List α} {j : Nat} {e : α} (h : l[j]? = some e) : l.take (j + 1) = l.take j ++ [e] := by
  rw [List.take_add_one, h]; rfl
set_option maxHeartbeats 6400000 in
set_option maxRecDepth 100000 in
theorem few11_c (B : Option Addr) (d : Nat) (l : List HE) (w : World) (h : Sl2 w B l) (hok : ∀ o ∈ l, ∀ x ∈ o.2.2, x.1.size ≤ 140737488351232 ∧ x.2.2.2.size ≤ 140737488351232) :
    Calls Try.prog 12 #[.slice B l.length d] w fun e w' => ∃ b, e = .returned (.bool b) ∧ (b = true → l.length + sumL l ≤ 10000) ∧ Below w.heap.size w w' := by
  have hm := h.1.1
  have H := Lib.hid h
  have HOKS := Lib.hid hok
  obtain ⟨n, hn⟩ : ∃ n, l.length = n := ⟨_, rfl⟩
  have HN := Lib.hid hn
  rw [hn] at hm ⊢
  clear h hn hok
  go_enter Try.func12, Try.ntmps12
  go_wp2_with fail
  refine (vmany_c 10000 w).mono ?_
  rintro _ w1 ⟨rfl, hc, hb⟩
  have HC1 := Lib.hid hc
  have HB1 := Lib.hid hb
  clear hc hb
  go_wp2_with fail
  go_loopw [4] (fun s4 wr => ∃ (i : Nat) (y : Int), s4 = .int .i64 (i : Int) ∧ i ≤ n ∧ Below w.heap.size w wr ∧ CntV wr w.heap.size y ∧ (-300000000000000 ≤ y ∧ y ≤ 10000) ∧ (0 ≤ y → y + ((i + sumL (l.take i) : Nat) : Int) ≤ 10000)) (fun s4 wr => n - (intOf s4).toNat)
  case atStart => exact ⟨0, 10000, rfl, by omega, HB1.out, HC1.out, by omega, fun _ => by simp [sumL]⟩
  case round =>
    obtain ⟨i, y, rfl, hi, hb, hc, hy, hyx⟩ := hrel
    generalize wr = wq at *
    have HB := Lib.hid hb
    have HC := Lib.hid hc
    have HY := Lib.hid hy
    have HYX := Lib.hid hyx
    have HOKY := Lib.hid (vok_c hc)
    clear hb hc hy hyx
    have i1 : (0 : Int) ≤ i := by omega
    by_cases hlt : i < n
    · have i2 : (i : Int) < n := by omega
      by_cases hy0 : 0 ≤ y
      · rw [decide_eq_true hy0] at HOKY
        obtain ⟨o, ho⟩ := getElem?_of_lt (l := l) (by rw [HN.out]; exact hlt : i < l.length)
        have hom := List.mem_of_getElem? ho
        obtain ⟨b0, o0, hA0, hbl, hc0⟩ := H.out.1.at ho
        subst hA0
        have HSN := Lib.hid (show sumL (l.take (i + 1)) = sumL (l.take i) + o.2.2.length by rw [take_snoc' ho, sumL_append]; simp [sumL])
        have X4 := Lib.hid (show w.cell? ⟨b0, o0 + i, none⟩ = some (.slice o.1 o.2.2.length o.2.1) from by simpa using hc0 0 _ rfl)
        have HAD := Lib.hid (vadd_c HC.out 1 HY.out (by omega))
        have HSO := Lib.hid (H.out.2 o hom)
        have HOK := Lib.hid (HOKS.out o hom)
        have HBL := Lib.hid hbl
        clear hc0 hbl ho hom
        go_wp2_with fail
        refine HOKY.out.mono ?_
        rintro _ _ ⟨rfl, rfl⟩
        go_wp2_with fail
        refine HAD.out.mono ?_
        rintro _ w2 ⟨⟨v2, rfl⟩, hu2, hc2⟩
        have hb2 : Below w.heap.size w w2 := hu2.below HB.out (fun k hk => by omega)
        have HB2 := Lib.hid hb2
        have HC2 := Lib.hid hc2
        have x4 : w2.cell? ⟨b0, o0 + i, none⟩ = some (.slice o.1 o.2.2.length o.2.1) := (hb2.cell (p := ⟨b0, o0 + i, none⟩) HBL.out).trans X4.out
        have HWR := Lib.hid (ventries_c hc2 o.1 o.2.1 o.2.2 (HSO.out.later hb2) (fun hne b' o' e => by
          obtain ⟨z, hz⟩ := List.exists_mem_of_ne_nil _ hne
          obtain ⟨j, hj⟩ := List.getElem?_of_mem hz
          obtain ⟨b1, o1, e1, hl1, _⟩ := HSO.out.at hj
          rw [e] at e1
          injection e1 with e1
          injection e1 with e1
          omega) HOK.out (by unfold cntS; rw [if_pos hy0]; have := HY.out; omega))
        clear hu2 hc2 hb2
        go_wp2_with fail
        refine HWR.out.mono ?_
        rintro _ w3 ⟨⟨v3, rfl⟩, hu3, y3, hc3, hy3, hyx3, hsg3⟩
        have HB3 := Lib.hid (hu3.below HB2.out (fun k hk => by omega))
        have HC3 := Lib.hid hc3
        have HE := Lib.hid (show (-300000000000000 ≤ y3 ∧ y3 ≤ 10000) ∧ (0 ≤ y3 → y3 + ((i + 1 + sumL (l.take (i + 1)) : Nat) : Int) ≤ 10000) from ⟨hy3, fun h => by
          have h1 := hyx3 h
          have h2 := HYX.out hy0
          unfold cntS at h1
          rw [if_pos hy0] at h1
          rw [HSN.out]
          push_cast at h2 ⊢
          omega⟩)
        clear hu3 hc3 hy3 hyx3 hsg3
        go_wp2
        go_roundw
        case rel => exact ⟨i + 1, y3, by first | rfl | simp, by omega, HB3.out, HC3.out, HE.out.1, HE.out.2⟩
        case measure => simp [intOf]; omega
      · rw [decide_eq_false hy0] at HOKY
        go_wp2_with fail
        refine HOKY.out.mono ?_
        rintro _ _ ⟨rfl, rfl⟩
        go_wp2_with fail
        refine HOKY.out.mono ?_
        rintro _ _ ⟨rfl, rfl⟩
        go_wp2
        go_ret
        exact ⟨false, by first | rfl | simp, fun h => (by cases h), HB.out⟩
    · have hni : n = i := by omega
      clear hlt hi
      subst hni
      have HT := Lib.hid (show l.take n = l from List.take_of_length_le (by rw [HN.out]; exact Nat.le_refl _))
      rw [HT.out] at HYX
      go_wp2_with fail
      refine HOKY.out.mono ?_
      rintro _ _ ⟨rfl, rfl⟩
      go_wp2
      go_ret
      exact ⟨decide (0 ≤ y), by first | rfl | simp, fun h => by have h0 := of_decide_eq_true h; have h1 := HYX.out h0; have := HN.out; omega, HB.out⟩
end Go.Proofs.Ytdpijhpjicbecaa.H
