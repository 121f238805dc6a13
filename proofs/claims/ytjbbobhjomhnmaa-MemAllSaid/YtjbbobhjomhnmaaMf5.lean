/- The law's walks (screelaw6), its few; the counts (screeroom.Count). Conditions: sizes (printed by genmf5.py). -/
import Derived.Test.YtjbbobhjomhnmaaMf4
namespace Go.Proofs.Ytjbbobhjomhnmaa.H
open Go Go.RowKit Go.Deep Go.Shelf Go.Proofs Go.Proofs.YtjbbobhjomhnmaaW.PrintWords
set_option linter.unusedVariables false
set_option linter.unusedSimpArgs false
set_option maxHeartbeats 6400000 in
set_option maxRecDepth 100000 in
theorem walks6_c (f : Value) (n : Int) (n₀ : Nat) (Q : List Ent) (A : Option Addr) (c : Nat) (w : World) (hit : IterV Try.prog f encA n₀ Q w) (hn₀ : n₀ ≤ w.heap.size) (hs : Sl encE 4 w A Q) (hql : Q.length < 2932031007319) (hcap : Q.length ≤ c) :
    Calls Try.prog 98 #[f, .slice A Q.length c, .int .i64 n] w fun e w' => e = .returned (.bool true) ∧ Below w.heap.size w w' := by
  have HIT := Lib.hid hit
  have HN0 := Lib.hid hn₀
  have HS := Lib.hid hs
  have HQL := Lib.hid hql
  obtain ⟨qn, hqn⟩ : ∃ n, Q.length = n := ⟨_, rfl⟩
  have HQN := Lib.hid hqn
  rw [hqn] at hcap ⊢
  clear hit hn₀ hs hql hqn
  go_enter Try.func98, Try.ntmps98
  by_cases hn0 : n < 0
  · have HTK := Lib.hid (show takeN n Q = Q from takeN_all (.inl hn0))
    have HSW := Lib.hid HS.out
    have HWN := Lib.hid HQN.out
    have i8 : ¬ (0 : Int) ≤ n := by omega
    go_wp2_with fail
    go_loopw [7] (fun s7 wr => ∃ i : Nat, s7 = .int .i64 (i : Int) ∧ i ≤ 3 ∧ Below w.heap.size w wr) (fun s7 wr => 3 - (intOf s7).toNat)
    case atStart => exact ⟨0, rfl, by omega, Below.refl _ _⟩
    case round =>
      obtain ⟨i, rfl, hi, hb⟩ := hrel
      have HBW := Lib.hid hb
      clear hb
      by_cases hi3 : i < 3
      · have i1 : (i : Int) < 3 := by omega
        have HT := Lib.hid (taken6_c f n _ Q wr (HIT.out.later HBW.out) (Nat.le_trans HN0.out HBW.out.size) HQL.out)
        rw [HTK.out] at HT
        go_wp2_with fail
        refine HT.out.mono ?_
        rintro _ w5 ⟨v8, rfl, ho, hb5⟩
        clear HT
        obtain ⟨A8, c8, rfl⟩ := own_slice ho
        obtain ⟨_, _, ev, _, hs8, _⟩ := ho.slice (fun _ => rfl)
        injection ev with e1 e2 e3
        rw [← e1] at hs8
        have hse := sameEntries6_c A8 c8 Q A c Q w5 hs8 ((HSW.out.later HBW.out).later hb5)
        rw [decide_eq_true rfl] at hse
        rw [HWN.out] at hse ⊢
        have HSE := Lib.hid hse
        have HB5 := Lib.hid (HBW.out.trans (hb5.mono HBW.out.size))
        clear ho hs8 e1 e2 e3 hse hb5
        go_wp2_with fail
        refine HSE.out.mono ?_
        rintro _ w6 ⟨rfl, hb6⟩
        have HB6 := Lib.hid (HB5.out.trans (hb6.mono HB5.out.size))
        clear hb6
        go_wp2
        go_roundw
        case rel => exact ⟨i + 1, by first | rfl | simp, by omega, HB6.out⟩
        case measure => simp [intOf]; omega
      · have i1 : ¬ (i : Int) < 3 := by omega
        go_wp2
        go_ret
        exact ⟨rfl, HBW.out⟩
  · obtain ⟨p, hp⟩ : ∃ p : Nat, n = p := ⟨n.toNat, by omega⟩
    subst hp
    have i7 : (0 : Int) ≤ (p : Int) := by omega
    by_cases hpm : p < qn
    · have i8 : (p : Int) < qn := by omega
      have i9 : (p : Int) ≤ c := by omega
      obtain ⟨wl, hwl⟩ : ∃ x, Q.take p = x := ⟨_, rfl⟩
      have HTK := Lib.hid (show takeN (p : Int) Q = wl by unfold takeN; rw [if_neg (by omega), ← hwl]; rfl)
      have HSW := Lib.hid (show Sl encE 4 w A wl by rw [← hwl]; exact HS.out.take_ p)
      have HWN := Lib.hid (show wl.length = p by rw [← hwl, List.length_take, HQN.out]; omega)
      clear hwl
      go_wp2_with fail
      go_loopw [7] (fun s7 wr => ∃ i : Nat, s7 = .int .i64 (i : Int) ∧ i ≤ 3 ∧ Below w.heap.size w wr) (fun s7 wr => 3 - (intOf s7).toNat)
      case atStart => exact ⟨0, rfl, by omega, Below.refl _ _⟩
      case round =>
        obtain ⟨i, rfl, hi, hb⟩ := hrel
        have HBW := Lib.hid hb
        clear hb
        by_cases hi3 : i < 3
        · have i1 : (i : Int) < 3 := by omega
          have HT := Lib.hid (taken6_c f (p : Int) _ Q wr (HIT.out.later HBW.out) (Nat.le_trans HN0.out HBW.out.size) HQL.out)
          rw [HTK.out] at HT
          go_wp2_with fail
          refine HT.out.mono ?_
          rintro _ w5 ⟨v8, rfl, ho, hb5⟩
          clear HT
          obtain ⟨A8, c8, rfl⟩ := own_slice ho
          obtain ⟨_, _, ev, _, hs8, _⟩ := ho.slice (fun _ => rfl)
          injection ev with e1 e2 e3
          rw [← e1] at hs8
          have hse := sameEntries6_c A8 c8 wl A c wl w5 hs8 ((HSW.out.later HBW.out).later hb5)
          rw [decide_eq_true rfl] at hse
          rw [HWN.out] at hse ⊢
          have HSE := Lib.hid hse
          have HB5 := Lib.hid (HBW.out.trans (hb5.mono HBW.out.size))
          clear ho hs8 e1 e2 e3 hse hb5
          go_wp2_with fail
          refine HSE.out.mono ?_
          rintro _ w6 ⟨rfl, hb6⟩
          have HB6 := Lib.hid (HB5.out.trans (hb6.mono HB5.out.size))
          clear hb6
          go_wp2
          go_roundw
          case rel => exact ⟨i + 1, by first | rfl | simp, by omega, HB6.out⟩
          case measure => simp [intOf]; omega
        · have i1 : ¬ (i : Int) < 3 := by omega
          go_wp2
          go_ret
          exact ⟨rfl, HBW.out⟩
    · have HTK := Lib.hid (show takeN (p : Int) Q = Q by unfold takeN; rw [if_neg (by omega)]; exact List.take_of_length_le (by rw [HQN.out]; omega))
      have HSW := Lib.hid HS.out
      have HWN := Lib.hid HQN.out
      have i8 : ¬ (p : Int) < qn := by omega
      go_wp2_with fail
      go_loopw [7] (fun s7 wr => ∃ i : Nat, s7 = .int .i64 (i : Int) ∧ i ≤ 3 ∧ Below w.heap.size w wr) (fun s7 wr => 3 - (intOf s7).toNat)
      case atStart => exact ⟨0, rfl, by omega, Below.refl _ _⟩
      case round =>
        obtain ⟨i, rfl, hi, hb⟩ := hrel
        have HBW := Lib.hid hb
        clear hb
        by_cases hi3 : i < 3
        · have i1 : (i : Int) < 3 := by omega
          have HT := Lib.hid (taken6_c f (p : Int) _ Q wr (HIT.out.later HBW.out) (Nat.le_trans HN0.out HBW.out.size) HQL.out)
          rw [HTK.out] at HT
          go_wp2_with fail
          refine HT.out.mono ?_
          rintro _ w5 ⟨v8, rfl, ho, hb5⟩
          clear HT
          obtain ⟨A8, c8, rfl⟩ := own_slice ho
          obtain ⟨_, _, ev, _, hs8, _⟩ := ho.slice (fun _ => rfl)
          injection ev with e1 e2 e3
          rw [← e1] at hs8
          have hse := sameEntries6_c A8 c8 Q A c Q w5 hs8 ((HSW.out.later HBW.out).later hb5)
          rw [decide_eq_true rfl] at hse
          rw [HWN.out] at hse ⊢
          have HSE := Lib.hid hse
          have HB5 := Lib.hid (HBW.out.trans (hb5.mono HBW.out.size))
          clear ho hs8 e1 e2 e3 hse hb5
          go_wp2_with fail
          refine HSE.out.mono ?_
          rintro _ w6 ⟨rfl, hb6⟩
          have HB6 := Lib.hid (HB5.out.trans (hb6.mono HB5.out.size))
          clear hb6
          go_wp2
          go_roundw
          case rel => exact ⟨i + 1, by first | rfl | simp, by omega, HB6.out⟩
          case measure => simp [intOf]; omega
        · have i1 : ¬ (i : Int) < 3 := by omega
          go_wp2
          go_ret
          exact ⟨rfl, HBW.out⟩
abbrev CntV (w : World) (b : Nat) (x : Int) : Prop := w.heap[b]? = some (.cells #[.int .i64 x] 174 (0, 0))
theorem vok_c {w : World} {b : Nat} {x : Int} (h : CntV w b x) : Calls Try.prog 88 #[.pointer (some ⟨b, 0, none⟩)] w fun e w' => e = .returned (.bool (decide (0 ≤ x))) ∧ w = w' := by
  have c0 : w.cell? ⟨b, 0, none⟩ = some (.int .i64 x) := (blk_cell h 0).trans rfl
  clear h
  go_enter Try.func88, Try.ntmps88
  go_wp2
  go_ret
  exact ⟨rfl, rfl⟩
def cntS (x n : Int) : Int := if 0 ≤ x then x - n else x
theorem vadd_c {w : World} {b : Nat} {x : Int} (h : CntV w b x) (n : Int) (hx : -300000000000000 ≤ x ∧ x ≤ 10000) (hn : 0 ≤ n ∧ n ≤ 140737488351240) :
    Calls Try.prog 94 #[.pointer (some ⟨b, 0, none⟩), .int .i64 n] w fun e w' => (∃ v, e = .returned v) ∧ Upd (fun k => k = b) w w' ∧ CntV w' b (cntS x n) := by
  have c0 : w.cell? ⟨b, 0, none⟩ = some (.int .i64 x) := (blk_cell h 0).trans rfl
  have f0 : w.frozen? ⟨b, 0, none⟩ = false := blk_frozen h 0
  have H := Lib.hid h
  clear h
  unfold cntS
  by_cases h0 : 0 ≤ x
  · rw [if_pos h0]
    go_enter Try.func94, Try.ntmps94
    go_wp2
    go_ret
    exact ⟨⟨_, rfl⟩, Upd.setCell _ _ _ rfl, (blk_set H.out 0 _).trans rfl⟩
  · rw [if_neg h0]
    go_enter Try.func94, Try.ntmps94
    go_wp2
    go_ret
    exact ⟨⟨_, rfl⟩, Upd.refl _ _, H.out⟩
theorem vtext_c {w : World} {b : Nat} {x : Int} (h : CntV w b x) (s : ByteArray) (hx : -300000000000000 ≤ x ∧ x ≤ 10000) (hn : s.size ≤ 140737488351232) :
    Calls Try.prog 114 #[.pointer (some ⟨b, 0, none⟩), .string s] w fun e w' => (∃ v, e = .returned v) ∧ Upd (fun k => k = b) w w' ∧ CntV w' b (cntS x (1 + (s.size : Int))) := by
  have HA := Lib.hid (vadd_c h (1 + (s.size : Int)) hx (by omega))
  clear h
  go_enter Try.func114, Try.ntmps114
  go_wp2_with fail
  refine HA.out.mono ?_
  rintro _ w1 ⟨⟨v, rfl⟩, hu, hc⟩
  have HU := Lib.hid hu
  have HC := Lib.hid hc
  clear hu hc
  go_wp2
  go_end0
  exact ⟨⟨_, rfl⟩, HU.out, HC.out⟩
set_option maxHeartbeats 6400000 in
set_option maxRecDepth 100000 in
theorem vwrites_c {w : World} {b : Nat} {x : Int} (h : CntV w b x) (A : Option Addr) (c : Nat) (l : List Wri) (hs : Sl encW 3 w A l) (hA : l ≠ [] → ∀ b' o, A = some ⟨b', o, none⟩ → b' ≠ b) (hok : ∀ x ∈ l, x.1.size ≤ 140737488351232 ∧ x.2.2.size ≤ 140737488351232) (hx : -300000000000000 ≤ x ∧ x ≤ 10000) :
    Calls Try.prog 95 #[.pointer (some ⟨b, 0, none⟩), .slice A l.length c] w fun e w' => (∃ v, e = .returned v) ∧ Upd (fun k => k = b) w w' ∧ ∃ y, CntV w' b y ∧ (-300000000000000 ≤ y ∧ y ≤ 10000) ∧ (0 ≤ y → y + (l.length : Int) ≤ x) ∧ (y < 0 ∨ 0 ≤ x) := by
  have hm := hs.1
  have H := Lib.hid h
  have HS := Lib.hid hs
  have HA := Lib.hid hA
  have HOK := Lib.hid hok
  have HX := Lib.hid hx
  obtain ⟨n, hn⟩ : ∃ n, l.length = n := ⟨_, rfl⟩
  have HN := Lib.hid hn
  rw [hn] at hm ⊢
  clear h hs hA hok hn hx
  go_enter Try.func95, Try.ntmps95
  go_wp2_with fail
  go_loopw [4] (fun s4 wr => ∃ (i : Nat) (y : Int), s4 = .int .i64 (i : Int) ∧ i ≤ n ∧ Upd (fun k => k = b) w wr ∧ CntV wr b y ∧ (-300000000000000 ≤ y ∧ y ≤ 10000) ∧ (0 ≤ y → y + (i : Int) ≤ x) ∧ (y < 0 ∨ 0 ≤ x)) (fun s4 wr => n - (intOf s4).toNat)
  case atStart => exact ⟨0, x, rfl, by omega, Upd.refl _ _, H.out, HX.out, fun h => by simp, by omega⟩
  case round =>
    obtain ⟨i, y, rfl, hi, hu, hc, hy, hyx, hsg⟩ := hrel
    generalize wr = wq at *
    have HU := Lib.hid hu
    have HC := Lib.hid hc
    have HY := Lib.hid hy
    have HYX := Lib.hid hyx
    have HSG := Lib.hid hsg
    have HOKY := Lib.hid (vok_c hc)
    clear hu hc hy hyx hsg
    have i1 : (0 : Int) ≤ i := by omega
    by_cases hlt : i < n
    · have i2 : (i : Int) < n := by omega
      obtain ⟨z, hz⟩ := getElem?_of_lt (l := l) (by rw [HN.out]; exact hlt : i < l.length)
      have HZ := Lib.hid (HOK.out z (List.mem_of_getElem? hz))
      obtain ⟨b0, o0, hA0, hbl, hc0⟩ := (HS.out.upd HU.out (fun b o e => HA.out (fun e0 => by rw [e0] at hz; simp at hz) b o e)).at hz
      have hb0 := HA.out (fun e0 => by rw [e0] at hz; simp at hz) _ _ hA0
      subst hA0
      by_cases hy0 : 0 ≤ y
      · rw [decide_eq_true hy0] at HOKY
        have X0 := Lib.hid (show wq.cell? ⟨b0, o0 + i * 3, none⟩ = some (.string z.1) from hc0 0 _ rfl)
        have X2 := Lib.hid (show wq.cell? ⟨b0, o0 + i * 3 + 2, none⟩ = some (.string z.2.2) from hc0 2 _ rfl)
        have HB0 := Lib.hid hb0
        have HTX := Lib.hid (vtext_c HC.out z.1 HY.out HZ.out.1)
        clear hc0 hbl hz hb0
        go_wp2_with fail
        refine HOKY.out.mono ?_
        rintro _ _ ⟨rfl, rfl⟩
        have x0 := X0.out
        go_wp2_with fail
        refine HTX.out.mono ?_
        rintro _ w1 ⟨⟨v1, rfl⟩, hu1, hc1⟩
        have hs1 : -300000000000000 ≤ cntS y (1 + (z.1.size : Int)) ∧ cntS y (1 + (z.1.size : Int)) ≤ 10000 := by unfold cntS; rw [if_pos hy0]; have := HY.out; have := HZ.out; omega
        have x2 : w1.cell? ⟨b0, o0 + i * 3 + 2, none⟩ = some (.string z.2.2) := hu1.cell X2.out HB0.out
        have HU1 := Lib.hid hu1
        have HAD := Lib.hid (vadd_c hc1 (z.2.2.size : Int) hs1 (by have := HZ.out; omega))
        clear hu1 hc1 hs1 x0
        go_wp2_with fail
        refine HAD.out.mono ?_
        rintro _ w2 ⟨⟨v2, rfl⟩, hu2, hc2⟩
        have HU2 := Lib.hid ((HU.out.trans HU1.out).trans hu2)
        have HC2 := Lib.hid hc2
        have HE := Lib.hid (show (-300000000000000 ≤ cntS (cntS y (1 + (z.1.size : Int))) (z.2.2.size : Int) ∧ cntS (cntS y (1 + (z.1.size : Int))) (z.2.2.size : Int) ≤ 10000) ∧ (0 ≤ cntS (cntS y (1 + (z.1.size : Int))) (z.2.2.size : Int) → cntS (cntS y (1 + (z.1.size : Int))) (z.2.2.size : Int) + ((i + 1 : Nat) : Int) ≤ x) from by
          have h1 := HY.out
          have h2 := HZ.out
          have h3 := HYX.out hy0
          unfold cntS
          rw [if_pos hy0]
          split <;> push_cast <;> omega)
        clear hu2 hc2 x2
        go_wp2
        go_roundw
        case rel => exact ⟨i + 1, _, by first | rfl | simp, by omega, HU2.out, HC2.out, HE.out.1, HE.out.2, by have := HSG.out; omega⟩
        case measure => simp [intOf]; omega
      · rw [decide_eq_false hy0] at HOKY
        clear hc0 hbl hz hb0
        go_wp2_with fail
        refine HOKY.out.mono ?_
        rintro _ _ ⟨rfl, rfl⟩
        go_wp2
        go_end0
        exact ⟨⟨_, rfl⟩, HU.out, y, HC.out, HY.out, fun h => by omega, .inl (by omega)⟩
    · have hni : n = i := by omega
      clear hlt hi
      subst hni
      go_wp2
      go_end0
      exact ⟨⟨_, rfl⟩, HU.out, y, HC.out, HY.out, HYX.out, HSG.out⟩
theorem vmany_c (k : Int) (w : World) : Calls Try.prog 86 #[.int .i64 k] w fun e w' => e = .returned (.pointer (some ⟨w.heap.size, 0, none⟩)) ∧ CntV w' w.heap.size k ∧ Below w.heap.size w w' := by
  go_enter Try.func86, Try.ntmps86
  go_wp2
  go_ret
  exact ⟨rfl, heap_alloc_new _ _, (Below.refl _ _).alloc (Nat.le_refl _) _⟩
/-- A call of a script. -/
structure Op6 where
  kd : Int
  sec : Bool
  at_ : Int
  key : ByteArray
  A : Option Addr
  c : Nat
  L : List Wri
  n : Int
def encO6 (o : Op6) : List Value := [.int .i64 o.kd, .bool o.sec, .int .u64 o.at_, .string o.key, .slice o.A o.L.length o.c, .int .i64 o.n]
/-- A script, with the lists of its calls. -/
structure Scr6 (w : World) (B : Option Addr) (l : List Op6) : Prop where
  sl : Sl encO6 6 w B l
  each : ∀ o ∈ l, Sl encW 3 w o.A o.L
  ok : ∀ o ∈ l, ∀ x ∈ o.L, x.1.size ≤ 140737488351232 ∧ x.2.2.size ≤ 140737488351232
def sumL : List Op6 → Nat
  | [] => 0
  | o :: l => o.L.length + sumL l
theorem sumL_append (p q : List Op6) : sumL (p ++ q) = sumL p + sumL q := by
  induction p with
  | nil => simp [sumL]
  | cons e p ih => rw [List.cons_append, sumL, sumL, ih]; omega
theorem take_snoc' {α : Type} {l : List α} {j : Nat} {e : α} (h : l[j]? = some e) : l.take (j + 1) = l.take j ++ [e] := by
  rw [List.take_add_one, h]; rfl
set_option maxHeartbeats 6400000 in
set_option maxRecDepth 100000 in
theorem few6_c (B : Option Addr) (d : Nat) (l : List Op6) (w : World) (h : Scr6 w B l) :
    Calls Try.prog 46 #[.slice B l.length d] w fun e w' => ∃ b, e = .returned (.bool b) ∧ (b = true → l.length + sumL l ≤ 10000) ∧ Below w.heap.size w w' := by
  have hm := h.sl.1
  have H := Lib.hid h
  obtain ⟨n, hn⟩ : ∃ n, l.length = n := ⟨_, rfl⟩
  have HN := Lib.hid hn
  rw [hn] at hm ⊢
  clear h hn
  go_enter Try.func46, Try.ntmps46
  go_wp2_with fail
  refine (vmany_c 10000 w).mono ?_
  rintro _ w1 ⟨rfl, hc, hb⟩
  have HC1 := Lib.hid hc
  have HB1 := Lib.hid hb
  clear hc hb
  go_wp2_with fail
  go_loopw [4] (fun s4 wr => ∃ (i : Nat) (y : Int), s4 = .int .i64 (i : Int) ∧ i ≤ n ∧ Below w.heap.size w wr ∧ CntV wr w.heap.size y ∧ (-300000000000000 ≤ y ∧ y ≤ 10000) ∧ (0 ≤ y → y + ((i + sumL (l.take i) : Nat) : Int) ≤ 10000)) (fun s4 wr => n - (intOf s4).toNat)
  case atStart => exact ⟨0, 10000, rfl, by omega, HB1.out, HC1.out, by omega, fun _ => by simp [sumL]⟩
  case round =>
    obtain ⟨i, y, rfl, hi, hb, hc, hy, hyx⟩ := hrel
    generalize wr = wq at *
    have HB := Lib.hid hb
    have HC := Lib.hid hc
    have HY := Lib.hid hy
    have HYX := Lib.hid hyx
    have HOKY := Lib.hid (vok_c hc)
    clear hb hc hy hyx
    have i1 : (0 : Int) ≤ i := by omega
    by_cases hlt : i < n
    · have i2 : (i : Int) < n := by omega
      by_cases hy0 : 0 ≤ y
      · rw [decide_eq_true hy0] at HOKY
        obtain ⟨o, ho⟩ := getElem?_of_lt (l := l) (by rw [HN.out]; exact hlt : i < l.length)
        have hom := List.mem_of_getElem? ho
        obtain ⟨b0, o0, hA0, hbl, hc0⟩ := H.out.sl.at ho
        subst hA0
        have HSN := Lib.hid (show sumL (l.take (i + 1)) = sumL (l.take i) + o.L.length by rw [take_snoc' ho, sumL_append]; simp [sumL])
        have X4 := Lib.hid (show w.cell? ⟨b0, o0 + i * 6 + 4, none⟩ = some (.slice o.A o.L.length o.c) from hc0 4 _ rfl)
        have HAD := Lib.hid (vadd_c HC.out 1 HY.out (by omega))
        have HSO := Lib.hid (H.out.each o hom)
        have HOK := Lib.hid (H.out.ok o hom)
        have HBL := Lib.hid hbl
        clear hc0 hbl ho hom
        go_wp2_with fail
        refine HOKY.out.mono ?_
        rintro _ _ ⟨rfl, rfl⟩
        go_wp2_with fail
        refine HAD.out.mono ?_
        rintro _ w2 ⟨⟨v2, rfl⟩, hu2, hc2⟩
        have hb2 : Below w.heap.size w w2 := hu2.below HB.out (fun k hk => by omega)
        have HB2 := Lib.hid hb2
        have HC2 := Lib.hid hc2
        have x4 : w2.cell? ⟨b0, o0 + i * 6 + 4, none⟩ = some (.slice o.A o.L.length o.c) := (hb2.cell (p := ⟨b0, o0 + i * 6 + 4, none⟩) HBL.out).trans X4.out
        have HWR := Lib.hid (vwrites_c hc2 o.A o.c o.L (HSO.out.later hb2) (fun hne b' o' e => by
          obtain ⟨z, hz⟩ := List.exists_mem_of_ne_nil _ hne
          obtain ⟨j, hj⟩ := List.getElem?_of_mem hz
          obtain ⟨b1, o1, e1, hl1, _⟩ := HSO.out.at hj
          rw [e] at e1
          injection e1 with e1
          injection e1 with e1
          omega) HOK.out (by unfold cntS; rw [if_pos hy0]; have := HY.out; omega))
        clear hu2 hc2 hb2
        go_wp2_with fail
        refine HWR.out.mono ?_
        rintro _ w3 ⟨⟨v3, rfl⟩, hu3, y3, hc3, hy3, hyx3, hsg3⟩
        have HB3 := Lib.hid (hu3.below HB2.out (fun k hk => by omega))
        have HC3 := Lib.hid hc3
        have HE := Lib.hid (show (-300000000000000 ≤ y3 ∧ y3 ≤ 10000) ∧ (0 ≤ y3 → y3 + ((i + 1 + sumL (l.take (i + 1)) : Nat) : Int) ≤ 10000) from ⟨hy3, fun h => by
          have h1 := hyx3 h
          have h2 := HYX.out hy0
          unfold cntS at h1
          rw [if_pos hy0] at h1
          rw [HSN.out]
          push_cast at h2 ⊢
          omega⟩)
        clear hu3 hc3 hy3 hyx3 hsg3
        go_wp2
        go_roundw
        case rel => exact ⟨i + 1, y3, by first | rfl | simp, by omega, HB3.out, HC3.out, HE.out.1, HE.out.2⟩
        case measure => simp [intOf]; omega
      · rw [decide_eq_false hy0] at HOKY
        go_wp2_with fail
        refine HOKY.out.mono ?_
        rintro _ _ ⟨rfl, rfl⟩
        go_wp2_with fail
        refine HOKY.out.mono ?_
        rintro _ _ ⟨rfl, rfl⟩
        go_wp2
        go_ret
        exact ⟨false, by first | rfl | simp, fun h => (by cases h), HB.out⟩
    · have hni : n = i := by omega
      clear hlt hi
      subst hni
      have HT := Lib.hid (show l.take n = l from List.take_of_length_le (by rw [HN.out]; exact Nat.le_refl _))
      rw [HT.out] at HYX
      go_wp2_with fail
      refine HOKY.out.mono ?_
      rintro _ _ ⟨rfl, rfl⟩
      go_wp2
      go_ret
      exact ⟨decide (0 ≤ y), by first | rfl | simp, fun h => by have h0 := of_decide_eq_true h; have h1 := HYX.out h0; have := HN.out; omega, HB.out⟩
end Go.Proofs.Ytjbbobhjomhnmaa.H
