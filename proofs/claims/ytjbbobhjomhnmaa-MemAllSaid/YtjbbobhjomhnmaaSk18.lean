/- SkipOrder, walked. Conditions: sizes (printed by gensk18.py). -/
import Derived.Test.YtjbbobhjomhnmaaSkF
namespace Go.Proofs.Ytjbbobhjomhnmaa.H
open Go Go.RowKit Go.Deep Go.Shelf Go.Proofs Go.Proofs.YtjbbobhjomhnmaaW.PrintWords
set_option linter.unusedVariables false
set_option linter.unusedSimpArgs false
theorem ldEntO (b o : Nat) (y : Ent) (W : World) (h : ∀ i v, (encE y)[i]? = some v → W.cell? ⟨b, o + i, none⟩ = some v) : (Instr.loadAt 53 (.pointer (some ⟨b, o, none⟩))).run Try.prog W = .ok (.agg (encE y).toArray) W := by
  have h0 := h 0 _ rfl
  have h1 := h 1 _ rfl
  have h2 := h 2 _ rfl
  have h3 := h 3 _ rfl
  simp only [Nat.add_zero] at h0
  unfold encE
  go_simp
theorem ahead5_t {x y : Ent} {b : Bool} (h : decide (ltE x y) = b) (w : World) : Calls Try.prog 25 #[.agg (encE x).toArray, .agg (encE y).toArray] w fun e w' => e = .returned (.bool b) ∧ Below w.heap.size w w' := by
  subst h
  exact ahead5_c x y w
theorem dec_run (t : TypeId) (x y : Operand) (k : Int) (h0 : 0 ≤ k) (h : k < 9223372036854775807) (W : World) : (do eqGuard .sub t x y (.int .i64 (k + 1)) (.int .i64 1); binOp .sub t (.int .i64 (k + 1)) (.int .i64 1) : Sem Value).run Try.prog W = .ok (.int .i64 k) W := by
  have h1 : k + 1 - 1 = k := by omega
  have h2 : IntKind.i64.wrap k = k := by rw [IntKind.wrap_i64]; omega
  go_simp
theorem strEq_run (t : TypeId) (x y : Operand) (a b : ByteArray) (r : Bool) (h : decide (a.toList = b.toList) = r) (W : World) : (do eqGuard .eql t x y (.string a) (.string b); binOp .eql t (.string a) (.string b) : Sem Value).run Try.prog W = .ok (.bool r) W := by
  subst h
  go_simp
  first | done | exact Bool.eq_iff_iff.2 (by simp)
theorem numEq_run (k : IntKind) (t : TypeId) (x y : Operand) (a b : Int) (r : Bool) (h : decide (a = b) = r) (W : World) : (do eqGuard .eql t x y (.int k a) (.int k b); binOp .eql t (.int k a) (.int k b) : Sem Value).run Try.prog W = .ok (.bool r) W := by
  subst h
  go_simp
  first | done | exact Bool.eq_iff_iff.2 (by simp)
theorem ldS (b j : Nat) (v : ByteArray) (W : World) (h : W.cell? ⟨b, j, none⟩ = some (.string v)) : (Instr.loadAt 9 (.pointer (some ⟨b, j, none⟩))).run Try.prog W = .ok (.string v) W := by
  go_simp
theorem ldU (b j : Nat) (v : Int) (W : World) (h : W.cell? ⟨b, j, none⟩ = some (.int .u64 v)) : (Instr.loadAt 51 (.pointer (some ⟨b, j, none⟩))).run Try.prog W = .ok (.int .u64 v) W := by
  go_simp
theorem idx_run (b o m c k : Nat) (h : k < m) (W : World) : (Instr.indexAt 64 (.slice (some ⟨b, o, none⟩) m c) (.int .i64 (k : Int))).run Try.prog W = .ok (.pointer (some ⟨b, o + k * 4, none⟩)) W := by
  have h0 : (0 : Int) ≤ k := by omega
  have h1 : (k : Int) < m := by omega
  go_simp
theorem idx1_run (b o m c k : Nat) (h : k + 1 < m) (W : World) : (Instr.indexAt 64 (.slice (some ⟨b, o, none⟩) m c) (.int .i64 ((k : Int) + 1))).run Try.prog W = .ok (.pointer (some ⟨b, o + (k + 1) * 4, none⟩)) W := by
  have := idx_run b o m c (k + 1) h W
  simpa using this
set_option maxHeartbeats 6400000 in
set_option maxRecDepth 100000 in
theorem skipOrder_c (A : Option Addr) (c : Nat) (draws : List Int) (B : Option Addr) (d : Nat) (l : List Ent) (w : World) (ha : Sl encB 1 w A draws) (hal : draws.length < 140737488351233) (hby : ∀ x ∈ draws, U8 x) (hb : Sl encE 4 w B l) (hbl : l.length < 2932031007319) (hq : ∀ e ∈ l, e.2.1 ≤ 18446744073709551615) :
    Calls Try.prog 4 #[.slice A draws.length c, .slice B l.length d] w fun e w' => e = .returned (.bool true) ∧ Below w.heap.size w w' := by
  have HK := Lib.hid (known5_c w)
  have HMADE := Lib.hid (fun (w1 : World) (hb1 : Below w.heap.size w w1) => made_c A c draws B d l w1 (ha.later hb1) hal hby (hb.later hb1) hbl)
  have HB := Lib.hid hb
  have HALL := Lib.hid (made_all draws l hq)
  obtain ⟨lens1, lens2, lens3⟩ := made_lens draws l
  have HCNT := Lib.hid (fun x => made_count draws l (x := x))
  have HONCE := Lib.hid (fun x => made_once draws l (x := x))
  have HSRT := Lib.hid (made_sorted draws l)
  clear ha hby hb hq
  obtain ⟨M, hM⟩ : ∃ M, madeF draws l = M := ⟨_, rfl⟩
  rw [hM] at HMADE HALL lens1 lens2 lens3 HCNT HONCE HSRT
  clear hM
  obtain ⟨L, ins⟩ := M
  simp only at HMADE HALL lens1 lens2 lens3 HCNT HONCE HSRT
  obtain ⟨nd, hnd⟩ : ∃ n, draws.length = n := ⟨_, rfl⟩
  obtain ⟨n, hn⟩ : ∃ n, l.length = n := ⟨_, rfl⟩
  obtain ⟨m, hm⟩ : ∃ m, ins.length = m := ⟨_, rfl⟩
  rw [hnd] at HMADE hal ⊢
  rw [hn] at HMADE hbl lens3 ⊢
  rw [hm] at lens1 lens2 lens3
  have HN := Lib.hid hn
  have HMM := Lib.hid hm
  have HL1 := Lib.hid lens1
  have HL2 := Lib.hid lens2
  clear hn hm hnd lens1 lens2
  go_enter Try.func4, Try.ntmps4
  go_wp2_with fail
  refine HK.out.mono ?_
  rintro e w1 ⟨rfl, hb1⟩
  have HM1 := Lib.hid (HMADE.out w1 hb1)
  go_wp2_with fail
  refine HM1.out.mono ?_
  rintro e w2 ⟨g, S, v, rfl, hS, hsk, hown, hb2⟩
  have hb2' := hb1.trans (hb2.mono hb1.size)
  obtain ⟨A2, c2, hv, _, hins, _⟩ := hown.slice (fun _ => rfl)
  subst hv
  have HFROM := Lib.hid (from_L g S draws L ⟨#[]⟩ 18446744073709551615 w2 w2 hsk (Below.refl _ _))
  rw [HALL.out] at HFROM
  rw [HMM.out]
  go_wp2_with fail
  refine HFROM.out.mono ?_
  rintro e w3 ⟨f, rfl, hit, hb3⟩
  have HTAKEN := Lib.hid (taken_c f (-1) w2.heap.size _ w3 hit hb3.size (by rw [HL1.out]; omega))
  rw [show takeN (-1) (allE L) = allE L from takeN_all (.inl (by decide))] at HTAKEN
  go_wp2_with fail
  refine HTAKEN.out.mono ?_
  rintro e w4 ⟨v4, rfl, hown4, hb4⟩
  have hb4' : Below w.heap.size w w4 := hb2'.trans ((hb3.trans (hb4.mono hb3.size)).mono hb2'.size)
  obtain ⟨A4, c4, hv, _, hall, _⟩ := hown4.slice (fun _ => rfl)
  subst hv
  rw [HL1.out]
  have HLEN := Lib.hid (len_L g S draws L w4 ((hsk.later hb3).later hb4))
  rw [HL2.out] at HLEN
  have HINS := Lib.hid ((hins.later hb3).later hb4)
  have HAE := Lib.hid hall
  have HB4 := Lib.hid hb4'
  clear hins hall hown hown4 hit hsk hb1 hb2 hb2' hb3 hb4 hb4' HTAKEN HFROM HM1 HMADE HK HALL hS
  go_wp2_with fail
  refine HLEN.out.mono ?_
  rintro e w5 ⟨rfl, rfl⟩
  go_wp2_with fail

  go_loopw [9] (fun s9 wr => ∃ k : Nat, s9 = .int .i64 k ∧ k ≤ m ∧ Below w4.heap.size w4 wr) (fun s9 wr => m - (intOf s9).toNat)
  case atStart => exact ⟨0, rfl, by omega, Below.refl _ _⟩
  case round =>
    obtain ⟨k, rfl, hk, hbq⟩ := hrel
    generalize wr = wq at *
    by_cases hkm : k < m
    · obtain ⟨x, hx⟩ := getElem?_of_lt (l := allE L) (by rw [HL1.out]; exact hkm : k < (allE L).length)
      have HX := Lib.hid hx
      obtain ⟨bx, ox, xA, xlt, xc⟩ := HAE.out.at hx
      have HXLT := Lib.hid xlt
      have HXC := Lib.hid xc
      have i1 : (0 : Int) ≤ k := by omega
      have i2 : (k : Int) < m := by omega
      by_cases hk0 : k = 0
      · have hk0' : ¬ (0 : Int) < k := by omega
        have HWQ := Lib.hid hbq.drew
        subst xA
        clear hbq xlt xc hx
        subst hk0
        go_wp2_with fail
        go_region
        go_wp2_with fail
        go_loopw [10, 11] (fun s10 s11 wr => ∃ j : Nat, s11 = .int .i64 j ∧ j ≤ m ∧ s10 = .int .i64 ((ins.take j).countP (fun y => decide (y = x)) : Nat) ∧ Below w4.heap.size w4 wr) (fun s10 s11 wr => m - (intOf s11).toNat)
        case atStart => exact ⟨0, rfl, by omega, by simp, HWQ.out⟩
        case round =>
          obtain ⟨j, rfl, hj, rfl, hbj⟩ := hrel
          generalize wr = wj at *
          have HBJ := Lib.hid hbj
          have hcj : (ins.take j).countP (fun y => decide (y = x)) ≤ j := Nat.le_trans List.countP_le_length (by rw [List.length_take]; omega)
          obtain ⟨cj, hcj2⟩ : ∃ cj, (ins.take j).countP (fun y => decide (y = x)) = cj := ⟨_, rfl⟩
          rw [hcj2] at hcj ⊢
          have HCJ := Lib.hid hcj2
          clear hcj2 hbj
          by_cases hjm : j < m
          · obtain ⟨z, hz⟩ := getElem?_of_lt (l := ins) (by rw [HMM.out]; exact hjm : j < ins.length)
            have HZ := Lib.hid hz
            obtain ⟨bz, oz, zA, zlt, zc⟩ := HINS.out.at hz
            subst zA
            have zq := fun i v hv => (HBJ.out.cell (p := ⟨bz, oz + j * 4 + i, none⟩) zlt).trans (zc i v hv)
            have z0 := zq 0 _ rfl
            have z1 := zq 1 _ rfl
            have z2 := zq 2 _ rfl
            have z3 := zq 3 _ rfl
            simp only [Nat.add_zero] at z0
            have hXJ := fun i v hv => (HBJ.out.cell (p := ⟨bx, ox + 0 * 4 + i, none⟩) HXLT.out).trans (HXC.out i v hv)
            have x0 := hXJ 0 _ rfl
            have x1 := hXJ 1 _ rfl
            have x2 := hXJ 2 _ rfl
            have x3 := hXJ 3 _ rfl
            simp only [Nat.add_zero, Nat.zero_mul, Nat.zero_add] at x0 x1 x2 x3
            clear hXJ zq zc zlt hz
            have heq := eqE_run z x
            have j1 : (0 : Int) ≤ j := by omega
            have j2 : (j : Int) < m := by omega
            go_wp2_with fail
            go_region
            by_cases hzx : z = x
            · have hd : decide (z = x) = true := decide_eq_true hzx
              simp only [hd]
              go_wp2
              go_roundw
              case rel => exact ⟨j + 1, by first | rfl | simp, by omega, by rw [countP_take _ HZ.out, HCJ.out, if_pos hd]; first | rfl | simp, HBJ.out.drew⟩
              case measure => simp [intOf]; omega
            · have hd : decide (z = x) = false := decide_eq_false hzx
              simp only [hd]
              go_wp2
              go_roundw
              case rel => exact ⟨j + 1, by first | rfl | simp, by omega, by rw [countP_take _ HZ.out, HCJ.out, if_neg (by rw [hd]; decide)]; first | rfl | simp, HBJ.out.drew⟩
              case measure => simp [intOf]; omega
          · have hjm2 : j = m := by omega
            subst hjm2
            have hc1 : cj = 1 := by
              rw [← HCJ.out, List.take_of_length_le (by rw [HMM.out]; exact Nat.le_refl _)]
              exact HCNT.out x (List.mem_of_getElem? HX.out)
            subst hc1
            go_wp2
            go_roundw
            case rel => exact ⟨0 + 1, by first | rfl | simp, by omega, HBJ.out⟩
            case measure => simp [intOf]; omega
      · obtain ⟨k', hk'⟩ : ∃ k', k = k' + 1 := ⟨k - 1, by omega⟩
        obtain ⟨x', hx'⟩ := getElem?_of_lt (l := allE L) (by rw [HL1.out]; omega : k' < (allE L).length)
        have hord : decide (ltE x' x) = true := by
          have := List.pairwise_iff_getElem.1 HSRT.out k' k (by rw [HL1.out]; omega) (by rw [HL1.out]; omega) (by omega)
          obtain ⟨h1, h2⟩ := List.getElem?_eq_some_iff.1 hx'
          obtain ⟨h3, h4⟩ := List.getElem?_eq_some_iff.1 hx
          rw [h2, h4] at this
          exact decide_eq_true this
        obtain ⟨bx', ox', xA', _, xc'⟩ := HAE.out.at hx'
        rw [xA] at xA'
        injection xA' with e1
        injection e1 with e2 e3
        subst e2; subst e3
        have XP := Lib.hid (fun i v hv => (hbq.cell (p := ⟨bx, ox + k' * 4 + i, none⟩) xlt).trans (xc' i v hv))
        have XQ := Lib.hid (fun i v hv => (hbq.cell (p := ⟨bx, ox + k * 4 + i, none⟩) xlt).trans (xc i v hv))
        subst xA
        have HQ := Lib.hid hbq
        clear hbq xlt xc hx xc' hx'
        subst hk'
        go_wp2_with fail
        refine wp_region_calmB 14 (by kernel_rfl) (by kernel_rfl) ?_
        simp only [List.take_succ_cons, List.take_zero, List.drop_succ_cons, List.drop_zero]
        refine chain0 ?_
        refine @chain _ _ _ _ _ _ _ _ 53 (.int .i64 ((k' : Int) + 1)) (by rfl) (by rfl) (by exact fun W2 hW => run_mv (by rfl) (by exact eval_base (by kernel_rfl) (by rfl)) hW) ?_
        refine @chain _ _ _ _ _ _ _ _ 54 (.bool true) (by rfl) (by rfl) (by exact fun W2 hW => run_bo (u := .int .i64 ((k' : Int) + 1)) (v := .int .i64 0) (by rfl) (by exact eval_look (by kernel_rfl) (by kernel_rfl)) (by rfl) (fun W => by go_simp) hW) ?_
        refine @chain _ _ _ _ _ _ _ _ 55 (.bool true) (by rfl) (by rfl) (by exact fun W2 hW => run_mv (by rfl) (by exact eval_look (by kernel_rfl) (by kernel_rfl)) hW) ?_
        refine @chainG _ _ _ _ _ _ _ _ 56 (.slice (some ⟨bx, ox, none⟩) m c4) (by kernel_rfl) (by rfl) (by exact fun W2 hW => run_mv (by rfl) (by exact eval_base (by kernel_rfl) (by rfl)) hW) ?_
        refine @chainG _ _ _ _ _ _ _ _ 57 (.int .i64 ((k' : Int) + 1)) (by kernel_rfl) (by rfl) (by exact fun W2 hW => run_mv (by rfl) (by exact eval_base (by kernel_rfl) (by rfl)) hW) ?_
        refine @chainG _ _ _ _ _ _ _ _ 58 (.int .i64 k') (by kernel_rfl) (by rfl) (by exact fun W2 hW => run_bo (u := .int .i64 ((k' : Int) + 1)) (v := .int .i64 1) (by rfl) (by exact eval_look (by kernel_rfl) (by kernel_rfl)) (by rfl) (fun W => dec_run _ _ _ _ (by omega) (by omega) W) hW) ?_
        refine @chainG _ _ _ _ _ _ _ _ 59 (.pointer (some ⟨bx, ox + k' * 4, none⟩)) (by kernel_rfl) (by rfl) (by exact fun W2 hW => run_ia (u := .slice (some ⟨bx, ox, none⟩) m c4) (v := .int .i64 k') (by rfl) (by exact eval_look (by kernel_rfl) (by kernel_rfl)) (by exact eval_look (by kernel_rfl) (by kernel_rfl)) (fun W => idx_run _ _ _ _ _ (by omega) W) hW) ?_
        refine @chainG _ _ _ _ _ _ _ _ 60 (.agg (encE x').toArray) (by kernel_rfl) (by rfl) (by exact fun W2 hW => run_lw (by rfl) (by exact eval_look (by kernel_rfl) (by kernel_rfl)) (fun W hW => ldEntO _ _ _ _ (fun i v hv => cell_later hW (XP.out i v hv))) hW) ?_
        refine @chainG _ _ _ _ _ _ _ _ 61 (.slice (some ⟨bx, ox, none⟩) m c4) (by kernel_rfl) (by rfl) (by exact fun W2 hW => run_mv (by rfl) (by exact eval_base (by kernel_rfl) (by rfl)) hW) ?_
        refine @chainG _ _ _ _ _ _ _ _ 62 (.int .i64 ((k' : Int) + 1)) (by kernel_rfl) (by rfl) (by exact fun W2 hW => run_mv (by rfl) (by exact eval_base (by kernel_rfl) (by rfl)) hW) ?_
        refine @chainG _ _ _ _ _ _ _ _ 63 (.pointer (some ⟨bx, ox + (k' + 1) * 4, none⟩)) (by kernel_rfl) (by rfl) (by exact fun W2 hW => run_ia (u := .slice (some ⟨bx, ox, none⟩) m c4) (v := .int .i64 ((k' : Int) + 1)) (by rfl) (by exact eval_look (by kernel_rfl) (by kernel_rfl)) (by exact eval_look (by kernel_rfl) (by kernel_rfl)) (fun W => idx1_run _ _ _ _ _ (by omega) W) hW) ?_
        refine @chainG _ _ _ _ _ _ _ _ 64 (.agg (encE x).toArray) (by kernel_rfl) (by rfl) (by exact fun W2 hW => run_lw (by rfl) (by exact eval_look (by kernel_rfl) (by kernel_rfl)) (fun W hW => ldEntO _ _ _ _ (fun i v hv => cell_later hW (XQ.out i v hv))) hW) ?_
        refine @chainG _ _ _ _ _ _ _ _ 65 (.bool true) (by kernel_rfl) (by rfl) (by exact fun W2 hW => run_call (vs := #[.agg (encE x').toArray, .agg (encE x).toArray]) (by rfl) (by kernel_rfl) (enters_of Try.func25 (by kernel_rfl) (by rfl)) (calm_b hW (ahead5_t hord W2))) ?_
        refine @chainG _ _ _ _ _ _ _ _ 66 (.bool false) (by kernel_rfl) (by rfl) (by exact fun W2 hW => run_uo (u := .bool true) (by rfl) (by exact eval_look (by kernel_rfl) (by kernel_rfl)) (fun W => by go_simp) hW) ?_
        refine calm_nil (fun W2 hW2 => ?_)
        refine Eq.mpr (congrArg (fun a => wpList _ _ _ _ a W2) (show _ = (⟨#[Value.slice A nd c, Value.slice B n d, undef, undef, u4, Value.pointer (some ⟨g, 0, none⟩), Value.slice A2 m c2, Value.slice (some ⟨bx, ox, none⟩) m c4, Value.bool true, Value.int IntKind.i64 ((k' : Int) + 1), u10, u11, undef, undef, undef, Value.bool true, Value.bool false, Value.tuple #[Value.pointer (some ⟨g, 0, none⟩), Value.slice A2 m c2], Value.slice A nd c, Value.slice B n d, Value.tuple #[Value.pointer (some ⟨g, 0, none⟩), Value.slice A2 m c2], Value.pointer (some ⟨g, 0, none⟩), Value.slice A2 m c2, Value.pointer (some ⟨g, 0, none⟩), Value.bool false, Value.tuple #[Value.slice (some ⟨bx, ox, none⟩) m c4, Value.bool true], Value.pointer (some ⟨g, 0, none⟩), f, Value.tuple #[Value.slice (some ⟨bx, ox, none⟩) m c4, Value.bool true], Value.slice (some ⟨bx, ox, none⟩) m c4, Value.bool true, Value.bool true, Value.bool false, Value.bool false, Value.slice (some ⟨bx, ox, none⟩) m c4, Value.int IntKind.i64 (m : Int), Value.slice A2 m c2, Value.int IntKind.i64 (m : Int), Value.bool false, Value.bool false, Value.bool false, Value.pointer (some ⟨g, 0, none⟩), Value.int IntKind.i64 (m : Int), Value.slice A2 m c2, Value.int IntKind.i64 (m : Int), Value.bool false, Value.bool false, Value.int IntKind.i64 ((k' : Int) + 1), Value.slice (some ⟨bx, ox, none⟩) m c4, Value.int IntKind.i64 (m : Int), Value.bool true, u51, u52, Value.int IntKind.i64 ((k' : Int) + 1), Value.bool true, Value.bool true, Value.slice (some ⟨bx, ox, none⟩) m c4, Value.int IntKind.i64 ((k' : Int) + 1), Value.int IntKind.i64 (k' : Int), Value.pointer (some ⟨bx, ox + k' * 4, none⟩), Value.agg (encE x').toArray, Value.slice (some ⟨bx, ox, none⟩) m c4, Value.int IntKind.i64 ((k' : Int) + 1), Value.pointer (some ⟨bx, ox + (k' + 1) * 4, none⟩), Value.agg (encE x).toArray, Value.bool true, Value.bool false, u67, u68, u69, u70, u71, u72, u73, u74, u75, u76, u77, u78, u79, u80, u81, u82, u83, u84, u85, u86, undef, undef, undef, undef, undef, undef, undef, undef, undef, undef, undef, undef, undef, undef, undef, undef, undef, undef, undef, undef, undef, undef, undef, undef, undef, undef, undef, undef, undef, undef, undef, undef, undef, undef, undef, undef, undef, undef, undef, undef], []⟩ : Act) by kernel_rfl)) ?_
        have HWQ := Lib.hid (HQ.out.trans (hW2.mono HQ.out.size))
        clear hW2
        go_wp2_with fail
        go_loopw [10, 11] (fun s10 s11 wr => ∃ j : Nat, s11 = .int .i64 j ∧ j ≤ m ∧ s10 = .int .i64 ((ins.take j).countP (fun y => decide (y = x)) : Nat) ∧ Below w4.heap.size w4 wr) (fun s10 s11 wr => m - (intOf s11).toNat)
        case atStart => exact ⟨0, rfl, by omega, by simp, HWQ.out⟩
        case round =>
          obtain ⟨j, rfl, hj, rfl, hbj⟩ := hrel
          generalize wr = wj at *
          have HBJ := Lib.hid hbj
          have hcj : (ins.take j).countP (fun y => decide (y = x)) ≤ j := Nat.le_trans List.countP_le_length (by rw [List.length_take]; omega)
          obtain ⟨cj, hcj2⟩ : ∃ cj, (ins.take j).countP (fun y => decide (y = x)) = cj := ⟨_, rfl⟩
          rw [hcj2] at hcj ⊢
          have HCJ := Lib.hid hcj2
          clear hcj2 hbj
          by_cases hjm : j < m
          · obtain ⟨z, hz⟩ := getElem?_of_lt (l := ins) (by rw [HMM.out]; exact hjm : j < ins.length)
            have HZ := Lib.hid hz
            obtain ⟨bz, oz, zA, zlt, zc⟩ := HINS.out.at hz
            subst zA
            have zq := fun i v hv => (HBJ.out.cell (p := ⟨bz, oz + j * 4 + i, none⟩) zlt).trans (zc i v hv)
            have z0 := zq 0 _ rfl
            have z1 := zq 1 _ rfl
            have z2 := zq 2 _ rfl
            have z3 := zq 3 _ rfl
            simp only [Nat.add_zero] at z0
            have hXJ := fun i v hv => (HBJ.out.cell (p := ⟨bx, ox + (k' + 1) * 4 + i, none⟩) HXLT.out).trans (HXC.out i v hv)
            have x0 := hXJ 0 _ rfl
            have x1 := hXJ 1 _ rfl
            have x2 := hXJ 2 _ rfl
            have x3 := hXJ 3 _ rfl
            simp only [Nat.add_zero, Nat.zero_mul, Nat.zero_add] at x0 x1 x2 x3
            clear hXJ zq zc zlt hz
            have heq := eqE_run z x
            have j1 : (0 : Int) ≤ j := by omega
            have j2 : (j : Int) < m := by omega
            go_wp2_with fail
            go_region
            by_cases hzx : z = x
            · have hd : decide (z = x) = true := decide_eq_true hzx
              simp only [hd]
              go_wp2
              go_roundw
              case rel => exact ⟨j + 1, by first | rfl | simp, by omega, by rw [countP_take _ HZ.out, HCJ.out, if_pos hd]; first | rfl | simp, HBJ.out.drew⟩
              case measure => simp [intOf]; omega
            · have hd : decide (z = x) = false := decide_eq_false hzx
              simp only [hd]
              go_wp2
              go_roundw
              case rel => exact ⟨j + 1, by first | rfl | simp, by omega, by rw [countP_take _ HZ.out, HCJ.out, if_neg (by rw [hd]; decide)]; first | rfl | simp, HBJ.out.drew⟩
              case measure => simp [intOf]; omega
          · have hjm2 : j = m := by omega
            subst hjm2
            have hc1 : cj = 1 := by
              rw [← HCJ.out, List.take_of_length_le (by rw [HMM.out]; exact Nat.le_refl _)]
              exact HCNT.out x (List.mem_of_getElem? HX.out)
            subst hc1
            go_wp2
            go_roundw
            case rel => exact ⟨(k' + 1) + 1, by first | rfl | simp, by omega, HBJ.out⟩
            case measure => simp [intOf]; omega
    · have hkm2 : m = k := by omega
      subst hkm2
      have HBQ := Lib.hid hbq
      clear hbq hkm hk
      go_wp2_with fail
      go_loopw [12] (fun s12 wr => ∃ i : Nat, s12 = .int .i64 i ∧ i ≤ n ∧ Below w4.heap.size w4 wr) (fun s12 wr => n - (intOf s12).toNat)
      case atStart => exact ⟨0, rfl, by omega, HBQ.out⟩
      case round =>
        obtain ⟨i, rfl, hi, hbi⟩ := hrel
        generalize wr = wi at *
        have HBI := Lib.hid hbi
        clear hbi
        by_cases hin : i < n
        · obtain ⟨x, hx⟩ := getElem?_of_lt (l := l) (by rw [HN.out]; exact hin : i < l.length)
          have HX := Lib.hid hx
          obtain ⟨bx, ox, xA, xlt, xc⟩ := HB.out.at hx
          subst xA
          have HXLT := Lib.hid xlt
          have HXC := Lib.hid xc
          have i1 : (0 : Int) ≤ i := by omega
          have i2 : (i : Int) < n := by omega
          clear xlt xc hx
          go_wp2_with fail
          go_loopw [13, 14] (fun s13 s14 wr => ∃ j : Nat, s14 = .int .i64 j ∧ j ≤ m ∧ s13 = .int .i64 ((ins.take j).countP (samB x) : Nat) ∧ Below w4.heap.size w4 wr) (fun s13 s14 wr => m - (intOf s14).toNat)
          case atStart => exact ⟨0, rfl, by omega, by simp, HBI.out⟩
          case round =>
            obtain ⟨j, rfl, hj, rfl, hbj⟩ := hrel
            generalize wr = wj at *
            have HBJ := Lib.hid hbj
            have hcj : (ins.take j).countP (samB x) ≤ j := Nat.le_trans List.countP_le_length (by rw [List.length_take]; omega)
            obtain ⟨cj, hcj2⟩ : ∃ cj, (ins.take j).countP (samB x) = cj := ⟨_, rfl⟩
            rw [hcj2] at hcj ⊢
            have HCJ := Lib.hid hcj2
            clear hcj2 hbj
            by_cases hjm : j < m
            · obtain ⟨z, hz⟩ := getElem?_of_lt (l := ins) (by rw [HMM.out]; exact hjm : j < ins.length)
              have HZ := Lib.hid hz
              obtain ⟨bz, oz, zA, zlt, zc⟩ := HINS.out.at hz
              subst zA
              have zq := fun i v hv => (HBJ.out.cell (p := ⟨bz, oz + j * 4 + i, none⟩) zlt).trans (zc i v hv)
              have z0 := zq 0 _ rfl
              have z1 := zq 1 _ rfl
              have z2 := zq 2 _ rfl
              have z3 := zq 3 _ rfl
              simp only [Nat.add_zero] at z0
              have hXJ := fun i' v hv => (HBJ.out.cell (p := ⟨bx, ox + i * 4 + i', none⟩) (Nat.lt_of_lt_of_le HXLT.out HB4.out.size)).trans ((HB4.out.cell (p := ⟨bx, ox + i * 4 + i', none⟩) HXLT.out).trans (HXC.out i' v hv))
              have x0 := hXJ 0 _ rfl
              have x1 := hXJ 1 _ rfl
              simp only [Nat.add_zero] at x0
              clear hXJ zq zc zlt hz
              have j1 : (0 : Int) ≤ j := by omega
              have j2 : (j : Int) < m := by omega
              have hsm : samB x z = (decide (z.1.toList = x.1.toList) && decide (z.2.1 = x.2.1)) := rfl
              have HSM := Lib.hid hsm
              clear hsm
              by_cases hk1 : z.1.toList = x.1.toList
              · have hd1 : decide (z.1.toList = x.1.toList) = true := decide_eq_true hk1
                by_cases hk2 : z.2.1 = x.2.1
                · have hd2 : decide (z.2.1 = x.2.1) = true := decide_eq_true hk2
                  have hd : samB x z = true := by rw [HSM.out, hd1, hd2]; rfl
                  go_wp2_with fail
                  refine wp_region_calmB 23 (by kernel_rfl) (by kernel_rfl) ?_
                  simp only [List.take_succ_cons, List.take_zero, List.drop_succ_cons, List.drop_zero]
                  refine chain0 ?_
                  refine @chain _ _ _ _ _ _ _ _ 99 (.slice (some ⟨bz, oz, none⟩) m c2) (by rfl) (by rfl) (by exact fun W2 hW => run_mv (by rfl) (by exact eval_base (by kernel_rfl) (by rfl)) hW) ?_
                  refine @chain _ _ _ _ _ _ _ _ 100 (.int .i64 (j : Int)) (by rfl) (by rfl) (by exact fun W2 hW => run_mv (by rfl) (by exact eval_base (by kernel_rfl) (by rfl)) hW) ?_
                  refine @chain _ _ _ _ _ _ _ _ 101 (.pointer (some ⟨bz, oz + j * 4, none⟩)) (by rfl) (by rfl) (by exact fun W2 hW => run_ia (u := .slice (some ⟨bz, oz, none⟩) m c2) (v := .int .i64 (j : Int)) (by rfl) (by exact eval_look (by kernel_rfl) (by kernel_rfl)) (by exact eval_look (by kernel_rfl) (by kernel_rfl)) (fun W => idx_run _ _ _ _ _ (by omega) W) hW) ?_
                  refine @chain _ _ _ _ _ _ _ _ 102 (.pointer (some ⟨bz, oz + j * 4, none⟩)) (by rfl) (by rfl) (by exact fun W2 hW => run_fa (p := .pointer (some ⟨bz, oz + j * 4, none⟩)) (by rfl) (by exact eval_look (by kernel_rfl) (by kernel_rfl)) (fun W => by first | kernel_rfl | go_simp) hW) ?_
                  refine @chain _ _ _ _ _ _ _ _ 103 (.string z.1) (by rfl) (by rfl) (by exact fun W2 hW => run_lw (by rfl) (by exact eval_look (by kernel_rfl) (by kernel_rfl)) (fun W hW => ldS _ _ _ _ (cell_later hW z0)) hW) ?_
                  refine @chain _ _ _ _ _ _ _ _ 104 (.slice (some ⟨bx, ox, none⟩) n d) (by rfl) (by rfl) (by exact fun W2 hW => run_mv (by rfl) (by exact eval_base (by kernel_rfl) (by rfl)) hW) ?_
                  refine @chain _ _ _ _ _ _ _ _ 105 (.int .i64 (i : Int)) (by rfl) (by rfl) (by exact fun W2 hW => run_mv (by rfl) (by exact eval_base (by kernel_rfl) (by rfl)) hW) ?_
                  refine @chain _ _ _ _ _ _ _ _ 106 (.pointer (some ⟨bx, ox + i * 4, none⟩)) (by rfl) (by rfl) (by exact fun W2 hW => run_ia (u := .slice (some ⟨bx, ox, none⟩) n d) (v := .int .i64 (i : Int)) (by rfl) (by exact eval_look (by kernel_rfl) (by kernel_rfl)) (by exact eval_look (by kernel_rfl) (by kernel_rfl)) (fun W => idx_run _ _ _ _ _ (by omega) W) hW) ?_
                  refine @chain _ _ _ _ _ _ _ _ 107 (.pointer (some ⟨bx, ox + i * 4, none⟩)) (by rfl) (by rfl) (by exact fun W2 hW => run_fa (p := .pointer (some ⟨bx, ox + i * 4, none⟩)) (by rfl) (by exact eval_look (by kernel_rfl) (by kernel_rfl)) (fun W => by first | kernel_rfl | go_simp) hW) ?_
                  refine @chain _ _ _ _ _ _ _ _ 108 (.string x.1) (by rfl) (by rfl) (by exact fun W2 hW => run_lw (by rfl) (by exact eval_look (by kernel_rfl) (by kernel_rfl)) (fun W hW => ldS _ _ _ _ (cell_later hW x0)) hW) ?_
                  refine @chain _ _ _ _ _ _ _ _ 109 (.bool true) (by rfl) (by rfl) (by exact fun W2 hW => run_bo (u := .string z.1) (v := .string x.1) (by rfl) (by exact eval_look (by kernel_rfl) (by kernel_rfl)) (by exact eval_look (by kernel_rfl) (by kernel_rfl)) (fun W => strEq_run _ _ _ _ _ _ hd1 W) hW) ?_
                  refine @chain _ _ _ _ _ _ _ _ 110 (.bool true) (by rfl) (by rfl) (by exact fun W2 hW => run_mv (by rfl) (by exact eval_look (by kernel_rfl) (by kernel_rfl)) hW) ?_
                  refine @chainG _ _ _ _ _ _ _ _ 111 (.slice (some ⟨bz, oz, none⟩) m c2) (by kernel_rfl) (by rfl) (by exact fun W2 hW => run_mv (by rfl) (by exact eval_base (by kernel_rfl) (by rfl)) hW) ?_
                  refine @chainG _ _ _ _ _ _ _ _ 112 (.int .i64 (j : Int)) (by kernel_rfl) (by rfl) (by exact fun W2 hW => run_mv (by rfl) (by exact eval_base (by kernel_rfl) (by rfl)) hW) ?_
                  refine @chainG _ _ _ _ _ _ _ _ 113 (.pointer (some ⟨bz, oz + j * 4, none⟩)) (by kernel_rfl) (by rfl) (by exact fun W2 hW => run_ia (u := .slice (some ⟨bz, oz, none⟩) m c2) (v := .int .i64 (j : Int)) (by rfl) (by exact eval_look (by kernel_rfl) (by kernel_rfl)) (by exact eval_look (by kernel_rfl) (by kernel_rfl)) (fun W => idx_run _ _ _ _ _ (by omega) W) hW) ?_
                  refine @chainG _ _ _ _ _ _ _ _ 114 (.pointer (some ⟨bz, oz + j * 4 + 1, none⟩)) (by kernel_rfl) (by rfl) (by exact fun W2 hW => run_fa (p := .pointer (some ⟨bz, oz + j * 4, none⟩)) (by rfl) (by exact eval_look (by kernel_rfl) (by kernel_rfl)) (fun W => by first | kernel_rfl | go_simp) hW) ?_
                  refine @chainG _ _ _ _ _ _ _ _ 115 (.int .u64 z.2.1) (by kernel_rfl) (by rfl) (by exact fun W2 hW => run_lw (by rfl) (by exact eval_look (by kernel_rfl) (by kernel_rfl)) (fun W hW => ldU _ _ _ _ (cell_later hW z1)) hW) ?_
                  refine @chainG _ _ _ _ _ _ _ _ 116 (.slice (some ⟨bx, ox, none⟩) n d) (by kernel_rfl) (by rfl) (by exact fun W2 hW => run_mv (by rfl) (by exact eval_base (by kernel_rfl) (by rfl)) hW) ?_
                  refine @chainG _ _ _ _ _ _ _ _ 117 (.int .i64 (i : Int)) (by kernel_rfl) (by rfl) (by exact fun W2 hW => run_mv (by rfl) (by exact eval_base (by kernel_rfl) (by rfl)) hW) ?_
                  refine @chainG _ _ _ _ _ _ _ _ 118 (.pointer (some ⟨bx, ox + i * 4, none⟩)) (by kernel_rfl) (by rfl) (by exact fun W2 hW => run_ia (u := .slice (some ⟨bx, ox, none⟩) n d) (v := .int .i64 (i : Int)) (by rfl) (by exact eval_look (by kernel_rfl) (by kernel_rfl)) (by exact eval_look (by kernel_rfl) (by kernel_rfl)) (fun W => idx_run _ _ _ _ _ (by omega) W) hW) ?_
                  refine @chainG _ _ _ _ _ _ _ _ 119 (.pointer (some ⟨bx, ox + i * 4 + 1, none⟩)) (by kernel_rfl) (by rfl) (by exact fun W2 hW => run_fa (p := .pointer (some ⟨bx, ox + i * 4, none⟩)) (by rfl) (by exact eval_look (by kernel_rfl) (by kernel_rfl)) (fun W => by first | kernel_rfl | go_simp) hW) ?_
                  refine @chainG _ _ _ _ _ _ _ _ 120 (.int .u64 x.2.1) (by kernel_rfl) (by rfl) (by exact fun W2 hW => run_lw (by rfl) (by exact eval_look (by kernel_rfl) (by kernel_rfl)) (fun W hW => ldU _ _ _ _ (cell_later hW x1)) hW) ?_
                  refine @chainG _ _ _ _ _ _ _ _ 121 (.bool true) (by kernel_rfl) (by rfl) (by exact fun W2 hW => run_bo (u := .int .u64 z.2.1) (v := .int .u64 x.2.1) (by rfl) (by exact eval_look (by kernel_rfl) (by kernel_rfl)) (by exact eval_look (by kernel_rfl) (by kernel_rfl)) (fun W => numEq_run _ _ _ _ _ _ _ hd2 W) hW) ?_
                  refine calm_nil (fun W2 hW2 => ?_)
                  refine Eq.mpr (congrArg (fun a => wpList _ _ _ _ a W2) (show _ = (⟨#[Value.slice A nd c, Value.slice (some ⟨bx, ox, none⟩) n d, undef, undef, u4, Value.pointer (some ⟨g, 0, none⟩), Value.slice (some ⟨bz, oz, none⟩) m c2, Value.slice A4 m c4, Value.bool true, Value.int IntKind.i64 (m : Int), u10, u11, Value.int IntKind.i64 (i : Int), Value.int IntKind.i64 (cj : Int), Value.int IntKind.i64 (j : Int), Value.bool true, Value.bool false, Value.tuple #[Value.pointer (some ⟨g, 0, none⟩), Value.slice (some ⟨bz, oz, none⟩) m c2], Value.slice A nd c, Value.slice (some ⟨bx, ox, none⟩) n d, Value.tuple #[Value.pointer (some ⟨g, 0, none⟩), Value.slice (some ⟨bz, oz, none⟩) m c2], Value.pointer (some ⟨g, 0, none⟩), Value.slice (some ⟨bz, oz, none⟩) m c2, Value.pointer (some ⟨g, 0, none⟩), Value.bool false, Value.tuple #[Value.slice A4 m c4, Value.bool true], Value.pointer (some ⟨g, 0, none⟩), f, Value.tuple #[Value.slice A4 m c4, Value.bool true], Value.slice A4 m c4, Value.bool true, Value.bool true, Value.bool false, Value.bool false, Value.slice A4 m c4, Value.int IntKind.i64 (m : Int), Value.slice (some ⟨bz, oz, none⟩) m c2, Value.int IntKind.i64 (m : Int), Value.bool false, Value.bool false, Value.bool false, Value.pointer (some ⟨g, 0, none⟩), Value.int IntKind.i64 (m : Int), Value.slice (some ⟨bz, oz, none⟩) m c2, Value.int IntKind.i64 (m : Int), Value.bool false, Value.bool false, Value.int IntKind.i64 (m : Int), Value.slice A4 m c4, Value.int IntKind.i64 (m : Int), Value.bool false, u51, u52, u53, u54, u55, u56, u57, u58, u59, u60, u61, u62, u63, u64, u65, u66, u67, u68, u69, u70, u71, u72, u73, u74, u75, u76, u77, u78, u79, u80, u81, u82, u83, u84, u85, u86, Value.int IntKind.i64 (i : Int), Value.slice (some ⟨bx, ox, none⟩) n d, Value.int IntKind.i64 (n : Int), Value.bool true, u91, u92, Value.int IntKind.i64 (j : Int), Value.slice (some ⟨bz, oz, none⟩) m c2, Value.int IntKind.i64 (m : Int), Value.bool true, u97, u98, Value.slice (some ⟨bz, oz, none⟩) m c2, Value.int IntKind.i64 (j : Int), Value.pointer (some ⟨bz, oz + j * 4, none⟩), Value.pointer (some ⟨bz, oz + j * 4, none⟩), Value.string z.fst, Value.slice (some ⟨bx, ox, none⟩) n d, Value.int IntKind.i64 (i : Int), Value.pointer (some ⟨bx, ox + i * 4, none⟩), Value.pointer (some ⟨bx, ox + i * 4, none⟩), Value.string x.fst, Value.bool true, Value.bool true, Value.slice (some ⟨bz, oz, none⟩) m c2, Value.int IntKind.i64 (j : Int), Value.pointer (some ⟨bz, oz + j * 4, none⟩), Value.pointer (some ⟨bz, oz + j * 4 + 1, none⟩), Value.int IntKind.u64 z.snd.fst, Value.slice (some ⟨bx, ox, none⟩) n d, Value.int IntKind.i64 (i : Int), Value.pointer (some ⟨bx, ox + i * 4, none⟩), Value.pointer (some ⟨bx, ox + i * 4 + 1, none⟩), Value.int IntKind.u64 x.snd.fst, Value.bool true, u122, u123, u124, u125, u126], []⟩ : Act) by kernel_rfl)) ?_
                  have HW2 := Lib.hid hW2
                  clear hW2
                  go_wp2
                  go_roundw
                  case rel => exact ⟨j + 1, by first | rfl | simp, by omega, by rw [countP_take _ HZ.out, HCJ.out, if_pos hd]; first | rfl | simp, HBJ.out.trans (HW2.out.mono HBJ.out.size)⟩
                  case measure => simp [intOf]; omega
                · have hd2 : decide (z.2.1 = x.2.1) = false := decide_eq_false hk2
                  have hd : samB x z = false := by rw [HSM.out, hd1, hd2]; rfl
                  go_wp2_with fail
                  refine wp_region_calmB 23 (by kernel_rfl) (by kernel_rfl) ?_
                  simp only [List.take_succ_cons, List.take_zero, List.drop_succ_cons, List.drop_zero]
                  refine chain0 ?_
                  refine @chain _ _ _ _ _ _ _ _ 99 (.slice (some ⟨bz, oz, none⟩) m c2) (by rfl) (by rfl) (by exact fun W2 hW => run_mv (by rfl) (by exact eval_base (by kernel_rfl) (by rfl)) hW) ?_
                  refine @chain _ _ _ _ _ _ _ _ 100 (.int .i64 (j : Int)) (by rfl) (by rfl) (by exact fun W2 hW => run_mv (by rfl) (by exact eval_base (by kernel_rfl) (by rfl)) hW) ?_
                  refine @chain _ _ _ _ _ _ _ _ 101 (.pointer (some ⟨bz, oz + j * 4, none⟩)) (by rfl) (by rfl) (by exact fun W2 hW => run_ia (u := .slice (some ⟨bz, oz, none⟩) m c2) (v := .int .i64 (j : Int)) (by rfl) (by exact eval_look (by kernel_rfl) (by kernel_rfl)) (by exact eval_look (by kernel_rfl) (by kernel_rfl)) (fun W => idx_run _ _ _ _ _ (by omega) W) hW) ?_
                  refine @chain _ _ _ _ _ _ _ _ 102 (.pointer (some ⟨bz, oz + j * 4, none⟩)) (by rfl) (by rfl) (by exact fun W2 hW => run_fa (p := .pointer (some ⟨bz, oz + j * 4, none⟩)) (by rfl) (by exact eval_look (by kernel_rfl) (by kernel_rfl)) (fun W => by first | kernel_rfl | go_simp) hW) ?_
                  refine @chain _ _ _ _ _ _ _ _ 103 (.string z.1) (by rfl) (by rfl) (by exact fun W2 hW => run_lw (by rfl) (by exact eval_look (by kernel_rfl) (by kernel_rfl)) (fun W hW => ldS _ _ _ _ (cell_later hW z0)) hW) ?_
                  refine @chain _ _ _ _ _ _ _ _ 104 (.slice (some ⟨bx, ox, none⟩) n d) (by rfl) (by rfl) (by exact fun W2 hW => run_mv (by rfl) (by exact eval_base (by kernel_rfl) (by rfl)) hW) ?_
                  refine @chain _ _ _ _ _ _ _ _ 105 (.int .i64 (i : Int)) (by rfl) (by rfl) (by exact fun W2 hW => run_mv (by rfl) (by exact eval_base (by kernel_rfl) (by rfl)) hW) ?_
                  refine @chain _ _ _ _ _ _ _ _ 106 (.pointer (some ⟨bx, ox + i * 4, none⟩)) (by rfl) (by rfl) (by exact fun W2 hW => run_ia (u := .slice (some ⟨bx, ox, none⟩) n d) (v := .int .i64 (i : Int)) (by rfl) (by exact eval_look (by kernel_rfl) (by kernel_rfl)) (by exact eval_look (by kernel_rfl) (by kernel_rfl)) (fun W => idx_run _ _ _ _ _ (by omega) W) hW) ?_
                  refine @chain _ _ _ _ _ _ _ _ 107 (.pointer (some ⟨bx, ox + i * 4, none⟩)) (by rfl) (by rfl) (by exact fun W2 hW => run_fa (p := .pointer (some ⟨bx, ox + i * 4, none⟩)) (by rfl) (by exact eval_look (by kernel_rfl) (by kernel_rfl)) (fun W => by first | kernel_rfl | go_simp) hW) ?_
                  refine @chain _ _ _ _ _ _ _ _ 108 (.string x.1) (by rfl) (by rfl) (by exact fun W2 hW => run_lw (by rfl) (by exact eval_look (by kernel_rfl) (by kernel_rfl)) (fun W hW => ldS _ _ _ _ (cell_later hW x0)) hW) ?_
                  refine @chain _ _ _ _ _ _ _ _ 109 (.bool true) (by rfl) (by rfl) (by exact fun W2 hW => run_bo (u := .string z.1) (v := .string x.1) (by rfl) (by exact eval_look (by kernel_rfl) (by kernel_rfl)) (by exact eval_look (by kernel_rfl) (by kernel_rfl)) (fun W => strEq_run _ _ _ _ _ _ hd1 W) hW) ?_
                  refine @chain _ _ _ _ _ _ _ _ 110 (.bool true) (by rfl) (by rfl) (by exact fun W2 hW => run_mv (by rfl) (by exact eval_look (by kernel_rfl) (by kernel_rfl)) hW) ?_
                  refine @chainG _ _ _ _ _ _ _ _ 111 (.slice (some ⟨bz, oz, none⟩) m c2) (by kernel_rfl) (by rfl) (by exact fun W2 hW => run_mv (by rfl) (by exact eval_base (by kernel_rfl) (by rfl)) hW) ?_
                  refine @chainG _ _ _ _ _ _ _ _ 112 (.int .i64 (j : Int)) (by kernel_rfl) (by rfl) (by exact fun W2 hW => run_mv (by rfl) (by exact eval_base (by kernel_rfl) (by rfl)) hW) ?_
                  refine @chainG _ _ _ _ _ _ _ _ 113 (.pointer (some ⟨bz, oz + j * 4, none⟩)) (by kernel_rfl) (by rfl) (by exact fun W2 hW => run_ia (u := .slice (some ⟨bz, oz, none⟩) m c2) (v := .int .i64 (j : Int)) (by rfl) (by exact eval_look (by kernel_rfl) (by kernel_rfl)) (by exact eval_look (by kernel_rfl) (by kernel_rfl)) (fun W => idx_run _ _ _ _ _ (by omega) W) hW) ?_
                  refine @chainG _ _ _ _ _ _ _ _ 114 (.pointer (some ⟨bz, oz + j * 4 + 1, none⟩)) (by kernel_rfl) (by rfl) (by exact fun W2 hW => run_fa (p := .pointer (some ⟨bz, oz + j * 4, none⟩)) (by rfl) (by exact eval_look (by kernel_rfl) (by kernel_rfl)) (fun W => by first | kernel_rfl | go_simp) hW) ?_
                  refine @chainG _ _ _ _ _ _ _ _ 115 (.int .u64 z.2.1) (by kernel_rfl) (by rfl) (by exact fun W2 hW => run_lw (by rfl) (by exact eval_look (by kernel_rfl) (by kernel_rfl)) (fun W hW => ldU _ _ _ _ (cell_later hW z1)) hW) ?_
                  refine @chainG _ _ _ _ _ _ _ _ 116 (.slice (some ⟨bx, ox, none⟩) n d) (by kernel_rfl) (by rfl) (by exact fun W2 hW => run_mv (by rfl) (by exact eval_base (by kernel_rfl) (by rfl)) hW) ?_
                  refine @chainG _ _ _ _ _ _ _ _ 117 (.int .i64 (i : Int)) (by kernel_rfl) (by rfl) (by exact fun W2 hW => run_mv (by rfl) (by exact eval_base (by kernel_rfl) (by rfl)) hW) ?_
                  refine @chainG _ _ _ _ _ _ _ _ 118 (.pointer (some ⟨bx, ox + i * 4, none⟩)) (by kernel_rfl) (by rfl) (by exact fun W2 hW => run_ia (u := .slice (some ⟨bx, ox, none⟩) n d) (v := .int .i64 (i : Int)) (by rfl) (by exact eval_look (by kernel_rfl) (by kernel_rfl)) (by exact eval_look (by kernel_rfl) (by kernel_rfl)) (fun W => idx_run _ _ _ _ _ (by omega) W) hW) ?_
                  refine @chainG _ _ _ _ _ _ _ _ 119 (.pointer (some ⟨bx, ox + i * 4 + 1, none⟩)) (by kernel_rfl) (by rfl) (by exact fun W2 hW => run_fa (p := .pointer (some ⟨bx, ox + i * 4, none⟩)) (by rfl) (by exact eval_look (by kernel_rfl) (by kernel_rfl)) (fun W => by first | kernel_rfl | go_simp) hW) ?_
                  refine @chainG _ _ _ _ _ _ _ _ 120 (.int .u64 x.2.1) (by kernel_rfl) (by rfl) (by exact fun W2 hW => run_lw (by rfl) (by exact eval_look (by kernel_rfl) (by kernel_rfl)) (fun W hW => ldU _ _ _ _ (cell_later hW x1)) hW) ?_
                  refine @chainG _ _ _ _ _ _ _ _ 121 (.bool false) (by kernel_rfl) (by rfl) (by exact fun W2 hW => run_bo (u := .int .u64 z.2.1) (v := .int .u64 x.2.1) (by rfl) (by exact eval_look (by kernel_rfl) (by kernel_rfl)) (by exact eval_look (by kernel_rfl) (by kernel_rfl)) (fun W => numEq_run _ _ _ _ _ _ _ hd2 W) hW) ?_
                  refine calm_nil (fun W2 hW2 => ?_)
                  refine Eq.mpr (congrArg (fun a => wpList _ _ _ _ a W2) (show _ = (⟨#[Value.slice A nd c, Value.slice (some ⟨bx, ox, none⟩) n d, undef, undef, u4, Value.pointer (some ⟨g, 0, none⟩), Value.slice (some ⟨bz, oz, none⟩) m c2, Value.slice A4 m c4, Value.bool true, Value.int IntKind.i64 (m : Int), u10, u11, Value.int IntKind.i64 (i : Int), Value.int IntKind.i64 (cj : Int), Value.int IntKind.i64 (j : Int), Value.bool true, Value.bool false, Value.tuple #[Value.pointer (some ⟨g, 0, none⟩), Value.slice (some ⟨bz, oz, none⟩) m c2], Value.slice A nd c, Value.slice (some ⟨bx, ox, none⟩) n d, Value.tuple #[Value.pointer (some ⟨g, 0, none⟩), Value.slice (some ⟨bz, oz, none⟩) m c2], Value.pointer (some ⟨g, 0, none⟩), Value.slice (some ⟨bz, oz, none⟩) m c2, Value.pointer (some ⟨g, 0, none⟩), Value.bool false, Value.tuple #[Value.slice A4 m c4, Value.bool true], Value.pointer (some ⟨g, 0, none⟩), f, Value.tuple #[Value.slice A4 m c4, Value.bool true], Value.slice A4 m c4, Value.bool true, Value.bool true, Value.bool false, Value.bool false, Value.slice A4 m c4, Value.int IntKind.i64 (m : Int), Value.slice (some ⟨bz, oz, none⟩) m c2, Value.int IntKind.i64 (m : Int), Value.bool false, Value.bool false, Value.bool false, Value.pointer (some ⟨g, 0, none⟩), Value.int IntKind.i64 (m : Int), Value.slice (some ⟨bz, oz, none⟩) m c2, Value.int IntKind.i64 (m : Int), Value.bool false, Value.bool false, Value.int IntKind.i64 (m : Int), Value.slice A4 m c4, Value.int IntKind.i64 (m : Int), Value.bool false, u51, u52, u53, u54, u55, u56, u57, u58, u59, u60, u61, u62, u63, u64, u65, u66, u67, u68, u69, u70, u71, u72, u73, u74, u75, u76, u77, u78, u79, u80, u81, u82, u83, u84, u85, u86, Value.int IntKind.i64 (i : Int), Value.slice (some ⟨bx, ox, none⟩) n d, Value.int IntKind.i64 (n : Int), Value.bool true, u91, u92, Value.int IntKind.i64 (j : Int), Value.slice (some ⟨bz, oz, none⟩) m c2, Value.int IntKind.i64 (m : Int), Value.bool true, u97, u98, Value.slice (some ⟨bz, oz, none⟩) m c2, Value.int IntKind.i64 (j : Int), Value.pointer (some ⟨bz, oz + j * 4, none⟩), Value.pointer (some ⟨bz, oz + j * 4, none⟩), Value.string z.fst, Value.slice (some ⟨bx, ox, none⟩) n d, Value.int IntKind.i64 (i : Int), Value.pointer (some ⟨bx, ox + i * 4, none⟩), Value.pointer (some ⟨bx, ox + i * 4, none⟩), Value.string x.fst, Value.bool true, Value.bool true, Value.slice (some ⟨bz, oz, none⟩) m c2, Value.int IntKind.i64 (j : Int), Value.pointer (some ⟨bz, oz + j * 4, none⟩), Value.pointer (some ⟨bz, oz + j * 4 + 1, none⟩), Value.int IntKind.u64 z.snd.fst, Value.slice (some ⟨bx, ox, none⟩) n d, Value.int IntKind.i64 (i : Int), Value.pointer (some ⟨bx, ox + i * 4, none⟩), Value.pointer (some ⟨bx, ox + i * 4 + 1, none⟩), Value.int IntKind.u64 x.snd.fst, Value.bool false, u122, u123, u124, u125, u126], []⟩ : Act) by kernel_rfl)) ?_
                  have HW2 := Lib.hid hW2
                  clear hW2
                  go_wp2
                  go_roundw
                  case rel => exact ⟨j + 1, by first | rfl | simp, by omega, by rw [countP_take _ HZ.out, HCJ.out, if_neg (by rw [hd]; decide)]; first | rfl | simp, HBJ.out.trans (HW2.out.mono HBJ.out.size)⟩
                  case measure => simp [intOf]; omega
              · have hd1 : decide (z.1.toList = x.1.toList) = false := decide_eq_false hk1
                have hd : samB x z = false := by rw [HSM.out, hd1]; rfl
                go_wp2_with fail
                refine wp_region_calmB 23 (by kernel_rfl) (by kernel_rfl) ?_
                simp only [List.take_succ_cons, List.take_zero, List.drop_succ_cons, List.drop_zero]
                refine chain0 ?_
                refine @chain _ _ _ _ _ _ _ _ 99 (.slice (some ⟨bz, oz, none⟩) m c2) (by rfl) (by rfl) (by exact fun W2 hW => run_mv (by rfl) (by exact eval_base (by kernel_rfl) (by rfl)) hW) ?_
                refine @chain _ _ _ _ _ _ _ _ 100 (.int .i64 (j : Int)) (by rfl) (by rfl) (by exact fun W2 hW => run_mv (by rfl) (by exact eval_base (by kernel_rfl) (by rfl)) hW) ?_
                refine @chain _ _ _ _ _ _ _ _ 101 (.pointer (some ⟨bz, oz + j * 4, none⟩)) (by rfl) (by rfl) (by exact fun W2 hW => run_ia (u := .slice (some ⟨bz, oz, none⟩) m c2) (v := .int .i64 (j : Int)) (by rfl) (by exact eval_look (by kernel_rfl) (by kernel_rfl)) (by exact eval_look (by kernel_rfl) (by kernel_rfl)) (fun W => idx_run _ _ _ _ _ (by omega) W) hW) ?_
                refine @chain _ _ _ _ _ _ _ _ 102 (.pointer (some ⟨bz, oz + j * 4, none⟩)) (by rfl) (by rfl) (by exact fun W2 hW => run_fa (p := .pointer (some ⟨bz, oz + j * 4, none⟩)) (by rfl) (by exact eval_look (by kernel_rfl) (by kernel_rfl)) (fun W => by first | kernel_rfl | go_simp) hW) ?_
                refine @chain _ _ _ _ _ _ _ _ 103 (.string z.1) (by rfl) (by rfl) (by exact fun W2 hW => run_lw (by rfl) (by exact eval_look (by kernel_rfl) (by kernel_rfl)) (fun W hW => ldS _ _ _ _ (cell_later hW z0)) hW) ?_
                refine @chain _ _ _ _ _ _ _ _ 104 (.slice (some ⟨bx, ox, none⟩) n d) (by rfl) (by rfl) (by exact fun W2 hW => run_mv (by rfl) (by exact eval_base (by kernel_rfl) (by rfl)) hW) ?_
                refine @chain _ _ _ _ _ _ _ _ 105 (.int .i64 (i : Int)) (by rfl) (by rfl) (by exact fun W2 hW => run_mv (by rfl) (by exact eval_base (by kernel_rfl) (by rfl)) hW) ?_
                refine @chain _ _ _ _ _ _ _ _ 106 (.pointer (some ⟨bx, ox + i * 4, none⟩)) (by rfl) (by rfl) (by exact fun W2 hW => run_ia (u := .slice (some ⟨bx, ox, none⟩) n d) (v := .int .i64 (i : Int)) (by rfl) (by exact eval_look (by kernel_rfl) (by kernel_rfl)) (by exact eval_look (by kernel_rfl) (by kernel_rfl)) (fun W => idx_run _ _ _ _ _ (by omega) W) hW) ?_
                refine @chain _ _ _ _ _ _ _ _ 107 (.pointer (some ⟨bx, ox + i * 4, none⟩)) (by rfl) (by rfl) (by exact fun W2 hW => run_fa (p := .pointer (some ⟨bx, ox + i * 4, none⟩)) (by rfl) (by exact eval_look (by kernel_rfl) (by kernel_rfl)) (fun W => by first | kernel_rfl | go_simp) hW) ?_
                refine @chain _ _ _ _ _ _ _ _ 108 (.string x.1) (by rfl) (by rfl) (by exact fun W2 hW => run_lw (by rfl) (by exact eval_look (by kernel_rfl) (by kernel_rfl)) (fun W hW => ldS _ _ _ _ (cell_later hW x0)) hW) ?_
                refine @chain _ _ _ _ _ _ _ _ 109 (.bool false) (by rfl) (by rfl) (by exact fun W2 hW => run_bo (u := .string z.1) (v := .string x.1) (by rfl) (by exact eval_look (by kernel_rfl) (by kernel_rfl)) (by exact eval_look (by kernel_rfl) (by kernel_rfl)) (fun W => strEq_run _ _ _ _ _ _ hd1 W) hW) ?_
                refine @chain _ _ _ _ _ _ _ _ 110 (.bool false) (by rfl) (by rfl) (by exact fun W2 hW => run_mv (by rfl) (by exact eval_look (by kernel_rfl) (by kernel_rfl)) hW) ?_
                refine @chainK _ _ _ _ _ _ _ _ 111 (by kernel_rfl) (by rfl) ?_
                refine @chainK _ _ _ _ _ _ _ _ 112 (by kernel_rfl) (by rfl) ?_
                refine @chainK _ _ _ _ _ _ _ _ 113 (by kernel_rfl) (by rfl) ?_
                refine @chainK _ _ _ _ _ _ _ _ 114 (by kernel_rfl) (by rfl) ?_
                refine @chainK _ _ _ _ _ _ _ _ 115 (by kernel_rfl) (by rfl) ?_
                refine @chainK _ _ _ _ _ _ _ _ 116 (by kernel_rfl) (by rfl) ?_
                refine @chainK _ _ _ _ _ _ _ _ 117 (by kernel_rfl) (by rfl) ?_
                refine @chainK _ _ _ _ _ _ _ _ 118 (by kernel_rfl) (by rfl) ?_
                refine @chainK _ _ _ _ _ _ _ _ 119 (by kernel_rfl) (by rfl) ?_
                refine @chainK _ _ _ _ _ _ _ _ 120 (by kernel_rfl) (by rfl) ?_
                refine @chainK _ _ _ _ _ _ _ _ 121 (by kernel_rfl) (by rfl) ?_
                refine calm_nil (fun W2 hW2 => ?_)
                refine Eq.mpr (congrArg (fun a => wpList _ _ _ _ a W2) (show _ = (⟨#[Value.slice A nd c, Value.slice (some ⟨bx, ox, none⟩) n d, undef, undef, u4, Value.pointer (some ⟨g, 0, none⟩), Value.slice (some ⟨bz, oz, none⟩) m c2, Value.slice A4 m c4, Value.bool true, Value.int IntKind.i64 (m : Int), u10, u11, Value.int IntKind.i64 (i : Int), Value.int IntKind.i64 (cj : Int), Value.int IntKind.i64 (j : Int), Value.bool true, Value.bool false, Value.tuple #[Value.pointer (some ⟨g, 0, none⟩), Value.slice (some ⟨bz, oz, none⟩) m c2], Value.slice A nd c, Value.slice (some ⟨bx, ox, none⟩) n d, Value.tuple #[Value.pointer (some ⟨g, 0, none⟩), Value.slice (some ⟨bz, oz, none⟩) m c2], Value.pointer (some ⟨g, 0, none⟩), Value.slice (some ⟨bz, oz, none⟩) m c2, Value.pointer (some ⟨g, 0, none⟩), Value.bool false, Value.tuple #[Value.slice A4 m c4, Value.bool true], Value.pointer (some ⟨g, 0, none⟩), f, Value.tuple #[Value.slice A4 m c4, Value.bool true], Value.slice A4 m c4, Value.bool true, Value.bool true, Value.bool false, Value.bool false, Value.slice A4 m c4, Value.int IntKind.i64 (m : Int), Value.slice (some ⟨bz, oz, none⟩) m c2, Value.int IntKind.i64 (m : Int), Value.bool false, Value.bool false, Value.bool false, Value.pointer (some ⟨g, 0, none⟩), Value.int IntKind.i64 (m : Int), Value.slice (some ⟨bz, oz, none⟩) m c2, Value.int IntKind.i64 (m : Int), Value.bool false, Value.bool false, Value.int IntKind.i64 (m : Int), Value.slice A4 m c4, Value.int IntKind.i64 (m : Int), Value.bool false, u51, u52, u53, u54, u55, u56, u57, u58, u59, u60, u61, u62, u63, u64, u65, u66, u67, u68, u69, u70, u71, u72, u73, u74, u75, u76, u77, u78, u79, u80, u81, u82, u83, u84, u85, u86, Value.int IntKind.i64 (i : Int), Value.slice (some ⟨bx, ox, none⟩) n d, Value.int IntKind.i64 (n : Int), Value.bool true, u91, u92, Value.int IntKind.i64 (j : Int), Value.slice (some ⟨bz, oz, none⟩) m c2, Value.int IntKind.i64 (m : Int), Value.bool true, u97, u98, Value.slice (some ⟨bz, oz, none⟩) m c2, Value.int IntKind.i64 (j : Int), Value.pointer (some ⟨bz, oz + j * 4, none⟩), Value.pointer (some ⟨bz, oz + j * 4, none⟩), Value.string z.fst, Value.slice (some ⟨bx, ox, none⟩) n d, Value.int IntKind.i64 (i : Int), Value.pointer (some ⟨bx, ox + i * 4, none⟩), Value.pointer (some ⟨bx, ox + i * 4, none⟩), Value.string x.fst, Value.bool false, Value.bool false, undef, undef, undef, undef, undef, undef, undef, undef, undef, undef, undef, u122, u123, u124, u125, u126], []⟩ : Act) by kernel_rfl)) ?_
                have HW2 := Lib.hid hW2
                clear hW2
                go_wp2
                go_roundw
                case rel => exact ⟨j + 1, by first | rfl | simp, by omega, by rw [countP_take _ HZ.out, HCJ.out, if_neg (by rw [hd]; decide)]; first | rfl | simp, HBJ.out.trans (HW2.out.mono HBJ.out.size)⟩
                case measure => simp [intOf]; omega
            · have hjm2 : j = m := by omega
              subst hjm2
              have hc1 : cj = 1 := by
                rw [← HCJ.out, List.take_of_length_le (by rw [HMM.out]; exact Nat.le_refl _)]
                exact HONCE.out x (List.mem_of_getElem? HX.out)
              subst hc1
              go_wp2
              go_roundw
              case rel => exact ⟨i + 1, by first | rfl | simp, by omega, HBJ.out⟩
              case measure => simp [intOf]; omega
        · go_wp2
          go_ret
          exact ⟨rfl, HB4.out.trans (HBI.out.mono HB4.out.size)⟩

end Go.Proofs.Ytjbbobhjomhnmaa.H
