/- SkipSet, walked. Conditions: sizes (printed by gensk22.py). -/
import Derived.Test.YtjbbobhjomhnmaaSk20
import Derived.Test.YtjbbobhjomhnmaaSk21
namespace Go.Proofs.Ytjbbobhjomhnmaa.H
open Go Go.RowKit Go.Deep Go.Shelf Go.Proofs Go.Proofs.YtjbbobhjomhnmaaW.PrintWords
set_option linter.unusedVariables false
set_option linter.unusedSimpArgs false
theorem hgt_nil {draws : List Int} (i : Nat) (h : draws.length = 0) : hgt draws i = 1 := by
  unfold hgt
  rw [if_pos (List.length_eq_zero_iff.1 h)]
theorem hgt_cons {draws : List Int} {i nd y : Nat} (h : draws.length = nd) (hp : 0 < nd) (hy : draws[i % nd]? = some (y : Int)) : hgt draws i = 1 + y % 12 := by
  unfold hgt
  rw [if_neg (fun e => by rw [e] at h; simp at h; omega), h, List.getD_eq_getElem?_getD, hy]
  simp
theorem eqEnt_run (x y : Operand) (a b : Ent) (r : Bool) (h : decide (a = b) = r) (W : World) : (do eqGuard .eql 53 x y (.agg (encE a).toArray) (.agg (encE b).toArray); binOp .eql 53 (.agg (encE a).toArray) (.agg (encE b).toArray) : Sem Value).run Try.prog W = .ok (.bool r) W := by
  subst h
  have hd : (a = b) = _ := propext (ent_eq a b)
  simp only [hd]
  unfold encE
  go_simp
  (repeat' split) <;> simp_all
theorem idxI_run (b o m c k : Nat) (h : k < m) (W : World) : (Instr.indexAt 26 (.slice (some ⟨b, o, none⟩) m c) (.int .i64 (k : Int))).run Try.prog W = .ok (.pointer (some ⟨b, o + k, none⟩)) W := by
  have h0 : (0 : Int) ≤ k := by omega
  have h1 : (k : Int) < m := by omega
  go_simp
theorem wrap_rem (a b : Nat) (h : (a : Int) < 9223372036854775807) : IntKind.i64.wrap ((a : Int).tmod (b : Int)) = ((a % b : Nat) : Int) := by
  have h1 : (a : Int).tmod (b : Int) = ((a % b : Nat) : Int) := by rw [Int.tmod_eq_emod_of_nonneg (by omega)]; simp
  have h2 : a % b ≤ a := Nat.mod_le _ _
  rw [h1, IntKind.wrap_i64]
  omega
set_option maxHeartbeats 12800000 in
set_option maxRecDepth 100000 in
theorem skipSet_c (A : Option Addr) (c : Nat) (draws : List Int) (A' : Option Addr) (c' : Nat) (other : List Int) (B : Option Addr) (d : Nat) (l : List Ent) (w : World) (ha : Sl encB 1 w A draws) (hal : draws.length < 140737488351233) (hby : ∀ x ∈ draws, U8 x)
    (ha' : Sl encB 1 w A' other) (hal' : other.length < 140737488351233) (hby' : ∀ x ∈ other, U8 x) (hb : Sl encE 4 w B l) (hbl : l.length < 2932031007319) (hq : ∀ e ∈ l, e.2.1 ≤ 18446744073709551615) :
    Calls Try.prog 5 #[.slice A draws.length c, .slice A' other.length c', .slice B l.length d] w fun e w' => e = .returned (.bool true) ∧ Below w.heap.size w w' := by
  have HK := Lib.hid (known5_c w)
  have HMADE := Lib.hid (fun (w1 : World) (hb1 : Below w.heap.size w w1) => made_c A c draws B d l w1 (ha.later hb1) hal hby (hb.later hb1) hbl)
  have HNEW := Lib.hid (fun (w1 : World) (hb1 : Below w.heap.size w w1) => new_L A' c' other w1 (ha'.later hb1) hal' hby')
  obtain ⟨lens1, lens2, lens3⟩ := made_lens draws l
  have hlaid := made_laid draws l
  have hall := made_all draws l hq
  have HA := Lib.hid ha
  have HA' := Lib.hid ha'
  have HBY := Lib.hid hby
  have HBY' := Lib.hid hby'
  clear ha hby hb ha' hby' hq
  obtain ⟨M, hM⟩ : ∃ M, madeF draws l = M := ⟨_, rfl⟩
  rw [hM] at HMADE lens1 lens2 lens3 hlaid hall
  clear hM
  obtain ⟨L, ins⟩ := M
  simp only at HMADE lens1 lens2 lens3 hlaid hall
  have hunl := hlaid.unlike
  have hpush := push_step other hunl.reverse
  have hlaid2 := push_laid other hunl.reverse
  have heq := hlaid.all_eq hlaid2 ins.reverse_perm.symm
  obtain ⟨L2, hL2⟩ : ∃ L2, pushF other ins.reverse = L2 := ⟨_, rfl⟩
  rw [hL2] at hlaid2 heq
  have HPUSH := Lib.hid (fun i h => (hpush i h).2)
  have HLAID := Lib.hid hlaid
  have HLAID2 := Lib.hid hlaid2
  have HEQ := Lib.hid heq
  have HALL := Lib.hid hall
  have HL2E := Lib.hid hL2
  clear hunl hpush hlaid hlaid2 heq hall hL2
  obtain ⟨nd, hnd⟩ : ∃ n, draws.length = n := ⟨_, rfl⟩
  obtain ⟨no, hno⟩ : ∃ n, other.length = n := ⟨_, rfl⟩
  obtain ⟨n, hn⟩ : ∃ n, l.length = n := ⟨_, rfl⟩
  obtain ⟨m, hm⟩ : ∃ m, ins.length = m := ⟨_, rfl⟩
  rw [hnd] at HMADE hal ⊢
  rw [hno] at HNEW hal' ⊢
  rw [hn] at HMADE hbl lens3 ⊢
  rw [hm] at lens1 lens2 lens3
  have HMM := Lib.hid hm
  have HND := Lib.hid hnd
  have HNO := Lib.hid hno
  have HL1 := Lib.hid lens1
  have HL2 := Lib.hid lens2
  clear hn hm hnd hno lens1 lens2
  go_enter Try.func5, Try.ntmps5
  go_wp2_with fail
  refine HK.out.mono ?_
  rintro e w1 ⟨rfl, hb1⟩
  have HM1 := Lib.hid (HMADE.out w1 hb1)
  go_wp2_with fail
  refine HM1.out.mono ?_
  rintro e w2 ⟨g, S, v, rfl, hS, hsk, hown, hb2⟩
  have hb2' := hb1.trans (hb2.mono hb1.size)
  obtain ⟨A2, c2, hv, _, hins, _⟩ := hown.slice (fun _ => rfl)
  subst hv
  rw [HMM.out]
  have HN1 := Lib.hid (HNEW.out w2 hb2')
  go_wp2_with fail
  refine HN1.out.mono ?_
  rintro e w3 ⟨g2, S2, rfl, hS2, hsk2, hb3⟩
  have HSK := Lib.hid hsk
  have HSK2 := Lib.hid hsk2
  have HS2 := Lib.hid hS2
  have HINS := Lib.hid hins
  have HB2 := Lib.hid hb2'
  have HB3 := Lib.hid hb3
  clear hsk hsk2 hS2 hins hb2' hb3 hb1 hb2 hown hS HN1 HM1 HK HMADE HNEW
  go_wp2_with fail
  go_loopw [10] (fun s10 wr => ∃ (i : Nat) (S : Nat → Prop), s10 = .int .i64 ((m : Int) - 1 - i) ∧ i ≤ m ∧ SkL wr g2 S other (pushF other (ins.reverse.take i)) ∧ (∀ k, S k → w2.heap.size ≤ k) ∧ Below w2.heap.size w2 wr) (fun s10 wr => (intOf s10 + 1).toNat)
  case atStart => exact ⟨0, S2, by simp, by omega, HSK2.out, HS2.out, HB3.out⟩
  case round =>
    obtain ⟨i, S3, rfl, hi, hsk3, hge3, hb4⟩ := hrel
    generalize wr = wq at *
    have HSK3 := Lib.hid hsk3
    have HGE3 := Lib.hid hge3
    have HB4 := Lib.hid hb4
    clear hsk3 hge3 hb4
    by_cases him : i < m
    · obtain ⟨j, hj⟩ : ∃ j : Nat, (m : Int) - 1 - i = j := ⟨m - 1 - i, by omega⟩
      have hjm : j < m := by omega
      have hji : m - 1 - j = i := by omega
      rw [hj]
      obtain ⟨z, hz⟩ := getElem?_of_lt (l := ins) (by rw [HMM.out]; exact hjm : j < ins.length)
      obtain ⟨bz, oz, zA, zlt, zc⟩ := HINS.out.at hz
      subst zA
      have zq := fun i' v hv => (HB4.out.cell (p := ⟨bz, oz + j * 4 + i', none⟩) zlt).trans (zc i' v hv)
      have z0 := zq 0 _ rfl
      have z1 := zq 1 _ rfl
      have z2 := zq 2 _ rfl
      have z3 := zq 3 _ rfl
      simp only [Nat.add_zero] at z0
      have hrz : ins.reverse[i]? = some z := by
        have := rev_at hz
        rw [HMM.out, hji] at this
        exact this
      have hno : hasL (pushF other (ins.reverse.take i)) z = false := HPUSH.out i (by rw [List.length_reverse, HMM.out]; exact hi) z hrz
      have hpl : (pushF other (ins.reverse.take i)).length ≤ i := by
        have := (push_step other HLAID.out.unlike.reverse i (by rw [List.length_reverse, HMM.out]; exact hi)).1.len
        rw [this, List.length_take]
        omega
      have HPUT := Lib.hid (put_L g2 S3 other _ z wq HSK3.out (by omega))
      rw [hno, ← pushF_take hrz] at HPUT
      have j1 : (0 : Int) ≤ j := by omega
      have j2 : (j : Int) < m := by omega
      have HJ := Lib.hid hj
      clear zq zc zlt hz hrz hno hj
      go_wp2_with fail
      refine HPUT.out.mono ?_
      rintro e w5 ⟨rfl, hu5, S5, hg5, hs5⟩
      have HS5 := Lib.hid hs5
      have HGE5 := Lib.hid (hg5.ge HGE3.out HB4.out.size)
      have HB5 := Lib.hid (HB4.out.trans (hu5.bel HGE3.out HB4.out.size))
      clear hs5 hg5 hu5
      go_wp2
      go_roundw
      case rel => exact ⟨i + 1, S5, by (have := HJ.out; first | (congr 1; omega) | (simp; omega)), by omega, HS5.out, HGE5.out, HB5.out⟩
      case measure => first | (simp [intOf]; done) | (simp [intOf]; omega)
    · have him2 : m = i := by omega
      subst him2
      have hneg : (m : Int) - 1 - m = -1 := by omega
      rw [hneg]
      rw [List.take_of_length_le (by rw [List.length_reverse, HMM.out]; exact Nat.le_refl _), HL2E.out] at HSK3
      have HF1 := Lib.hid (fun (W : World) (hW : Below w2.heap.size w2 W) => from_L g S draws L ⟨#[]⟩ 18446744073709551615 w2 W HSK.out hW)
      have HF2 := Lib.hid (fun (W : World) (hW : Below wq.heap.size wq W) => from_L g2 S3 other L2 ⟨#[]⟩ 18446744073709551615 wq W HSK3.out hW)
      rw [← HEQ.out] at HF2
      rw [HALL.out] at HF1 HF2
      have HF1q := Lib.hid (HF1.out wq HB4.out)
      go_wp2_with fail
      refine HF1q.out.mono ?_
      rintro e w4 ⟨f, rfl, hit, hb4⟩
      have HT1 := Lib.hid (taken_c f (-1) w2.heap.size _ w4 hit (Nat.le_trans HB4.out.size hb4.size) (by rw [HL1.out]; omega))
      rw [show takeN (-1) (allE L) = allE L from takeN_all (.inl (by decide))] at HT1
      go_wp2_with fail
      refine HT1.out.mono ?_
      rintro e w5 ⟨v5, rfl, hown5, hb5⟩
      have hb5' := hb4.trans (hb5.mono hb4.size)
      obtain ⟨A5, c5, hv, _, hs5, _⟩ := hown5.slice (fun _ => rfl)
      subst hv
      rw [HL1.out]
      have HF2q := Lib.hid (HF2.out w5 hb5')
      go_wp2_with fail
      refine HF2q.out.mono ?_
      rintro e w6 ⟨f2, rfl, hit2, hb6⟩
      have hb6' := hb5'.trans (hb6.mono hb5'.size)
      have HT2 := Lib.hid (taken_c f2 (-1) wq.heap.size _ w6 hit2 hb6'.size (by rw [HL1.out]; omega))
      rw [show takeN (-1) (allE L) = allE L from takeN_all (.inl (by decide))] at HT2
      go_wp2_with fail
      refine HT2.out.mono ?_
      rintro e w7 ⟨v7, rfl, hown7, hb7⟩
      have hb7' := hb6'.trans (hb7.mono hb6'.size)
      obtain ⟨A7, c7, hv, _, hs7, _⟩ := hown7.slice (fun _ => rfl)
      subst hv
      rw [HL1.out]
      have hl2l : L2.length = m := by
        have := congrArg List.length HEQ.out
        rw [HL1.out] at this
        rw [this]
        simp [allE]
      have HTW1 := Lib.hid (towers_L g S draws L w7 ((HSK.out.later HB4.out).later hb7') (by rw [HL2.out]; omega))
      go_wp2_with fail
      refine HTW1.out.mono ?_
      rintro e w8 ⟨v8, rfl, hown8, hb8⟩
      have hb8' := hb7'.trans (hb8.mono hb7'.size)
      obtain ⟨A8, c8, hv, _, hs8, _⟩ := hown8.slice (fun _ => rfl)
      subst hv
      rw [show (allH L).length = m from by simp [allH]; exact HL2.out]
      have HTW2 := Lib.hid (towers_L g2 S3 other L2 w8 (HSK3.out.later hb8') (by omega))
      go_wp2_with fail
      refine HTW2.out.mono ?_
      rintro e w9 ⟨v9, rfl, hown9, hb9⟩
      have hb9' := hb8'.trans (hb9.mono hb8'.size)
      obtain ⟨A9, c9, hv, _, hs9, _⟩ := hown9.slice (fun _ => rfl)
      subst hv
      rw [show (allH L2).length = m from by simp [allH]; exact hl2l]
      have h57 := ((hb6.trans (hb7.mono hb6.size)).trans ((hb8.mono (hb6.trans (hb7.mono hb6.size)).size))).trans (hb9.mono ((hb6.trans (hb7.mono hb6.size)).trans ((hb8.mono (hb6.trans (hb7.mono hb6.size)).size))).size)
      have h79 := hb8.trans (hb9.mono hb8.size)
      have hsame := sameEntries_c A5 c5 (allE L) A7 c7 (allE L) w9 (hs5.later h57) (hs7.later h79)
      rw [decide_eq_true rfl, HL1.out] at hsame
      have HSAME := Lib.hid hsame
      have HA5 := Lib.hid (hs5.later h57)
      have HA8 := Lib.hid (hs8.later hb9)
      have HA9 := Lib.hid hs9
      have HI9 := Lib.hid ((HINS.out.later HB4.out).later hb9')
      have HB9 := Lib.hid (HB2.out.trans ((HB4.out.trans (hb9'.mono HB4.out.size)).mono HB2.out.size))
      clear hsame h57 h79 hs5 hs7 hs8 hs9 hown5 hown7 hown8 hown9 hb4 hb5 hb6 hb7 hb8 hb9 hb5' hb6' hb7' hb8' hb9' hit hit2 HTW1 HTW2 HT1 HT2 HF1 HF2 HF1q HF2q
      go_wp2_with fail
      refine HSAME.out.mono ?_
      rintro e w10 ⟨rfl, hb10⟩
      have HB10 := Lib.hid hb10
      clear hb10 HSAME
      go_wp2_with fail
      go_loopw [17] (fun s17 wr => ∃ k : Nat, s17 = .int .i64 k ∧ k ≤ m ∧ Below w10.heap.size w10 wr) (fun s17 wr => m - (intOf s17).toNat)
      case atStart => exact ⟨0, rfl, by omega, Below.refl _ _⟩
      case round =>
        obtain ⟨k, rfl, hk, hbk⟩ := hrel
        generalize wr = wq at *
        have HBK := Lib.hid hbk
        have HW0 := Lib.hid (HB9.out.trans ((HB10.out.trans (hbk.mono HB10.out.size)).mono HB9.out.size))
        clear hbk
        by_cases hkm : k < m
        · obtain ⟨x, hx⟩ := getElem?_of_lt (l := ins) (by rw [HMM.out]; exact hkm : k < ins.length)
          have HX := Lib.hid hx
          have i1 : (0 : Int) ≤ k := by omega
          have i2 : (k : Int) < m := by omega
          have HWQ := Lib.hid HW0.out
          clear hx
          by_cases hnd : nd = 0
          · have p0 := Lib.hid (show hgt draws k = 1 from hgt_nil _ (by rw [HND.out]; exact hnd))
            subst hnd
            by_cases hno : no = 0
            · have o0 := Lib.hid (show hgt other (m - 1 - k) = 1 from hgt_nil _ (by rw [HNO.out]; exact hno))
              subst hno
              go_wp2_with fail
              go_loopw [20] (fun s20 wr => ∃ j : Nat, s20 = .int .i64 j ∧ j ≤ m ∧ Below w10.heap.size w10 wr) (fun s20 wr => m - (intOf s20).toNat)
              case atStart => exact ⟨0, rfl, by omega, HBK.out⟩
              case round =>
                obtain ⟨j, rfl, hj, hbj⟩ := hrel
                generalize wr = wj at *
                have HBJ := Lib.hid hbj
                have HBJ9 := Lib.hid (HB10.out.trans (hbj.mono HB10.out.size))
                clear hbj
                by_cases hjm : j < m
                · obtain ⟨y, hy⟩ := getElem?_of_lt (l := allE L) (by rw [HL1.out]; exact hjm : j < (allE L).length)
                  obtain ⟨b5, o5, yA, ylt, yc⟩ := HA5.out.at hy
                  obtain ⟨bi, oi, xA, xlt, xc⟩ := HI9.out.at HX.out
                  subst yA
                  subst xA
                  have HYC := Lib.hid (fun i v hv => (HBJ9.out.cell (p := ⟨b5, o5 + j * 4 + i, none⟩) ylt).trans (yc i v hv))
                  have HXC := Lib.hid (fun i v hv => (HBJ9.out.cell (p := ⟨bi, oi + k * 4 + i, none⟩) xlt).trans (xc i v hv))
                  clear yc xc ylt xlt
                  cases hyx : decide (y = x) with
                  | true =>
                    have hyx2 : y = x := of_decide_eq_true hyx
                    have h8 := HLAID.out.at HX.out (by rw [← hyx2]; exact hy)
                    have h9 := HLAID2.out.at (rev_at HX.out) (by rw [← HEQ.out, ← hyx2]; exact hy)
                    obtain ⟨b8, o8, e8, l8, q8⟩ := HA8.out.at h8
                    obtain ⟨b9, o9, e9, l9, q9⟩ := HA9.out.at h9
                    subst e8
                    subst e9
                    have H8 := Lib.hid (show wj.cell? ⟨b8, o8 + j, none⟩ = some (.int .i64 1) from by
                      have := (HBJ9.out.cell (p := ⟨b8, o8 + j * 1 + 0, none⟩) l8).trans (q8 0 _ rfl)
                      rw [p0.out] at this
                      simpa using this)
                    have H9 := Lib.hid (show wj.cell? ⟨b9, o9 + j, none⟩ = some (.int .i64 1) from by
                      have := (HBJ9.out.cell (p := ⟨b9, o9 + j * 1 + 0, none⟩) l9).trans (q9 0 _ rfl)
                      rw [HMM.out] at this
                      rw [o0.out] at this
                      simpa using this)
                    clear h8 h9 q8 q9 l8 l9 hyx2 hy
                    go_wp2_with fail
                    refine wp_region_calmB 24 (by kernel_rfl) (by kernel_rfl) ?_
                    simp only [List.take_succ_cons, List.take_zero, List.drop_succ_cons, List.drop_zero]
                    refine chain0 ?_
                    refine @chain _ _ _ _ _ _ _ _ 142 (.slice (some ⟨b5, o5, none⟩) m c5) (by rfl) (by rfl) (by exact fun W2 hW => run_mv (by rfl) (by exact eval_base (by kernel_rfl) (by rfl)) hW) ?_
                    refine @chain _ _ _ _ _ _ _ _ 143 (.int .i64 (j : Int)) (by rfl) (by rfl) (by exact fun W2 hW => run_mv (by rfl) (by exact eval_base (by kernel_rfl) (by rfl)) hW) ?_
                    refine @chain _ _ _ _ _ _ _ _ 144 (.pointer (some ⟨b5, o5 + j * 4, none⟩)) (by rfl) (by rfl) (by exact fun W2 hW => run_ia (u := .slice (some ⟨b5, o5, none⟩) m c5) (v := .int .i64 (j : Int)) (by rfl) (by exact eval_look (by kernel_rfl) (by kernel_rfl)) (by exact eval_look (by kernel_rfl) (by kernel_rfl)) (fun W => idx_run _ _ _ _ _ (by omega) W) hW) ?_
                    refine @chain _ _ _ _ _ _ _ _ 145 (.agg (encE y).toArray) (by rfl) (by rfl) (by exact fun W2 hW => run_lw (by rfl) (by exact eval_look (by kernel_rfl) (by kernel_rfl)) (fun W hW => ldEntO _ _ _ _ (fun i v hv => cell_later hW (HYC.out i v hv))) hW) ?_
                    refine @chain _ _ _ _ _ _ _ _ 146 (.slice (some ⟨bi, oi, none⟩) m c2) (by rfl) (by rfl) (by exact fun W2 hW => run_mv (by rfl) (by exact eval_base (by kernel_rfl) (by rfl)) hW) ?_
                    refine @chain _ _ _ _ _ _ _ _ 147 (.int .i64 (k : Int)) (by rfl) (by rfl) (by exact fun W2 hW => run_mv (by rfl) (by exact eval_base (by kernel_rfl) (by rfl)) hW) ?_
                    refine @chain _ _ _ _ _ _ _ _ 148 (.pointer (some ⟨bi, oi + k * 4, none⟩)) (by rfl) (by rfl) (by exact fun W2 hW => run_ia (u := .slice (some ⟨bi, oi, none⟩) m c2) (v := .int .i64 (k : Int)) (by rfl) (by exact eval_look (by kernel_rfl) (by kernel_rfl)) (by exact eval_look (by kernel_rfl) (by kernel_rfl)) (fun W => idx_run _ _ _ _ _ (by omega) W) hW) ?_
                    refine @chain _ _ _ _ _ _ _ _ 149 (.agg (encE x).toArray) (by rfl) (by rfl) (by exact fun W2 hW => run_lw (by rfl) (by exact eval_look (by kernel_rfl) (by kernel_rfl)) (fun W hW => ldEntO _ _ _ _ (fun i v hv => cell_later hW (HXC.out i v hv))) hW) ?_
                    refine @chain _ _ _ _ _ _ _ _ 150 (.bool true) (by rfl) (by rfl) (by exact fun W2 hW => run_bo (u := .agg (encE y).toArray) (v := .agg (encE x).toArray) (by rfl) (by exact eval_look (by kernel_rfl) (by kernel_rfl)) (by exact eval_look (by kernel_rfl) (by kernel_rfl)) (fun W => eqEnt_run _ _ _ _ _ hyx W) hW) ?_
                    refine @chain _ _ _ _ _ _ _ _ 151 (.bool true) (by rfl) (by rfl) (by exact fun W2 hW => run_mv (by rfl) (by exact eval_look (by kernel_rfl) (by kernel_rfl)) hW) ?_
                    refine @chainG _ _ _ _ _ _ _ _ 152 (.slice (some ⟨b8, o8, none⟩) m c8) (by kernel_rfl) (by rfl) (by exact fun W2 hW => run_mv (by rfl) (by exact eval_base (by kernel_rfl) (by rfl)) hW) ?_
                    refine @chainG _ _ _ _ _ _ _ _ 153 (.int .i64 (j : Int)) (by kernel_rfl) (by rfl) (by exact fun W2 hW => run_mv (by rfl) (by exact eval_base (by kernel_rfl) (by rfl)) hW) ?_
                    refine @chainG _ _ _ _ _ _ _ _ 154 (.pointer (some ⟨b8, o8 + j, none⟩)) (by kernel_rfl) (by rfl) (by exact fun W2 hW => run_ia (u := .slice (some ⟨b8, o8, none⟩) m c8) (v := .int .i64 (j : Int)) (by rfl) (by exact eval_look (by kernel_rfl) (by kernel_rfl)) (by exact eval_look (by kernel_rfl) (by kernel_rfl)) (fun W => idxI_run _ _ _ _ _ (by omega) W) hW) ?_
                    refine @chainG _ _ _ _ _ _ _ _ 155 (.int .i64 1) (by kernel_rfl) (by rfl) (by exact fun W2 hW => run_lw (by rfl) (by exact eval_look (by kernel_rfl) (by kernel_rfl)) (fun W hW => ldI _ _ _ _ (cell_later hW H8.out)) hW) ?_
                    refine @chainG _ _ _ _ _ _ _ _ 156 (.int .i64 1) (by kernel_rfl) (by rfl) (by exact fun W2 hW => run_mv (by rfl) (by exact eval_base (by kernel_rfl) (by rfl)) hW) ?_
                    refine @chainG _ _ _ _ _ _ _ _ 157 (.bool false) (by kernel_rfl) (by rfl) (by exact fun W2 hW => run_bo (u := .int .i64 1) (v := .int .i64 1) (by rfl) (by exact eval_look (by kernel_rfl) (by kernel_rfl)) (by exact eval_look (by kernel_rfl) (by kernel_rfl)) (fun W => by go_simp) hW) ?_
                    refine @chainG _ _ _ _ _ _ _ _ 158 (.bool false) (by kernel_rfl) (by rfl) (by exact fun W2 hW => run_mv (by rfl) (by exact eval_look (by kernel_rfl) (by kernel_rfl)) hW) ?_
                    refine @chainG _ _ _ _ _ _ _ _ 159 (.slice (some ⟨b9, o9, none⟩) m c9) (by kernel_rfl) (by rfl) (by exact fun W2 hW => run_mv (by rfl) (by exact eval_base (by kernel_rfl) (by rfl)) hW) ?_
                    refine @chainG _ _ _ _ _ _ _ _ 160 (.int .i64 (j : Int)) (by kernel_rfl) (by rfl) (by exact fun W2 hW => run_mv (by rfl) (by exact eval_base (by kernel_rfl) (by rfl)) hW) ?_
                    refine @chainG _ _ _ _ _ _ _ _ 161 (.pointer (some ⟨b9, o9 + j, none⟩)) (by kernel_rfl) (by rfl) (by exact fun W2 hW => run_ia (u := .slice (some ⟨b9, o9, none⟩) m c9) (v := .int .i64 (j : Int)) (by rfl) (by exact eval_look (by kernel_rfl) (by kernel_rfl)) (by exact eval_look (by kernel_rfl) (by kernel_rfl)) (fun W => idxI_run _ _ _ _ _ (by omega) W) hW) ?_
                    refine @chainG _ _ _ _ _ _ _ _ 162 (.int .i64 1) (by kernel_rfl) (by rfl) (by exact fun W2 hW => run_lw (by rfl) (by exact eval_look (by kernel_rfl) (by kernel_rfl)) (fun W hW => ldI _ _ _ _ (cell_later hW H9.out)) hW) ?_
                    refine @chainG _ _ _ _ _ _ _ _ 163 (.int .i64 1) (by kernel_rfl) (by rfl) (by exact fun W2 hW => run_mv (by rfl) (by exact eval_base (by kernel_rfl) (by rfl)) hW) ?_
                    refine @chainG _ _ _ _ _ _ _ _ 164 (.bool false) (by kernel_rfl) (by rfl) (by exact fun W2 hW => run_bo (u := .int .i64 1) (v := .int .i64 1) (by rfl) (by exact eval_look (by kernel_rfl) (by kernel_rfl)) (by exact eval_look (by kernel_rfl) (by kernel_rfl)) (fun W => by go_simp) hW) ?_
                    refine @chainG _ _ _ _ _ _ _ _ 165 (.bool false) (by kernel_rfl) (by rfl) (by exact fun W2 hW => run_pkF (by rfl) (by exact eval_look (by kernel_rfl) (by kernel_rfl)) (by exact eval_look (by kernel_rfl) (by kernel_rfl)) hW) ?_
                    refine calm_nil (fun W2 hW2 => ?_)
                    refine Eq.mpr (congrArg (fun a => wpList _ _ _ _ a W2) (show _ = (⟨#[Value.slice A 0 c, Value.slice A' 0 c', Value.slice B n d, undef, undef, undef, u6, Value.pointer (some ⟨g, 0, none⟩), Value.slice (some ⟨bi, oi, none⟩) m c2, Value.pointer (some ⟨g2, 0, none⟩), Value.int IntKind.i64 (-1), Value.slice (some ⟨b5, o5, none⟩) m c5, Value.bool true, Value.slice A7 m c7, Value.bool true, Value.slice (some ⟨b8, o8, none⟩) m c8, Value.slice (some ⟨b9, o9, none⟩) m c9, Value.int IntKind.i64 (k : Int), Value.int IntKind.i64 1, Value.int IntKind.i64 1, Value.int IntKind.i64 (j : Int), Value.bool true, Value.bool false, Value.tuple #[Value.pointer (some ⟨g, 0, none⟩), Value.slice (some ⟨bi, oi, none⟩) m c2], Value.slice A 0 c, Value.slice B n d, Value.tuple #[Value.pointer (some ⟨g, 0, none⟩), Value.slice (some ⟨bi, oi, none⟩) m c2], Value.pointer (some ⟨g, 0, none⟩), Value.slice (some ⟨bi, oi, none⟩) m c2, Value.slice A' 0 c', Value.pointer (some ⟨g2, 0, none⟩), Value.pointer (some ⟨g, 0, none⟩), Value.bool false, Value.bool false, Value.pointer (some ⟨g2, 0, none⟩), Value.bool false, Value.bool false, Value.slice (some ⟨bi, oi, none⟩) m c2, Value.int IntKind.i64 (m : Int), Value.int IntKind.i64 ((m : Int) - 1), Value.int IntKind.i64 (-1), Value.bool false, u42, u43, u44, u45, u46, u47, u48, u49, u50, Value.tuple #[Value.slice (some ⟨b5, o5, none⟩) m c5, Value.bool true], Value.pointer (some ⟨g, 0, none⟩), f, Value.tuple #[Value.slice (some ⟨b5, o5, none⟩) m c5, Value.bool true], Value.slice (some ⟨b5, o5, none⟩) m c5, Value.bool true, Value.tuple #[Value.slice A7 m c7, Value.bool true], Value.pointer (some ⟨g2, 0, none⟩), f2, Value.tuple #[Value.slice A7 m c7, Value.bool true], Value.slice A7 m c7, Value.bool true, Value.pointer (some ⟨g, 0, none⟩), Value.slice (some ⟨b8, o8, none⟩) m c8, Value.pointer (some ⟨g2, 0, none⟩), Value.slice (some ⟨b9, o9, none⟩) m c9, Value.bool true, Value.bool false, Value.bool false, Value.bool true, Value.bool false, Value.bool false, Value.bool false, Value.slice (some ⟨b5, o5, none⟩) m c5, Value.slice A7 m c7, Value.bool true, Value.bool false, Value.bool false, Value.bool false, Value.slice (some ⟨b8, o8, none⟩) m c8, Value.int IntKind.i64 (m : Int), Value.slice (some ⟨bi, oi, none⟩) m c2, Value.int IntKind.i64 (m : Int), Value.bool false, Value.bool false, Value.bool false, Value.slice (some ⟨b9, o9, none⟩) m c9, Value.int IntKind.i64 (m : Int), Value.slice (some ⟨bi, oi, none⟩) m c2, Value.int IntKind.i64 (m : Int), Value.bool false, Value.bool false, Value.bool false, Value.slice (some ⟨b5, o5, none⟩) m c5, Value.int IntKind.i64 (m : Int), Value.slice (some ⟨bi, oi, none⟩) m c2, Value.int IntKind.i64 (m : Int), Value.bool false, Value.bool false, Value.int IntKind.i64 (k : Int), Value.slice (some ⟨bi, oi, none⟩) m c2, Value.int IntKind.i64 (m : Int), Value.bool true, u104, u105, Value.slice A 0 c, Value.int IntKind.i64 0, Value.bool false, u109, u110, u111, u112, u113, u114, u115, u116, u117, u118, Value.slice A' 0 c', Value.int IntKind.i64 0, Value.bool false, u122, u123, u124, u125, u126, u127, u128, u129, u130, u131, u132, u133, u134, u135, Value.int IntKind.i64 (j : Int), Value.slice (some ⟨b5, o5, none⟩) m c5, Value.int IntKind.i64 (m : Int), Value.bool true, u140, u141, Value.slice (some ⟨b5, o5, none⟩) m c5, Value.int IntKind.i64 (j : Int), Value.pointer (some ⟨b5, o5 + j * 4, none⟩), Value.agg (encE y).toArray, Value.slice (some ⟨bi, oi, none⟩) m c2, Value.int IntKind.i64 (k : Int), Value.pointer (some ⟨bi, oi + k * 4, none⟩), Value.agg (encE x).toArray, Value.bool true, Value.bool true, Value.slice (some ⟨b8, o8, none⟩) m c8, Value.int IntKind.i64 (j : Int), Value.pointer (some ⟨b8, o8 + j, none⟩), Value.int IntKind.i64 1, Value.int IntKind.i64 1, Value.bool false, Value.bool false, Value.slice (some ⟨b9, o9, none⟩) m c9, Value.int IntKind.i64 (j : Int), Value.pointer (some ⟨b9, o9 + j, none⟩), Value.int IntKind.i64 1, Value.int IntKind.i64 1, Value.bool false, Value.bool false, u166], []⟩ : Act) by kernel_rfl)) ?_
                    have HW2 := Lib.hid hW2
                    clear hW2
                    clear hyx
                    go_wp2
                    go_roundw
                    case rel => exact ⟨j + 1, by first | rfl | simp, by omega, HBJ.out.trans (HW2.out.mono HBJ.out.size)⟩
                    case measure => simp [intOf]; omega
                  | false =>
                    clear hy
                    go_wp2_with fail
                    refine wp_region_calmB 24 (by kernel_rfl) (by kernel_rfl) ?_
                    simp only [List.take_succ_cons, List.take_zero, List.drop_succ_cons, List.drop_zero]
                    refine chain0 ?_
                    refine @chain _ _ _ _ _ _ _ _ 142 (.slice (some ⟨b5, o5, none⟩) m c5) (by rfl) (by rfl) (by exact fun W2 hW => run_mv (by rfl) (by exact eval_base (by kernel_rfl) (by rfl)) hW) ?_
                    refine @chain _ _ _ _ _ _ _ _ 143 (.int .i64 (j : Int)) (by rfl) (by rfl) (by exact fun W2 hW => run_mv (by rfl) (by exact eval_base (by kernel_rfl) (by rfl)) hW) ?_
                    refine @chain _ _ _ _ _ _ _ _ 144 (.pointer (some ⟨b5, o5 + j * 4, none⟩)) (by rfl) (by rfl) (by exact fun W2 hW => run_ia (u := .slice (some ⟨b5, o5, none⟩) m c5) (v := .int .i64 (j : Int)) (by rfl) (by exact eval_look (by kernel_rfl) (by kernel_rfl)) (by exact eval_look (by kernel_rfl) (by kernel_rfl)) (fun W => idx_run _ _ _ _ _ (by omega) W) hW) ?_
                    refine @chain _ _ _ _ _ _ _ _ 145 (.agg (encE y).toArray) (by rfl) (by rfl) (by exact fun W2 hW => run_lw (by rfl) (by exact eval_look (by kernel_rfl) (by kernel_rfl)) (fun W hW => ldEntO _ _ _ _ (fun i v hv => cell_later hW (HYC.out i v hv))) hW) ?_
                    refine @chain _ _ _ _ _ _ _ _ 146 (.slice (some ⟨bi, oi, none⟩) m c2) (by rfl) (by rfl) (by exact fun W2 hW => run_mv (by rfl) (by exact eval_base (by kernel_rfl) (by rfl)) hW) ?_
                    refine @chain _ _ _ _ _ _ _ _ 147 (.int .i64 (k : Int)) (by rfl) (by rfl) (by exact fun W2 hW => run_mv (by rfl) (by exact eval_base (by kernel_rfl) (by rfl)) hW) ?_
                    refine @chain _ _ _ _ _ _ _ _ 148 (.pointer (some ⟨bi, oi + k * 4, none⟩)) (by rfl) (by rfl) (by exact fun W2 hW => run_ia (u := .slice (some ⟨bi, oi, none⟩) m c2) (v := .int .i64 (k : Int)) (by rfl) (by exact eval_look (by kernel_rfl) (by kernel_rfl)) (by exact eval_look (by kernel_rfl) (by kernel_rfl)) (fun W => idx_run _ _ _ _ _ (by omega) W) hW) ?_
                    refine @chain _ _ _ _ _ _ _ _ 149 (.agg (encE x).toArray) (by rfl) (by rfl) (by exact fun W2 hW => run_lw (by rfl) (by exact eval_look (by kernel_rfl) (by kernel_rfl)) (fun W hW => ldEntO _ _ _ _ (fun i v hv => cell_later hW (HXC.out i v hv))) hW) ?_
                    refine @chain _ _ _ _ _ _ _ _ 150 (.bool false) (by rfl) (by rfl) (by exact fun W2 hW => run_bo (u := .agg (encE y).toArray) (v := .agg (encE x).toArray) (by rfl) (by exact eval_look (by kernel_rfl) (by kernel_rfl)) (by exact eval_look (by kernel_rfl) (by kernel_rfl)) (fun W => eqEnt_run _ _ _ _ _ hyx W) hW) ?_
                    refine @chain _ _ _ _ _ _ _ _ 151 (.bool false) (by rfl) (by rfl) (by exact fun W2 hW => run_mv (by rfl) (by exact eval_look (by kernel_rfl) (by kernel_rfl)) hW) ?_
                    refine @chainK _ _ _ _ _ _ _ _ 152 (by kernel_rfl) (by rfl) ?_
                    refine @chainK _ _ _ _ _ _ _ _ 153 (by kernel_rfl) (by rfl) ?_
                    refine @chainK _ _ _ _ _ _ _ _ 154 (by kernel_rfl) (by rfl) ?_
                    refine @chainK _ _ _ _ _ _ _ _ 155 (by kernel_rfl) (by rfl) ?_
                    refine @chainK _ _ _ _ _ _ _ _ 156 (by kernel_rfl) (by rfl) ?_
                    refine @chainK _ _ _ _ _ _ _ _ 157 (by kernel_rfl) (by rfl) ?_
                    refine @chainK _ _ _ _ _ _ _ _ 158 (by kernel_rfl) (by rfl) ?_
                    refine @chainK _ _ _ _ _ _ _ _ 159 (by kernel_rfl) (by rfl) ?_
                    refine @chainK _ _ _ _ _ _ _ _ 160 (by kernel_rfl) (by rfl) ?_
                    refine @chainK _ _ _ _ _ _ _ _ 161 (by kernel_rfl) (by rfl) ?_
                    refine @chainK _ _ _ _ _ _ _ _ 162 (by kernel_rfl) (by rfl) ?_
                    refine @chainK _ _ _ _ _ _ _ _ 163 (by kernel_rfl) (by rfl) ?_
                    refine @chainK _ _ _ _ _ _ _ _ 164 (by kernel_rfl) (by rfl) ?_
                    refine @chainK _ _ _ _ _ _ _ _ 165 (by kernel_rfl) (by rfl) ?_
                    refine calm_nil (fun W2 hW2 => ?_)
                    refine Eq.mpr (congrArg (fun a => wpList _ _ _ _ a W2) (show _ = (⟨#[Value.slice A 0 c, Value.slice A' 0 c', Value.slice B n d, undef, undef, undef, u6, Value.pointer (some ⟨g, 0, none⟩), Value.slice (some ⟨bi, oi, none⟩) m c2, Value.pointer (some ⟨g2, 0, none⟩), Value.int IntKind.i64 (-1), Value.slice (some ⟨b5, o5, none⟩) m c5, Value.bool true, Value.slice A7 m c7, Value.bool true, Value.slice A8 m c8, Value.slice A9 m c9, Value.int IntKind.i64 (k : Int), Value.int IntKind.i64 1, Value.int IntKind.i64 1, Value.int IntKind.i64 (j : Int), Value.bool true, Value.bool false, Value.tuple #[Value.pointer (some ⟨g, 0, none⟩), Value.slice (some ⟨bi, oi, none⟩) m c2], Value.slice A 0 c, Value.slice B n d, Value.tuple #[Value.pointer (some ⟨g, 0, none⟩), Value.slice (some ⟨bi, oi, none⟩) m c2], Value.pointer (some ⟨g, 0, none⟩), Value.slice (some ⟨bi, oi, none⟩) m c2, Value.slice A' 0 c', Value.pointer (some ⟨g2, 0, none⟩), Value.pointer (some ⟨g, 0, none⟩), Value.bool false, Value.bool false, Value.pointer (some ⟨g2, 0, none⟩), Value.bool false, Value.bool false, Value.slice (some ⟨bi, oi, none⟩) m c2, Value.int IntKind.i64 (m : Int), Value.int IntKind.i64 ((m : Int) - 1), Value.int IntKind.i64 (-1), Value.bool false, u42, u43, u44, u45, u46, u47, u48, u49, u50, Value.tuple #[Value.slice (some ⟨b5, o5, none⟩) m c5, Value.bool true], Value.pointer (some ⟨g, 0, none⟩), f, Value.tuple #[Value.slice (some ⟨b5, o5, none⟩) m c5, Value.bool true], Value.slice (some ⟨b5, o5, none⟩) m c5, Value.bool true, Value.tuple #[Value.slice A7 m c7, Value.bool true], Value.pointer (some ⟨g2, 0, none⟩), f2, Value.tuple #[Value.slice A7 m c7, Value.bool true], Value.slice A7 m c7, Value.bool true, Value.pointer (some ⟨g, 0, none⟩), Value.slice A8 m c8, Value.pointer (some ⟨g2, 0, none⟩), Value.slice A9 m c9, Value.bool true, Value.bool false, Value.bool false, Value.bool true, Value.bool false, Value.bool false, Value.bool false, Value.slice (some ⟨b5, o5, none⟩) m c5, Value.slice A7 m c7, Value.bool true, Value.bool false, Value.bool false, Value.bool false, Value.slice A8 m c8, Value.int IntKind.i64 (m : Int), Value.slice (some ⟨bi, oi, none⟩) m c2, Value.int IntKind.i64 (m : Int), Value.bool false, Value.bool false, Value.bool false, Value.slice A9 m c9, Value.int IntKind.i64 (m : Int), Value.slice (some ⟨bi, oi, none⟩) m c2, Value.int IntKind.i64 (m : Int), Value.bool false, Value.bool false, Value.bool false, Value.slice (some ⟨b5, o5, none⟩) m c5, Value.int IntKind.i64 (m : Int), Value.slice (some ⟨bi, oi, none⟩) m c2, Value.int IntKind.i64 (m : Int), Value.bool false, Value.bool false, Value.int IntKind.i64 (k : Int), Value.slice (some ⟨bi, oi, none⟩) m c2, Value.int IntKind.i64 (m : Int), Value.bool true, u104, u105, Value.slice A 0 c, Value.int IntKind.i64 0, Value.bool false, u109, u110, u111, u112, u113, u114, u115, u116, u117, u118, Value.slice A' 0 c', Value.int IntKind.i64 0, Value.bool false, u122, u123, u124, u125, u126, u127, u128, u129, u130, u131, u132, u133, u134, u135, Value.int IntKind.i64 (j : Int), Value.slice (some ⟨b5, o5, none⟩) m c5, Value.int IntKind.i64 (m : Int), Value.bool true, u140, u141, Value.slice (some ⟨b5, o5, none⟩) m c5, Value.int IntKind.i64 (j : Int), Value.pointer (some ⟨b5, o5 + j * 4, none⟩), Value.agg (encE y).toArray, Value.slice (some ⟨bi, oi, none⟩) m c2, Value.int IntKind.i64 (k : Int), Value.pointer (some ⟨bi, oi + k * 4, none⟩), Value.agg (encE x).toArray, Value.bool false, Value.bool false, undef, undef, undef, undef, undef, undef, undef, undef, undef, undef, undef, undef, undef, undef, u166], []⟩ : Act) by kernel_rfl)) ?_
                    have HW2 := Lib.hid hW2
                    clear hW2
                    clear hyx
                    go_wp2
                    go_roundw
                    case rel => exact ⟨j + 1, by first | rfl | simp, by omega, HBJ.out.trans (HW2.out.mono HBJ.out.size)⟩
                    case measure => simp [intOf]; omega
                · have hjm2 : m = j := by omega
                  subst hjm2
                  go_wp2
                  go_roundw
                  case rel => exact ⟨k + 1, by first | rfl | simp, by omega, HBJ.out⟩
                  case measure => simp [intOf]; omega
            · have opos : 0 < no := by omega
              have oN := HNO.out
              have oBY := HBY'.out
              obtain ⟨k2, hk2⟩ : ∃ j : Nat, (m : Int) - 1 - k = j := ⟨m - 1 - k, by omega⟩
              have HJ2 := Lib.hid (show m - 1 - k = k2 by omega)
              have olt : k2 % no < no := Nat.mod_lt _ opos
              obtain ⟨ox, ohx⟩ := getElem?_of_lt (l := other) (by rw [oN]; exact olt : k2 % no < other.length)
              have ob := oBY ox (List.mem_of_getElem? ohx)
              obtain ⟨oy, ohy⟩ : ∃ y : Nat, ox = y := ⟨ox.toNat, by have := ob.1; omega⟩
              subst ohy
              have oy2 : oy ≤ 255 := by have := ob.2; omega
              obtain ⟨oB, oO, oA, obl, obc⟩ := HA'.out.at ohx
              subst oA
              have oc : wq.cell? ⟨oB, oO + k2 % no, none⟩ = some (.int .u8 oy) := by
                have := ((HWQ.out).cell (p := ⟨oB, oO + k2 % no * 1 + 0, none⟩) obl).trans (obc 0 _ rfl)
                simpa using this
              have oh := Lib.hid (hgt_cons oN opos ohx)
              have ow : IntKind.i64.wrap ((k2 : Int).tmod (no : Int)) = ((k2 % no : Nat) : Int) := wrap_rem _ _ (by omega)
              have ov : IntKind.i64.wrap ((oy : Int).tmod 12) = ((oy % 12 : Nat) : Int) := wrap_rem oy 12 (by omega)
              clear obc obl ohx ob
              have hno1 : (0 : Int) < no := by omega
              have hno2 : ¬ (no : Int) = 0 := by omega
              have hk3 : (k2 : Int) < m := by omega
              clear oN oBY
              go_wp2_with fail
              go_loopw [20] (fun s20 wr => ∃ j : Nat, s20 = .int .i64 j ∧ j ≤ m ∧ Below w10.heap.size w10 wr) (fun s20 wr => m - (intOf s20).toNat)
              case atStart => exact ⟨0, rfl, by omega, HBK.out⟩
              case round =>
                obtain ⟨j, rfl, hj, hbj⟩ := hrel
                generalize wr = wj at *
                have HBJ := Lib.hid hbj
                have HBJ9 := Lib.hid (HB10.out.trans (hbj.mono HB10.out.size))
                clear hbj
                by_cases hjm : j < m
                · obtain ⟨y, hy⟩ := getElem?_of_lt (l := allE L) (by rw [HL1.out]; exact hjm : j < (allE L).length)
                  obtain ⟨b5, o5, yA, ylt, yc⟩ := HA5.out.at hy
                  obtain ⟨bi, oi, xA, xlt, xc⟩ := HI9.out.at HX.out
                  subst yA
                  subst xA
                  have HYC := Lib.hid (fun i v hv => (HBJ9.out.cell (p := ⟨b5, o5 + j * 4 + i, none⟩) ylt).trans (yc i v hv))
                  have HXC := Lib.hid (fun i v hv => (HBJ9.out.cell (p := ⟨bi, oi + k * 4 + i, none⟩) xlt).trans (xc i v hv))
                  clear yc xc ylt xlt
                  cases hyx : decide (y = x) with
                  | true =>
                    have hyx2 : y = x := of_decide_eq_true hyx
                    have h8 := HLAID.out.at HX.out (by rw [← hyx2]; exact hy)
                    have h9 := HLAID2.out.at (rev_at HX.out) (by rw [← HEQ.out, ← hyx2]; exact hy)
                    obtain ⟨b8, o8, e8, l8, q8⟩ := HA8.out.at h8
                    obtain ⟨b9, o9, e9, l9, q9⟩ := HA9.out.at h9
                    subst e8
                    subst e9
                    have H8 := Lib.hid (show wj.cell? ⟨b8, o8 + j, none⟩ = some (.int .i64 1) from by
                      have := (HBJ9.out.cell (p := ⟨b8, o8 + j * 1 + 0, none⟩) l8).trans (q8 0 _ rfl)
                      rw [p0.out] at this
                      simpa using this)
                    have H9 := Lib.hid (show wj.cell? ⟨b9, o9 + j, none⟩ = some (.int .i64 (1 + (oy : Int) % 12)) from by
                      have := (HBJ9.out.cell (p := ⟨b9, o9 + j * 1 + 0, none⟩) l9).trans (q9 0 _ rfl)
                      rw [HMM.out] at this
                      rw [HJ2.out, oh.out, Int.natCast_add] at this
                      simpa using this)
                    clear h8 h9 q8 q9 l8 l9 hyx2 hy
                    go_wp2_with fail
                    refine wp_region_calmB 24 (by kernel_rfl) (by kernel_rfl) ?_
                    simp only [List.take_succ_cons, List.take_zero, List.drop_succ_cons, List.drop_zero]
                    refine chain0 ?_
                    refine @chain _ _ _ _ _ _ _ _ 142 (.slice (some ⟨b5, o5, none⟩) m c5) (by rfl) (by rfl) (by exact fun W2 hW => run_mv (by rfl) (by exact eval_base (by kernel_rfl) (by rfl)) hW) ?_
                    refine @chain _ _ _ _ _ _ _ _ 143 (.int .i64 (j : Int)) (by rfl) (by rfl) (by exact fun W2 hW => run_mv (by rfl) (by exact eval_base (by kernel_rfl) (by rfl)) hW) ?_
                    refine @chain _ _ _ _ _ _ _ _ 144 (.pointer (some ⟨b5, o5 + j * 4, none⟩)) (by rfl) (by rfl) (by exact fun W2 hW => run_ia (u := .slice (some ⟨b5, o5, none⟩) m c5) (v := .int .i64 (j : Int)) (by rfl) (by exact eval_look (by kernel_rfl) (by kernel_rfl)) (by exact eval_look (by kernel_rfl) (by kernel_rfl)) (fun W => idx_run _ _ _ _ _ (by omega) W) hW) ?_
                    refine @chain _ _ _ _ _ _ _ _ 145 (.agg (encE y).toArray) (by rfl) (by rfl) (by exact fun W2 hW => run_lw (by rfl) (by exact eval_look (by kernel_rfl) (by kernel_rfl)) (fun W hW => ldEntO _ _ _ _ (fun i v hv => cell_later hW (HYC.out i v hv))) hW) ?_
                    refine @chain _ _ _ _ _ _ _ _ 146 (.slice (some ⟨bi, oi, none⟩) m c2) (by rfl) (by rfl) (by exact fun W2 hW => run_mv (by rfl) (by exact eval_base (by kernel_rfl) (by rfl)) hW) ?_
                    refine @chain _ _ _ _ _ _ _ _ 147 (.int .i64 (k : Int)) (by rfl) (by rfl) (by exact fun W2 hW => run_mv (by rfl) (by exact eval_base (by kernel_rfl) (by rfl)) hW) ?_
                    refine @chain _ _ _ _ _ _ _ _ 148 (.pointer (some ⟨bi, oi + k * 4, none⟩)) (by rfl) (by rfl) (by exact fun W2 hW => run_ia (u := .slice (some ⟨bi, oi, none⟩) m c2) (v := .int .i64 (k : Int)) (by rfl) (by exact eval_look (by kernel_rfl) (by kernel_rfl)) (by exact eval_look (by kernel_rfl) (by kernel_rfl)) (fun W => idx_run _ _ _ _ _ (by omega) W) hW) ?_
                    refine @chain _ _ _ _ _ _ _ _ 149 (.agg (encE x).toArray) (by rfl) (by rfl) (by exact fun W2 hW => run_lw (by rfl) (by exact eval_look (by kernel_rfl) (by kernel_rfl)) (fun W hW => ldEntO _ _ _ _ (fun i v hv => cell_later hW (HXC.out i v hv))) hW) ?_
                    refine @chain _ _ _ _ _ _ _ _ 150 (.bool true) (by rfl) (by rfl) (by exact fun W2 hW => run_bo (u := .agg (encE y).toArray) (v := .agg (encE x).toArray) (by rfl) (by exact eval_look (by kernel_rfl) (by kernel_rfl)) (by exact eval_look (by kernel_rfl) (by kernel_rfl)) (fun W => eqEnt_run _ _ _ _ _ hyx W) hW) ?_
                    refine @chain _ _ _ _ _ _ _ _ 151 (.bool true) (by rfl) (by rfl) (by exact fun W2 hW => run_mv (by rfl) (by exact eval_look (by kernel_rfl) (by kernel_rfl)) hW) ?_
                    refine @chainG _ _ _ _ _ _ _ _ 152 (.slice (some ⟨b8, o8, none⟩) m c8) (by kernel_rfl) (by rfl) (by exact fun W2 hW => run_mv (by rfl) (by exact eval_base (by kernel_rfl) (by rfl)) hW) ?_
                    refine @chainG _ _ _ _ _ _ _ _ 153 (.int .i64 (j : Int)) (by kernel_rfl) (by rfl) (by exact fun W2 hW => run_mv (by rfl) (by exact eval_base (by kernel_rfl) (by rfl)) hW) ?_
                    refine @chainG _ _ _ _ _ _ _ _ 154 (.pointer (some ⟨b8, o8 + j, none⟩)) (by kernel_rfl) (by rfl) (by exact fun W2 hW => run_ia (u := .slice (some ⟨b8, o8, none⟩) m c8) (v := .int .i64 (j : Int)) (by rfl) (by exact eval_look (by kernel_rfl) (by kernel_rfl)) (by exact eval_look (by kernel_rfl) (by kernel_rfl)) (fun W => idxI_run _ _ _ _ _ (by omega) W) hW) ?_
                    refine @chainG _ _ _ _ _ _ _ _ 155 (.int .i64 1) (by kernel_rfl) (by rfl) (by exact fun W2 hW => run_lw (by rfl) (by exact eval_look (by kernel_rfl) (by kernel_rfl)) (fun W hW => ldI _ _ _ _ (cell_later hW H8.out)) hW) ?_
                    refine @chainG _ _ _ _ _ _ _ _ 156 (.int .i64 1) (by kernel_rfl) (by rfl) (by exact fun W2 hW => run_mv (by rfl) (by exact eval_base (by kernel_rfl) (by rfl)) hW) ?_
                    refine @chainG _ _ _ _ _ _ _ _ 157 (.bool false) (by kernel_rfl) (by rfl) (by exact fun W2 hW => run_bo (u := .int .i64 1) (v := .int .i64 1) (by rfl) (by exact eval_look (by kernel_rfl) (by kernel_rfl)) (by exact eval_look (by kernel_rfl) (by kernel_rfl)) (fun W => by go_simp) hW) ?_
                    refine @chainG _ _ _ _ _ _ _ _ 158 (.bool false) (by kernel_rfl) (by rfl) (by exact fun W2 hW => run_mv (by rfl) (by exact eval_look (by kernel_rfl) (by kernel_rfl)) hW) ?_
                    refine @chainG _ _ _ _ _ _ _ _ 159 (.slice (some ⟨b9, o9, none⟩) m c9) (by kernel_rfl) (by rfl) (by exact fun W2 hW => run_mv (by rfl) (by exact eval_base (by kernel_rfl) (by rfl)) hW) ?_
                    refine @chainG _ _ _ _ _ _ _ _ 160 (.int .i64 (j : Int)) (by kernel_rfl) (by rfl) (by exact fun W2 hW => run_mv (by rfl) (by exact eval_base (by kernel_rfl) (by rfl)) hW) ?_
                    refine @chainG _ _ _ _ _ _ _ _ 161 (.pointer (some ⟨b9, o9 + j, none⟩)) (by kernel_rfl) (by rfl) (by exact fun W2 hW => run_ia (u := .slice (some ⟨b9, o9, none⟩) m c9) (v := .int .i64 (j : Int)) (by rfl) (by exact eval_look (by kernel_rfl) (by kernel_rfl)) (by exact eval_look (by kernel_rfl) (by kernel_rfl)) (fun W => idxI_run _ _ _ _ _ (by omega) W) hW) ?_
                    refine @chainG _ _ _ _ _ _ _ _ 162 (.int .i64 (1 + (oy : Int) % 12)) (by kernel_rfl) (by rfl) (by exact fun W2 hW => run_lw (by rfl) (by exact eval_look (by kernel_rfl) (by kernel_rfl)) (fun W hW => ldI _ _ _ _ (cell_later hW H9.out)) hW) ?_
                    refine @chainG _ _ _ _ _ _ _ _ 163 (.int .i64 (1 + (oy : Int) % 12)) (by kernel_rfl) (by rfl) (by exact fun W2 hW => run_mv (by rfl) (by exact eval_base (by kernel_rfl) (by rfl)) hW) ?_
                    refine @chainG _ _ _ _ _ _ _ _ 164 (.bool false) (by kernel_rfl) (by rfl) (by exact fun W2 hW => run_bo (u := .int .i64 (1 + (oy : Int) % 12)) (v := .int .i64 (1 + (oy : Int) % 12)) (by rfl) (by exact eval_look (by kernel_rfl) (by kernel_rfl)) (by exact eval_look (by kernel_rfl) (by kernel_rfl)) (fun W => by go_simp) hW) ?_
                    refine @chainG _ _ _ _ _ _ _ _ 165 (.bool false) (by kernel_rfl) (by rfl) (by exact fun W2 hW => run_pkF (by rfl) (by exact eval_look (by kernel_rfl) (by kernel_rfl)) (by exact eval_look (by kernel_rfl) (by kernel_rfl)) hW) ?_
                    refine calm_nil (fun W2 hW2 => ?_)
                    refine Eq.mpr (congrArg (fun a => wpList _ _ _ _ a W2) (show _ = (⟨#[Value.slice A 0 c, Value.slice (some ⟨oB, oO, none⟩) no c', Value.slice B n d, undef, undef, undef, u6, Value.pointer (some ⟨g, 0, none⟩), Value.slice (some ⟨bi, oi, none⟩) m c2, Value.pointer (some ⟨g2, 0, none⟩), Value.int IntKind.i64 (-1), Value.slice (some ⟨b5, o5, none⟩) m c5, Value.bool true, Value.slice A7 m c7, Value.bool true, Value.slice (some ⟨b8, o8, none⟩) m c8, Value.slice (some ⟨b9, o9, none⟩) m c9, Value.int IntKind.i64 (k : Int), Value.int IntKind.i64 1, Value.int IntKind.i64 (1 + (oy : Int) % 12), Value.int IntKind.i64 (j : Int), Value.bool true, Value.bool false, Value.tuple #[Value.pointer (some ⟨g, 0, none⟩), Value.slice (some ⟨bi, oi, none⟩) m c2], Value.slice A 0 c, Value.slice B n d, Value.tuple #[Value.pointer (some ⟨g, 0, none⟩), Value.slice (some ⟨bi, oi, none⟩) m c2], Value.pointer (some ⟨g, 0, none⟩), Value.slice (some ⟨bi, oi, none⟩) m c2, Value.slice (some ⟨oB, oO, none⟩) no c', Value.pointer (some ⟨g2, 0, none⟩), Value.pointer (some ⟨g, 0, none⟩), Value.bool false, Value.bool false, Value.pointer (some ⟨g2, 0, none⟩), Value.bool false, Value.bool false, Value.slice (some ⟨bi, oi, none⟩) m c2, Value.int IntKind.i64 (m : Int), Value.int IntKind.i64 ((m : Int) - 1), Value.int IntKind.i64 (-1), Value.bool false, u42, u43, u44, u45, u46, u47, u48, u49, u50, Value.tuple #[Value.slice (some ⟨b5, o5, none⟩) m c5, Value.bool true], Value.pointer (some ⟨g, 0, none⟩), f, Value.tuple #[Value.slice (some ⟨b5, o5, none⟩) m c5, Value.bool true], Value.slice (some ⟨b5, o5, none⟩) m c5, Value.bool true, Value.tuple #[Value.slice A7 m c7, Value.bool true], Value.pointer (some ⟨g2, 0, none⟩), f2, Value.tuple #[Value.slice A7 m c7, Value.bool true], Value.slice A7 m c7, Value.bool true, Value.pointer (some ⟨g, 0, none⟩), Value.slice (some ⟨b8, o8, none⟩) m c8, Value.pointer (some ⟨g2, 0, none⟩), Value.slice (some ⟨b9, o9, none⟩) m c9, Value.bool true, Value.bool false, Value.bool false, Value.bool true, Value.bool false, Value.bool false, Value.bool false, Value.slice (some ⟨b5, o5, none⟩) m c5, Value.slice A7 m c7, Value.bool true, Value.bool false, Value.bool false, Value.bool false, Value.slice (some ⟨b8, o8, none⟩) m c8, Value.int IntKind.i64 (m : Int), Value.slice (some ⟨bi, oi, none⟩) m c2, Value.int IntKind.i64 (m : Int), Value.bool false, Value.bool false, Value.bool false, Value.slice (some ⟨b9, o9, none⟩) m c9, Value.int IntKind.i64 (m : Int), Value.slice (some ⟨bi, oi, none⟩) m c2, Value.int IntKind.i64 (m : Int), Value.bool false, Value.bool false, Value.bool false, Value.slice (some ⟨b5, o5, none⟩) m c5, Value.int IntKind.i64 (m : Int), Value.slice (some ⟨bi, oi, none⟩) m c2, Value.int IntKind.i64 (m : Int), Value.bool false, Value.bool false, Value.int IntKind.i64 (k : Int), Value.slice (some ⟨bi, oi, none⟩) m c2, Value.int IntKind.i64 (m : Int), Value.bool true, u104, u105, Value.slice A 0 c, Value.int IntKind.i64 0, Value.bool false, u109, u110, u111, u112, u113, u114, u115, u116, u117, u118, Value.slice (some ⟨oB, oO, none⟩) no c', Value.int IntKind.i64 (no : Int), Value.bool true, Value.slice (some ⟨oB, oO, none⟩) no c', Value.slice (some ⟨bi, oi, none⟩) m c2, Value.int IntKind.i64 (m : Int), Value.int IntKind.i64 ((m : Int) - 1), Value.int IntKind.i64 (k : Int), Value.int IntKind.i64 (k2 : Int), Value.slice (some ⟨oB, oO, none⟩) no c', Value.int IntKind.i64 (no : Int), Value.int IntKind.i64 ((k2 : Int) % (no : Int)), Value.pointer (some ⟨oB, oO + k2 % no, none⟩), Value.int IntKind.u8 (oy : Int), Value.int IntKind.i64 (oy : Int), Value.int IntKind.i64 ((oy : Int) % 12), Value.int IntKind.i64 (1 + (oy : Int) % 12), Value.int IntKind.i64 (j : Int), Value.slice (some ⟨b5, o5, none⟩) m c5, Value.int IntKind.i64 (m : Int), Value.bool true, u140, u141, Value.slice (some ⟨b5, o5, none⟩) m c5, Value.int IntKind.i64 (j : Int), Value.pointer (some ⟨b5, o5 + j * 4, none⟩), Value.agg (encE y).toArray, Value.slice (some ⟨bi, oi, none⟩) m c2, Value.int IntKind.i64 (k : Int), Value.pointer (some ⟨bi, oi + k * 4, none⟩), Value.agg (encE x).toArray, Value.bool true, Value.bool true, Value.slice (some ⟨b8, o8, none⟩) m c8, Value.int IntKind.i64 (j : Int), Value.pointer (some ⟨b8, o8 + j, none⟩), Value.int IntKind.i64 1, Value.int IntKind.i64 1, Value.bool false, Value.bool false, Value.slice (some ⟨b9, o9, none⟩) m c9, Value.int IntKind.i64 (j : Int), Value.pointer (some ⟨b9, o9 + j, none⟩), Value.int IntKind.i64 (1 + (oy : Int) % 12), Value.int IntKind.i64 (1 + (oy : Int) % 12), Value.bool false, Value.bool false, u166], []⟩ : Act) by kernel_rfl)) ?_
                    have HW2 := Lib.hid hW2
                    clear hW2
                    clear hyx
                    go_wp2
                    go_roundw
                    case rel => exact ⟨j + 1, by first | rfl | simp, by omega, HBJ.out.trans (HW2.out.mono HBJ.out.size)⟩
                    case measure => simp [intOf]; omega
                  | false =>
                    clear hy
                    go_wp2_with fail
                    refine wp_region_calmB 24 (by kernel_rfl) (by kernel_rfl) ?_
                    simp only [List.take_succ_cons, List.take_zero, List.drop_succ_cons, List.drop_zero]
                    refine chain0 ?_
                    refine @chain _ _ _ _ _ _ _ _ 142 (.slice (some ⟨b5, o5, none⟩) m c5) (by rfl) (by rfl) (by exact fun W2 hW => run_mv (by rfl) (by exact eval_base (by kernel_rfl) (by rfl)) hW) ?_
                    refine @chain _ _ _ _ _ _ _ _ 143 (.int .i64 (j : Int)) (by rfl) (by rfl) (by exact fun W2 hW => run_mv (by rfl) (by exact eval_base (by kernel_rfl) (by rfl)) hW) ?_
                    refine @chain _ _ _ _ _ _ _ _ 144 (.pointer (some ⟨b5, o5 + j * 4, none⟩)) (by rfl) (by rfl) (by exact fun W2 hW => run_ia (u := .slice (some ⟨b5, o5, none⟩) m c5) (v := .int .i64 (j : Int)) (by rfl) (by exact eval_look (by kernel_rfl) (by kernel_rfl)) (by exact eval_look (by kernel_rfl) (by kernel_rfl)) (fun W => idx_run _ _ _ _ _ (by omega) W) hW) ?_
                    refine @chain _ _ _ _ _ _ _ _ 145 (.agg (encE y).toArray) (by rfl) (by rfl) (by exact fun W2 hW => run_lw (by rfl) (by exact eval_look (by kernel_rfl) (by kernel_rfl)) (fun W hW => ldEntO _ _ _ _ (fun i v hv => cell_later hW (HYC.out i v hv))) hW) ?_
                    refine @chain _ _ _ _ _ _ _ _ 146 (.slice (some ⟨bi, oi, none⟩) m c2) (by rfl) (by rfl) (by exact fun W2 hW => run_mv (by rfl) (by exact eval_base (by kernel_rfl) (by rfl)) hW) ?_
                    refine @chain _ _ _ _ _ _ _ _ 147 (.int .i64 (k : Int)) (by rfl) (by rfl) (by exact fun W2 hW => run_mv (by rfl) (by exact eval_base (by kernel_rfl) (by rfl)) hW) ?_
                    refine @chain _ _ _ _ _ _ _ _ 148 (.pointer (some ⟨bi, oi + k * 4, none⟩)) (by rfl) (by rfl) (by exact fun W2 hW => run_ia (u := .slice (some ⟨bi, oi, none⟩) m c2) (v := .int .i64 (k : Int)) (by rfl) (by exact eval_look (by kernel_rfl) (by kernel_rfl)) (by exact eval_look (by kernel_rfl) (by kernel_rfl)) (fun W => idx_run _ _ _ _ _ (by omega) W) hW) ?_
                    refine @chain _ _ _ _ _ _ _ _ 149 (.agg (encE x).toArray) (by rfl) (by rfl) (by exact fun W2 hW => run_lw (by rfl) (by exact eval_look (by kernel_rfl) (by kernel_rfl)) (fun W hW => ldEntO _ _ _ _ (fun i v hv => cell_later hW (HXC.out i v hv))) hW) ?_
                    refine @chain _ _ _ _ _ _ _ _ 150 (.bool false) (by rfl) (by rfl) (by exact fun W2 hW => run_bo (u := .agg (encE y).toArray) (v := .agg (encE x).toArray) (by rfl) (by exact eval_look (by kernel_rfl) (by kernel_rfl)) (by exact eval_look (by kernel_rfl) (by kernel_rfl)) (fun W => eqEnt_run _ _ _ _ _ hyx W) hW) ?_
                    refine @chain _ _ _ _ _ _ _ _ 151 (.bool false) (by rfl) (by rfl) (by exact fun W2 hW => run_mv (by rfl) (by exact eval_look (by kernel_rfl) (by kernel_rfl)) hW) ?_
                    refine @chainK _ _ _ _ _ _ _ _ 152 (by kernel_rfl) (by rfl) ?_
                    refine @chainK _ _ _ _ _ _ _ _ 153 (by kernel_rfl) (by rfl) ?_
                    refine @chainK _ _ _ _ _ _ _ _ 154 (by kernel_rfl) (by rfl) ?_
                    refine @chainK _ _ _ _ _ _ _ _ 155 (by kernel_rfl) (by rfl) ?_
                    refine @chainK _ _ _ _ _ _ _ _ 156 (by kernel_rfl) (by rfl) ?_
                    refine @chainK _ _ _ _ _ _ _ _ 157 (by kernel_rfl) (by rfl) ?_
                    refine @chainK _ _ _ _ _ _ _ _ 158 (by kernel_rfl) (by rfl) ?_
                    refine @chainK _ _ _ _ _ _ _ _ 159 (by kernel_rfl) (by rfl) ?_
                    refine @chainK _ _ _ _ _ _ _ _ 160 (by kernel_rfl) (by rfl) ?_
                    refine @chainK _ _ _ _ _ _ _ _ 161 (by kernel_rfl) (by rfl) ?_
                    refine @chainK _ _ _ _ _ _ _ _ 162 (by kernel_rfl) (by rfl) ?_
                    refine @chainK _ _ _ _ _ _ _ _ 163 (by kernel_rfl) (by rfl) ?_
                    refine @chainK _ _ _ _ _ _ _ _ 164 (by kernel_rfl) (by rfl) ?_
                    refine @chainK _ _ _ _ _ _ _ _ 165 (by kernel_rfl) (by rfl) ?_
                    refine calm_nil (fun W2 hW2 => ?_)
                    refine Eq.mpr (congrArg (fun a => wpList _ _ _ _ a W2) (show _ = (⟨#[Value.slice A 0 c, Value.slice (some ⟨oB, oO, none⟩) no c', Value.slice B n d, undef, undef, undef, u6, Value.pointer (some ⟨g, 0, none⟩), Value.slice (some ⟨bi, oi, none⟩) m c2, Value.pointer (some ⟨g2, 0, none⟩), Value.int IntKind.i64 (-1), Value.slice (some ⟨b5, o5, none⟩) m c5, Value.bool true, Value.slice A7 m c7, Value.bool true, Value.slice A8 m c8, Value.slice A9 m c9, Value.int IntKind.i64 (k : Int), Value.int IntKind.i64 1, Value.int IntKind.i64 (1 + (oy : Int) % 12), Value.int IntKind.i64 (j : Int), Value.bool true, Value.bool false, Value.tuple #[Value.pointer (some ⟨g, 0, none⟩), Value.slice (some ⟨bi, oi, none⟩) m c2], Value.slice A 0 c, Value.slice B n d, Value.tuple #[Value.pointer (some ⟨g, 0, none⟩), Value.slice (some ⟨bi, oi, none⟩) m c2], Value.pointer (some ⟨g, 0, none⟩), Value.slice (some ⟨bi, oi, none⟩) m c2, Value.slice (some ⟨oB, oO, none⟩) no c', Value.pointer (some ⟨g2, 0, none⟩), Value.pointer (some ⟨g, 0, none⟩), Value.bool false, Value.bool false, Value.pointer (some ⟨g2, 0, none⟩), Value.bool false, Value.bool false, Value.slice (some ⟨bi, oi, none⟩) m c2, Value.int IntKind.i64 (m : Int), Value.int IntKind.i64 ((m : Int) - 1), Value.int IntKind.i64 (-1), Value.bool false, u42, u43, u44, u45, u46, u47, u48, u49, u50, Value.tuple #[Value.slice (some ⟨b5, o5, none⟩) m c5, Value.bool true], Value.pointer (some ⟨g, 0, none⟩), f, Value.tuple #[Value.slice (some ⟨b5, o5, none⟩) m c5, Value.bool true], Value.slice (some ⟨b5, o5, none⟩) m c5, Value.bool true, Value.tuple #[Value.slice A7 m c7, Value.bool true], Value.pointer (some ⟨g2, 0, none⟩), f2, Value.tuple #[Value.slice A7 m c7, Value.bool true], Value.slice A7 m c7, Value.bool true, Value.pointer (some ⟨g, 0, none⟩), Value.slice A8 m c8, Value.pointer (some ⟨g2, 0, none⟩), Value.slice A9 m c9, Value.bool true, Value.bool false, Value.bool false, Value.bool true, Value.bool false, Value.bool false, Value.bool false, Value.slice (some ⟨b5, o5, none⟩) m c5, Value.slice A7 m c7, Value.bool true, Value.bool false, Value.bool false, Value.bool false, Value.slice A8 m c8, Value.int IntKind.i64 (m : Int), Value.slice (some ⟨bi, oi, none⟩) m c2, Value.int IntKind.i64 (m : Int), Value.bool false, Value.bool false, Value.bool false, Value.slice A9 m c9, Value.int IntKind.i64 (m : Int), Value.slice (some ⟨bi, oi, none⟩) m c2, Value.int IntKind.i64 (m : Int), Value.bool false, Value.bool false, Value.bool false, Value.slice (some ⟨b5, o5, none⟩) m c5, Value.int IntKind.i64 (m : Int), Value.slice (some ⟨bi, oi, none⟩) m c2, Value.int IntKind.i64 (m : Int), Value.bool false, Value.bool false, Value.int IntKind.i64 (k : Int), Value.slice (some ⟨bi, oi, none⟩) m c2, Value.int IntKind.i64 (m : Int), Value.bool true, u104, u105, Value.slice A 0 c, Value.int IntKind.i64 0, Value.bool false, u109, u110, u111, u112, u113, u114, u115, u116, u117, u118, Value.slice (some ⟨oB, oO, none⟩) no c', Value.int IntKind.i64 (no : Int), Value.bool true, Value.slice (some ⟨oB, oO, none⟩) no c', Value.slice (some ⟨bi, oi, none⟩) m c2, Value.int IntKind.i64 (m : Int), Value.int IntKind.i64 ((m : Int) - 1), Value.int IntKind.i64 (k : Int), Value.int IntKind.i64 (k2 : Int), Value.slice (some ⟨oB, oO, none⟩) no c', Value.int IntKind.i64 (no : Int), Value.int IntKind.i64 ((k2 : Int) % (no : Int)), Value.pointer (some ⟨oB, oO + k2 % no, none⟩), Value.int IntKind.u8 (oy : Int), Value.int IntKind.i64 (oy : Int), Value.int IntKind.i64 ((oy : Int) % 12), Value.int IntKind.i64 (1 + (oy : Int) % 12), Value.int IntKind.i64 (j : Int), Value.slice (some ⟨b5, o5, none⟩) m c5, Value.int IntKind.i64 (m : Int), Value.bool true, u140, u141, Value.slice (some ⟨b5, o5, none⟩) m c5, Value.int IntKind.i64 (j : Int), Value.pointer (some ⟨b5, o5 + j * 4, none⟩), Value.agg (encE y).toArray, Value.slice (some ⟨bi, oi, none⟩) m c2, Value.int IntKind.i64 (k : Int), Value.pointer (some ⟨bi, oi + k * 4, none⟩), Value.agg (encE x).toArray, Value.bool false, Value.bool false, undef, undef, undef, undef, undef, undef, undef, undef, undef, undef, undef, undef, undef, undef, u166], []⟩ : Act) by kernel_rfl)) ?_
                    have HW2 := Lib.hid hW2
                    clear hW2
                    clear hyx
                    go_wp2
                    go_roundw
                    case rel => exact ⟨j + 1, by first | rfl | simp, by omega, HBJ.out.trans (HW2.out.mono HBJ.out.size)⟩
                    case measure => simp [intOf]; omega
                · have hjm2 : m = j := by omega
                  subst hjm2
                  go_wp2
                  go_roundw
                  case rel => exact ⟨k + 1, by first | rfl | simp, by omega, HBJ.out⟩
                  case measure => simp [intOf]; omega
          · have ppos : 0 < nd := by omega
            have pN := HND.out
            have pBY := HBY.out
            have plt : k % nd < nd := Nat.mod_lt _ ppos
            obtain ⟨px, phx⟩ := getElem?_of_lt (l := draws) (by rw [pN]; exact plt : k % nd < draws.length)
            have pb := pBY px (List.mem_of_getElem? phx)
            obtain ⟨py, phy⟩ : ∃ y : Nat, px = y := ⟨px.toNat, by have := pb.1; omega⟩
            subst phy
            have py2 : py ≤ 255 := by have := pb.2; omega
            obtain ⟨pB, pO, pA, pbl, pbc⟩ := HA.out.at phx
            subst pA
            have pc : wq.cell? ⟨pB, pO + k % nd, none⟩ = some (.int .u8 py) := by
              have := ((HWQ.out).cell (p := ⟨pB, pO + k % nd * 1 + 0, none⟩) pbl).trans (pbc 0 _ rfl)
              simpa using this
            have ph := Lib.hid (hgt_cons pN ppos phx)
            have pw : IntKind.i64.wrap ((k : Int).tmod (nd : Int)) = ((k % nd : Nat) : Int) := wrap_rem _ _ (by omega)
            have pv : IntKind.i64.wrap ((py : Int).tmod 12) = ((py % 12 : Nat) : Int) := wrap_rem py 12 (by omega)
            clear pbc pbl phx pb
            have hnd1 : (0 : Int) < nd := by omega
            have hnd2 : ¬ (nd : Int) = 0 := by omega
            clear pN pBY
            by_cases hno : no = 0
            · have o0 := Lib.hid (show hgt other (m - 1 - k) = 1 from hgt_nil _ (by rw [HNO.out]; exact hno))
              subst hno
              go_wp2_with fail
              go_loopw [20] (fun s20 wr => ∃ j : Nat, s20 = .int .i64 j ∧ j ≤ m ∧ Below w10.heap.size w10 wr) (fun s20 wr => m - (intOf s20).toNat)
              case atStart => exact ⟨0, rfl, by omega, HBK.out⟩
              case round =>
                obtain ⟨j, rfl, hj, hbj⟩ := hrel
                generalize wr = wj at *
                have HBJ := Lib.hid hbj
                have HBJ9 := Lib.hid (HB10.out.trans (hbj.mono HB10.out.size))
                clear hbj
                by_cases hjm : j < m
                · obtain ⟨y, hy⟩ := getElem?_of_lt (l := allE L) (by rw [HL1.out]; exact hjm : j < (allE L).length)
                  obtain ⟨b5, o5, yA, ylt, yc⟩ := HA5.out.at hy
                  obtain ⟨bi, oi, xA, xlt, xc⟩ := HI9.out.at HX.out
                  subst yA
                  subst xA
                  have HYC := Lib.hid (fun i v hv => (HBJ9.out.cell (p := ⟨b5, o5 + j * 4 + i, none⟩) ylt).trans (yc i v hv))
                  have HXC := Lib.hid (fun i v hv => (HBJ9.out.cell (p := ⟨bi, oi + k * 4 + i, none⟩) xlt).trans (xc i v hv))
                  clear yc xc ylt xlt
                  cases hyx : decide (y = x) with
                  | true =>
                    have hyx2 : y = x := of_decide_eq_true hyx
                    have h8 := HLAID.out.at HX.out (by rw [← hyx2]; exact hy)
                    have h9 := HLAID2.out.at (rev_at HX.out) (by rw [← HEQ.out, ← hyx2]; exact hy)
                    obtain ⟨b8, o8, e8, l8, q8⟩ := HA8.out.at h8
                    obtain ⟨b9, o9, e9, l9, q9⟩ := HA9.out.at h9
                    subst e8
                    subst e9
                    have H8 := Lib.hid (show wj.cell? ⟨b8, o8 + j, none⟩ = some (.int .i64 (1 + (py : Int) % 12)) from by
                      have := (HBJ9.out.cell (p := ⟨b8, o8 + j * 1 + 0, none⟩) l8).trans (q8 0 _ rfl)
                      rw [ph.out, Int.natCast_add] at this
                      simpa using this)
                    have H9 := Lib.hid (show wj.cell? ⟨b9, o9 + j, none⟩ = some (.int .i64 1) from by
                      have := (HBJ9.out.cell (p := ⟨b9, o9 + j * 1 + 0, none⟩) l9).trans (q9 0 _ rfl)
                      rw [HMM.out] at this
                      rw [o0.out] at this
                      simpa using this)
                    clear h8 h9 q8 q9 l8 l9 hyx2 hy
                    go_wp2_with fail
                    refine wp_region_calmB 24 (by kernel_rfl) (by kernel_rfl) ?_
                    simp only [List.take_succ_cons, List.take_zero, List.drop_succ_cons, List.drop_zero]
                    refine chain0 ?_
                    refine @chain _ _ _ _ _ _ _ _ 142 (.slice (some ⟨b5, o5, none⟩) m c5) (by rfl) (by rfl) (by exact fun W2 hW => run_mv (by rfl) (by exact eval_base (by kernel_rfl) (by rfl)) hW) ?_
                    refine @chain _ _ _ _ _ _ _ _ 143 (.int .i64 (j : Int)) (by rfl) (by rfl) (by exact fun W2 hW => run_mv (by rfl) (by exact eval_base (by kernel_rfl) (by rfl)) hW) ?_
                    refine @chain _ _ _ _ _ _ _ _ 144 (.pointer (some ⟨b5, o5 + j * 4, none⟩)) (by rfl) (by rfl) (by exact fun W2 hW => run_ia (u := .slice (some ⟨b5, o5, none⟩) m c5) (v := .int .i64 (j : Int)) (by rfl) (by exact eval_look (by kernel_rfl) (by kernel_rfl)) (by exact eval_look (by kernel_rfl) (by kernel_rfl)) (fun W => idx_run _ _ _ _ _ (by omega) W) hW) ?_
                    refine @chain _ _ _ _ _ _ _ _ 145 (.agg (encE y).toArray) (by rfl) (by rfl) (by exact fun W2 hW => run_lw (by rfl) (by exact eval_look (by kernel_rfl) (by kernel_rfl)) (fun W hW => ldEntO _ _ _ _ (fun i v hv => cell_later hW (HYC.out i v hv))) hW) ?_
                    refine @chain _ _ _ _ _ _ _ _ 146 (.slice (some ⟨bi, oi, none⟩) m c2) (by rfl) (by rfl) (by exact fun W2 hW => run_mv (by rfl) (by exact eval_base (by kernel_rfl) (by rfl)) hW) ?_
                    refine @chain _ _ _ _ _ _ _ _ 147 (.int .i64 (k : Int)) (by rfl) (by rfl) (by exact fun W2 hW => run_mv (by rfl) (by exact eval_base (by kernel_rfl) (by rfl)) hW) ?_
                    refine @chain _ _ _ _ _ _ _ _ 148 (.pointer (some ⟨bi, oi + k * 4, none⟩)) (by rfl) (by rfl) (by exact fun W2 hW => run_ia (u := .slice (some ⟨bi, oi, none⟩) m c2) (v := .int .i64 (k : Int)) (by rfl) (by exact eval_look (by kernel_rfl) (by kernel_rfl)) (by exact eval_look (by kernel_rfl) (by kernel_rfl)) (fun W => idx_run _ _ _ _ _ (by omega) W) hW) ?_
                    refine @chain _ _ _ _ _ _ _ _ 149 (.agg (encE x).toArray) (by rfl) (by rfl) (by exact fun W2 hW => run_lw (by rfl) (by exact eval_look (by kernel_rfl) (by kernel_rfl)) (fun W hW => ldEntO _ _ _ _ (fun i v hv => cell_later hW (HXC.out i v hv))) hW) ?_
                    refine @chain _ _ _ _ _ _ _ _ 150 (.bool true) (by rfl) (by rfl) (by exact fun W2 hW => run_bo (u := .agg (encE y).toArray) (v := .agg (encE x).toArray) (by rfl) (by exact eval_look (by kernel_rfl) (by kernel_rfl)) (by exact eval_look (by kernel_rfl) (by kernel_rfl)) (fun W => eqEnt_run _ _ _ _ _ hyx W) hW) ?_
                    refine @chain _ _ _ _ _ _ _ _ 151 (.bool true) (by rfl) (by rfl) (by exact fun W2 hW => run_mv (by rfl) (by exact eval_look (by kernel_rfl) (by kernel_rfl)) hW) ?_
                    refine @chainG _ _ _ _ _ _ _ _ 152 (.slice (some ⟨b8, o8, none⟩) m c8) (by kernel_rfl) (by rfl) (by exact fun W2 hW => run_mv (by rfl) (by exact eval_base (by kernel_rfl) (by rfl)) hW) ?_
                    refine @chainG _ _ _ _ _ _ _ _ 153 (.int .i64 (j : Int)) (by kernel_rfl) (by rfl) (by exact fun W2 hW => run_mv (by rfl) (by exact eval_base (by kernel_rfl) (by rfl)) hW) ?_
                    refine @chainG _ _ _ _ _ _ _ _ 154 (.pointer (some ⟨b8, o8 + j, none⟩)) (by kernel_rfl) (by rfl) (by exact fun W2 hW => run_ia (u := .slice (some ⟨b8, o8, none⟩) m c8) (v := .int .i64 (j : Int)) (by rfl) (by exact eval_look (by kernel_rfl) (by kernel_rfl)) (by exact eval_look (by kernel_rfl) (by kernel_rfl)) (fun W => idxI_run _ _ _ _ _ (by omega) W) hW) ?_
                    refine @chainG _ _ _ _ _ _ _ _ 155 (.int .i64 (1 + (py : Int) % 12)) (by kernel_rfl) (by rfl) (by exact fun W2 hW => run_lw (by rfl) (by exact eval_look (by kernel_rfl) (by kernel_rfl)) (fun W hW => ldI _ _ _ _ (cell_later hW H8.out)) hW) ?_
                    refine @chainG _ _ _ _ _ _ _ _ 156 (.int .i64 (1 + (py : Int) % 12)) (by kernel_rfl) (by rfl) (by exact fun W2 hW => run_mv (by rfl) (by exact eval_base (by kernel_rfl) (by rfl)) hW) ?_
                    refine @chainG _ _ _ _ _ _ _ _ 157 (.bool false) (by kernel_rfl) (by rfl) (by exact fun W2 hW => run_bo (u := .int .i64 (1 + (py : Int) % 12)) (v := .int .i64 (1 + (py : Int) % 12)) (by rfl) (by exact eval_look (by kernel_rfl) (by kernel_rfl)) (by exact eval_look (by kernel_rfl) (by kernel_rfl)) (fun W => by go_simp) hW) ?_
                    refine @chainG _ _ _ _ _ _ _ _ 158 (.bool false) (by kernel_rfl) (by rfl) (by exact fun W2 hW => run_mv (by rfl) (by exact eval_look (by kernel_rfl) (by kernel_rfl)) hW) ?_
                    refine @chainG _ _ _ _ _ _ _ _ 159 (.slice (some ⟨b9, o9, none⟩) m c9) (by kernel_rfl) (by rfl) (by exact fun W2 hW => run_mv (by rfl) (by exact eval_base (by kernel_rfl) (by rfl)) hW) ?_
                    refine @chainG _ _ _ _ _ _ _ _ 160 (.int .i64 (j : Int)) (by kernel_rfl) (by rfl) (by exact fun W2 hW => run_mv (by rfl) (by exact eval_base (by kernel_rfl) (by rfl)) hW) ?_
                    refine @chainG _ _ _ _ _ _ _ _ 161 (.pointer (some ⟨b9, o9 + j, none⟩)) (by kernel_rfl) (by rfl) (by exact fun W2 hW => run_ia (u := .slice (some ⟨b9, o9, none⟩) m c9) (v := .int .i64 (j : Int)) (by rfl) (by exact eval_look (by kernel_rfl) (by kernel_rfl)) (by exact eval_look (by kernel_rfl) (by kernel_rfl)) (fun W => idxI_run _ _ _ _ _ (by omega) W) hW) ?_
                    refine @chainG _ _ _ _ _ _ _ _ 162 (.int .i64 1) (by kernel_rfl) (by rfl) (by exact fun W2 hW => run_lw (by rfl) (by exact eval_look (by kernel_rfl) (by kernel_rfl)) (fun W hW => ldI _ _ _ _ (cell_later hW H9.out)) hW) ?_
                    refine @chainG _ _ _ _ _ _ _ _ 163 (.int .i64 1) (by kernel_rfl) (by rfl) (by exact fun W2 hW => run_mv (by rfl) (by exact eval_base (by kernel_rfl) (by rfl)) hW) ?_
                    refine @chainG _ _ _ _ _ _ _ _ 164 (.bool false) (by kernel_rfl) (by rfl) (by exact fun W2 hW => run_bo (u := .int .i64 1) (v := .int .i64 1) (by rfl) (by exact eval_look (by kernel_rfl) (by kernel_rfl)) (by exact eval_look (by kernel_rfl) (by kernel_rfl)) (fun W => by go_simp) hW) ?_
                    refine @chainG _ _ _ _ _ _ _ _ 165 (.bool false) (by kernel_rfl) (by rfl) (by exact fun W2 hW => run_pkF (by rfl) (by exact eval_look (by kernel_rfl) (by kernel_rfl)) (by exact eval_look (by kernel_rfl) (by kernel_rfl)) hW) ?_
                    refine calm_nil (fun W2 hW2 => ?_)
                    refine Eq.mpr (congrArg (fun a => wpList _ _ _ _ a W2) (show _ = (⟨#[Value.slice (some ⟨pB, pO, none⟩) nd c, Value.slice A' 0 c', Value.slice B n d, undef, undef, undef, u6, Value.pointer (some ⟨g, 0, none⟩), Value.slice (some ⟨bi, oi, none⟩) m c2, Value.pointer (some ⟨g2, 0, none⟩), Value.int IntKind.i64 (-1), Value.slice (some ⟨b5, o5, none⟩) m c5, Value.bool true, Value.slice A7 m c7, Value.bool true, Value.slice (some ⟨b8, o8, none⟩) m c8, Value.slice (some ⟨b9, o9, none⟩) m c9, Value.int IntKind.i64 (k : Int), Value.int IntKind.i64 (1 + (py : Int) % 12), Value.int IntKind.i64 1, Value.int IntKind.i64 (j : Int), Value.bool true, Value.bool false, Value.tuple #[Value.pointer (some ⟨g, 0, none⟩), Value.slice (some ⟨bi, oi, none⟩) m c2], Value.slice (some ⟨pB, pO, none⟩) nd c, Value.slice B n d, Value.tuple #[Value.pointer (some ⟨g, 0, none⟩), Value.slice (some ⟨bi, oi, none⟩) m c2], Value.pointer (some ⟨g, 0, none⟩), Value.slice (some ⟨bi, oi, none⟩) m c2, Value.slice A' 0 c', Value.pointer (some ⟨g2, 0, none⟩), Value.pointer (some ⟨g, 0, none⟩), Value.bool false, Value.bool false, Value.pointer (some ⟨g2, 0, none⟩), Value.bool false, Value.bool false, Value.slice (some ⟨bi, oi, none⟩) m c2, Value.int IntKind.i64 (m : Int), Value.int IntKind.i64 ((m : Int) - 1), Value.int IntKind.i64 (-1), Value.bool false, u42, u43, u44, u45, u46, u47, u48, u49, u50, Value.tuple #[Value.slice (some ⟨b5, o5, none⟩) m c5, Value.bool true], Value.pointer (some ⟨g, 0, none⟩), f, Value.tuple #[Value.slice (some ⟨b5, o5, none⟩) m c5, Value.bool true], Value.slice (some ⟨b5, o5, none⟩) m c5, Value.bool true, Value.tuple #[Value.slice A7 m c7, Value.bool true], Value.pointer (some ⟨g2, 0, none⟩), f2, Value.tuple #[Value.slice A7 m c7, Value.bool true], Value.slice A7 m c7, Value.bool true, Value.pointer (some ⟨g, 0, none⟩), Value.slice (some ⟨b8, o8, none⟩) m c8, Value.pointer (some ⟨g2, 0, none⟩), Value.slice (some ⟨b9, o9, none⟩) m c9, Value.bool true, Value.bool false, Value.bool false, Value.bool true, Value.bool false, Value.bool false, Value.bool false, Value.slice (some ⟨b5, o5, none⟩) m c5, Value.slice A7 m c7, Value.bool true, Value.bool false, Value.bool false, Value.bool false, Value.slice (some ⟨b8, o8, none⟩) m c8, Value.int IntKind.i64 (m : Int), Value.slice (some ⟨bi, oi, none⟩) m c2, Value.int IntKind.i64 (m : Int), Value.bool false, Value.bool false, Value.bool false, Value.slice (some ⟨b9, o9, none⟩) m c9, Value.int IntKind.i64 (m : Int), Value.slice (some ⟨bi, oi, none⟩) m c2, Value.int IntKind.i64 (m : Int), Value.bool false, Value.bool false, Value.bool false, Value.slice (some ⟨b5, o5, none⟩) m c5, Value.int IntKind.i64 (m : Int), Value.slice (some ⟨bi, oi, none⟩) m c2, Value.int IntKind.i64 (m : Int), Value.bool false, Value.bool false, Value.int IntKind.i64 (k : Int), Value.slice (some ⟨bi, oi, none⟩) m c2, Value.int IntKind.i64 (m : Int), Value.bool true, u104, u105, Value.slice (some ⟨pB, pO, none⟩) nd c, Value.int IntKind.i64 (nd : Int), Value.bool true, Value.slice (some ⟨pB, pO, none⟩) nd c, Value.int IntKind.i64 (k : Int), Value.slice (some ⟨pB, pO, none⟩) nd c, Value.int IntKind.i64 (nd : Int), Value.int IntKind.i64 ((k : Int) % (nd : Int)), Value.pointer (some ⟨pB, pO + k % nd, none⟩), Value.int IntKind.u8 (py : Int), Value.int IntKind.i64 (py : Int), Value.int IntKind.i64 ((py : Int) % 12), Value.int IntKind.i64 (1 + (py : Int) % 12), Value.slice A' 0 c', Value.int IntKind.i64 0, Value.bool false, u122, u123, u124, u125, u126, u127, u128, u129, u130, u131, u132, u133, u134, u135, Value.int IntKind.i64 (j : Int), Value.slice (some ⟨b5, o5, none⟩) m c5, Value.int IntKind.i64 (m : Int), Value.bool true, u140, u141, Value.slice (some ⟨b5, o5, none⟩) m c5, Value.int IntKind.i64 (j : Int), Value.pointer (some ⟨b5, o5 + j * 4, none⟩), Value.agg (encE y).toArray, Value.slice (some ⟨bi, oi, none⟩) m c2, Value.int IntKind.i64 (k : Int), Value.pointer (some ⟨bi, oi + k * 4, none⟩), Value.agg (encE x).toArray, Value.bool true, Value.bool true, Value.slice (some ⟨b8, o8, none⟩) m c8, Value.int IntKind.i64 (j : Int), Value.pointer (some ⟨b8, o8 + j, none⟩), Value.int IntKind.i64 (1 + (py : Int) % 12), Value.int IntKind.i64 (1 + (py : Int) % 12), Value.bool false, Value.bool false, Value.slice (some ⟨b9, o9, none⟩) m c9, Value.int IntKind.i64 (j : Int), Value.pointer (some ⟨b9, o9 + j, none⟩), Value.int IntKind.i64 1, Value.int IntKind.i64 1, Value.bool false, Value.bool false, u166], []⟩ : Act) by kernel_rfl)) ?_
                    have HW2 := Lib.hid hW2
                    clear hW2
                    clear hyx
                    go_wp2
                    go_roundw
                    case rel => exact ⟨j + 1, by first | rfl | simp, by omega, HBJ.out.trans (HW2.out.mono HBJ.out.size)⟩
                    case measure => simp [intOf]; omega
                  | false =>
                    clear hy
                    go_wp2_with fail
                    refine wp_region_calmB 24 (by kernel_rfl) (by kernel_rfl) ?_
                    simp only [List.take_succ_cons, List.take_zero, List.drop_succ_cons, List.drop_zero]
                    refine chain0 ?_
                    refine @chain _ _ _ _ _ _ _ _ 142 (.slice (some ⟨b5, o5, none⟩) m c5) (by rfl) (by rfl) (by exact fun W2 hW => run_mv (by rfl) (by exact eval_base (by kernel_rfl) (by rfl)) hW) ?_
                    refine @chain _ _ _ _ _ _ _ _ 143 (.int .i64 (j : Int)) (by rfl) (by rfl) (by exact fun W2 hW => run_mv (by rfl) (by exact eval_base (by kernel_rfl) (by rfl)) hW) ?_
                    refine @chain _ _ _ _ _ _ _ _ 144 (.pointer (some ⟨b5, o5 + j * 4, none⟩)) (by rfl) (by rfl) (by exact fun W2 hW => run_ia (u := .slice (some ⟨b5, o5, none⟩) m c5) (v := .int .i64 (j : Int)) (by rfl) (by exact eval_look (by kernel_rfl) (by kernel_rfl)) (by exact eval_look (by kernel_rfl) (by kernel_rfl)) (fun W => idx_run _ _ _ _ _ (by omega) W) hW) ?_
                    refine @chain _ _ _ _ _ _ _ _ 145 (.agg (encE y).toArray) (by rfl) (by rfl) (by exact fun W2 hW => run_lw (by rfl) (by exact eval_look (by kernel_rfl) (by kernel_rfl)) (fun W hW => ldEntO _ _ _ _ (fun i v hv => cell_later hW (HYC.out i v hv))) hW) ?_
                    refine @chain _ _ _ _ _ _ _ _ 146 (.slice (some ⟨bi, oi, none⟩) m c2) (by rfl) (by rfl) (by exact fun W2 hW => run_mv (by rfl) (by exact eval_base (by kernel_rfl) (by rfl)) hW) ?_
                    refine @chain _ _ _ _ _ _ _ _ 147 (.int .i64 (k : Int)) (by rfl) (by rfl) (by exact fun W2 hW => run_mv (by rfl) (by exact eval_base (by kernel_rfl) (by rfl)) hW) ?_
                    refine @chain _ _ _ _ _ _ _ _ 148 (.pointer (some ⟨bi, oi + k * 4, none⟩)) (by rfl) (by rfl) (by exact fun W2 hW => run_ia (u := .slice (some ⟨bi, oi, none⟩) m c2) (v := .int .i64 (k : Int)) (by rfl) (by exact eval_look (by kernel_rfl) (by kernel_rfl)) (by exact eval_look (by kernel_rfl) (by kernel_rfl)) (fun W => idx_run _ _ _ _ _ (by omega) W) hW) ?_
                    refine @chain _ _ _ _ _ _ _ _ 149 (.agg (encE x).toArray) (by rfl) (by rfl) (by exact fun W2 hW => run_lw (by rfl) (by exact eval_look (by kernel_rfl) (by kernel_rfl)) (fun W hW => ldEntO _ _ _ _ (fun i v hv => cell_later hW (HXC.out i v hv))) hW) ?_
                    refine @chain _ _ _ _ _ _ _ _ 150 (.bool false) (by rfl) (by rfl) (by exact fun W2 hW => run_bo (u := .agg (encE y).toArray) (v := .agg (encE x).toArray) (by rfl) (by exact eval_look (by kernel_rfl) (by kernel_rfl)) (by exact eval_look (by kernel_rfl) (by kernel_rfl)) (fun W => eqEnt_run _ _ _ _ _ hyx W) hW) ?_
                    refine @chain _ _ _ _ _ _ _ _ 151 (.bool false) (by rfl) (by rfl) (by exact fun W2 hW => run_mv (by rfl) (by exact eval_look (by kernel_rfl) (by kernel_rfl)) hW) ?_
                    refine @chainK _ _ _ _ _ _ _ _ 152 (by kernel_rfl) (by rfl) ?_
                    refine @chainK _ _ _ _ _ _ _ _ 153 (by kernel_rfl) (by rfl) ?_
                    refine @chainK _ _ _ _ _ _ _ _ 154 (by kernel_rfl) (by rfl) ?_
                    refine @chainK _ _ _ _ _ _ _ _ 155 (by kernel_rfl) (by rfl) ?_
                    refine @chainK _ _ _ _ _ _ _ _ 156 (by kernel_rfl) (by rfl) ?_
                    refine @chainK _ _ _ _ _ _ _ _ 157 (by kernel_rfl) (by rfl) ?_
                    refine @chainK _ _ _ _ _ _ _ _ 158 (by kernel_rfl) (by rfl) ?_
                    refine @chainK _ _ _ _ _ _ _ _ 159 (by kernel_rfl) (by rfl) ?_
                    refine @chainK _ _ _ _ _ _ _ _ 160 (by kernel_rfl) (by rfl) ?_
                    refine @chainK _ _ _ _ _ _ _ _ 161 (by kernel_rfl) (by rfl) ?_
                    refine @chainK _ _ _ _ _ _ _ _ 162 (by kernel_rfl) (by rfl) ?_
                    refine @chainK _ _ _ _ _ _ _ _ 163 (by kernel_rfl) (by rfl) ?_
                    refine @chainK _ _ _ _ _ _ _ _ 164 (by kernel_rfl) (by rfl) ?_
                    refine @chainK _ _ _ _ _ _ _ _ 165 (by kernel_rfl) (by rfl) ?_
                    refine calm_nil (fun W2 hW2 => ?_)
                    refine Eq.mpr (congrArg (fun a => wpList _ _ _ _ a W2) (show _ = (⟨#[Value.slice (some ⟨pB, pO, none⟩) nd c, Value.slice A' 0 c', Value.slice B n d, undef, undef, undef, u6, Value.pointer (some ⟨g, 0, none⟩), Value.slice (some ⟨bi, oi, none⟩) m c2, Value.pointer (some ⟨g2, 0, none⟩), Value.int IntKind.i64 (-1), Value.slice (some ⟨b5, o5, none⟩) m c5, Value.bool true, Value.slice A7 m c7, Value.bool true, Value.slice A8 m c8, Value.slice A9 m c9, Value.int IntKind.i64 (k : Int), Value.int IntKind.i64 (1 + (py : Int) % 12), Value.int IntKind.i64 1, Value.int IntKind.i64 (j : Int), Value.bool true, Value.bool false, Value.tuple #[Value.pointer (some ⟨g, 0, none⟩), Value.slice (some ⟨bi, oi, none⟩) m c2], Value.slice (some ⟨pB, pO, none⟩) nd c, Value.slice B n d, Value.tuple #[Value.pointer (some ⟨g, 0, none⟩), Value.slice (some ⟨bi, oi, none⟩) m c2], Value.pointer (some ⟨g, 0, none⟩), Value.slice (some ⟨bi, oi, none⟩) m c2, Value.slice A' 0 c', Value.pointer (some ⟨g2, 0, none⟩), Value.pointer (some ⟨g, 0, none⟩), Value.bool false, Value.bool false, Value.pointer (some ⟨g2, 0, none⟩), Value.bool false, Value.bool false, Value.slice (some ⟨bi, oi, none⟩) m c2, Value.int IntKind.i64 (m : Int), Value.int IntKind.i64 ((m : Int) - 1), Value.int IntKind.i64 (-1), Value.bool false, u42, u43, u44, u45, u46, u47, u48, u49, u50, Value.tuple #[Value.slice (some ⟨b5, o5, none⟩) m c5, Value.bool true], Value.pointer (some ⟨g, 0, none⟩), f, Value.tuple #[Value.slice (some ⟨b5, o5, none⟩) m c5, Value.bool true], Value.slice (some ⟨b5, o5, none⟩) m c5, Value.bool true, Value.tuple #[Value.slice A7 m c7, Value.bool true], Value.pointer (some ⟨g2, 0, none⟩), f2, Value.tuple #[Value.slice A7 m c7, Value.bool true], Value.slice A7 m c7, Value.bool true, Value.pointer (some ⟨g, 0, none⟩), Value.slice A8 m c8, Value.pointer (some ⟨g2, 0, none⟩), Value.slice A9 m c9, Value.bool true, Value.bool false, Value.bool false, Value.bool true, Value.bool false, Value.bool false, Value.bool false, Value.slice (some ⟨b5, o5, none⟩) m c5, Value.slice A7 m c7, Value.bool true, Value.bool false, Value.bool false, Value.bool false, Value.slice A8 m c8, Value.int IntKind.i64 (m : Int), Value.slice (some ⟨bi, oi, none⟩) m c2, Value.int IntKind.i64 (m : Int), Value.bool false, Value.bool false, Value.bool false, Value.slice A9 m c9, Value.int IntKind.i64 (m : Int), Value.slice (some ⟨bi, oi, none⟩) m c2, Value.int IntKind.i64 (m : Int), Value.bool false, Value.bool false, Value.bool false, Value.slice (some ⟨b5, o5, none⟩) m c5, Value.int IntKind.i64 (m : Int), Value.slice (some ⟨bi, oi, none⟩) m c2, Value.int IntKind.i64 (m : Int), Value.bool false, Value.bool false, Value.int IntKind.i64 (k : Int), Value.slice (some ⟨bi, oi, none⟩) m c2, Value.int IntKind.i64 (m : Int), Value.bool true, u104, u105, Value.slice (some ⟨pB, pO, none⟩) nd c, Value.int IntKind.i64 (nd : Int), Value.bool true, Value.slice (some ⟨pB, pO, none⟩) nd c, Value.int IntKind.i64 (k : Int), Value.slice (some ⟨pB, pO, none⟩) nd c, Value.int IntKind.i64 (nd : Int), Value.int IntKind.i64 ((k : Int) % (nd : Int)), Value.pointer (some ⟨pB, pO + k % nd, none⟩), Value.int IntKind.u8 (py : Int), Value.int IntKind.i64 (py : Int), Value.int IntKind.i64 ((py : Int) % 12), Value.int IntKind.i64 (1 + (py : Int) % 12), Value.slice A' 0 c', Value.int IntKind.i64 0, Value.bool false, u122, u123, u124, u125, u126, u127, u128, u129, u130, u131, u132, u133, u134, u135, Value.int IntKind.i64 (j : Int), Value.slice (some ⟨b5, o5, none⟩) m c5, Value.int IntKind.i64 (m : Int), Value.bool true, u140, u141, Value.slice (some ⟨b5, o5, none⟩) m c5, Value.int IntKind.i64 (j : Int), Value.pointer (some ⟨b5, o5 + j * 4, none⟩), Value.agg (encE y).toArray, Value.slice (some ⟨bi, oi, none⟩) m c2, Value.int IntKind.i64 (k : Int), Value.pointer (some ⟨bi, oi + k * 4, none⟩), Value.agg (encE x).toArray, Value.bool false, Value.bool false, undef, undef, undef, undef, undef, undef, undef, undef, undef, undef, undef, undef, undef, undef, u166], []⟩ : Act) by kernel_rfl)) ?_
                    have HW2 := Lib.hid hW2
                    clear hW2
                    clear hyx
                    go_wp2
                    go_roundw
                    case rel => exact ⟨j + 1, by first | rfl | simp, by omega, HBJ.out.trans (HW2.out.mono HBJ.out.size)⟩
                    case measure => simp [intOf]; omega
                · have hjm2 : m = j := by omega
                  subst hjm2
                  go_wp2
                  go_roundw
                  case rel => exact ⟨k + 1, by first | rfl | simp, by omega, HBJ.out⟩
                  case measure => simp [intOf]; omega
            · have opos : 0 < no := by omega
              have oN := HNO.out
              have oBY := HBY'.out
              obtain ⟨k2, hk2⟩ : ∃ j : Nat, (m : Int) - 1 - k = j := ⟨m - 1 - k, by omega⟩
              have HJ2 := Lib.hid (show m - 1 - k = k2 by omega)
              have olt : k2 % no < no := Nat.mod_lt _ opos
              obtain ⟨ox, ohx⟩ := getElem?_of_lt (l := other) (by rw [oN]; exact olt : k2 % no < other.length)
              have ob := oBY ox (List.mem_of_getElem? ohx)
              obtain ⟨oy, ohy⟩ : ∃ y : Nat, ox = y := ⟨ox.toNat, by have := ob.1; omega⟩
              subst ohy
              have oy2 : oy ≤ 255 := by have := ob.2; omega
              obtain ⟨oB, oO, oA, obl, obc⟩ := HA'.out.at ohx
              subst oA
              have oc : wq.cell? ⟨oB, oO + k2 % no, none⟩ = some (.int .u8 oy) := by
                have := ((HWQ.out).cell (p := ⟨oB, oO + k2 % no * 1 + 0, none⟩) obl).trans (obc 0 _ rfl)
                simpa using this
              have oh := Lib.hid (hgt_cons oN opos ohx)
              have ow : IntKind.i64.wrap ((k2 : Int).tmod (no : Int)) = ((k2 % no : Nat) : Int) := wrap_rem _ _ (by omega)
              have ov : IntKind.i64.wrap ((oy : Int).tmod 12) = ((oy % 12 : Nat) : Int) := wrap_rem oy 12 (by omega)
              clear obc obl ohx ob
              have hno1 : (0 : Int) < no := by omega
              have hno2 : ¬ (no : Int) = 0 := by omega
              have hk3 : (k2 : Int) < m := by omega
              clear oN oBY
              go_wp2_with fail
              go_loopw [20] (fun s20 wr => ∃ j : Nat, s20 = .int .i64 j ∧ j ≤ m ∧ Below w10.heap.size w10 wr) (fun s20 wr => m - (intOf s20).toNat)
              case atStart => exact ⟨0, rfl, by omega, HBK.out⟩
              case round =>
                obtain ⟨j, rfl, hj, hbj⟩ := hrel
                generalize wr = wj at *
                have HBJ := Lib.hid hbj
                have HBJ9 := Lib.hid (HB10.out.trans (hbj.mono HB10.out.size))
                clear hbj
                by_cases hjm : j < m
                · obtain ⟨y, hy⟩ := getElem?_of_lt (l := allE L) (by rw [HL1.out]; exact hjm : j < (allE L).length)
                  obtain ⟨b5, o5, yA, ylt, yc⟩ := HA5.out.at hy
                  obtain ⟨bi, oi, xA, xlt, xc⟩ := HI9.out.at HX.out
                  subst yA
                  subst xA
                  have HYC := Lib.hid (fun i v hv => (HBJ9.out.cell (p := ⟨b5, o5 + j * 4 + i, none⟩) ylt).trans (yc i v hv))
                  have HXC := Lib.hid (fun i v hv => (HBJ9.out.cell (p := ⟨bi, oi + k * 4 + i, none⟩) xlt).trans (xc i v hv))
                  clear yc xc ylt xlt
                  cases hyx : decide (y = x) with
                  | true =>
                    have hyx2 : y = x := of_decide_eq_true hyx
                    have h8 := HLAID.out.at HX.out (by rw [← hyx2]; exact hy)
                    have h9 := HLAID2.out.at (rev_at HX.out) (by rw [← HEQ.out, ← hyx2]; exact hy)
                    obtain ⟨b8, o8, e8, l8, q8⟩ := HA8.out.at h8
                    obtain ⟨b9, o9, e9, l9, q9⟩ := HA9.out.at h9
                    subst e8
                    subst e9
                    have H8 := Lib.hid (show wj.cell? ⟨b8, o8 + j, none⟩ = some (.int .i64 (1 + (py : Int) % 12)) from by
                      have := (HBJ9.out.cell (p := ⟨b8, o8 + j * 1 + 0, none⟩) l8).trans (q8 0 _ rfl)
                      rw [ph.out, Int.natCast_add] at this
                      simpa using this)
                    have H9 := Lib.hid (show wj.cell? ⟨b9, o9 + j, none⟩ = some (.int .i64 (1 + (oy : Int) % 12)) from by
                      have := (HBJ9.out.cell (p := ⟨b9, o9 + j * 1 + 0, none⟩) l9).trans (q9 0 _ rfl)
                      rw [HMM.out] at this
                      rw [HJ2.out, oh.out, Int.natCast_add] at this
                      simpa using this)
                    clear h8 h9 q8 q9 l8 l9 hyx2 hy
                    go_wp2_with fail
                    refine wp_region_calmB 24 (by kernel_rfl) (by kernel_rfl) ?_
                    simp only [List.take_succ_cons, List.take_zero, List.drop_succ_cons, List.drop_zero]
                    refine chain0 ?_
                    refine @chain _ _ _ _ _ _ _ _ 142 (.slice (some ⟨b5, o5, none⟩) m c5) (by rfl) (by rfl) (by exact fun W2 hW => run_mv (by rfl) (by exact eval_base (by kernel_rfl) (by rfl)) hW) ?_
                    refine @chain _ _ _ _ _ _ _ _ 143 (.int .i64 (j : Int)) (by rfl) (by rfl) (by exact fun W2 hW => run_mv (by rfl) (by exact eval_base (by kernel_rfl) (by rfl)) hW) ?_
                    refine @chain _ _ _ _ _ _ _ _ 144 (.pointer (some ⟨b5, o5 + j * 4, none⟩)) (by rfl) (by rfl) (by exact fun W2 hW => run_ia (u := .slice (some ⟨b5, o5, none⟩) m c5) (v := .int .i64 (j : Int)) (by rfl) (by exact eval_look (by kernel_rfl) (by kernel_rfl)) (by exact eval_look (by kernel_rfl) (by kernel_rfl)) (fun W => idx_run _ _ _ _ _ (by omega) W) hW) ?_
                    refine @chain _ _ _ _ _ _ _ _ 145 (.agg (encE y).toArray) (by rfl) (by rfl) (by exact fun W2 hW => run_lw (by rfl) (by exact eval_look (by kernel_rfl) (by kernel_rfl)) (fun W hW => ldEntO _ _ _ _ (fun i v hv => cell_later hW (HYC.out i v hv))) hW) ?_
                    refine @chain _ _ _ _ _ _ _ _ 146 (.slice (some ⟨bi, oi, none⟩) m c2) (by rfl) (by rfl) (by exact fun W2 hW => run_mv (by rfl) (by exact eval_base (by kernel_rfl) (by rfl)) hW) ?_
                    refine @chain _ _ _ _ _ _ _ _ 147 (.int .i64 (k : Int)) (by rfl) (by rfl) (by exact fun W2 hW => run_mv (by rfl) (by exact eval_base (by kernel_rfl) (by rfl)) hW) ?_
                    refine @chain _ _ _ _ _ _ _ _ 148 (.pointer (some ⟨bi, oi + k * 4, none⟩)) (by rfl) (by rfl) (by exact fun W2 hW => run_ia (u := .slice (some ⟨bi, oi, none⟩) m c2) (v := .int .i64 (k : Int)) (by rfl) (by exact eval_look (by kernel_rfl) (by kernel_rfl)) (by exact eval_look (by kernel_rfl) (by kernel_rfl)) (fun W => idx_run _ _ _ _ _ (by omega) W) hW) ?_
                    refine @chain _ _ _ _ _ _ _ _ 149 (.agg (encE x).toArray) (by rfl) (by rfl) (by exact fun W2 hW => run_lw (by rfl) (by exact eval_look (by kernel_rfl) (by kernel_rfl)) (fun W hW => ldEntO _ _ _ _ (fun i v hv => cell_later hW (HXC.out i v hv))) hW) ?_
                    refine @chain _ _ _ _ _ _ _ _ 150 (.bool true) (by rfl) (by rfl) (by exact fun W2 hW => run_bo (u := .agg (encE y).toArray) (v := .agg (encE x).toArray) (by rfl) (by exact eval_look (by kernel_rfl) (by kernel_rfl)) (by exact eval_look (by kernel_rfl) (by kernel_rfl)) (fun W => eqEnt_run _ _ _ _ _ hyx W) hW) ?_
                    refine @chain _ _ _ _ _ _ _ _ 151 (.bool true) (by rfl) (by rfl) (by exact fun W2 hW => run_mv (by rfl) (by exact eval_look (by kernel_rfl) (by kernel_rfl)) hW) ?_
                    refine @chainG _ _ _ _ _ _ _ _ 152 (.slice (some ⟨b8, o8, none⟩) m c8) (by kernel_rfl) (by rfl) (by exact fun W2 hW => run_mv (by rfl) (by exact eval_base (by kernel_rfl) (by rfl)) hW) ?_
                    refine @chainG _ _ _ _ _ _ _ _ 153 (.int .i64 (j : Int)) (by kernel_rfl) (by rfl) (by exact fun W2 hW => run_mv (by rfl) (by exact eval_base (by kernel_rfl) (by rfl)) hW) ?_
                    refine @chainG _ _ _ _ _ _ _ _ 154 (.pointer (some ⟨b8, o8 + j, none⟩)) (by kernel_rfl) (by rfl) (by exact fun W2 hW => run_ia (u := .slice (some ⟨b8, o8, none⟩) m c8) (v := .int .i64 (j : Int)) (by rfl) (by exact eval_look (by kernel_rfl) (by kernel_rfl)) (by exact eval_look (by kernel_rfl) (by kernel_rfl)) (fun W => idxI_run _ _ _ _ _ (by omega) W) hW) ?_
                    refine @chainG _ _ _ _ _ _ _ _ 155 (.int .i64 (1 + (py : Int) % 12)) (by kernel_rfl) (by rfl) (by exact fun W2 hW => run_lw (by rfl) (by exact eval_look (by kernel_rfl) (by kernel_rfl)) (fun W hW => ldI _ _ _ _ (cell_later hW H8.out)) hW) ?_
                    refine @chainG _ _ _ _ _ _ _ _ 156 (.int .i64 (1 + (py : Int) % 12)) (by kernel_rfl) (by rfl) (by exact fun W2 hW => run_mv (by rfl) (by exact eval_base (by kernel_rfl) (by rfl)) hW) ?_
                    refine @chainG _ _ _ _ _ _ _ _ 157 (.bool false) (by kernel_rfl) (by rfl) (by exact fun W2 hW => run_bo (u := .int .i64 (1 + (py : Int) % 12)) (v := .int .i64 (1 + (py : Int) % 12)) (by rfl) (by exact eval_look (by kernel_rfl) (by kernel_rfl)) (by exact eval_look (by kernel_rfl) (by kernel_rfl)) (fun W => by go_simp) hW) ?_
                    refine @chainG _ _ _ _ _ _ _ _ 158 (.bool false) (by kernel_rfl) (by rfl) (by exact fun W2 hW => run_mv (by rfl) (by exact eval_look (by kernel_rfl) (by kernel_rfl)) hW) ?_
                    refine @chainG _ _ _ _ _ _ _ _ 159 (.slice (some ⟨b9, o9, none⟩) m c9) (by kernel_rfl) (by rfl) (by exact fun W2 hW => run_mv (by rfl) (by exact eval_base (by kernel_rfl) (by rfl)) hW) ?_
                    refine @chainG _ _ _ _ _ _ _ _ 160 (.int .i64 (j : Int)) (by kernel_rfl) (by rfl) (by exact fun W2 hW => run_mv (by rfl) (by exact eval_base (by kernel_rfl) (by rfl)) hW) ?_
                    refine @chainG _ _ _ _ _ _ _ _ 161 (.pointer (some ⟨b9, o9 + j, none⟩)) (by kernel_rfl) (by rfl) (by exact fun W2 hW => run_ia (u := .slice (some ⟨b9, o9, none⟩) m c9) (v := .int .i64 (j : Int)) (by rfl) (by exact eval_look (by kernel_rfl) (by kernel_rfl)) (by exact eval_look (by kernel_rfl) (by kernel_rfl)) (fun W => idxI_run _ _ _ _ _ (by omega) W) hW) ?_
                    refine @chainG _ _ _ _ _ _ _ _ 162 (.int .i64 (1 + (oy : Int) % 12)) (by kernel_rfl) (by rfl) (by exact fun W2 hW => run_lw (by rfl) (by exact eval_look (by kernel_rfl) (by kernel_rfl)) (fun W hW => ldI _ _ _ _ (cell_later hW H9.out)) hW) ?_
                    refine @chainG _ _ _ _ _ _ _ _ 163 (.int .i64 (1 + (oy : Int) % 12)) (by kernel_rfl) (by rfl) (by exact fun W2 hW => run_mv (by rfl) (by exact eval_base (by kernel_rfl) (by rfl)) hW) ?_
                    refine @chainG _ _ _ _ _ _ _ _ 164 (.bool false) (by kernel_rfl) (by rfl) (by exact fun W2 hW => run_bo (u := .int .i64 (1 + (oy : Int) % 12)) (v := .int .i64 (1 + (oy : Int) % 12)) (by rfl) (by exact eval_look (by kernel_rfl) (by kernel_rfl)) (by exact eval_look (by kernel_rfl) (by kernel_rfl)) (fun W => by go_simp) hW) ?_
                    refine @chainG _ _ _ _ _ _ _ _ 165 (.bool false) (by kernel_rfl) (by rfl) (by exact fun W2 hW => run_pkF (by rfl) (by exact eval_look (by kernel_rfl) (by kernel_rfl)) (by exact eval_look (by kernel_rfl) (by kernel_rfl)) hW) ?_
                    refine calm_nil (fun W2 hW2 => ?_)
                    refine Eq.mpr (congrArg (fun a => wpList _ _ _ _ a W2) (show _ = (⟨#[Value.slice (some ⟨pB, pO, none⟩) nd c, Value.slice (some ⟨oB, oO, none⟩) no c', Value.slice B n d, undef, undef, undef, u6, Value.pointer (some ⟨g, 0, none⟩), Value.slice (some ⟨bi, oi, none⟩) m c2, Value.pointer (some ⟨g2, 0, none⟩), Value.int IntKind.i64 (-1), Value.slice (some ⟨b5, o5, none⟩) m c5, Value.bool true, Value.slice A7 m c7, Value.bool true, Value.slice (some ⟨b8, o8, none⟩) m c8, Value.slice (some ⟨b9, o9, none⟩) m c9, Value.int IntKind.i64 (k : Int), Value.int IntKind.i64 (1 + (py : Int) % 12), Value.int IntKind.i64 (1 + (oy : Int) % 12), Value.int IntKind.i64 (j : Int), Value.bool true, Value.bool false, Value.tuple #[Value.pointer (some ⟨g, 0, none⟩), Value.slice (some ⟨bi, oi, none⟩) m c2], Value.slice (some ⟨pB, pO, none⟩) nd c, Value.slice B n d, Value.tuple #[Value.pointer (some ⟨g, 0, none⟩), Value.slice (some ⟨bi, oi, none⟩) m c2], Value.pointer (some ⟨g, 0, none⟩), Value.slice (some ⟨bi, oi, none⟩) m c2, Value.slice (some ⟨oB, oO, none⟩) no c', Value.pointer (some ⟨g2, 0, none⟩), Value.pointer (some ⟨g, 0, none⟩), Value.bool false, Value.bool false, Value.pointer (some ⟨g2, 0, none⟩), Value.bool false, Value.bool false, Value.slice (some ⟨bi, oi, none⟩) m c2, Value.int IntKind.i64 (m : Int), Value.int IntKind.i64 ((m : Int) - 1), Value.int IntKind.i64 (-1), Value.bool false, u42, u43, u44, u45, u46, u47, u48, u49, u50, Value.tuple #[Value.slice (some ⟨b5, o5, none⟩) m c5, Value.bool true], Value.pointer (some ⟨g, 0, none⟩), f, Value.tuple #[Value.slice (some ⟨b5, o5, none⟩) m c5, Value.bool true], Value.slice (some ⟨b5, o5, none⟩) m c5, Value.bool true, Value.tuple #[Value.slice A7 m c7, Value.bool true], Value.pointer (some ⟨g2, 0, none⟩), f2, Value.tuple #[Value.slice A7 m c7, Value.bool true], Value.slice A7 m c7, Value.bool true, Value.pointer (some ⟨g, 0, none⟩), Value.slice (some ⟨b8, o8, none⟩) m c8, Value.pointer (some ⟨g2, 0, none⟩), Value.slice (some ⟨b9, o9, none⟩) m c9, Value.bool true, Value.bool false, Value.bool false, Value.bool true, Value.bool false, Value.bool false, Value.bool false, Value.slice (some ⟨b5, o5, none⟩) m c5, Value.slice A7 m c7, Value.bool true, Value.bool false, Value.bool false, Value.bool false, Value.slice (some ⟨b8, o8, none⟩) m c8, Value.int IntKind.i64 (m : Int), Value.slice (some ⟨bi, oi, none⟩) m c2, Value.int IntKind.i64 (m : Int), Value.bool false, Value.bool false, Value.bool false, Value.slice (some ⟨b9, o9, none⟩) m c9, Value.int IntKind.i64 (m : Int), Value.slice (some ⟨bi, oi, none⟩) m c2, Value.int IntKind.i64 (m : Int), Value.bool false, Value.bool false, Value.bool false, Value.slice (some ⟨b5, o5, none⟩) m c5, Value.int IntKind.i64 (m : Int), Value.slice (some ⟨bi, oi, none⟩) m c2, Value.int IntKind.i64 (m : Int), Value.bool false, Value.bool false, Value.int IntKind.i64 (k : Int), Value.slice (some ⟨bi, oi, none⟩) m c2, Value.int IntKind.i64 (m : Int), Value.bool true, u104, u105, Value.slice (some ⟨pB, pO, none⟩) nd c, Value.int IntKind.i64 (nd : Int), Value.bool true, Value.slice (some ⟨pB, pO, none⟩) nd c, Value.int IntKind.i64 (k : Int), Value.slice (some ⟨pB, pO, none⟩) nd c, Value.int IntKind.i64 (nd : Int), Value.int IntKind.i64 ((k : Int) % (nd : Int)), Value.pointer (some ⟨pB, pO + k % nd, none⟩), Value.int IntKind.u8 (py : Int), Value.int IntKind.i64 (py : Int), Value.int IntKind.i64 ((py : Int) % 12), Value.int IntKind.i64 (1 + (py : Int) % 12), Value.slice (some ⟨oB, oO, none⟩) no c', Value.int IntKind.i64 (no : Int), Value.bool true, Value.slice (some ⟨oB, oO, none⟩) no c', Value.slice (some ⟨bi, oi, none⟩) m c2, Value.int IntKind.i64 (m : Int), Value.int IntKind.i64 ((m : Int) - 1), Value.int IntKind.i64 (k : Int), Value.int IntKind.i64 (k2 : Int), Value.slice (some ⟨oB, oO, none⟩) no c', Value.int IntKind.i64 (no : Int), Value.int IntKind.i64 ((k2 : Int) % (no : Int)), Value.pointer (some ⟨oB, oO + k2 % no, none⟩), Value.int IntKind.u8 (oy : Int), Value.int IntKind.i64 (oy : Int), Value.int IntKind.i64 ((oy : Int) % 12), Value.int IntKind.i64 (1 + (oy : Int) % 12), Value.int IntKind.i64 (j : Int), Value.slice (some ⟨b5, o5, none⟩) m c5, Value.int IntKind.i64 (m : Int), Value.bool true, u140, u141, Value.slice (some ⟨b5, o5, none⟩) m c5, Value.int IntKind.i64 (j : Int), Value.pointer (some ⟨b5, o5 + j * 4, none⟩), Value.agg (encE y).toArray, Value.slice (some ⟨bi, oi, none⟩) m c2, Value.int IntKind.i64 (k : Int), Value.pointer (some ⟨bi, oi + k * 4, none⟩), Value.agg (encE x).toArray, Value.bool true, Value.bool true, Value.slice (some ⟨b8, o8, none⟩) m c8, Value.int IntKind.i64 (j : Int), Value.pointer (some ⟨b8, o8 + j, none⟩), Value.int IntKind.i64 (1 + (py : Int) % 12), Value.int IntKind.i64 (1 + (py : Int) % 12), Value.bool false, Value.bool false, Value.slice (some ⟨b9, o9, none⟩) m c9, Value.int IntKind.i64 (j : Int), Value.pointer (some ⟨b9, o9 + j, none⟩), Value.int IntKind.i64 (1 + (oy : Int) % 12), Value.int IntKind.i64 (1 + (oy : Int) % 12), Value.bool false, Value.bool false, u166], []⟩ : Act) by kernel_rfl)) ?_
                    have HW2 := Lib.hid hW2
                    clear hW2
                    clear hyx
                    go_wp2
                    go_roundw
                    case rel => exact ⟨j + 1, by first | rfl | simp, by omega, HBJ.out.trans (HW2.out.mono HBJ.out.size)⟩
                    case measure => simp [intOf]; omega
                  | false =>
                    clear hy
                    go_wp2_with fail
                    refine wp_region_calmB 24 (by kernel_rfl) (by kernel_rfl) ?_
                    simp only [List.take_succ_cons, List.take_zero, List.drop_succ_cons, List.drop_zero]
                    refine chain0 ?_
                    refine @chain _ _ _ _ _ _ _ _ 142 (.slice (some ⟨b5, o5, none⟩) m c5) (by rfl) (by rfl) (by exact fun W2 hW => run_mv (by rfl) (by exact eval_base (by kernel_rfl) (by rfl)) hW) ?_
                    refine @chain _ _ _ _ _ _ _ _ 143 (.int .i64 (j : Int)) (by rfl) (by rfl) (by exact fun W2 hW => run_mv (by rfl) (by exact eval_base (by kernel_rfl) (by rfl)) hW) ?_
                    refine @chain _ _ _ _ _ _ _ _ 144 (.pointer (some ⟨b5, o5 + j * 4, none⟩)) (by rfl) (by rfl) (by exact fun W2 hW => run_ia (u := .slice (some ⟨b5, o5, none⟩) m c5) (v := .int .i64 (j : Int)) (by rfl) (by exact eval_look (by kernel_rfl) (by kernel_rfl)) (by exact eval_look (by kernel_rfl) (by kernel_rfl)) (fun W => idx_run _ _ _ _ _ (by omega) W) hW) ?_
                    refine @chain _ _ _ _ _ _ _ _ 145 (.agg (encE y).toArray) (by rfl) (by rfl) (by exact fun W2 hW => run_lw (by rfl) (by exact eval_look (by kernel_rfl) (by kernel_rfl)) (fun W hW => ldEntO _ _ _ _ (fun i v hv => cell_later hW (HYC.out i v hv))) hW) ?_
                    refine @chain _ _ _ _ _ _ _ _ 146 (.slice (some ⟨bi, oi, none⟩) m c2) (by rfl) (by rfl) (by exact fun W2 hW => run_mv (by rfl) (by exact eval_base (by kernel_rfl) (by rfl)) hW) ?_
                    refine @chain _ _ _ _ _ _ _ _ 147 (.int .i64 (k : Int)) (by rfl) (by rfl) (by exact fun W2 hW => run_mv (by rfl) (by exact eval_base (by kernel_rfl) (by rfl)) hW) ?_
                    refine @chain _ _ _ _ _ _ _ _ 148 (.pointer (some ⟨bi, oi + k * 4, none⟩)) (by rfl) (by rfl) (by exact fun W2 hW => run_ia (u := .slice (some ⟨bi, oi, none⟩) m c2) (v := .int .i64 (k : Int)) (by rfl) (by exact eval_look (by kernel_rfl) (by kernel_rfl)) (by exact eval_look (by kernel_rfl) (by kernel_rfl)) (fun W => idx_run _ _ _ _ _ (by omega) W) hW) ?_
                    refine @chain _ _ _ _ _ _ _ _ 149 (.agg (encE x).toArray) (by rfl) (by rfl) (by exact fun W2 hW => run_lw (by rfl) (by exact eval_look (by kernel_rfl) (by kernel_rfl)) (fun W hW => ldEntO _ _ _ _ (fun i v hv => cell_later hW (HXC.out i v hv))) hW) ?_
                    refine @chain _ _ _ _ _ _ _ _ 150 (.bool false) (by rfl) (by rfl) (by exact fun W2 hW => run_bo (u := .agg (encE y).toArray) (v := .agg (encE x).toArray) (by rfl) (by exact eval_look (by kernel_rfl) (by kernel_rfl)) (by exact eval_look (by kernel_rfl) (by kernel_rfl)) (fun W => eqEnt_run _ _ _ _ _ hyx W) hW) ?_
                    refine @chain _ _ _ _ _ _ _ _ 151 (.bool false) (by rfl) (by rfl) (by exact fun W2 hW => run_mv (by rfl) (by exact eval_look (by kernel_rfl) (by kernel_rfl)) hW) ?_
                    refine @chainK _ _ _ _ _ _ _ _ 152 (by kernel_rfl) (by rfl) ?_
                    refine @chainK _ _ _ _ _ _ _ _ 153 (by kernel_rfl) (by rfl) ?_
                    refine @chainK _ _ _ _ _ _ _ _ 154 (by kernel_rfl) (by rfl) ?_
                    refine @chainK _ _ _ _ _ _ _ _ 155 (by kernel_rfl) (by rfl) ?_
                    refine @chainK _ _ _ _ _ _ _ _ 156 (by kernel_rfl) (by rfl) ?_
                    refine @chainK _ _ _ _ _ _ _ _ 157 (by kernel_rfl) (by rfl) ?_
                    refine @chainK _ _ _ _ _ _ _ _ 158 (by kernel_rfl) (by rfl) ?_
                    refine @chainK _ _ _ _ _ _ _ _ 159 (by kernel_rfl) (by rfl) ?_
                    refine @chainK _ _ _ _ _ _ _ _ 160 (by kernel_rfl) (by rfl) ?_
                    refine @chainK _ _ _ _ _ _ _ _ 161 (by kernel_rfl) (by rfl) ?_
                    refine @chainK _ _ _ _ _ _ _ _ 162 (by kernel_rfl) (by rfl) ?_
                    refine @chainK _ _ _ _ _ _ _ _ 163 (by kernel_rfl) (by rfl) ?_
                    refine @chainK _ _ _ _ _ _ _ _ 164 (by kernel_rfl) (by rfl) ?_
                    refine @chainK _ _ _ _ _ _ _ _ 165 (by kernel_rfl) (by rfl) ?_
                    refine calm_nil (fun W2 hW2 => ?_)
                    refine Eq.mpr (congrArg (fun a => wpList _ _ _ _ a W2) (show _ = (⟨#[Value.slice (some ⟨pB, pO, none⟩) nd c, Value.slice (some ⟨oB, oO, none⟩) no c', Value.slice B n d, undef, undef, undef, u6, Value.pointer (some ⟨g, 0, none⟩), Value.slice (some ⟨bi, oi, none⟩) m c2, Value.pointer (some ⟨g2, 0, none⟩), Value.int IntKind.i64 (-1), Value.slice (some ⟨b5, o5, none⟩) m c5, Value.bool true, Value.slice A7 m c7, Value.bool true, Value.slice A8 m c8, Value.slice A9 m c9, Value.int IntKind.i64 (k : Int), Value.int IntKind.i64 (1 + (py : Int) % 12), Value.int IntKind.i64 (1 + (oy : Int) % 12), Value.int IntKind.i64 (j : Int), Value.bool true, Value.bool false, Value.tuple #[Value.pointer (some ⟨g, 0, none⟩), Value.slice (some ⟨bi, oi, none⟩) m c2], Value.slice (some ⟨pB, pO, none⟩) nd c, Value.slice B n d, Value.tuple #[Value.pointer (some ⟨g, 0, none⟩), Value.slice (some ⟨bi, oi, none⟩) m c2], Value.pointer (some ⟨g, 0, none⟩), Value.slice (some ⟨bi, oi, none⟩) m c2, Value.slice (some ⟨oB, oO, none⟩) no c', Value.pointer (some ⟨g2, 0, none⟩), Value.pointer (some ⟨g, 0, none⟩), Value.bool false, Value.bool false, Value.pointer (some ⟨g2, 0, none⟩), Value.bool false, Value.bool false, Value.slice (some ⟨bi, oi, none⟩) m c2, Value.int IntKind.i64 (m : Int), Value.int IntKind.i64 ((m : Int) - 1), Value.int IntKind.i64 (-1), Value.bool false, u42, u43, u44, u45, u46, u47, u48, u49, u50, Value.tuple #[Value.slice (some ⟨b5, o5, none⟩) m c5, Value.bool true], Value.pointer (some ⟨g, 0, none⟩), f, Value.tuple #[Value.slice (some ⟨b5, o5, none⟩) m c5, Value.bool true], Value.slice (some ⟨b5, o5, none⟩) m c5, Value.bool true, Value.tuple #[Value.slice A7 m c7, Value.bool true], Value.pointer (some ⟨g2, 0, none⟩), f2, Value.tuple #[Value.slice A7 m c7, Value.bool true], Value.slice A7 m c7, Value.bool true, Value.pointer (some ⟨g, 0, none⟩), Value.slice A8 m c8, Value.pointer (some ⟨g2, 0, none⟩), Value.slice A9 m c9, Value.bool true, Value.bool false, Value.bool false, Value.bool true, Value.bool false, Value.bool false, Value.bool false, Value.slice (some ⟨b5, o5, none⟩) m c5, Value.slice A7 m c7, Value.bool true, Value.bool false, Value.bool false, Value.bool false, Value.slice A8 m c8, Value.int IntKind.i64 (m : Int), Value.slice (some ⟨bi, oi, none⟩) m c2, Value.int IntKind.i64 (m : Int), Value.bool false, Value.bool false, Value.bool false, Value.slice A9 m c9, Value.int IntKind.i64 (m : Int), Value.slice (some ⟨bi, oi, none⟩) m c2, Value.int IntKind.i64 (m : Int), Value.bool false, Value.bool false, Value.bool false, Value.slice (some ⟨b5, o5, none⟩) m c5, Value.int IntKind.i64 (m : Int), Value.slice (some ⟨bi, oi, none⟩) m c2, Value.int IntKind.i64 (m : Int), Value.bool false, Value.bool false, Value.int IntKind.i64 (k : Int), Value.slice (some ⟨bi, oi, none⟩) m c2, Value.int IntKind.i64 (m : Int), Value.bool true, u104, u105, Value.slice (some ⟨pB, pO, none⟩) nd c, Value.int IntKind.i64 (nd : Int), Value.bool true, Value.slice (some ⟨pB, pO, none⟩) nd c, Value.int IntKind.i64 (k : Int), Value.slice (some ⟨pB, pO, none⟩) nd c, Value.int IntKind.i64 (nd : Int), Value.int IntKind.i64 ((k : Int) % (nd : Int)), Value.pointer (some ⟨pB, pO + k % nd, none⟩), Value.int IntKind.u8 (py : Int), Value.int IntKind.i64 (py : Int), Value.int IntKind.i64 ((py : Int) % 12), Value.int IntKind.i64 (1 + (py : Int) % 12), Value.slice (some ⟨oB, oO, none⟩) no c', Value.int IntKind.i64 (no : Int), Value.bool true, Value.slice (some ⟨oB, oO, none⟩) no c', Value.slice (some ⟨bi, oi, none⟩) m c2, Value.int IntKind.i64 (m : Int), Value.int IntKind.i64 ((m : Int) - 1), Value.int IntKind.i64 (k : Int), Value.int IntKind.i64 (k2 : Int), Value.slice (some ⟨oB, oO, none⟩) no c', Value.int IntKind.i64 (no : Int), Value.int IntKind.i64 ((k2 : Int) % (no : Int)), Value.pointer (some ⟨oB, oO + k2 % no, none⟩), Value.int IntKind.u8 (oy : Int), Value.int IntKind.i64 (oy : Int), Value.int IntKind.i64 ((oy : Int) % 12), Value.int IntKind.i64 (1 + (oy : Int) % 12), Value.int IntKind.i64 (j : Int), Value.slice (some ⟨b5, o5, none⟩) m c5, Value.int IntKind.i64 (m : Int), Value.bool true, u140, u141, Value.slice (some ⟨b5, o5, none⟩) m c5, Value.int IntKind.i64 (j : Int), Value.pointer (some ⟨b5, o5 + j * 4, none⟩), Value.agg (encE y).toArray, Value.slice (some ⟨bi, oi, none⟩) m c2, Value.int IntKind.i64 (k : Int), Value.pointer (some ⟨bi, oi + k * 4, none⟩), Value.agg (encE x).toArray, Value.bool false, Value.bool false, undef, undef, undef, undef, undef, undef, undef, undef, undef, undef, undef, undef, undef, undef, u166], []⟩ : Act) by kernel_rfl)) ?_
                    have HW2 := Lib.hid hW2
                    clear hW2
                    clear hyx
                    go_wp2
                    go_roundw
                    case rel => exact ⟨j + 1, by first | rfl | simp, by omega, HBJ.out.trans (HW2.out.mono HBJ.out.size)⟩
                    case measure => simp [intOf]; omega
                · have hjm2 : m = j := by omega
                  subst hjm2
                  go_wp2
                  go_roundw
                  case rel => exact ⟨k + 1, by first | rfl | simp, by omega, HBJ.out⟩
                  case measure => simp [intOf]; omega
        · have hkm2 : m = k := by omega
          subst hkm2
          go_wp2
          go_ret
          exact ⟨rfl, HW0.out⟩
end Go.Proofs.Ytjbbobhjomhnmaa.H
