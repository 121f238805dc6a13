/- MemReads' walk (printed by genme16.py). Conditions: sizes. -/
import Derived.Test.YtjbbobhjomhnmaaMeC
import Derived.Test.YtjbbobhjomhnmaaSkB
import Derived.Test.YtjbbobhjomhnmaaSk20
namespace Go.Proofs.Ytjbbobhjomhnmaa.H
open Go Go.RowKit Go.Deep Go.Shelf Go.Proofs Go.Proofs.YtjbbobhjomhnmaaW.PrintWords
set_option linter.unusedVariables false
set_option linter.unusedSimpArgs false
theorem idxU_run (b o m c k : Nat) (h : k < m) (W : World) : (Instr.indexAt 83 (.slice (some ⟨b, o, none⟩) m c) (.int .i64 (k : Int))).run Try.prog W = .ok (.pointer (some ⟨b, o + k, none⟩)) W := by
  have h0 : (0 : Int) ≤ k := by omega
  have h1 : (k : Int) < m := by omega
  go_simp
theorem idxB_run (b o m c k : Nat) (h : k < m) (W : World) : (Instr.indexAt 32 (.slice (some ⟨b, o, none⟩) m c) (.int .i64 (k : Int))).run Try.prog W = .ok (.pointer (some ⟨b, o + k, none⟩)) W := by
  have h0 : (0 : Int) ≤ k := by omega
  have h1 : (k : Int) < m := by omega
  go_simp
theorem idxK_run (b o m c k : Nat) (h : k < m) (W : World) : (Instr.indexAt 93 (.slice (some ⟨b, o, none⟩) m c) (.int .i64 (k : Int))).run Try.prog W = .ok (.pointer (some ⟨b, o + k, none⟩)) W := by
  have h0 : (0 : Int) ≤ k := by omega
  have h1 : (k : Int) < m := by omega
  go_simp
theorem ldStr (b j : Nat) (s : ByteArray) (W : World) (h : W.cell? ⟨b, j, none⟩ = some (.string s)) : (Instr.loadAt 9 (.pointer (some ⟨b, j, none⟩))).run Try.prog W = .ok (.string s) W := by
  go_simp
theorem ldBo (b j : Nat) (s : Bool) (W : World) (h : W.cell? ⟨b, j, none⟩ = some (.bool s)) : (Instr.loadAt 4 (.pointer (some ⟨b, j, none⟩))).run Try.prog W = .ok (.bool s) W := by
  go_simp
theorem lssS_run (t : TypeId) (x y : Operand) (a b : ByteArray) (r : Bool) (h : Op.bytesLess a.toList b.toList = r) (W : World) : (do eqGuard .lss t x y (.string a) (.string b); binOp .lss t (.string a) (.string b) : Sem Value).run Try.prog W = .ok (.bool r) W := by
  subst h
  go_simp
theorem leqS_run (t : TypeId) (x y : Operand) (a b : ByteArray) (h : Op.bytesLess a.toList b.toList = false) (h2 : (a.toList == b.toList) = false) (W : World) : (do eqGuard .leq t x y (.string a) (.string b); binOp .leq t (.string a) (.string b) : Sem Value).run Try.prog W = .ok (.bool false) W := by
  go_simp
  first | done | simp [h, h2]
theorem gtr_yes (t : TypeId) (x y : Operand) (a : Int) (h : 0 < a) (W : World) : (do eqGuard .gtr t x y (.int .i64 a) (.int .i64 0); binOp .gtr t (.int .i64 a) (.int .i64 0) : Sem Value).run Try.prog W = .ok (.bool true) W := by
  go_simp
theorem gtr_no (t : TypeId) (x y : Operand) (a : Int) (k : a ≤ 0) (W : World) : (do eqGuard .gtr t x y (.int .i64 a) (.int .i64 0); binOp .gtr t (.int .i64 a) (.int .i64 0) : Sem Value).run Try.prog W = .ok (.bool false) W := by
  have h : ¬ 0 < a := by omega
  go_simp
theorem eqlS_yes (t : TypeId) (x y : Operand) (a b : ByteArray) (h : a = b) (W : World) : (do eqGuard .eql t x y (.string a) (.string b); binOp .eql t (.string a) (.string b) : Sem Value).run Try.prog W = .ok (.bool true) W := by
  subst h
  go_simp
theorem eqlS_no (t : TypeId) (x y : Operand) (a b : ByteArray) (h : a ≠ b) (W : World) : (do eqGuard .eql t x y (.string a) (.string b); binOp .eql t (.string a) (.string b) : Sem Value).run Try.prog W = .ok (.bool false) W := by
  have h2 : (a.toList == b.toList) = false := by
    rw [beq_eq_false_iff_ne]
    exact fun e => h (toList_inj e)
  go_simp
  first | done | exact h2 | simp [h, h2]
theorem ldHw (b j n c : Nat) (A : Option Addr) (W : World) (h : W.cell? ⟨b, j, none⟩ = some (.slice A n c)) : (Instr.loadAt 87 (.pointer (some ⟨b, j, none⟩))).run Try.prog W = .ok (.slice A n c) W := by
  go_simp
theorem numL_at (f : Int) (l : List (List Wri)) {n k : Nat} (h : k < n) : (numL f l n)[k]? = some (f + (tot (l.take k) : Int)) := by
  unfold numL
  rw [List.getElem?_map, List.getElem?_range h]
  rfl
/-- Where an own row lies it stays, whatever else is written. -/
theorem sl_stay {α : Type} {enc : α → List Value} {sz : Nat} {w w' : World} {A : Option Addr} {l : List α} {T : Nat → Prop} (h : Sl enc sz w A l) (hu : Upd T w w') {lo hi : Nat} (hA : ∀ b o, A = some ⟨b, o, none⟩ → lo ≤ b ∧ b < hi) (hT : ∀ k, lo ≤ k → k < hi → ¬ T k) : Sl enc sz w' A l :=
  h.upd hu fun b o e => hT b (hA b o e).1 (hA b o e).2
set_option maxHeartbeats 12800000 in
set_option maxRecDepth 100000 in
theorem memReads_c (A : Option Addr) (c : Nat) (draws : List Int) (B : Option Addr) (d : Nat) (l : List HW) (key : ByteArray) (q : Int) (w : World) (ha : Sl encB 1 w A draws) (hal : draws.length < 140737488351233) (hby : ∀ x ∈ draws, U8 x) (hb : Sl2 w B l) :
    Calls Try.prog 8 #[.slice A draws.length c, .slice B l.length d, .string key, .int .u64 q] w fun e w' => e = .returned (.bool true) ∧ Below w.heap.size w w' := by
  have HK := Lib.hid (known6_c w)
  have HNEW := Lib.hid (fun (w1 : World) (hb1 : Below w.heap.size w w1) => mnew_c A c draws w1 (ha.later hb1) hal hby)
  have HGR := Lib.hid (fun (w1 : World) (hb1 : Below w.heap.size w w1) => groups_c B d l w1 (hb.later hb1))
  have HBA := Lib.hid (fun (w1 : World) (hb1 : Below w.heap.size w w1) => batches_c B d l w1 (hb.later hb1))
  obtain ⟨dn, hdn⟩ : ∃ n, draws.length = n := ⟨_, rfl⟩
  obtain ⟨ln, hln⟩ : ∃ n, l.length = n := ⟨_, rfl⟩
  rw [hdn] at HNEW ⊢
  rw [hln] at HGR HBA ⊢
  clear ha hal hby hb hdn hln
  go_enter Try.func8, Try.ntmps8
  go_wp2_with fail
  refine HK.out.mono ?_
  rintro _ w1 ⟨rfl, hb1⟩
  have HB1 := Lib.hid hb1
  clear hb1
  go_wp2_with fail
  refine (HGR.out w1 HB1.out).mono ?_
  rintro _ w2 ⟨⟨b, rfl⟩, hb2⟩
  have HB2 := Lib.hid (HB1.out.trans (hb2.mono HB1.out.size))
  clear hb2
  cases b with
  | false =>
    go_wp2
    go_ret
    exact ⟨rfl, HB2.out⟩
  | true =>
    go_wp2_with fail
    refine (HBA.out w2 HB2.out).mono ?_
    rintro _ w3 ⟨v1, rfl, L1, hL1, hmade, hb3⟩
    obtain ⟨A1, c1, rfl⟩ := own_slice hmade.own
    have HFIT := Lib.hid (show Fit (L1.map (·.2.2)) by rw [hL1]; exact batch_fit _)
    obtain ⟨BB, hBB⟩ : ∃ X, L1.map (·.2.2) = X := ⟨_, rfl⟩
    obtain ⟨n1, hn1⟩ : ∃ n, L1.length = n := ⟨_, rfl⟩
    have hbn : BB.length = n1 := by rw [← hBB, List.length_map, hn1]
    rw [hBB] at HFIT
    have HMADE := Lib.hid hmade
    have HB3 := Lib.hid (HB2.out.trans (hb3.mono HB2.out.size))
    have hn60 : n1 ≤ 60 := by rw [← hbn]; exact HFIT.out.len
    have HNU := Lib.hid (fun (w : World) (hs : Sl2 w A1 L1) => numbered_c A1 c1 L1 5 w hs (by decide) (by rw [hBB]; have := HFIT.out.tot; omega) (by omega))
    have HKEYS := Lib.hid (fun (w : World) (hs : Sl2 w A1 L1) => keys_c A1 c1 L1 key w hs (by rw [hBB]; have := HFIT.out.tot; omega))
    have HLAST := Lib.hid (fun (k : ByteArray) (w : World) (hs : Sl2 w A1 L1) => last_c A1 c1 L1 5 k q w hs (by decide) (by decide) (by rw [hBB]; have := HFIT.out.tot; omega))
    rw [hBB, hn1] at HNU HLAST
    rw [hBB, hn1] at HKEYS
    rw [hn1] at HMADE ⊢
    have HBBE := Lib.hid hBB
    have HN1 := Lib.hid hn1
    have HBN := Lib.hid hbn
    clear hL1 hmade hb3 hBB hn1 hbn
    go_wp2_with fail
    refine (HNEW.out w3 HB3.out).mono ?_
    rintro _ w4 ⟨t, g, S0, rfl, hm0, hS0, ht0, hb4⟩
    have HM0 := Lib.hid hm0
    have HS0 := Lib.hid hS0
    have HT0 := Lib.hid ht0
    have HB34 := Lib.hid hb4
    have HB4 := Lib.hid (HB3.out.trans (hb4.mono HB3.out.size))
    have HMADE4 := Lib.hid (HMADE.out.later hb4)
    clear hm0 hS0 ht0 hb4
    go_wp2_with fail
    refine (HNU.out w4 HMADE4.out.sl2.2).mono ?_
    rintro _ w5 ⟨v5, rfl, hown5, hb5⟩
    obtain ⟨A5, c5, rfl⟩ := own_slice hown5
    rw [numL_len]
    have HO5 := Lib.hid hown5
    have HB45 := Lib.hid hb5
    have HB5 := Lib.hid (HB4.out.trans (hb5.mono HB4.out.size))
    clear hown5 hb5
    go_wp2_with fail
    have HFAR1 := Lib.hid (show ∀ k, w2.heap.size ≤ k → k < w3.heap.size → ¬ (S0 k ∨ k = t) from fun k _ h2 h => by
      rcases h with h | h
      · have := HS0.out k h; omega
      · have := HT0.out; omega)
    have HFAR5 := Lib.hid (show ∀ k, w4.heap.size ≤ k → k < w5.heap.size → ¬ (S0 k ∨ k = t) from fun k h1 _ h => by
      rcases h with h | h
      · have := HM0.out.list.lt k h; omega
      · have := blk_lt HM0.out.row; omega)
    have HSL1 := Lib.hid (show ∀ W, Upd (fun j => S0 j ∨ j = t) w5 W → Sl2 W A1 L1 from fun W hW =>
      ⟨sl_stay (HMADE4.out.later HB45.out).sl2.2.1 hW (fun b o e => ownBlock_of HMADE.out.own b o e) HFAR1.out,
        fun x hx => sl_stay ((HMADE4.out.later HB45.out).rows x hx) hW (fun b o e => ⟨(HMADE.out.far x hx b o e).1, (HMADE.out.far x hx b o e).2.1⟩) HFAR1.out⟩)
    have HSL5 := Lib.hid (show ∀ W, Upd (fun j => S0 j ∨ j = t) w5 W → Sl encU 1 W A5 (numL 5 BB n1) from fun W hW => by
      obtain ⟨_, _, e, _, hs, _⟩ := HO5.out.slice (fun x => (okU x).1)
      injection e with e1 e2 e3
      rw [e1]
      exact sl_stay hs hW (fun b o e => ownBlock_of HO5.out b o (by rw [e1, e])) HFAR5.out)
    go_loopw [11] (fun s11 wr => ∃ (k : Nat) (S : Nat → Prop), s11 = .int .i64 k ∧ k ≤ n1 ∧ MemIs wr t g S draws (memF draws 5 (BB.take k).flatten) ∧ (∀ j, S j → S0 j ∨ w5.heap.size ≤ j) ∧ Upd (fun j => S0 j ∨ j = t) w5 wr) (fun s11 wr => n1 - (intOf s11).toNat)
    case atStart => exact ⟨0, S0, rfl, by omega, by simpa [memF, ents, addF] using HM0.out.later HB45.out, fun j h => .inl h, Upd.refl _ _⟩
    case round =>
      obtain ⟨k, S, rfl, hk, hm, hS, hu⟩ := hrel
      generalize wr = wq at *
      have HM := Lib.hid hm
      have HS := Lib.hid hS
      have HU := Lib.hid hu
      clear hm hS hu
      by_cases hkn : k < n1
      · obtain ⟨x, hx⟩ := getElem?_of_lt (l := L1) (by rw [HN1.out]; exact hkn : k < L1.length)
        have hs2 := HSL1.out wq HU.out
        have HXS := Lib.hid (hs2.2 x (List.mem_of_getElem? hx))
        have HXB := Lib.hid (show BB[k]? = some x.2.2 by rw [← HBBE.out, List.getElem?_map, hx]; rfl)
        obtain ⟨b2, o2, hA2, _, hc2⟩ := hs2.1.at hx
        obtain ⟨b5, o5, hA5, _, hc5⟩ := (HSL5.out wq HU.out).at (numL_at 5 BB hkn)
        subst hA2
        subst hA5
        have y2 : wq.cell? ⟨b2, o2 + k, none⟩ = some (.slice x.1 x.2.2.length x.2.1) := by simpa using hc2 0 _ rfl
        have y5 : wq.cell? ⟨b5, o5 + k, none⟩ = some (.int .u64 (5 + (tot (BB.take k) : Int))) := by simpa using hc5 0 _ rfl
        rw [← flat_tot] at y5
        obtain ⟨xa, xc, xl⟩ := x
        simp only at y2
        obtain ⟨p, hp⟩ : ∃ p, (BB.take k).flatten = p := ⟨_, rfl⟩
        rw [hp] at y5 HM
        have HADD := Lib.hid (fun (W : World) (hW : Below wq.heap.size wq W) => addB_c 5 p xl (HM.out.later hW) xa xc (HXS.out.later hW) (HFIT.out.each xl (List.mem_of_getElem? HXB.out)).2.1 (HFIT.out.each xl (List.mem_of_getElem? HXB.out)).2.2 (by rw [← hp]; exact (HFIT.out.take k).flat) (by rw [← hp, flat_tot]; have := (HFIT.out.take k).tot; omega))
        have HPS := Lib.hid (show (BB.take (k + 1)).flatten = p ++ xl by rw [flat_snoc HXB.out, hp])
        have i1 : (0 : Int) ≤ k := by omega
        have i2 : (k : Int) < n1 := by omega
        have Y2 := Lib.hid y2
        have Y5 := Lib.hid y5
        clear hx hs2 hc2 hc5 y2 y5 hp
        go_wp2_with fail
        refine wp_region_calmB 9 (by kernel_rfl) (by kernel_rfl) ?_
        simp only [List.take_succ_cons, List.take_zero, List.drop_succ_cons, List.drop_zero]
        refine chain0 ?_
        refine @chain _ _ _ _ _ _ _ _ 49 (.pointer (some ⟨t, 0, none⟩)) (by rfl) (by rfl) (by exact fun W2 hW => run_mv (by rfl) (by exact eval_base (by kernel_rfl) (by rfl)) hW) ?_
        refine @chain _ _ _ _ _ _ _ _ 50 (.slice (some ⟨b5, o5, none⟩) n1 c5) (by rfl) (by rfl) (by exact fun W2 hW => run_mv (by rfl) (by exact eval_base (by kernel_rfl) (by rfl)) hW) ?_
        refine @chain _ _ _ _ _ _ _ _ 51 (.int .i64 (k : Int)) (by rfl) (by rfl) (by exact fun W2 hW => run_mv (by rfl) (by exact eval_base (by kernel_rfl) (by rfl)) hW) ?_
        refine @chain _ _ _ _ _ _ _ _ 52 (.pointer (some ⟨b5, o5 + k, none⟩)) (by rfl) (by rfl) (by exact fun W2 hW => run_ia (u := .slice (some ⟨b5, o5, none⟩) n1 c5) (v := .int .i64 (k : Int)) (by rfl) (by exact eval_look (by kernel_rfl) (by kernel_rfl)) (by exact eval_look (by kernel_rfl) (by kernel_rfl)) (fun W => idxU_run _ _ _ _ _ (by omega) W) hW) ?_
        refine @chain _ _ _ _ _ _ _ _ 53 (.int .u64 (5 + (p.length : Int))) (by rfl) (by rfl) (by exact fun W2 hW => run_lw (by rfl) (by exact eval_look (by kernel_rfl) (by kernel_rfl)) (fun W hW => ldU _ _ _ _ (cell_later hW Y5.out)) hW) ?_
        refine @chain _ _ _ _ _ _ _ _ 54 (.slice (some ⟨b2, o2, none⟩) n1 c1) (by rfl) (by rfl) (by exact fun W2 hW => run_mv (by rfl) (by exact eval_base (by kernel_rfl) (by rfl)) hW) ?_
        refine @chain _ _ _ _ _ _ _ _ 55 (.int .i64 (k : Int)) (by rfl) (by rfl) (by exact fun W2 hW => run_mv (by rfl) (by exact eval_base (by kernel_rfl) (by rfl)) hW) ?_
        refine @chain _ _ _ _ _ _ _ _ 56 (.pointer (some ⟨b2, o2 + k, none⟩)) (by rfl) (by rfl) (by exact fun W2 hW => run_ia (u := .slice (some ⟨b2, o2, none⟩) n1 c1) (v := .int .i64 (k : Int)) (by rfl) (by exact eval_look (by kernel_rfl) (by kernel_rfl)) (by exact eval_look (by kernel_rfl) (by kernel_rfl)) (fun W => idxB_run _ _ _ _ _ (by omega) W) hW) ?_
        refine @chain _ _ _ _ _ _ _ _ 57 (.slice xa xl.length xc) (by rfl) (by rfl) (by exact fun W2 hW => run_lw (by rfl) (by exact eval_look (by kernel_rfl) (by kernel_rfl)) (fun W hW => ldHw _ _ _ _ _ _ (cell_later hW Y2.out)) hW) ?_
        refine calm_nil (fun W2 hW2 => ?_)
        refine Eq.mpr (congrArg (fun a => wpList _ _ _ _ a W2) (show _ = (⟨#[Value.slice A dn c, Value.slice (some ⟨b2, o2, none⟩) n1 c1, Value.string key, Value.int IntKind.u64 q, undef, undef, undef, undef, u8, Value.pointer (some ⟨t, 0, none⟩), Value.slice (some ⟨b5, o5, none⟩) n1 c5, Value.int IntKind.i64 (k : Int), undef, undef, undef, undef, undef, undef, undef, undef, undef, undef, undef, undef, undef, undef, undef, undef, undef, undef, Value.bool true, Value.bool false, Value.slice B ln d, Value.bool true, Value.bool false, Value.slice B ln d, Value.slice (some ⟨b2, o2, none⟩) n1 c1, Value.slice A dn c, Value.pointer (some ⟨t, 0, none⟩), Value.pointer (some ⟨t, 0, none⟩), Value.bool false, Value.slice (some ⟨b2, o2, none⟩) n1 c1, Value.slice (some ⟨b5, o5, none⟩) n1 c5, Value.int IntKind.i64 (k : Int), Value.slice (some ⟨b2, o2, none⟩) n1 c1, Value.int IntKind.i64 (n1 : Int), Value.bool true, u47, u48, Value.pointer (some ⟨t, 0, none⟩), Value.slice (some ⟨b5, o5, none⟩) n1 c5, Value.int IntKind.i64 (k : Int), Value.pointer (some ⟨b5, o5 + k, none⟩), Value.int IntKind.u64 (5 + (p.length : Int)), Value.slice (some ⟨b2, o2, none⟩) n1 c1, Value.int IntKind.i64 (k : Int), Value.pointer (some ⟨b2, o2 + k, none⟩), Value.slice xa xl.length xc, u58, u59, undef, undef, undef, undef, undef, undef, undef, undef, undef, undef, undef, undef, undef, undef, undef, undef, undef, undef, undef, undef, undef, undef, undef, undef, undef, undef, undef, undef, undef, undef, undef, undef, undef, undef, undef, undef, undef, undef, undef, undef, undef, undef, undef, undef, undef, undef, undef, undef, undef, undef, undef, undef, undef, undef, undef, undef, undef, undef, undef, undef, undef, undef, undef, undef, undef, undef, undef, undef, undef, undef, undef, undef, undef, undef, undef, undef, undef, undef, undef, undef, undef, undef, undef, undef, undef, undef, undef, undef, undef, undef, undef, undef, undef, undef, undef, undef, undef, undef, undef, undef, undef, undef, undef, undef, undef, undef, undef, undef, undef, undef, undef, undef, undef, undef, undef, undef, undef, undef, undef, undef, undef, undef, undef, undef, undef, undef, undef, undef, undef, undef, undef, undef, undef, undef, undef, undef, undef, undef, undef, undef, undef, undef, undef, undef, undef, undef, undef, undef, undef, undef, undef, undef, undef, undef, undef, undef, undef, undef, undef, undef, undef, undef, undef, undef, undef, undef, undef, undef, undef, undef, undef, undef, undef, undef, undef, undef, undef, undef, undef, undef, undef, undef, undef, undef, undef, undef, undef, undef, undef, undef], []⟩ : Act) by kernel_rfl)) ?_
        have HW2 := Lib.hid hW2
        clear hW2
        go_wp2_with fail
        refine (HADD.out W2 HW2.out).mono ?_
        rintro _ wz ⟨rfl, hu1, S', hg, hm1⟩
        have HU1 := Lib.hid ((HU.out.trans (Upd.of_below HW2.out)).step hu1 (fun i hi => by
          rcases hi with hi | hi
          · rcases HS.out i hi with h | h
            · exact .inl (.inl h)
            · exact .inr h
          · exact .inl (.inr hi)))
        have HS1 := Lib.hid (show ∀ j, S' j → S0 j ∨ w5.heap.size ≤ j from fun j hj => by
          rcases hg j hj with h | h
          · exact HS.out j h
          · have := HU.out.size; have := HW2.out.size; exact .inr (by omega))
        have HM1 := Lib.hid hm1
        clear hu1 hg hm1
        go_wp2
        go_roundw
        case rel => exact ⟨k + 1, S', by first | rfl | simp, by omega, by rw [HPS.out]; exact HM1.out, HS1.out, HU1.out⟩
        case measure => simp [intOf]; omega
      · have hk2 : n1 = k := by omega
        subst hk2
        rw [List.take_of_length_le (by rw [HBN.out]; exact Nat.le_refl _)] at HM
        obtain ⟨ws, hws⟩ : ∃ X, BB.flatten = X := ⟨_, rfl⟩
        rw [hws] at HM HLAST
        have hwl : ws.length ≤ 960 := by rw [← hws, flat_tot]; exact HFIT.out.tot
        have hwf := HFIT.out.flat
        rw [hws] at hwf
        have hgf := fun (k : ByteArray) => get_found draws 5 (ws := ws) k q (by decide) (by omega) (fun y hy => (hwf y hy).2.2)
        have hlaid := memF_laid draws (f := 5) (ws := ws) (by decide) (by omega)
        obtain ⟨M, hMM⟩ : ∃ M, memF draws 5 ws = M := ⟨_, rfl⟩
        rw [hMM] at HM hlaid
        simp only [hMM] at hgf
        have HGF := Lib.hid hgf
        have HLAID := Lib.hid hlaid
        have HWS := Lib.hid hws
        have HWL := Lib.hid hwl
        have HSQ := Lib.hid (HSL1.out wq HU.out)
        have HBQ := Lib.hid (HU.out.below HB5.out (fun k hk => by
          have := HB3.out.size
          rcases hk with hk | hk
          · have := HS0.out k hk; omega
          · have := HT0.out; omega))
        clear hgf hlaid hws hwl hwf hMM
        go_wp2_with fail
        refine (HKEYS.out wq HSQ.out).mono ?_
        rintro _ w7 ⟨v7, rfl, hown7, hb7⟩
        obtain ⟨A7, c7, rfl⟩ := own_slice hown7
        obtain ⟨ks, hks⟩ : ∃ X, keysL BB key = X := ⟨_, rfl⟩
        rw [hks] at hown7 ⊢
        obtain ⟨kn, hkn7⟩ : ∃ n, ks.length = n := ⟨_, rfl⟩
        obtain ⟨_, _, e, _, hs7, _⟩ := hown7.slice (fun x => (okK x).1)
        injection e with e1 e2 e3
        subst e1
        rw [hkn7]
        have hkl : kn ≤ 961 := by
          rw [← hkn7, ← hks]
          show (keysOf BB).length + 1 ≤ 961
          rw [keysOf_len]
          have := HFIT.out.tot
          omega
        have HKS := Lib.hid hks
        have HKN := Lib.hid hkn7
        have HS7 := Lib.hid hs7
        have HM7 := Lib.hid (HM.out.later hb7)
        have HL7 := Lib.hid (HSQ.out.later hb7)
        have HB7 := Lib.hid (HBQ.out.trans (hb7.mono HBQ.out.size))
        clear hown7 e2 e3 hs7 hb7 hks hkn7
        go_wp2_with fail
        go_loopw [13] (fun s13 wr => ∃ (i : Nat), s13 = .int .i64 i ∧ i ≤ kn ∧ Below w7.heap.size w7 wr) (fun s13 wr => kn - (intOf s13).toNat)
        case atStart => exact ⟨0, rfl, by omega, Below.refl _ _⟩
        case round =>
          obtain ⟨i, rfl, hi, hbi⟩ := hrel
          generalize wr = w8 at *
          have HB8 := Lib.hid hbi
          clear hbi
          by_cases hin : i < kn
          · obtain ⟨kk, hkk⟩ := getElem?_of_lt (l := ks) (by rw [HKN.out]; exact hin : i < ks.length)
            obtain ⟨b7, o7, hA7, hlt7, hc7⟩ := HS7.out.at hkk
            subst hA7
            have y7 : w7.cell? ⟨b7, o7 + i, none⟩ = some (.string kk) := by simpa using hc7 0 _ rfl
            have Y7 := Lib.hid y7
            have y8 := cell_later HB8.out y7
            have i1 : (0 : Int) ≤ i := by omega
            have i2 : (i : Int) < kn := by omega
            clear hkk hlt7 hc7 y7
            rcases HGF.out kk with ⟨n, dd, v, hla, hge⟩ | ⟨hla, hge⟩
            · skip
              have hl8 := HLAST.out kk w8 (HL7.out.later HB8.out)
              rw [hla] at hl8
              have HL8 := Lib.hid (show Calls Try.prog 42 #[.slice A1 n1 c1, .int .u64 5, .string kk, .int .u64 q] w8 fun e w' => e = .returned (.tuple #[.agg #[.string kk, .bool dd, .string v], .int .u64 n, .bool true]) ∧ Below w8.heap.size w8 w' from hl8)
              clear hl8 hla
              go_wp2_with fail
              refine HL8.out.mono ?_
              rintro _ w9 ⟨rfl, hb9⟩
              have HB9 := Lib.hid (HB8.out.trans (hb9.mono HB8.out.size))
              clear hb9
              obtain ⟨V, hV⟩ : ∃ Z, w9.alloc (.cells #[.string ⟨#[]⟩, .bool false, .string ⟨#[]⟩] 89) = Z := ⟨_, rfl⟩
              have rV : V.heap[w9.heap.size]? = some (.cells #[.string ⟨#[]⟩, .bool false, .string ⟨#[]⟩] 89 (0, 0)) := by rw [← hV]; exact heap_alloc_new _ _
              obtain ⟨⟨vy0, vy1, vy2⟩, vg0, vg1, vg2⟩ := cells3 rV
              obtain ⟨Va, hVa⟩ : ∃ Z4, ((V.setCell ⟨w9.heap.size, 0, none⟩ (.string kk)).setCell ⟨w9.heap.size, 1, none⟩ (.bool dd)).setCell ⟨w9.heap.size, 2, none⟩ (.string v) = Z4 := ⟨_, rfl⟩
              have qV : Va.heap[w9.heap.size]? = some (.cells #[.string kk, .bool dd, .string v] 89 (0, 0)) := by rw [← hVa]; exact put3_heap rV
              have bV : Below w9.heap.size w9 Va := by
                rw [← hVa, ← hV]
                exact ((Below.refl _ _).alloc (Nat.le_refl _) _).trans ((put3_upd (S := fun k => k = w9.heap.size) _ _ _ _ rfl).bel (fun k hk => by omega) (by simp))
              have BV := Lib.hid bV
              have QV := Lib.hid qV
              clear bV qV rV
              have HBV := Lib.hid (HB9.out.trans (BV.out.mono HB9.out.size))
              have yv := cell_later HBV.out Y7.out
              have hge2 := get_c (HM7.out.later HBV.out) kk q
              rw [hge] at hge2
              have HGE := Lib.hid (show Calls Try.prog 43 #[.pointer (some ⟨t, 0, none⟩), .string kk, .int .u64 q] Va fun e w' => e = .returned (.tuple #[.agg #[.string kk, .int .u64 n, .bool dd, .string v], .bool true]) ∧ Below Va.heap.size Va w' from hge2)
              clear hge2 hge
              go_wp2_with fail
              refine HGE.out.mono ?_
              rintro _ w10 ⟨rfl, hb10⟩
              have HB10 := Lib.hid (HBV.out.trans (hb10.mono HBV.out.size))
              obtain ⟨E, hE⟩ : ∃ Z, w10.alloc (.cells #[.string ⟨#[]⟩, .int .u64 0, .bool false, .string ⟨#[]⟩] 53) = Z := ⟨_, rfl⟩
              have rE : E.heap[w10.heap.size]? = some (.cells #[.string ⟨#[]⟩, .int .u64 0, .bool false, .string ⟨#[]⟩] 53 (0, 0)) := by rw [← hE]; exact heap_alloc_new _ _
              obtain ⟨⟨ey0, ey1, ey2, ey3⟩, eg0, eg1, eg2, eg3⟩ := cells4 rE
              obtain ⟨Ea, hEa⟩ : ∃ Z4, (((E.setCell ⟨w10.heap.size, 0, none⟩ (.string kk)).setCell ⟨w10.heap.size, 1, none⟩ (.int .u64 n)).setCell ⟨w10.heap.size, 2, none⟩ (.bool dd)).setCell ⟨w10.heap.size, 3, none⟩ (.string v) = Z4 := ⟨_, rfl⟩
              have qE : Ea.heap[w10.heap.size]? = some (.cells #[.string kk, .int .u64 n, .bool dd, .string v] 53 (0, 0)) := by rw [← hEa]; exact put4_heap rE
              have bE : Below w10.heap.size w10 Ea := by
                rw [← hEa, ← hE]
                exact ((Below.refl _ _).alloc (Nat.le_refl _) _).trans ((put4_upd (S := fun k => k = w10.heap.size) _ _ _ _ _ rfl).bel (fun k hk => by omega) (by simp))
              have BE := Lib.hid bE
              have QE := Lib.hid qE
              clear bE qE rE
              have HBE := Lib.hid (HB10.out.trans (BE.out.mono HB10.out.size))
              obtain ⟨⟨v0, v1, v2⟩, _⟩ := cells3 (blk_below (blk_below QV.out hb10) BE.out)
              obtain ⟨⟨e0, e1, e2, e3⟩, _⟩ := cells4 QE.out
              have Y10 := Lib.hid (cell_later HBE.out Y7.out)
              clear hb10
              go_wp2_with fail
              refine wp_region_calmB 43 (by kernel_rfl) (by kernel_rfl) ?_
              simp only [List.take_succ_cons, List.take_zero, List.drop_succ_cons, List.drop_zero]
              refine chain0 ?_
              refine @chain _ _ _ _ _ _ _ _ 90 (.bool true) (by rfl) (by rfl) (by exact fun W2 hW => run_mv (by rfl) (by exact eval_base (by kernel_rfl) (by rfl)) hW) ?_
              refine @chain _ _ _ _ _ _ _ _ 91 (.bool true) (by rfl) (by rfl) (by exact fun W2 hW => run_mv (by rfl) (by exact eval_base (by kernel_rfl) (by rfl)) hW) ?_
              refine @chain _ _ _ _ _ _ _ _ 92 (.bool false) (by rfl) (by rfl) (by exact fun W2 hW => run_bo (u := .bool true) (v := .bool true) (by rfl) (by exact eval_look (by kernel_rfl) (by kernel_rfl)) (by exact eval_look (by kernel_rfl) (by kernel_rfl)) (fun W => by go_simp) hW) ?_
              refine @chain _ _ _ _ _ _ _ _ 93 (.bool false) (by rfl) (by rfl) (by exact fun W2 hW => run_mv (by rfl) (by exact eval_look (by kernel_rfl) (by kernel_rfl)) hW) ?_
              refine @chainG _ _ _ _ _ _ _ _ 94 (.bool true) (by kernel_rfl) (by rfl) (by exact fun W2 hW => run_mv (by rfl) (by exact eval_base (by kernel_rfl) (by rfl)) hW) ?_
              refine @chainG _ _ _ _ _ _ _ _ 95 (.bool true) (by kernel_rfl) (by rfl) (by exact fun W2 hW => run_mv (by rfl) (by exact eval_look (by kernel_rfl) (by kernel_rfl)) hW) ?_
              refine @chainG _ _ _ _ _ _ _ _ 96 (.pointer (some ⟨w10.heap.size, 0, none⟩)) (by kernel_rfl) (by rfl) (by exact fun W2 hW => run_fa (p := .pointer (some ⟨w10.heap.size, 0, none⟩)) (by rfl) (by exact eval_base (by kernel_rfl) (by rfl)) (fun W => by first | kernel_rfl | go_simp) hW) ?_
              refine @chainG _ _ _ _ _ _ _ _ 97 (.string kk) (by kernel_rfl) (by rfl) (by exact fun W2 hW => run_lw (by rfl) (by exact eval_look (by kernel_rfl) (by kernel_rfl)) (fun W hW => ldStr _ _ _ _ (cell_later hW e0)) hW) ?_
              refine @chainG _ _ _ _ _ _ _ _ 98 (.slice (some ⟨b7, o7, none⟩) kn c7) (by kernel_rfl) (by rfl) (by exact fun W2 hW => run_mv (by rfl) (by exact eval_base (by kernel_rfl) (by rfl)) hW) ?_
              refine @chainG _ _ _ _ _ _ _ _ 99 (.int .i64 (i : Int)) (by kernel_rfl) (by rfl) (by exact fun W2 hW => run_mv (by rfl) (by exact eval_base (by kernel_rfl) (by rfl)) hW) ?_
              refine @chainG _ _ _ _ _ _ _ _ 100 (.pointer (some ⟨b7, o7 + i, none⟩)) (by kernel_rfl) (by rfl) (by exact fun W2 hW => run_ia (u := .slice (some ⟨b7, o7, none⟩) kn c7) (v := .int .i64 (i : Int)) (by rfl) (by exact eval_look (by kernel_rfl) (by kernel_rfl)) (by exact eval_look (by kernel_rfl) (by kernel_rfl)) (fun W => idxK_run _ _ _ _ _ (by omega) W) hW) ?_
              refine @chainG _ _ _ _ _ _ _ _ 101 (.string kk) (by kernel_rfl) (by rfl) (by exact fun W2 hW => run_lw (by rfl) (by exact eval_look (by kernel_rfl) (by kernel_rfl)) (fun W hW => ldStr _ _ _ _ (cell_later hW Y10.out)) hW) ?_
              refine @chainG _ _ _ _ _ _ _ _ 102 (.bool false) (by kernel_rfl) (by rfl) (by exact fun W2 hW => run_bo (u := .string kk) (v := .string kk) (by rfl) (by exact eval_look (by kernel_rfl) (by kernel_rfl)) (by exact eval_look (by kernel_rfl) (by kernel_rfl)) (fun W => by go_simp) hW) ?_
              refine @chainG _ _ _ _ _ _ _ _ 103 (.bool false) (by kernel_rfl) (by rfl) (by exact fun W2 hW => run_mv (by rfl) (by exact eval_look (by kernel_rfl) (by kernel_rfl)) hW) ?_
              refine @chainG _ _ _ _ _ _ _ _ 104 (.pointer (some ⟨w10.heap.size, 1, none⟩)) (by kernel_rfl) (by rfl) (by exact fun W2 hW => run_fa (p := .pointer (some ⟨w10.heap.size, 0, none⟩)) (by rfl) (by exact eval_base (by kernel_rfl) (by rfl)) (fun W => by first | kernel_rfl | go_simp) hW) ?_
              refine @chainG _ _ _ _ _ _ _ _ 105 (.int .u64 n) (by kernel_rfl) (by rfl) (by exact fun W2 hW => run_lw (by rfl) (by exact eval_look (by kernel_rfl) (by kernel_rfl)) (fun W hW => ldU _ _ _ _ (cell_later hW e1)) hW) ?_
              refine @chainG _ _ _ _ _ _ _ _ 106 (.int .u64 n) (by kernel_rfl) (by rfl) (by exact fun W2 hW => run_mv (by rfl) (by exact eval_base (by kernel_rfl) (by rfl)) hW) ?_
              refine @chainG _ _ _ _ _ _ _ _ 107 (.bool false) (by kernel_rfl) (by rfl) (by exact fun W2 hW => run_bo (u := .int .u64 n) (v := .int .u64 n) (by rfl) (by exact eval_look (by kernel_rfl) (by kernel_rfl)) (by exact eval_look (by kernel_rfl) (by kernel_rfl)) (fun W => by go_simp) hW) ?_
              refine @chainG _ _ _ _ _ _ _ _ 108 (.bool false) (by kernel_rfl) (by rfl) (by exact fun W2 hW => run_pkF (by rfl) (by exact eval_look (by kernel_rfl) (by kernel_rfl)) (by exact eval_look (by kernel_rfl) (by kernel_rfl)) hW) ?_
              refine @chainG _ _ _ _ _ _ _ _ 109 (.bool false) (by kernel_rfl) (by rfl) (by exact fun W2 hW => run_mv (by rfl) (by exact eval_look (by kernel_rfl) (by kernel_rfl)) hW) ?_
              refine @chainG _ _ _ _ _ _ _ _ 110 (.pointer (some ⟨w10.heap.size, 2, none⟩)) (by kernel_rfl) (by rfl) (by exact fun W2 hW => run_fa (p := .pointer (some ⟨w10.heap.size, 0, none⟩)) (by rfl) (by exact eval_base (by kernel_rfl) (by rfl)) (fun W => by first | kernel_rfl | go_simp) hW) ?_
              refine @chainG _ _ _ _ _ _ _ _ 111 (.bool dd) (by kernel_rfl) (by rfl) (by exact fun W2 hW => run_lw (by rfl) (by exact eval_look (by kernel_rfl) (by kernel_rfl)) (fun W hW => ldBo _ _ _ _ (cell_later hW e2)) hW) ?_
              refine @chainG _ _ _ _ _ _ _ _ 112 (.pointer (some ⟨w9.heap.size, 1, none⟩)) (by kernel_rfl) (by rfl) (by exact fun W2 hW => run_fa (p := .pointer (some ⟨w9.heap.size, 0, none⟩)) (by rfl) (by exact eval_base (by kernel_rfl) (by rfl)) (fun W => by first | kernel_rfl | go_simp) hW) ?_
              refine @chainG _ _ _ _ _ _ _ _ 113 (.bool dd) (by kernel_rfl) (by rfl) (by exact fun W2 hW => run_lw (by rfl) (by exact eval_look (by kernel_rfl) (by kernel_rfl)) (fun W hW => ldBo _ _ _ _ (cell_later hW v1)) hW) ?_
              refine @chainG _ _ _ _ _ _ _ _ 114 (.bool false) (by kernel_rfl) (by rfl) (by exact fun W2 hW => run_bo (u := .bool dd) (v := .bool dd) (by rfl) (by exact eval_look (by kernel_rfl) (by kernel_rfl)) (by exact eval_look (by kernel_rfl) (by kernel_rfl)) (fun W => by go_simp) hW) ?_
              refine @chainG _ _ _ _ _ _ _ _ 115 (.bool false) (by kernel_rfl) (by rfl) (by exact fun W2 hW => run_pkF (by rfl) (by exact eval_look (by kernel_rfl) (by kernel_rfl)) (by exact eval_look (by kernel_rfl) (by kernel_rfl)) hW) ?_
              refine @chainG _ _ _ _ _ _ _ _ 116 (.bool false) (by kernel_rfl) (by rfl) (by exact fun W2 hW => run_mv (by rfl) (by exact eval_look (by kernel_rfl) (by kernel_rfl)) hW) ?_
              refine @chainG _ _ _ _ _ _ _ _ 117 (.pointer (some ⟨w10.heap.size, 3, none⟩)) (by kernel_rfl) (by rfl) (by exact fun W2 hW => run_fa (p := .pointer (some ⟨w10.heap.size, 0, none⟩)) (by rfl) (by exact eval_base (by kernel_rfl) (by rfl)) (fun W => by first | kernel_rfl | go_simp) hW) ?_
              refine @chainG _ _ _ _ _ _ _ _ 118 (.string v) (by kernel_rfl) (by rfl) (by exact fun W2 hW => run_lw (by rfl) (by exact eval_look (by kernel_rfl) (by kernel_rfl)) (fun W hW => ldStr _ _ _ _ (cell_later hW e3)) hW) ?_
              refine @chainG _ _ _ _ _ _ _ _ 119 (.pointer (some ⟨w9.heap.size, 2, none⟩)) (by kernel_rfl) (by rfl) (by exact fun W2 hW => run_fa (p := .pointer (some ⟨w9.heap.size, 0, none⟩)) (by rfl) (by exact eval_base (by kernel_rfl) (by rfl)) (fun W => by first | kernel_rfl | go_simp) hW) ?_
              refine @chainG _ _ _ _ _ _ _ _ 120 (.string v) (by kernel_rfl) (by rfl) (by exact fun W2 hW => run_lw (by rfl) (by exact eval_look (by kernel_rfl) (by kernel_rfl)) (fun W hW => ldStr _ _ _ _ (cell_later hW v2)) hW) ?_
              refine @chainG _ _ _ _ _ _ _ _ 121 (.bool false) (by kernel_rfl) (by rfl) (by exact fun W2 hW => run_bo (u := .string v) (v := .string v) (by rfl) (by exact eval_look (by kernel_rfl) (by kernel_rfl)) (by exact eval_look (by kernel_rfl) (by kernel_rfl)) (fun W => by go_simp) hW) ?_
              refine @chainG _ _ _ _ _ _ _ _ 122 (.bool false) (by kernel_rfl) (by rfl) (by exact fun W2 hW => run_pkF (by rfl) (by exact eval_look (by kernel_rfl) (by kernel_rfl)) (by exact eval_look (by kernel_rfl) (by kernel_rfl)) hW) ?_
              refine @chainG _ _ _ _ _ _ _ _ 123 (.bool false) (by kernel_rfl) (by rfl) (by exact fun W2 hW => run_pkT (by rfl) (by exact eval_look (by kernel_rfl) (by kernel_rfl)) (by exact eval_look (by kernel_rfl) (by kernel_rfl)) hW) ?_
              refine @chain _ _ _ _ _ _ _ _ 124 (.bool false) (by rfl) (by rfl) (by exact fun W2 hW => run_pkF (by rfl) (by exact eval_look (by kernel_rfl) (by kernel_rfl)) (by exact eval_look (by kernel_rfl) (by kernel_rfl)) hW) ?_
              refine @chain _ _ _ _ _ _ _ _ 125 (.bool false) (by rfl) (by rfl) (by exact fun W2 hW => run_mv (by rfl) (by exact eval_look (by kernel_rfl) (by kernel_rfl)) hW) ?_
              refine @chainG _ _ _ _ _ _ _ _ 126 (.bool true) (by kernel_rfl) (by rfl) (by exact fun W2 hW => run_mv (by rfl) (by exact eval_base (by kernel_rfl) (by rfl)) hW) ?_
              refine @chainG _ _ _ _ _ _ _ _ 127 (.bool false) (by kernel_rfl) (by rfl) (by exact fun W2 hW => run_uo (u := .bool true) (by rfl) (by exact eval_look (by kernel_rfl) (by kernel_rfl)) (fun W => by go_simp) hW) ?_
              refine @chainG _ _ _ _ _ _ _ _ 128 (.bool false) (by kernel_rfl) (by rfl) (by exact fun W2 hW => run_mv (by rfl) (by exact eval_look (by kernel_rfl) (by kernel_rfl)) hW) ?_
              refine @chainK _ _ _ _ _ _ _ _ 129 (by kernel_rfl) (by rfl) ?_
              refine @chainK _ _ _ _ _ _ _ _ 130 (by kernel_rfl) (by rfl) ?_
              refine @chainK _ _ _ _ _ _ _ _ 131 (by kernel_rfl) (by rfl) ?_
              refine @chainG _ _ _ _ _ _ _ _ 132 (.bool false) (by kernel_rfl) (by rfl) (by exact fun W2 hW => run_pkF (by rfl) (by exact eval_look (by kernel_rfl) (by kernel_rfl)) (by rfl) hW) ?_
              refine calm_nil (fun W2 hW2 => ?_)
              refine Eq.mpr (congrArg (fun a => wpList _ _ _ _ a W2) (show _ = (⟨#[Value.slice A dn c, Value.slice A1 n1 c1, Value.string key, Value.int IntKind.u64 q, undef, undef, undef, undef, u8, Value.pointer (some ⟨t, 0, none⟩), Value.slice A5 n1 c5, Value.int IntKind.i64 (n1 : Int), Value.slice (some ⟨b7, o7, none⟩) kn c7, Value.int IntKind.i64 (i : Int), Value.pointer (some ⟨w9.heap.size, 0, none⟩), Value.int IntKind.u64 n, Value.bool true, Value.pointer (some ⟨w10.heap.size, 0, none⟩), Value.bool true, undef, undef, undef, undef, undef, undef, undef, undef, undef, undef, undef, Value.bool true, Value.bool false, Value.slice B ln d, Value.bool true, Value.bool false, Value.slice B ln d, Value.slice A1 n1 c1, Value.slice A dn c, Value.pointer (some ⟨t, 0, none⟩), Value.pointer (some ⟨t, 0, none⟩), Value.bool false, Value.slice A1 n1 c1, Value.slice A5 n1 c5, Value.int IntKind.i64 (n1 : Int), Value.slice A1 n1 c1, Value.int IntKind.i64 (n1 : Int), Value.bool false, u47, u48, u49, u50, u51, u52, u53, u54, u55, u56, u57, u58, u59, Value.slice A1 n1 c1, Value.string key, Value.slice (some ⟨b7, o7, none⟩) kn c7, Value.int IntKind.i64 (i : Int), Value.slice (some ⟨b7, o7, none⟩) kn c7, Value.int IntKind.i64 (kn : Int), Value.bool true, u67, u68, Value.tuple #[Value.agg #[Value.string kk, Value.bool dd, Value.string v], Value.int IntKind.u64 n, Value.bool true], Value.slice A1 n1 c1, Value.slice (some ⟨b7, o7, none⟩) kn c7, Value.int IntKind.i64 (i : Int), Value.pointer (some ⟨b7, o7 + i, none⟩), Value.string kk, Value.int IntKind.u64 q, Value.tuple #[Value.agg #[Value.string kk, Value.bool dd, Value.string v], Value.int IntKind.u64 n, Value.bool true], Value.agg #[Value.string kk, Value.bool dd, Value.string v], Value.int IntKind.u64 n, Value.bool true, Value.tuple #[Value.agg #[Value.string kk, Value.int IntKind.u64 n, Value.bool dd, Value.string v], Value.bool true], Value.pointer (some ⟨t, 0, none⟩), Value.slice (some ⟨b7, o7, none⟩) kn c7, Value.int IntKind.i64 (i : Int), Value.pointer (some ⟨b7, o7 + i, none⟩), Value.string kk, Value.int IntKind.u64 q, Value.tuple #[Value.agg #[Value.string kk, Value.int IntKind.u64 n, Value.bool dd, Value.string v], Value.bool true], Value.agg #[Value.string kk, Value.int IntKind.u64 n, Value.bool dd, Value.string v], Value.bool true, Value.bool true, Value.bool true, Value.bool false, Value.bool false, Value.bool true, Value.bool true, Value.pointer (some ⟨w10.heap.size, 0, none⟩), Value.string kk, Value.slice (some ⟨b7, o7, none⟩) kn c7, Value.int IntKind.i64 (i : Int), Value.pointer (some ⟨b7, o7 + i, none⟩), Value.string kk, Value.bool false, Value.bool false, Value.pointer (some ⟨w10.heap.size, 1, none⟩), Value.int IntKind.u64 n, Value.int IntKind.u64 n, Value.bool false, Value.bool false, Value.bool false, Value.pointer (some ⟨w10.heap.size, 2, none⟩), Value.bool dd, Value.pointer (some ⟨w9.heap.size, 1, none⟩), Value.bool dd, Value.bool false, Value.bool false, Value.bool false, Value.pointer (some ⟨w10.heap.size, 3, none⟩), Value.string v, Value.pointer (some ⟨w9.heap.size, 2, none⟩), Value.string v, Value.bool false, Value.bool false, Value.bool false, Value.bool false, Value.bool false, Value.bool true, Value.bool false, Value.bool false, undef, undef, undef, Value.bool false, u133, undef, undef, undef, undef, undef, undef, undef, undef, undef, undef, undef, undef, undef, undef, undef, undef, undef, undef, undef, undef, undef, undef, undef, undef, undef, undef, undef, undef, undef, undef, undef, undef, undef, undef, undef, undef, undef, undef, undef, undef, undef, undef, undef, undef, undef, undef, undef, undef, undef, undef, undef, undef, undef, undef, undef, undef, undef, undef, undef, undef, undef, undef, undef, undef, undef, undef, undef, undef, undef, undef, undef, undef, undef, undef, undef, undef, undef, undef, undef, undef, undef, undef, undef, undef, undef, undef, undef, undef, undef, undef, undef, undef, undef, undef, undef, undef, undef, undef, undef, undef, undef, undef, undef, undef, undef, undef, undef, undef, undef, undef, undef, undef, undef, undef, undef, undef], []⟩ : Act) by kernel_rfl)) ?_
              have HW2 := Lib.hid hW2
              clear hW2
              go_wp2
              go_roundw
              case rel => exact ⟨i + 1, by first | rfl | simp, by omega, HBE.out.trans (HW2.out.mono HBE.out.size)⟩
              case measure => simp [intOf]; omega
            · skip
              have hl8 := HLAST.out kk w8 (HL7.out.later HB8.out)
              rw [hla] at hl8
              have HL8 := Lib.hid (show Calls Try.prog 42 #[.slice A1 n1 c1, .int .u64 5, .string kk, .int .u64 q] w8 fun e w' => e = .returned (.tuple #[.agg #[.string ⟨#[]⟩, .bool false, .string ⟨#[]⟩], .int .u64 0, .bool false]) ∧ Below w8.heap.size w8 w' from hl8)
              clear hl8 hla
              go_wp2_with fail
              refine HL8.out.mono ?_
              rintro _ w9 ⟨rfl, hb9⟩
              have HB9 := Lib.hid (HB8.out.trans (hb9.mono HB8.out.size))
              clear hb9
              obtain ⟨V, hV⟩ : ∃ Z, w9.alloc (.cells #[.string ⟨#[]⟩, .bool false, .string ⟨#[]⟩] 89) = Z := ⟨_, rfl⟩
              have rV : V.heap[w9.heap.size]? = some (.cells #[.string ⟨#[]⟩, .bool false, .string ⟨#[]⟩] 89 (0, 0)) := by rw [← hV]; exact heap_alloc_new _ _
              obtain ⟨⟨vy0, vy1, vy2⟩, vg0, vg1, vg2⟩ := cells3 rV
              obtain ⟨Va, hVa⟩ : ∃ Z4, ((V.setCell ⟨w9.heap.size, 0, none⟩ (.string ⟨#[]⟩)).setCell ⟨w9.heap.size, 1, none⟩ (.bool false)).setCell ⟨w9.heap.size, 2, none⟩ (.string ⟨#[]⟩) = Z4 := ⟨_, rfl⟩
              have qV : Va.heap[w9.heap.size]? = some (.cells #[.string ⟨#[]⟩, .bool false, .string ⟨#[]⟩] 89 (0, 0)) := by rw [← hVa]; exact put3_heap rV
              have bV : Below w9.heap.size w9 Va := by
                rw [← hVa, ← hV]
                exact ((Below.refl _ _).alloc (Nat.le_refl _) _).trans ((put3_upd (S := fun k => k = w9.heap.size) _ _ _ _ rfl).bel (fun k hk => by omega) (by simp))
              have BV := Lib.hid bV
              have QV := Lib.hid qV
              clear bV qV rV
              have HBV := Lib.hid (HB9.out.trans (BV.out.mono HB9.out.size))
              have yv := cell_later HBV.out Y7.out
              have hge2 := get_c (HM7.out.later HBV.out) kk q
              rw [hge] at hge2
              have HGE := Lib.hid (show Calls Try.prog 43 #[.pointer (some ⟨t, 0, none⟩), .string kk, .int .u64 q] Va fun e w' => e = .returned (.tuple #[.agg #[.string ⟨#[]⟩, .int .u64 0, .bool false, .string ⟨#[]⟩], .bool false]) ∧ Below Va.heap.size Va w' from hge2)
              clear hge2 hge
              go_wp2_with fail
              refine HGE.out.mono ?_
              rintro _ w10 ⟨rfl, hb10⟩
              have HB10 := Lib.hid (HBV.out.trans (hb10.mono HBV.out.size))
              obtain ⟨E, hE⟩ : ∃ Z, w10.alloc (.cells #[.string ⟨#[]⟩, .int .u64 0, .bool false, .string ⟨#[]⟩] 53) = Z := ⟨_, rfl⟩
              have rE : E.heap[w10.heap.size]? = some (.cells #[.string ⟨#[]⟩, .int .u64 0, .bool false, .string ⟨#[]⟩] 53 (0, 0)) := by rw [← hE]; exact heap_alloc_new _ _
              obtain ⟨⟨ey0, ey1, ey2, ey3⟩, eg0, eg1, eg2, eg3⟩ := cells4 rE
              obtain ⟨Ea, hEa⟩ : ∃ Z4, (((E.setCell ⟨w10.heap.size, 0, none⟩ (.string ⟨#[]⟩)).setCell ⟨w10.heap.size, 1, none⟩ (.int .u64 0)).setCell ⟨w10.heap.size, 2, none⟩ (.bool false)).setCell ⟨w10.heap.size, 3, none⟩ (.string ⟨#[]⟩) = Z4 := ⟨_, rfl⟩
              have qE : Ea.heap[w10.heap.size]? = some (.cells #[.string ⟨#[]⟩, .int .u64 0, .bool false, .string ⟨#[]⟩] 53 (0, 0)) := by rw [← hEa]; exact put4_heap rE
              have bE : Below w10.heap.size w10 Ea := by
                rw [← hEa, ← hE]
                exact ((Below.refl _ _).alloc (Nat.le_refl _) _).trans ((put4_upd (S := fun k => k = w10.heap.size) _ _ _ _ _ rfl).bel (fun k hk => by omega) (by simp))
              have BE := Lib.hid bE
              have QE := Lib.hid qE
              clear bE qE rE
              have HBE := Lib.hid (HB10.out.trans (BE.out.mono HB10.out.size))
              obtain ⟨⟨v0, v1, v2⟩, _⟩ := cells3 (blk_below (blk_below QV.out hb10) BE.out)
              obtain ⟨⟨e0, e1, e2, e3⟩, _⟩ := cells4 QE.out
              have Y10 := Lib.hid (cell_later HBE.out Y7.out)
              clear hb10
              go_wp2_with fail
              refine wp_region_calmB 43 (by kernel_rfl) (by kernel_rfl) ?_
              simp only [List.take_succ_cons, List.take_zero, List.drop_succ_cons, List.drop_zero]
              refine chain0 ?_
              refine @chain _ _ _ _ _ _ _ _ 90 (.bool false) (by rfl) (by rfl) (by exact fun W2 hW => run_mv (by rfl) (by exact eval_base (by kernel_rfl) (by rfl)) hW) ?_
              refine @chain _ _ _ _ _ _ _ _ 91 (.bool false) (by rfl) (by rfl) (by exact fun W2 hW => run_mv (by rfl) (by exact eval_base (by kernel_rfl) (by rfl)) hW) ?_
              refine @chain _ _ _ _ _ _ _ _ 92 (.bool false) (by rfl) (by rfl) (by exact fun W2 hW => run_bo (u := .bool false) (v := .bool false) (by rfl) (by exact eval_look (by kernel_rfl) (by kernel_rfl)) (by exact eval_look (by kernel_rfl) (by kernel_rfl)) (fun W => by go_simp) hW) ?_
              refine @chain _ _ _ _ _ _ _ _ 93 (.bool false) (by rfl) (by rfl) (by exact fun W2 hW => run_mv (by rfl) (by exact eval_look (by kernel_rfl) (by kernel_rfl)) hW) ?_
              refine @chainG _ _ _ _ _ _ _ _ 94 (.bool false) (by kernel_rfl) (by rfl) (by exact fun W2 hW => run_mv (by rfl) (by exact eval_base (by kernel_rfl) (by rfl)) hW) ?_
              refine @chainG _ _ _ _ _ _ _ _ 95 (.bool false) (by kernel_rfl) (by rfl) (by exact fun W2 hW => run_mv (by rfl) (by exact eval_look (by kernel_rfl) (by kernel_rfl)) hW) ?_
              refine @chainK _ _ _ _ _ _ _ _ 96 (by kernel_rfl) (by rfl) ?_
              refine @chainK _ _ _ _ _ _ _ _ 97 (by kernel_rfl) (by rfl) ?_
              refine @chainK _ _ _ _ _ _ _ _ 98 (by kernel_rfl) (by rfl) ?_
              refine @chainK _ _ _ _ _ _ _ _ 99 (by kernel_rfl) (by rfl) ?_
              refine @chainK _ _ _ _ _ _ _ _ 100 (by kernel_rfl) (by rfl) ?_
              refine @chainK _ _ _ _ _ _ _ _ 101 (by kernel_rfl) (by rfl) ?_
              refine @chainK _ _ _ _ _ _ _ _ 102 (by kernel_rfl) (by rfl) ?_
              refine @chainK _ _ _ _ _ _ _ _ 103 (by kernel_rfl) (by rfl) ?_
              refine @chainK _ _ _ _ _ _ _ _ 104 (by kernel_rfl) (by rfl) ?_
              refine @chainK _ _ _ _ _ _ _ _ 105 (by kernel_rfl) (by rfl) ?_
              refine @chainK _ _ _ _ _ _ _ _ 106 (by kernel_rfl) (by rfl) ?_
              refine @chainK _ _ _ _ _ _ _ _ 107 (by kernel_rfl) (by rfl) ?_
              refine @chainK _ _ _ _ _ _ _ _ 108 (by kernel_rfl) (by rfl) ?_
              refine @chainK _ _ _ _ _ _ _ _ 109 (by kernel_rfl) (by rfl) ?_
              refine @chainK _ _ _ _ _ _ _ _ 110 (by kernel_rfl) (by rfl) ?_
              refine @chainK _ _ _ _ _ _ _ _ 111 (by kernel_rfl) (by rfl) ?_
              refine @chainK _ _ _ _ _ _ _ _ 112 (by kernel_rfl) (by rfl) ?_
              refine @chainK _ _ _ _ _ _ _ _ 113 (by kernel_rfl) (by rfl) ?_
              refine @chainK _ _ _ _ _ _ _ _ 114 (by kernel_rfl) (by rfl) ?_
              refine @chainK _ _ _ _ _ _ _ _ 115 (by kernel_rfl) (by rfl) ?_
              refine @chainK _ _ _ _ _ _ _ _ 116 (by kernel_rfl) (by rfl) ?_
              refine @chainK _ _ _ _ _ _ _ _ 117 (by kernel_rfl) (by rfl) ?_
              refine @chainK _ _ _ _ _ _ _ _ 118 (by kernel_rfl) (by rfl) ?_
              refine @chainK _ _ _ _ _ _ _ _ 119 (by kernel_rfl) (by rfl) ?_
              refine @chainK _ _ _ _ _ _ _ _ 120 (by kernel_rfl) (by rfl) ?_
              refine @chainK _ _ _ _ _ _ _ _ 121 (by kernel_rfl) (by rfl) ?_
              refine @chainK _ _ _ _ _ _ _ _ 122 (by kernel_rfl) (by rfl) ?_
              refine @chainG _ _ _ _ _ _ _ _ 123 (.bool false) (by kernel_rfl) (by rfl) (by exact fun W2 hW => run_pkF (by rfl) (by exact eval_look (by kernel_rfl) (by kernel_rfl)) (by rfl) hW) ?_
              refine @chain _ _ _ _ _ _ _ _ 124 (.bool false) (by rfl) (by rfl) (by exact fun W2 hW => run_pkF (by rfl) (by exact eval_look (by kernel_rfl) (by kernel_rfl)) (by exact eval_look (by kernel_rfl) (by kernel_rfl)) hW) ?_
              refine @chain _ _ _ _ _ _ _ _ 125 (.bool false) (by rfl) (by rfl) (by exact fun W2 hW => run_mv (by rfl) (by exact eval_look (by kernel_rfl) (by kernel_rfl)) hW) ?_
              refine @chainG _ _ _ _ _ _ _ _ 126 (.bool false) (by kernel_rfl) (by rfl) (by exact fun W2 hW => run_mv (by rfl) (by exact eval_base (by kernel_rfl) (by rfl)) hW) ?_
              refine @chainG _ _ _ _ _ _ _ _ 127 (.bool true) (by kernel_rfl) (by rfl) (by exact fun W2 hW => run_uo (u := .bool false) (by rfl) (by exact eval_look (by kernel_rfl) (by kernel_rfl)) (fun W => by go_simp) hW) ?_
              refine @chainG _ _ _ _ _ _ _ _ 128 (.bool true) (by kernel_rfl) (by rfl) (by exact fun W2 hW => run_mv (by rfl) (by exact eval_look (by kernel_rfl) (by kernel_rfl)) hW) ?_
              refine @chainG _ _ _ _ _ _ _ _ 129 (.agg (encE zeroE).toArray) (by kernel_rfl) (by rfl) (by exact fun W2 hW => run_lw (by rfl) (by exact eval_base (by kernel_rfl) (by rfl)) (fun W hW => ldEnt _ _ _ (fun i v hv => cell_later hW (boxEnt QE.out i v hv))) hW) ?_
              refine @chainG _ _ _ _ _ _ _ _ 130 (.agg (encE zeroE).toArray) (by kernel_rfl) (by rfl) (by exact fun W2 hW => run_b0 (by rfl) (fun W => by go_simp; rfl) hW) ?_
              refine @chainG _ _ _ _ _ _ _ _ 131 (.bool false) (by kernel_rfl) (by rfl) (by exact fun W2 hW => run_bo (u := .agg (encE zeroE).toArray) (v := .agg (encE zeroE).toArray) (by rfl) (by exact eval_look (by kernel_rfl) (by kernel_rfl)) (by exact eval_look (by kernel_rfl) (by kernel_rfl)) (fun W => neEnt_run _ _ _ _ _ (by simp) W) hW) ?_
              refine @chainG _ _ _ _ _ _ _ _ 132 (.bool false) (by kernel_rfl) (by rfl) (by exact fun W2 hW => run_pkT (by rfl) (by exact eval_look (by kernel_rfl) (by kernel_rfl)) (by exact eval_look (by kernel_rfl) (by kernel_rfl)) hW) ?_
              refine calm_nil (fun W2 hW2 => ?_)
              refine Eq.mpr (congrArg (fun a => wpList _ _ _ _ a W2) (show _ = (⟨#[Value.slice A dn c, Value.slice A1 n1 c1, Value.string key, Value.int IntKind.u64 q, undef, undef, undef, undef, u8, Value.pointer (some ⟨t, 0, none⟩), Value.slice A5 n1 c5, Value.int IntKind.i64 (n1 : Int), Value.slice (some ⟨b7, o7, none⟩) kn c7, Value.int IntKind.i64 (i : Int), Value.pointer (some ⟨w9.heap.size, 0, none⟩), Value.int IntKind.u64 0, Value.bool false, Value.pointer (some ⟨w10.heap.size, 0, none⟩), Value.bool false, undef, undef, undef, undef, undef, undef, undef, undef, undef, undef, undef, Value.bool true, Value.bool false, Value.slice B ln d, Value.bool true, Value.bool false, Value.slice B ln d, Value.slice A1 n1 c1, Value.slice A dn c, Value.pointer (some ⟨t, 0, none⟩), Value.pointer (some ⟨t, 0, none⟩), Value.bool false, Value.slice A1 n1 c1, Value.slice A5 n1 c5, Value.int IntKind.i64 (n1 : Int), Value.slice A1 n1 c1, Value.int IntKind.i64 (n1 : Int), Value.bool false, u47, u48, u49, u50, u51, u52, u53, u54, u55, u56, u57, u58, u59, Value.slice A1 n1 c1, Value.string key, Value.slice (some ⟨b7, o7, none⟩) kn c7, Value.int IntKind.i64 (i : Int), Value.slice (some ⟨b7, o7, none⟩) kn c7, Value.int IntKind.i64 (kn : Int), Value.bool true, u67, u68, Value.tuple #[Value.agg #[Value.string ⟨#[]⟩, Value.bool false, Value.string ⟨#[]⟩], Value.int IntKind.u64 0, Value.bool false], Value.slice A1 n1 c1, Value.slice (some ⟨b7, o7, none⟩) kn c7, Value.int IntKind.i64 (i : Int), Value.pointer (some ⟨b7, o7 + i, none⟩), Value.string kk, Value.int IntKind.u64 q, Value.tuple #[Value.agg #[Value.string ⟨#[]⟩, Value.bool false, Value.string ⟨#[]⟩], Value.int IntKind.u64 0, Value.bool false], Value.agg #[Value.string ⟨#[]⟩, Value.bool false, Value.string ⟨#[]⟩], Value.int IntKind.u64 0, Value.bool false, Value.tuple #[Value.agg #[Value.string ⟨#[]⟩, Value.int IntKind.u64 0, Value.bool false, Value.string ⟨#[]⟩], Value.bool false], Value.pointer (some ⟨t, 0, none⟩), Value.slice (some ⟨b7, o7, none⟩) kn c7, Value.int IntKind.i64 (i : Int), Value.pointer (some ⟨b7, o7 + i, none⟩), Value.string kk, Value.int IntKind.u64 q, Value.tuple #[Value.agg #[Value.string ⟨#[]⟩, Value.int IntKind.u64 0, Value.bool false, Value.string ⟨#[]⟩], Value.bool false], Value.agg #[Value.string ⟨#[]⟩, Value.int IntKind.u64 0, Value.bool false, Value.string ⟨#[]⟩], Value.bool false, Value.bool false, Value.bool false, Value.bool false, Value.bool false, Value.bool false, Value.bool false, undef, undef, undef, undef, undef, undef, undef, undef, undef, undef, undef, undef, undef, undef, undef, undef, undef, undef, undef, undef, undef, undef, undef, undef, undef, undef, undef, Value.bool false, Value.bool false, Value.bool false, Value.bool false, Value.bool true, Value.bool true, Value.agg (encE zeroE).toArray, Value.agg (encE zeroE).toArray, Value.bool false, Value.bool false, u133, undef, undef, undef, undef, undef, undef, undef, undef, undef, undef, undef, undef, undef, undef, undef, undef, undef, undef, undef, undef, undef, undef, undef, undef, undef, undef, undef, undef, undef, undef, undef, undef, undef, undef, undef, undef, undef, undef, undef, undef, undef, undef, undef, undef, undef, undef, undef, undef, undef, undef, undef, undef, undef, undef, undef, undef, undef, undef, undef, undef, undef, undef, undef, undef, undef, undef, undef, undef, undef, undef, undef, undef, undef, undef, undef, undef, undef, undef, undef, undef, undef, undef, undef, undef, undef, undef, undef, undef, undef, undef, undef, undef, undef, undef, undef, undef, undef, undef, undef, undef, undef, undef, undef, undef, undef, undef, undef, undef, undef, undef, undef, undef, undef, undef, undef, undef], []⟩ : Act) by kernel_rfl)) ?_
              have HW2 := Lib.hid hW2
              clear hW2
              go_wp2
              go_roundw
              case rel => exact ⟨i + 1, by first | rfl | simp, by omega, HBE.out.trans (HW2.out.mono HBE.out.size)⟩
              case measure => simp [intOf]; omega
          · have hik : kn = i := by omega
            subst hik
            have hseq : ∀ e ∈ allE M.L, e.2.1 ≤ 18446744073709551615 := fun e he => by
              obtain ⟨j, hj⟩ := List.getElem?_of_mem (HLAID.out.perm.subset he)
              obtain ⟨x, hx, rfl⟩ := ents_at hj
              have h1 := (List.getElem?_eq_some_iff.1 hx).1
              have h2 := HWL.out
              rw [ent_seq (by decide) (by omega)]
              omega
            have hfr := from_ok (L := M.L) (List.pairwise_map.2 HLAID.out.order) hseq key q
            have hfl : (thin q (notAhead key 18446744073709551615 (allE M.L))).length ≤ 960 := by
              have h1 := thin_len q (notAhead key 18446744073709551615 (allE M.L))
              have h2 : (notAhead key 18446744073709551615 (allE M.L)).length ≤ (allE M.L).length := List.length_filter_le _ _
              have h3 := HLAID.out.perm.length_eq
              rw [ents_len] at h3
              have h4 := HWL.out
              omega
            have hmf := mfrom_v key q (HM7.out.later HB8.out)
            obtain ⟨fr, hfe⟩ : ∃ X, thin q (notAhead key 18446744073709551615 (allE M.L)) = X := ⟨_, rfl⟩
            rw [hfe] at hfr hfl hmf
            have HFR := Lib.hid hfr
            have HMF := Lib.hid hmf
            obtain ⟨fm, hfm⟩ : ∃ n, fr.length = n := ⟨_, rfl⟩
            rw [hfm] at hfl
            have HFM := Lib.hid hfm
            clear hseq hfr hmf hfe hfm
            go_wp2_with fail
            refine HMF.out.mono ?_
            rintro _ w9 ⟨f, rfl, hit, hb9⟩
            have HT := Lib.hid (taken6_c f (-1) _ _ w9 hit (Nat.le_refl _) (by rw [HFM.out]; omega))
            rw [show takeN (-1) fr = fr from takeN_all (.inl (by decide))] at HT
            clear hit
            go_wp2_with fail
            refine HT.out.mono ?_
            rintro _ w10 ⟨v10, rfl, hown10, hb10⟩
            obtain ⟨A10, c10, hv10, _, hs10, _⟩ := hown10.slice (fun _ => rfl)
            subst hv10
            rw [HFM.out]
            have HS10 := Lib.hid hs10
            have HB10 := Lib.hid (HB8.out.trans ((hb9.trans (hb10.mono hb9.size)).mono HB8.out.size))
            have HM10 := Lib.hid (HM7.out.later HB10.out)
            clear hown10 hs10 hb10 hb9
            go_wp2_with fail
            go_loopw [22] (fun s22 wr => ∃ (i : Nat), s22 = .int .i64 i ∧ i ≤ fm ∧ Below w10.heap.size w10 wr) (fun s22 wr => fm - (intOf s22).toNat)
            case atStart => exact ⟨0, rfl, by omega, Below.refl _ _⟩
            case round =>
              obtain ⟨i, rfl, hi3, hbi⟩ := hrel
              generalize wr = w11 at *
              have HB11 := Lib.hid hbi
              clear hbi
              by_cases hin3 : i < fm
              · obtain ⟨e, he⟩ := getElem?_of_lt (l := fr) (by rw [HFM.out]; exact hin3 : i < fr.length)
                have hem := List.mem_of_getElem? he
                obtain ⟨b10, o10, hA10, hlt10, hc10⟩ := HS10.out.at he
                subst hA10
                have HC := Lib.hid (fun j u hu => (HB11.out.cell (p := ⟨b10, o10 + i * 4 + j, none⟩) hlt10).trans (hc10 j u hu))
                have x0 : w11.cell? ⟨b10, o10 + i * 4, none⟩ = some (.string e.1) := by simpa using HC.out 0 _ rfl
                have i3 : (0 : Int) ≤ i := by omega
                have i4 : (i : Int) < fm := by omega
                have hg := get_c (HM10.out.later HB11.out) e.1 q
                rw [HFR.out.get e hem] at hg
                have HGE := Lib.hid (show Calls Try.prog 43 #[.pointer (some ⟨t, 0, none⟩), .string e.1, .int .u64 q] w11 fun en w' => en = .returned (.tuple #[.agg #[.string e.1, .int .u64 e.2.1, .bool e.2.2.1, .string e.2.2.2], .bool true]) ∧ Below w11.heap.size w11 w' from hg)
                have hlow := HFR.out.ge e hem
                have HE := Lib.hid he
                clear hg hem hc10 he
                go_wp2_with fail
                refine HGE.out.mono ?_
                rintro _ w12 ⟨rfl, hb12⟩
                have HB12 := Lib.hid (HB11.out.trans (hb12.mono HB11.out.size))
                obtain ⟨E, hE⟩ : ∃ Z, w12.alloc (.cells #[.string ⟨#[]⟩, .int .u64 0, .bool false, .string ⟨#[]⟩] 53) = Z := ⟨_, rfl⟩
                have rE : E.heap[w12.heap.size]? = some (.cells #[.string ⟨#[]⟩, .int .u64 0, .bool false, .string ⟨#[]⟩] 53 (0, 0)) := by rw [← hE]; exact heap_alloc_new _ _
                obtain ⟨⟨ey0, ey1, ey2, ey3⟩, eg0, eg1, eg2, eg3⟩ := cells4 rE
                obtain ⟨Ea, hEa⟩ : ∃ Z4, (((E.setCell ⟨w12.heap.size, 0, none⟩ (.string e.1)).setCell ⟨w12.heap.size, 1, none⟩ (.int .u64 e.2.1)).setCell ⟨w12.heap.size, 2, none⟩ (.bool e.2.2.1)).setCell ⟨w12.heap.size, 3, none⟩ (.string e.2.2.2) = Z4 := ⟨_, rfl⟩
                have qE : Ea.heap[w12.heap.size]? = some (.cells #[.string e.1, .int .u64 e.2.1, .bool e.2.2.1, .string e.2.2.2] 53 (0, 0)) := by rw [← hEa]; exact put4_heap rE
                have bE : Below w12.heap.size w12 Ea := by
                  rw [← hEa, ← hE]
                  exact ((Below.refl _ _).alloc (Nat.le_refl _) _).trans ((put4_upd (S := fun k => k = w12.heap.size) _ _ _ _ _ rfl).bel (fun k hk => by omega) (by simp))
                have BE := Lib.hid bE
                have QE := Lib.hid qE
                clear bE qE rE
                have HBE := Lib.hid (HB12.out.trans (BE.out.mono HB12.out.size))
                have HCE := Lib.hid (fun j u hu => cell_later ((hb12.trans (BE.out.mono hb12.size))) (HC.out j u hu))
                clear hb12 x0
                by_cases hi0 : i = 0
                · have i5 : ¬ (0 : Int) < i := by omega
                  clear hi0
                  go_wp2_with fail
                  refine wp_region_calmB 36 (by kernel_rfl) (by kernel_rfl) ?_
                  simp only [List.take_succ_cons, List.take_zero, List.drop_succ_cons, List.drop_zero]
                  refine chain0 ?_
                  refine @chain _ _ _ _ _ _ _ _ 161 (.bool true) (by rfl) (by rfl) (by exact fun W2 hW => run_mv (by rfl) (by exact eval_base (by kernel_rfl) (by rfl)) hW) ?_
                  refine @chain _ _ _ _ _ _ _ _ 162 (.bool false) (by rfl) (by rfl) (by exact fun W2 hW => run_uo (u := .bool true) (by rfl) (by exact eval_look (by kernel_rfl) (by kernel_rfl)) (fun W => by go_simp) hW) ?_
                  refine @chain _ _ _ _ _ _ _ _ 163 (.bool false) (by rfl) (by rfl) (by exact fun W2 hW => run_mv (by rfl) (by exact eval_look (by kernel_rfl) (by kernel_rfl)) hW) ?_
                  refine @chainG _ _ _ _ _ _ _ _ 164 (.agg (encE e).toArray) (by kernel_rfl) (by rfl) (by exact fun W2 hW => run_lw (by rfl) (by exact eval_base (by kernel_rfl) (by rfl)) (fun W hW => ldEnt _ _ _ (fun i v hv => cell_later hW (boxEnt QE.out i v hv))) hW) ?_
                  refine @chainG _ _ _ _ _ _ _ _ 165 (.slice (some ⟨b10, o10, none⟩) fm c10) (by kernel_rfl) (by rfl) (by exact fun W2 hW => run_mv (by rfl) (by exact eval_base (by kernel_rfl) (by rfl)) hW) ?_
                  refine @chainG _ _ _ _ _ _ _ _ 166 (.int .i64 (i : Int)) (by kernel_rfl) (by rfl) (by exact fun W2 hW => run_mv (by rfl) (by exact eval_base (by kernel_rfl) (by rfl)) hW) ?_
                  refine @chainG _ _ _ _ _ _ _ _ 167 (.pointer (some ⟨b10, o10 + i * 4, none⟩)) (by kernel_rfl) (by rfl) (by exact fun W2 hW => run_ia (u := .slice (some ⟨b10, o10, none⟩) fm c10) (v := .int .i64 (i : Int)) (by rfl) (by exact eval_look (by kernel_rfl) (by kernel_rfl)) (by exact eval_look (by kernel_rfl) (by kernel_rfl)) (fun W => idx_run _ _ _ _ _ (by omega) W) hW) ?_
                  refine @chainG _ _ _ _ _ _ _ _ 168 (.agg (encE e).toArray) (by kernel_rfl) (by rfl) (by exact fun W2 hW => run_lw (by rfl) (by exact eval_look (by kernel_rfl) (by kernel_rfl)) (fun W hW => ldEntO _ _ _ _ (fun i v hv => cell_later hW (HCE.out i v hv))) hW) ?_
                  refine @chainG _ _ _ _ _ _ _ _ 169 (.bool false) (by kernel_rfl) (by rfl) (by exact fun W2 hW => run_bo (u := .agg (encE e).toArray) (v := .agg (encE e).toArray) (by rfl) (by exact eval_look (by kernel_rfl) (by kernel_rfl)) (by exact eval_look (by kernel_rfl) (by kernel_rfl)) (fun W => neEnt_run _ _ _ _ _ (by simp) W) hW) ?_
                  refine @chain _ _ _ _ _ _ _ _ 170 (.bool false) (by rfl) (by rfl) (by exact fun W2 hW => run_pkF (by rfl) (by exact eval_look (by kernel_rfl) (by kernel_rfl)) (by exact eval_look (by kernel_rfl) (by kernel_rfl)) hW) ?_
                  refine @chain _ _ _ _ _ _ _ _ 171 (.bool false) (by rfl) (by rfl) (by exact fun W2 hW => run_mv (by rfl) (by exact eval_look (by kernel_rfl) (by kernel_rfl)) hW) ?_
                  refine @chainG _ _ _ _ _ _ _ _ 172 (.slice (some ⟨b10, o10, none⟩) fm c10) (by kernel_rfl) (by rfl) (by exact fun W2 hW => run_mv (by rfl) (by exact eval_base (by kernel_rfl) (by rfl)) hW) ?_
                  refine @chainG _ _ _ _ _ _ _ _ 173 (.int .i64 (i : Int)) (by kernel_rfl) (by rfl) (by exact fun W2 hW => run_mv (by rfl) (by exact eval_base (by kernel_rfl) (by rfl)) hW) ?_
                  refine @chainG _ _ _ _ _ _ _ _ 174 (.pointer (some ⟨b10, o10 + i * 4, none⟩)) (by kernel_rfl) (by rfl) (by exact fun W2 hW => run_ia (u := .slice (some ⟨b10, o10, none⟩) fm c10) (v := .int .i64 (i : Int)) (by rfl) (by exact eval_look (by kernel_rfl) (by kernel_rfl)) (by exact eval_look (by kernel_rfl) (by kernel_rfl)) (fun W => idx_run _ _ _ _ _ (by omega) W) hW) ?_
                  refine @chainG _ _ _ _ _ _ _ _ 175 (.pointer (some ⟨b10, o10 + i * 4, none⟩)) (by kernel_rfl) (by rfl) (by exact fun W2 hW => run_fa (p := .pointer (some ⟨b10, o10 + i * 4, none⟩)) (by rfl) (by exact eval_look (by kernel_rfl) (by kernel_rfl)) (fun W => by first | kernel_rfl | go_simp) hW) ?_
                  refine @chainG _ _ _ _ _ _ _ _ 176 (.string e.1) (by kernel_rfl) (by rfl) (by exact fun W2 hW => run_lw (by rfl) (by exact eval_look (by kernel_rfl) (by kernel_rfl)) (fun W hW => ldStr _ _ _ _ (cell_later hW (by simpa using HCE.out 0 _ rfl))) hW) ?_
                  refine @chainG _ _ _ _ _ _ _ _ 177 (.string key) (by kernel_rfl) (by rfl) (by exact fun W2 hW => run_mv (by rfl) (by exact eval_base (by kernel_rfl) (by rfl)) hW) ?_
                  refine @chainG _ _ _ _ _ _ _ _ 178 (.bool false) (by kernel_rfl) (by rfl) (by exact fun W2 hW => run_bo (u := .string e.1) (v := .string key) (by rfl) (by exact eval_look (by kernel_rfl) (by kernel_rfl)) (by exact eval_look (by kernel_rfl) (by kernel_rfl)) (fun W => lssS_run _ _ _ _ _ _ hlow W) hW) ?_
                  refine @chain _ _ _ _ _ _ _ _ 179 (.bool false) (by rfl) (by rfl) (by exact fun W2 hW => run_pkF (by rfl) (by exact eval_look (by kernel_rfl) (by kernel_rfl)) (by exact eval_look (by kernel_rfl) (by kernel_rfl)) hW) ?_
                  refine @chain _ _ _ _ _ _ _ _ 180 (.bool false) (by rfl) (by rfl) (by exact fun W2 hW => run_mv (by rfl) (by exact eval_look (by kernel_rfl) (by kernel_rfl)) hW) ?_
                  refine @chainG _ _ _ _ _ _ _ _ 181 (.int .i64 (i : Int)) (by kernel_rfl) (by rfl) (by exact fun W2 hW => run_mv (by rfl) (by exact eval_base (by kernel_rfl) (by rfl)) hW) ?_
                  refine @chainG _ _ _ _ _ _ _ _ 182 (.bool false) (by kernel_rfl) (by rfl) (by exact fun W2 hW => run_bo (u := .int .i64 (i : Int)) (v := .int .i64 0) (by rfl) (by exact eval_look (by kernel_rfl) (by kernel_rfl)) (by rfl) (fun W => gtr_no _ _ _ _ (by omega) W) hW) ?_
                  refine @chainG _ _ _ _ _ _ _ _ 183 (.bool false) (by kernel_rfl) (by rfl) (by exact fun W2 hW => run_mv (by rfl) (by exact eval_look (by kernel_rfl) (by kernel_rfl)) hW) ?_
                  refine @chainK _ _ _ _ _ _ _ _ 184 (by kernel_rfl) (by rfl) ?_
                  refine @chainK _ _ _ _ _ _ _ _ 185 (by kernel_rfl) (by rfl) ?_
                  refine @chainK _ _ _ _ _ _ _ _ 186 (by kernel_rfl) (by rfl) ?_
                  refine @chainK _ _ _ _ _ _ _ _ 187 (by kernel_rfl) (by rfl) ?_
                  refine @chainK _ _ _ _ _ _ _ _ 188 (by kernel_rfl) (by rfl) ?_
                  refine @chainK _ _ _ _ _ _ _ _ 189 (by kernel_rfl) (by rfl) ?_
                  refine @chainK _ _ _ _ _ _ _ _ 190 (by kernel_rfl) (by rfl) ?_
                  refine @chainK _ _ _ _ _ _ _ _ 191 (by kernel_rfl) (by rfl) ?_
                  refine @chainK _ _ _ _ _ _ _ _ 192 (by kernel_rfl) (by rfl) ?_
                  refine @chainK _ _ _ _ _ _ _ _ 193 (by kernel_rfl) (by rfl) ?_
                  refine @chainK _ _ _ _ _ _ _ _ 194 (by kernel_rfl) (by rfl) ?_
                  refine @chainK _ _ _ _ _ _ _ _ 195 (by kernel_rfl) (by rfl) ?_
                  refine @chainG _ _ _ _ _ _ _ _ 196 (.bool false) (by kernel_rfl) (by rfl) (by exact fun W2 hW => run_pkF (by rfl) (by exact eval_look (by kernel_rfl) (by kernel_rfl)) (by rfl) hW) ?_
                  refine calm_nil (fun W2 hW2 => ?_)
                  refine Eq.mpr (congrArg (fun a => wpList _ _ _ _ a W2) (show _ = (⟨#[Value.slice A dn c, Value.slice A1 n1 c1, Value.string key, Value.int IntKind.u64 q, undef, undef, undef, undef, u8, Value.pointer (some ⟨t, 0, none⟩), Value.slice A5 n1 c5, Value.int IntKind.i64 (n1 : Int), Value.slice A7 kn c7, Value.int IntKind.i64 (kn : Int), u14, u15, u16, u17, u18, Value.slice (some ⟨b10, o10, none⟩) fm c10, Value.bool true, Value.int IntKind.i64 0, Value.int IntKind.i64 (i : Int), Value.pointer (some ⟨w12.heap.size, 0, none⟩), Value.bool true, undef, undef, undef, undef, undef, Value.bool true, Value.bool false, Value.slice B ln d, Value.bool true, Value.bool false, Value.slice B ln d, Value.slice A1 n1 c1, Value.slice A dn c, Value.pointer (some ⟨t, 0, none⟩), Value.pointer (some ⟨t, 0, none⟩), Value.bool false, Value.slice A1 n1 c1, Value.slice A5 n1 c5, Value.int IntKind.i64 (n1 : Int), Value.slice A1 n1 c1, Value.int IntKind.i64 (n1 : Int), Value.bool false, u47, u48, u49, u50, u51, u52, u53, u54, u55, u56, u57, u58, u59, Value.slice A1 n1 c1, Value.string key, Value.slice A7 kn c7, Value.int IntKind.i64 (kn : Int), Value.slice A7 kn c7, Value.int IntKind.i64 (kn : Int), Value.bool false, u67, u68, u69, u70, u71, u72, u73, u74, u75, u76, u77, u78, u79, u80, u81, u82, u83, u84, u85, u86, u87, u88, u89, u90, u91, u92, u93, u94, u95, u96, u97, u98, u99, u100, u101, u102, u103, u104, u105, u106, u107, u108, u109, u110, u111, u112, u113, u114, u115, u116, u117, u118, u119, u120, u121, u122, u123, u124, u125, u126, u127, u128, u129, u130, u131, u132, u133, Value.tuple #[Value.slice (some ⟨b10, o10, none⟩) fm c10, Value.bool true], Value.pointer (some ⟨t, 0, none⟩), Value.string key, Value.int IntKind.u64 q, f, Value.tuple #[Value.slice (some ⟨b10, o10, none⟩) fm c10, Value.bool true], Value.slice (some ⟨b10, o10, none⟩) fm c10, Value.bool true, Value.bool true, Value.bool false, Value.int IntKind.i64 (i : Int), Value.slice (some ⟨b10, o10, none⟩) fm c10, Value.int IntKind.i64 (fm : Int), Value.bool true, u148, u149, Value.tuple #[Value.agg #[Value.string e.fst, Value.int IntKind.u64 e.snd.fst, Value.bool e.snd.snd.fst, Value.string e.snd.snd.snd], Value.bool true], Value.pointer (some ⟨t, 0, none⟩), Value.slice (some ⟨b10, o10, none⟩) fm c10, Value.int IntKind.i64 (i : Int), Value.pointer (some ⟨b10, o10 + i * 4, none⟩), Value.pointer (some ⟨b10, o10 + i * 4, none⟩), Value.string e.fst, Value.int IntKind.u64 q, Value.tuple #[Value.agg #[Value.string e.fst, Value.int IntKind.u64 e.snd.fst, Value.bool e.snd.snd.fst, Value.string e.snd.snd.snd], Value.bool true], Value.agg #[Value.string e.fst, Value.int IntKind.u64 e.snd.fst, Value.bool e.snd.snd.fst, Value.string e.snd.snd.snd], Value.bool true, Value.bool true, Value.bool false, Value.bool false, Value.agg (encE e).toArray, Value.slice (some ⟨b10, o10, none⟩) fm c10, Value.int IntKind.i64 (i : Int), Value.pointer (some ⟨b10, o10 + i * 4, none⟩), Value.agg (encE e).toArray, Value.bool false, Value.bool false, Value.bool false, Value.slice (some ⟨b10, o10, none⟩) fm c10, Value.int IntKind.i64 (i : Int), Value.pointer (some ⟨b10, o10 + i * 4, none⟩), Value.pointer (some ⟨b10, o10 + i * 4, none⟩), Value.string e.fst, Value.string key, Value.bool false, Value.bool false, Value.bool false, Value.int IntKind.i64 (i : Int), Value.bool false, Value.bool false, undef, undef, undef, undef, undef, undef, undef, undef, undef, undef, undef, undef, Value.bool false, u197, undef, undef, undef, undef, undef, undef, undef, undef, undef, undef, undef, undef, undef, undef, undef, undef, undef, undef, undef, undef, undef, undef, undef, undef, undef, undef, undef, undef, undef, undef, undef, undef, undef, undef, undef, undef, undef, undef, undef, undef, undef, undef, undef, undef, undef, undef, undef, undef, undef, undef, undef, undef], []⟩ : Act) by kernel_rfl)) ?_
                  have HW2 := Lib.hid hW2
                  clear hW2
                  go_wp2
                  go_roundw
                  case rel => exact ⟨i + 1, by first | rfl | simp, by omega, HBE.out.trans (HW2.out.mono HBE.out.size)⟩
                  case measure => simp [intOf]; omega
                · obtain ⟨j, hj⟩ : ∃ j : Nat, i = j + 1 := ⟨i - 1, by omega⟩
                  have i5 : (0 : Int) < i := by omega
                  have hjw : IntKind.i64.wrap ((i : Int) - 1) = (j : Int) := by rw [IntKind.wrap_i64]; omega
                  obtain ⟨e', he'⟩ := getElem?_of_lt (l := fr) (by rw [HFM.out]; omega : j < fr.length)
                  obtain ⟨_, _, hA11, hlt11, hc11⟩ := HS10.out.at he'
                  injection hA11 with hA11
                  injection hA11 with q1 q2
                  subst q1
                  subst q2
                  have HP := Lib.hid (show Ea.cell? ⟨b10, o10 + j * 4, none⟩ = some (.string e'.1) by
                    have := cell_later HBE.out (hc11 0 _ rfl)
                    simpa using this)
                  have hlt : Op.bytesLess e'.1.toList e.1.toList = true := by
                    obtain ⟨z1, z2⟩ := List.getElem?_eq_some_iff.1 he'
                    obtain ⟨z3, z4⟩ := List.getElem?_eq_some_iff.1 HE.out
                    have := List.pairwise_iff_getElem.1 HFR.out.rise j i z1 z3 (by omega)
                    rw [z2, z4] at this
                    exact this
                  have hle1 := less_asymm _ _ hlt
                  have hle2 : (e.1.toList == e'.1.toList) = false := by
                    rw [beq_eq_false_iff_ne]
                    intro h
                    rw [h, less_irrefl] at hlt
                    cases hlt
                  have HI0 := Lib.hid hj
                  clear hlt hc11 hlt11 he' hj hi0
                  go_wp2_with fail
                  refine wp_region_calmB 36 (by kernel_rfl) (by kernel_rfl) ?_
                  simp only [List.take_succ_cons, List.take_zero, List.drop_succ_cons, List.drop_zero]
                  refine chain0 ?_
                  refine @chain _ _ _ _ _ _ _ _ 161 (.bool true) (by rfl) (by rfl) (by exact fun W2 hW => run_mv (by rfl) (by exact eval_base (by kernel_rfl) (by rfl)) hW) ?_
                  refine @chain _ _ _ _ _ _ _ _ 162 (.bool false) (by rfl) (by rfl) (by exact fun W2 hW => run_uo (u := .bool true) (by rfl) (by exact eval_look (by kernel_rfl) (by kernel_rfl)) (fun W => by go_simp) hW) ?_
                  refine @chain _ _ _ _ _ _ _ _ 163 (.bool false) (by rfl) (by rfl) (by exact fun W2 hW => run_mv (by rfl) (by exact eval_look (by kernel_rfl) (by kernel_rfl)) hW) ?_
                  refine @chainG _ _ _ _ _ _ _ _ 164 (.agg (encE e).toArray) (by kernel_rfl) (by rfl) (by exact fun W2 hW => run_lw (by rfl) (by exact eval_base (by kernel_rfl) (by rfl)) (fun W hW => ldEnt _ _ _ (fun i v hv => cell_later hW (boxEnt QE.out i v hv))) hW) ?_
                  refine @chainG _ _ _ _ _ _ _ _ 165 (.slice (some ⟨b10, o10, none⟩) fm c10) (by kernel_rfl) (by rfl) (by exact fun W2 hW => run_mv (by rfl) (by exact eval_base (by kernel_rfl) (by rfl)) hW) ?_
                  refine @chainG _ _ _ _ _ _ _ _ 166 (.int .i64 (i : Int)) (by kernel_rfl) (by rfl) (by exact fun W2 hW => run_mv (by rfl) (by exact eval_base (by kernel_rfl) (by rfl)) hW) ?_
                  refine @chainG _ _ _ _ _ _ _ _ 167 (.pointer (some ⟨b10, o10 + i * 4, none⟩)) (by kernel_rfl) (by rfl) (by exact fun W2 hW => run_ia (u := .slice (some ⟨b10, o10, none⟩) fm c10) (v := .int .i64 (i : Int)) (by rfl) (by exact eval_look (by kernel_rfl) (by kernel_rfl)) (by exact eval_look (by kernel_rfl) (by kernel_rfl)) (fun W => idx_run _ _ _ _ _ (by omega) W) hW) ?_
                  refine @chainG _ _ _ _ _ _ _ _ 168 (.agg (encE e).toArray) (by kernel_rfl) (by rfl) (by exact fun W2 hW => run_lw (by rfl) (by exact eval_look (by kernel_rfl) (by kernel_rfl)) (fun W hW => ldEntO _ _ _ _ (fun i v hv => cell_later hW (HCE.out i v hv))) hW) ?_
                  refine @chainG _ _ _ _ _ _ _ _ 169 (.bool false) (by kernel_rfl) (by rfl) (by exact fun W2 hW => run_bo (u := .agg (encE e).toArray) (v := .agg (encE e).toArray) (by rfl) (by exact eval_look (by kernel_rfl) (by kernel_rfl)) (by exact eval_look (by kernel_rfl) (by kernel_rfl)) (fun W => neEnt_run _ _ _ _ _ (by simp) W) hW) ?_
                  refine @chain _ _ _ _ _ _ _ _ 170 (.bool false) (by rfl) (by rfl) (by exact fun W2 hW => run_pkF (by rfl) (by exact eval_look (by kernel_rfl) (by kernel_rfl)) (by exact eval_look (by kernel_rfl) (by kernel_rfl)) hW) ?_
                  refine @chain _ _ _ _ _ _ _ _ 171 (.bool false) (by rfl) (by rfl) (by exact fun W2 hW => run_mv (by rfl) (by exact eval_look (by kernel_rfl) (by kernel_rfl)) hW) ?_
                  refine @chainG _ _ _ _ _ _ _ _ 172 (.slice (some ⟨b10, o10, none⟩) fm c10) (by kernel_rfl) (by rfl) (by exact fun W2 hW => run_mv (by rfl) (by exact eval_base (by kernel_rfl) (by rfl)) hW) ?_
                  refine @chainG _ _ _ _ _ _ _ _ 173 (.int .i64 (i : Int)) (by kernel_rfl) (by rfl) (by exact fun W2 hW => run_mv (by rfl) (by exact eval_base (by kernel_rfl) (by rfl)) hW) ?_
                  refine @chainG _ _ _ _ _ _ _ _ 174 (.pointer (some ⟨b10, o10 + i * 4, none⟩)) (by kernel_rfl) (by rfl) (by exact fun W2 hW => run_ia (u := .slice (some ⟨b10, o10, none⟩) fm c10) (v := .int .i64 (i : Int)) (by rfl) (by exact eval_look (by kernel_rfl) (by kernel_rfl)) (by exact eval_look (by kernel_rfl) (by kernel_rfl)) (fun W => idx_run _ _ _ _ _ (by omega) W) hW) ?_
                  refine @chainG _ _ _ _ _ _ _ _ 175 (.pointer (some ⟨b10, o10 + i * 4, none⟩)) (by kernel_rfl) (by rfl) (by exact fun W2 hW => run_fa (p := .pointer (some ⟨b10, o10 + i * 4, none⟩)) (by rfl) (by exact eval_look (by kernel_rfl) (by kernel_rfl)) (fun W => by first | kernel_rfl | go_simp) hW) ?_
                  refine @chainG _ _ _ _ _ _ _ _ 176 (.string e.1) (by kernel_rfl) (by rfl) (by exact fun W2 hW => run_lw (by rfl) (by exact eval_look (by kernel_rfl) (by kernel_rfl)) (fun W hW => ldStr _ _ _ _ (cell_later hW (by simpa using HCE.out 0 _ rfl))) hW) ?_
                  refine @chainG _ _ _ _ _ _ _ _ 177 (.string key) (by kernel_rfl) (by rfl) (by exact fun W2 hW => run_mv (by rfl) (by exact eval_base (by kernel_rfl) (by rfl)) hW) ?_
                  refine @chainG _ _ _ _ _ _ _ _ 178 (.bool false) (by kernel_rfl) (by rfl) (by exact fun W2 hW => run_bo (u := .string e.1) (v := .string key) (by rfl) (by exact eval_look (by kernel_rfl) (by kernel_rfl)) (by exact eval_look (by kernel_rfl) (by kernel_rfl)) (fun W => lssS_run _ _ _ _ _ _ hlow W) hW) ?_
                  refine @chain _ _ _ _ _ _ _ _ 179 (.bool false) (by rfl) (by rfl) (by exact fun W2 hW => run_pkF (by rfl) (by exact eval_look (by kernel_rfl) (by kernel_rfl)) (by exact eval_look (by kernel_rfl) (by kernel_rfl)) hW) ?_
                  refine @chain _ _ _ _ _ _ _ _ 180 (.bool false) (by rfl) (by rfl) (by exact fun W2 hW => run_mv (by rfl) (by exact eval_look (by kernel_rfl) (by kernel_rfl)) hW) ?_
                  refine @chainG _ _ _ _ _ _ _ _ 181 (.int .i64 (i : Int)) (by kernel_rfl) (by rfl) (by exact fun W2 hW => run_mv (by rfl) (by exact eval_base (by kernel_rfl) (by rfl)) hW) ?_
                  refine @chainG _ _ _ _ _ _ _ _ 182 (.bool true) (by kernel_rfl) (by rfl) (by exact fun W2 hW => run_bo (u := .int .i64 (i : Int)) (v := .int .i64 0) (by rfl) (by exact eval_look (by kernel_rfl) (by kernel_rfl)) (by rfl) (fun W => gtr_yes _ _ _ _ (by omega) W) hW) ?_
                  refine @chainG _ _ _ _ _ _ _ _ 183 (.bool true) (by kernel_rfl) (by rfl) (by exact fun W2 hW => run_mv (by rfl) (by exact eval_look (by kernel_rfl) (by kernel_rfl)) hW) ?_
                  refine @chainG _ _ _ _ _ _ _ _ 184 (.slice (some ⟨b10, o10, none⟩) fm c10) (by kernel_rfl) (by rfl) (by exact fun W2 hW => run_mv (by rfl) (by exact eval_base (by kernel_rfl) (by rfl)) hW) ?_
                  refine @chainG _ _ _ _ _ _ _ _ 185 (.int .i64 (i : Int)) (by kernel_rfl) (by rfl) (by exact fun W2 hW => run_mv (by rfl) (by exact eval_base (by kernel_rfl) (by rfl)) hW) ?_
                  refine @chainG _ _ _ _ _ _ _ _ 186 (.pointer (some ⟨b10, o10 + i * 4, none⟩)) (by kernel_rfl) (by rfl) (by exact fun W2 hW => run_ia (u := .slice (some ⟨b10, o10, none⟩) fm c10) (v := .int .i64 (i : Int)) (by rfl) (by exact eval_look (by kernel_rfl) (by kernel_rfl)) (by exact eval_look (by kernel_rfl) (by kernel_rfl)) (fun W => idx_run _ _ _ _ _ (by omega) W) hW) ?_
                  refine @chainG _ _ _ _ _ _ _ _ 187 (.pointer (some ⟨b10, o10 + i * 4, none⟩)) (by kernel_rfl) (by rfl) (by exact fun W2 hW => run_fa (p := .pointer (some ⟨b10, o10 + i * 4, none⟩)) (by rfl) (by exact eval_look (by kernel_rfl) (by kernel_rfl)) (fun W => by first | kernel_rfl | go_simp) hW) ?_
                  refine @chainG _ _ _ _ _ _ _ _ 188 (.string e.1) (by kernel_rfl) (by rfl) (by exact fun W2 hW => run_lw (by rfl) (by exact eval_look (by kernel_rfl) (by kernel_rfl)) (fun W hW => ldStr _ _ _ _ (cell_later hW (by simpa using HCE.out 0 _ rfl))) hW) ?_
                  refine @chainG _ _ _ _ _ _ _ _ 189 (.slice (some ⟨b10, o10, none⟩) fm c10) (by kernel_rfl) (by rfl) (by exact fun W2 hW => run_mv (by rfl) (by exact eval_base (by kernel_rfl) (by rfl)) hW) ?_
                  refine @chainG _ _ _ _ _ _ _ _ 190 (.int .i64 (i : Int)) (by kernel_rfl) (by rfl) (by exact fun W2 hW => run_mv (by rfl) (by exact eval_base (by kernel_rfl) (by rfl)) hW) ?_
                  refine @chainG _ _ _ _ _ _ _ _ 191 (.int .i64 (j : Int)) (by kernel_rfl) (by rfl) (by exact fun W2 hW => run_bo (u := .int .i64 (i : Int)) (v := .int .i64 1) (by rfl) (by exact eval_look (by kernel_rfl) (by kernel_rfl)) (by rfl) (fun W => by go_simp) hW) ?_
                  refine @chainG _ _ _ _ _ _ _ _ 192 (.pointer (some ⟨b10, o10 + j * 4, none⟩)) (by kernel_rfl) (by rfl) (by exact fun W2 hW => run_ia (u := .slice (some ⟨b10, o10, none⟩) fm c10) (v := .int .i64 (j : Int)) (by rfl) (by exact eval_look (by kernel_rfl) (by kernel_rfl)) (by exact eval_look (by kernel_rfl) (by kernel_rfl)) (fun W => idx_run _ _ _ _ _ (by have := HI0.out; omega) W) hW) ?_
                  refine @chainG _ _ _ _ _ _ _ _ 193 (.pointer (some ⟨b10, o10 + j * 4, none⟩)) (by kernel_rfl) (by rfl) (by exact fun W2 hW => run_fa (p := .pointer (some ⟨b10, o10 + j * 4, none⟩)) (by rfl) (by exact eval_look (by kernel_rfl) (by kernel_rfl)) (fun W => by first | kernel_rfl | go_simp) hW) ?_
                  refine @chainG _ _ _ _ _ _ _ _ 194 (.string e'.1) (by kernel_rfl) (by rfl) (by exact fun W2 hW => run_lw (by rfl) (by exact eval_look (by kernel_rfl) (by kernel_rfl)) (fun W hW => ldStr _ _ _ _ (cell_later hW HP.out)) hW) ?_
                  refine @chainG _ _ _ _ _ _ _ _ 195 (.bool false) (by kernel_rfl) (by rfl) (by exact fun W2 hW => run_bo (u := .string e.1) (v := .string e'.1) (by rfl) (by exact eval_look (by kernel_rfl) (by kernel_rfl)) (by exact eval_look (by kernel_rfl) (by kernel_rfl)) (fun W => leqS_run _ _ _ _ _ hle1 hle2 W) hW) ?_
                  refine @chainG _ _ _ _ _ _ _ _ 196 (.bool false) (by kernel_rfl) (by rfl) (by exact fun W2 hW => run_pkT (by rfl) (by exact eval_look (by kernel_rfl) (by kernel_rfl)) (by exact eval_look (by kernel_rfl) (by kernel_rfl)) hW) ?_
                  refine calm_nil (fun W2 hW2 => ?_)
                  refine Eq.mpr (congrArg (fun a => wpList _ _ _ _ a W2) (show _ = (⟨#[Value.slice A dn c, Value.slice A1 n1 c1, Value.string key, Value.int IntKind.u64 q, undef, undef, undef, undef, u8, Value.pointer (some ⟨t, 0, none⟩), Value.slice A5 n1 c5, Value.int IntKind.i64 (n1 : Int), Value.slice A7 kn c7, Value.int IntKind.i64 (kn : Int), u14, u15, u16, u17, u18, Value.slice (some ⟨b10, o10, none⟩) fm c10, Value.bool true, Value.int IntKind.i64 0, Value.int IntKind.i64 (i : Int), Value.pointer (some ⟨w12.heap.size, 0, none⟩), Value.bool true, undef, undef, undef, undef, undef, Value.bool true, Value.bool false, Value.slice B ln d, Value.bool true, Value.bool false, Value.slice B ln d, Value.slice A1 n1 c1, Value.slice A dn c, Value.pointer (some ⟨t, 0, none⟩), Value.pointer (some ⟨t, 0, none⟩), Value.bool false, Value.slice A1 n1 c1, Value.slice A5 n1 c5, Value.int IntKind.i64 (n1 : Int), Value.slice A1 n1 c1, Value.int IntKind.i64 (n1 : Int), Value.bool false, u47, u48, u49, u50, u51, u52, u53, u54, u55, u56, u57, u58, u59, Value.slice A1 n1 c1, Value.string key, Value.slice A7 kn c7, Value.int IntKind.i64 (kn : Int), Value.slice A7 kn c7, Value.int IntKind.i64 (kn : Int), Value.bool false, u67, u68, u69, u70, u71, u72, u73, u74, u75, u76, u77, u78, u79, u80, u81, u82, u83, u84, u85, u86, u87, u88, u89, u90, u91, u92, u93, u94, u95, u96, u97, u98, u99, u100, u101, u102, u103, u104, u105, u106, u107, u108, u109, u110, u111, u112, u113, u114, u115, u116, u117, u118, u119, u120, u121, u122, u123, u124, u125, u126, u127, u128, u129, u130, u131, u132, u133, Value.tuple #[Value.slice (some ⟨b10, o10, none⟩) fm c10, Value.bool true], Value.pointer (some ⟨t, 0, none⟩), Value.string key, Value.int IntKind.u64 q, f, Value.tuple #[Value.slice (some ⟨b10, o10, none⟩) fm c10, Value.bool true], Value.slice (some ⟨b10, o10, none⟩) fm c10, Value.bool true, Value.bool true, Value.bool false, Value.int IntKind.i64 (i : Int), Value.slice (some ⟨b10, o10, none⟩) fm c10, Value.int IntKind.i64 (fm : Int), Value.bool true, u148, u149, Value.tuple #[Value.agg #[Value.string e.fst, Value.int IntKind.u64 e.snd.fst, Value.bool e.snd.snd.fst, Value.string e.snd.snd.snd], Value.bool true], Value.pointer (some ⟨t, 0, none⟩), Value.slice (some ⟨b10, o10, none⟩) fm c10, Value.int IntKind.i64 (i : Int), Value.pointer (some ⟨b10, o10 + i * 4, none⟩), Value.pointer (some ⟨b10, o10 + i * 4, none⟩), Value.string e.fst, Value.int IntKind.u64 q, Value.tuple #[Value.agg #[Value.string e.fst, Value.int IntKind.u64 e.snd.fst, Value.bool e.snd.snd.fst, Value.string e.snd.snd.snd], Value.bool true], Value.agg #[Value.string e.fst, Value.int IntKind.u64 e.snd.fst, Value.bool e.snd.snd.fst, Value.string e.snd.snd.snd], Value.bool true, Value.bool true, Value.bool false, Value.bool false, Value.agg (encE e).toArray, Value.slice (some ⟨b10, o10, none⟩) fm c10, Value.int IntKind.i64 (i : Int), Value.pointer (some ⟨b10, o10 + i * 4, none⟩), Value.agg (encE e).toArray, Value.bool false, Value.bool false, Value.bool false, Value.slice (some ⟨b10, o10, none⟩) fm c10, Value.int IntKind.i64 (i : Int), Value.pointer (some ⟨b10, o10 + i * 4, none⟩), Value.pointer (some ⟨b10, o10 + i * 4, none⟩), Value.string e.fst, Value.string key, Value.bool false, Value.bool false, Value.bool false, Value.int IntKind.i64 (i : Int), Value.bool true, Value.bool true, Value.slice (some ⟨b10, o10, none⟩) fm c10, Value.int IntKind.i64 (i : Int), Value.pointer (some ⟨b10, o10 + i * 4, none⟩), Value.pointer (some ⟨b10, o10 + i * 4, none⟩), Value.string e.fst, Value.slice (some ⟨b10, o10, none⟩) fm c10, Value.int IntKind.i64 (i : Int), Value.int IntKind.i64 (j : Int), Value.pointer (some ⟨b10, o10 + j * 4, none⟩), Value.pointer (some ⟨b10, o10 + j * 4, none⟩), Value.string e'.fst, Value.bool false, Value.bool false, u197, undef, undef, undef, undef, undef, undef, undef, undef, undef, undef, undef, undef, undef, undef, undef, undef, undef, undef, undef, undef, undef, undef, undef, undef, undef, undef, undef, undef, undef, undef, undef, undef, undef, undef, undef, undef, undef, undef, undef, undef, undef, undef, undef, undef, undef, undef, undef, undef, undef, undef, undef, undef], []⟩ : Act) by kernel_rfl)) ?_
                  have HW2 := Lib.hid hW2
                  clear hW2
                  go_wp2
                  go_roundw
                  case rel => exact ⟨i + 1, by first | rfl | simp, by omega, HBE.out.trans (HW2.out.mono HBE.out.size)⟩
                  case measure => simp [intOf]; omega
              · have hif : fm = i := by omega
                clear hin3 hi3
                subst hif
                have HIN := Lib.hid (show ∀ e ∈ fr, e.1 ∈ ks from fun e he => by
                  obtain ⟨j, hj⟩ := List.getElem?_of_mem (HLAID.out.perm.subset (HFR.out.mem e he))
                  obtain ⟨x, hx, rfl⟩ := ents_at hj
                  have hxw := List.mem_of_getElem? hx
                  rw [← HWS.out] at hxw
                  rw [← HKS.out]
                  exact mem_keys hxw)
                go_wp2_with fail
                go_loopw [21, 25] (fun s21 s25 wr => ∃ (i : Nat) (D : List ByteArray), s21 = .int .i64 (D.length : Int) ∧ s25 = .int .i64 i ∧ i ≤ kn ∧ Cnt (good M.L key q) (ks.take i) D ∧ D.length ≤ i ∧ Below w10.heap.size w10 wr) (fun s21 s25 wr => kn - (intOf s25).toNat)
                case atStart => exact ⟨0, [], rfl, rfl, by omega, by simpa using Cnt.nil _, by simp, HB11.out⟩
                case round =>
                  obtain ⟨i, D, rfl, rfl, hi4, hcn, hdl, hbi⟩ := hrel
                  generalize wr = w13 at *
                  have HB13 := Lib.hid hbi
                  have HCN := Lib.hid hcn
                  obtain ⟨dl, hdl2⟩ : ∃ n, D.length = n := ⟨_, rfl⟩
                  rw [hdl2] at hdl ⊢
                  have HDL := Lib.hid hdl2
                  clear hbi hcn hdl2
                  by_cases hin4 : i < kn
                  · obtain ⟨kk, hkk⟩ := getElem?_of_lt (l := ks) (by rw [HKN.out]; exact hin4 : i < ks.length)
                    obtain ⟨b7, o7, hA7, hlt7, hc7⟩ := HS7.out.at hkk
                    subst hA7
                    have y7 : w7.cell? ⟨b7, o7 + i, none⟩ = some (.string kk) := by simpa using hc7 0 _ rfl
                    have Y7 := Lib.hid (cell_later (HB10.out.trans (HB13.out.mono HB10.out.size)) y7)
                    have x7 := Y7.out
                    have HKK := Lib.hid hkk
                    have HTK := Lib.hid (show ks.take (i + 1) = ks.take i ++ [kk] by rw [List.take_add_one, hkk]; rfl)
                    have i5 : (0 : Int) ≤ i := by omega
                    have i6 : (i : Int) < kn := by omega
                    have hg := get_c (HM10.out.later HB13.out) kk q
                    obtain ⟨⟨e, b⟩, hr⟩ : ∃ r, getM M.L kk q = r := ⟨_, rfl⟩
                    rw [hr] at hg
                    have HG4 := Lib.hid (show Calls Try.prog 43 #[.pointer (some ⟨t, 0, none⟩), .string kk, .int .u64 q] w13 fun en w' => en = .returned (.tuple #[.agg #[.string e.1, .int .u64 e.2.1, .bool e.2.2.1, .string e.2.2.2], .bool b]) ∧ Below w13.heap.size w13 w' from hg)
                    have HR := Lib.hid hr
                    clear hkk hlt7 hc7 y7 hg hr
                    go_wp2_with fail
                    refine HG4.out.mono ?_
                    rintro _ w14 ⟨rfl, hb14⟩
                    have HB14 := Lib.hid (HB13.out.trans (hb14.mono HB13.out.size))
                    obtain ⟨F, hF⟩ : ∃ Z, w14.alloc (.cells #[.string ⟨#[]⟩, .int .u64 0, .bool false, .string ⟨#[]⟩] 53) = Z := ⟨_, rfl⟩
                    have rF : F.heap[w14.heap.size]? = some (.cells #[.string ⟨#[]⟩, .int .u64 0, .bool false, .string ⟨#[]⟩] 53 (0, 0)) := by rw [← hF]; exact heap_alloc_new _ _
                    obtain ⟨⟨fy0, fy1, fy2, fy3⟩, fg0, fg1, fg2, fg3⟩ := cells4 rF
                    obtain ⟨Fa, hFa⟩ : ∃ Z4, (((F.setCell ⟨w14.heap.size, 0, none⟩ (.string e.1)).setCell ⟨w14.heap.size, 1, none⟩ (.int .u64 e.2.1)).setCell ⟨w14.heap.size, 2, none⟩ (.bool e.2.2.1)).setCell ⟨w14.heap.size, 3, none⟩ (.string e.2.2.2) = Z4 := ⟨_, rfl⟩
                    have qF : Fa.heap[w14.heap.size]? = some (.cells #[.string e.1, .int .u64 e.2.1, .bool e.2.2.1, .string e.2.2.2] 53 (0, 0)) := by rw [← hFa]; exact put4_heap rF
                    have bF : Below w14.heap.size w14 Fa := by
                      rw [← hFa, ← hF]
                      exact ((Below.refl _ _).alloc (Nat.le_refl _) _).trans ((put4_upd (S := fun k => k = w14.heap.size) _ _ _ _ _ rfl).bel (fun k hk => by omega) (by simp))
                    have BF := Lib.hid bF
                    have QF := Lib.hid qF
                    clear bF qF rF
                    have HBF := Lib.hid (HB14.out.trans (BF.out.mono HB14.out.size))
                    have Y14 := Lib.hid (cell_later (hb14.trans (BF.out.mono hb14.size)) Y7.out)
                    clear hb14 x7
                    go_wp2_with fail
                    go_loopw [28, 29] (fun s28 s29 wr => ∃ (j : Nat) (g : Bool), s28 = .bool g ∧ s29 = .int .i64 j ∧ j ≤ i ∧ (g = true ↔ kk ∈ ks.take j) ∧ Below Fa.heap.size Fa wr) (fun s28 s29 wr => i - (intOf s29).toNat)
                    case atStart => exact ⟨0, false, rfl, rfl, by omega, by simp, Below.refl _ _⟩
                    case round =>
                      obtain ⟨j, g, rfl, rfl, hj5, hgk, hbj⟩ := hrel
                      generalize wr = w15 at *
                      have HB15 := Lib.hid hbj
                      have HGK := Lib.hid hgk
                      have Y15 := Lib.hid (cell_later hbj Y14.out)
                      have i7 : (0 : Int) ≤ j := by omega
                      clear hbj hgk
                      by_cases hji : j < i
                      · have i8 : (j : Int) < i := by omega
                        obtain ⟨kj, hkj⟩ := getElem?_of_lt (l := ks) (by rw [HKN.out]; omega : j < ks.length)
                        obtain ⟨_, _, hA8, _, hc8⟩ := HS7.out.at hkj
                        injection hA8 with hA8
                        injection hA8 with q1 q2
                        subst q1
                        subst q2
                        have z7 : w7.cell? ⟨b7, o7 + j, none⟩ = some (.string kj) := by simpa using hc8 0 _ rfl
                        have YJ := Lib.hid (cell_later ((HB10.out.trans (HBF.out.mono HB10.out.size)).trans (HB15.out.mono (by have := HB10.out.size; have := HBF.out.size; omega))) z7)
                        have HTJ := Lib.hid (show ks.take (j + 1) = ks.take j ++ [kj] by rw [List.take_add_one, hkj]; rfl)
                        clear hc8 z7 hkj
                        cases g with
                        | true =>
                          go_wp2_with fail
                          refine wp_region_calmB 12 (by kernel_rfl) (by kernel_rfl) ?_
                          simp only [List.take_succ_cons, List.take_zero, List.drop_succ_cons, List.drop_zero]
                          refine chain0 ?_
                          refine @chain _ _ _ _ _ _ _ _ 219 (.bool true) (by rfl) (by rfl) (by exact fun W2 hW => run_mv (by rfl) (by exact eval_base (by kernel_rfl) (by rfl)) hW) ?_
                          refine @chain _ _ _ _ _ _ _ _ 220 (.bool true) (by rfl) (by rfl) (by exact fun W2 hW => run_mv (by rfl) (by exact eval_look (by kernel_rfl) (by kernel_rfl)) hW) ?_
                          refine @chainK _ _ _ _ _ _ _ _ 221 (by kernel_rfl) (by rfl) ?_
                          refine @chainK _ _ _ _ _ _ _ _ 222 (by kernel_rfl) (by rfl) ?_
                          refine @chainK _ _ _ _ _ _ _ _ 223 (by kernel_rfl) (by rfl) ?_
                          refine @chainK _ _ _ _ _ _ _ _ 224 (by kernel_rfl) (by rfl) ?_
                          refine @chainK _ _ _ _ _ _ _ _ 225 (by kernel_rfl) (by rfl) ?_
                          refine @chainK _ _ _ _ _ _ _ _ 226 (by kernel_rfl) (by rfl) ?_
                          refine @chainK _ _ _ _ _ _ _ _ 227 (by kernel_rfl) (by rfl) ?_
                          refine @chainK _ _ _ _ _ _ _ _ 228 (by kernel_rfl) (by rfl) ?_
                          refine @chainK _ _ _ _ _ _ _ _ 229 (by kernel_rfl) (by rfl) ?_
                          refine @chain _ _ _ _ _ _ _ _ 230 (.bool true) (by rfl) (by rfl) (by exact fun W2 hW => run_pkT (by rfl) (by exact eval_look (by kernel_rfl) (by kernel_rfl)) (by rfl) hW) ?_
                          refine calm_nil (fun W2 hW2 => ?_)
                          refine Eq.mpr (congrArg (fun a => wpList _ _ _ _ a W2) (show _ = (⟨#[Value.slice A dn c, Value.slice A1 n1 c1, Value.string key, Value.int IntKind.u64 q, undef, undef, undef, undef, u8, Value.pointer (some ⟨t, 0, none⟩), Value.slice A5 n1 c5, Value.int IntKind.i64 (n1 : Int), Value.slice (some ⟨b7, o7, none⟩) kn c7, Value.int IntKind.i64 (kn : Int), u14, u15, u16, u17, u18, Value.slice A10 fm c10, Value.bool true, Value.int IntKind.i64 (dl : Int), Value.int IntKind.i64 (fm : Int), u23, u24, Value.int IntKind.i64 (i : Int), Value.pointer (some ⟨w14.heap.size, 0, none⟩), Value.bool b, Value.bool true, Value.int IntKind.i64 (j : Int), Value.bool true, Value.bool false, Value.slice B ln d, Value.bool true, Value.bool false, Value.slice B ln d, Value.slice A1 n1 c1, Value.slice A dn c, Value.pointer (some ⟨t, 0, none⟩), Value.pointer (some ⟨t, 0, none⟩), Value.bool false, Value.slice A1 n1 c1, Value.slice A5 n1 c5, Value.int IntKind.i64 (n1 : Int), Value.slice A1 n1 c1, Value.int IntKind.i64 (n1 : Int), Value.bool false, u47, u48, u49, u50, u51, u52, u53, u54, u55, u56, u57, u58, u59, Value.slice A1 n1 c1, Value.string key, Value.slice (some ⟨b7, o7, none⟩) kn c7, Value.int IntKind.i64 (kn : Int), Value.slice (some ⟨b7, o7, none⟩) kn c7, Value.int IntKind.i64 (kn : Int), Value.bool false, u67, u68, u69, u70, u71, u72, u73, u74, u75, u76, u77, u78, u79, u80, u81, u82, u83, u84, u85, u86, u87, u88, u89, u90, u91, u92, u93, u94, u95, u96, u97, u98, u99, u100, u101, u102, u103, u104, u105, u106, u107, u108, u109, u110, u111, u112, u113, u114, u115, u116, u117, u118, u119, u120, u121, u122, u123, u124, u125, u126, u127, u128, u129, u130, u131, u132, u133, Value.tuple #[Value.slice A10 fm c10, Value.bool true], Value.pointer (some ⟨t, 0, none⟩), Value.string key, Value.int IntKind.u64 q, f, Value.tuple #[Value.slice A10 fm c10, Value.bool true], Value.slice A10 fm c10, Value.bool true, Value.bool true, Value.bool false, Value.int IntKind.i64 (fm : Int), Value.slice A10 fm c10, Value.int IntKind.i64 (fm : Int), Value.bool false, u148, u149, u150, u151, u152, u153, u154, u155, u156, u157, u158, u159, u160, u161, u162, u163, u164, u165, u166, u167, u168, u169, u170, u171, u172, u173, u174, u175, u176, u177, u178, u179, u180, u181, u182, u183, u184, u185, u186, u187, u188, u189, u190, u191, u192, u193, u194, u195, u196, u197, Value.int IntKind.i64 (i : Int), Value.slice (some ⟨b7, o7, none⟩) kn c7, Value.int IntKind.i64 (kn : Int), Value.bool true, u202, u203, Value.tuple #[Value.agg #[Value.string e.fst, Value.int IntKind.u64 e.snd.fst, Value.bool e.snd.snd.fst, Value.string e.snd.snd.snd], Value.bool b], Value.pointer (some ⟨t, 0, none⟩), Value.slice (some ⟨b7, o7, none⟩) kn c7, Value.int IntKind.i64 (i : Int), Value.pointer (some ⟨b7, o7 + i, none⟩), Value.string kk, Value.int IntKind.u64 q, Value.tuple #[Value.agg #[Value.string e.fst, Value.int IntKind.u64 e.snd.fst, Value.bool e.snd.snd.fst, Value.string e.snd.snd.snd], Value.bool b], Value.agg #[Value.string e.fst, Value.int IntKind.u64 e.snd.fst, Value.bool e.snd.snd.fst, Value.string e.snd.snd.snd], Value.bool b, Value.int IntKind.i64 (j : Int), Value.int IntKind.i64 (i : Int), Value.bool true, u217, u218, Value.bool true, Value.bool true, undef, undef, undef, undef, undef, undef, undef, undef, undef, Value.bool true, u231, u232, u233, u234, u235, u236, u237, u238, u239, u240, u241, u242, u243, u244, u245, undef, undef, undef, undef], []⟩ : Act) by kernel_rfl)) ?_
                          have HW2 := Lib.hid hW2
                          clear hW2
                          go_wp2
                          go_roundw
                          case rel => exact ⟨j + 1, true, by first | rfl | simp, by first | rfl | simp, by omega, by rw [HTJ.out]; first | exact ⟨fun _ => List.mem_append_left _ (by first | exact HGK.out.1 rfl | exact HGK.out.1 trivial), fun _ => rfl⟩ | exact List.mem_append_left _ (by first | exact HGK.out.1 rfl | exact HGK.out.1 trivial), HB15.out.trans (HW2.out.mono HB15.out.size)⟩
                          case measure => simp [intOf]; omega
                        | false =>
                          by_cases hkk2 : kj = kk
                          · have HKE := Lib.hid hkk2
                            clear hkk2
                            go_wp2_with fail
                            refine wp_region_calmB 12 (by kernel_rfl) (by kernel_rfl) ?_
                            simp only [List.take_succ_cons, List.take_zero, List.drop_succ_cons, List.drop_zero]
                            refine chain0 ?_
                            refine @chain _ _ _ _ _ _ _ _ 219 (.bool false) (by rfl) (by rfl) (by exact fun W2 hW => run_mv (by rfl) (by exact eval_base (by kernel_rfl) (by rfl)) hW) ?_
                            refine @chain _ _ _ _ _ _ _ _ 220 (.bool false) (by rfl) (by rfl) (by exact fun W2 hW => run_mv (by rfl) (by exact eval_look (by kernel_rfl) (by kernel_rfl)) hW) ?_
                            refine @chainG _ _ _ _ _ _ _ _ 221 (.slice (some ⟨b7, o7, none⟩) kn c7) (by kernel_rfl) (by rfl) (by exact fun W2 hW => run_mv (by rfl) (by exact eval_base (by kernel_rfl) (by rfl)) hW) ?_
                            refine @chainG _ _ _ _ _ _ _ _ 222 (.int .i64 (j : Int)) (by kernel_rfl) (by rfl) (by exact fun W2 hW => run_mv (by rfl) (by exact eval_base (by kernel_rfl) (by rfl)) hW) ?_
                            refine @chainG _ _ _ _ _ _ _ _ 223 (.pointer (some ⟨b7, o7 + j, none⟩)) (by kernel_rfl) (by rfl) (by exact fun W2 hW => run_ia (u := .slice (some ⟨b7, o7, none⟩) kn c7) (v := .int .i64 (j : Int)) (by rfl) (by exact eval_look (by kernel_rfl) (by kernel_rfl)) (by exact eval_look (by kernel_rfl) (by kernel_rfl)) (fun W => idxK_run _ _ _ _ _ (by omega) W) hW) ?_
                            refine @chainG _ _ _ _ _ _ _ _ 224 (.string kj) (by kernel_rfl) (by rfl) (by exact fun W2 hW => run_lw (by rfl) (by exact eval_look (by kernel_rfl) (by kernel_rfl)) (fun W hW => ldStr _ _ _ _ (cell_later hW YJ.out)) hW) ?_
                            refine @chainG _ _ _ _ _ _ _ _ 225 (.slice (some ⟨b7, o7, none⟩) kn c7) (by kernel_rfl) (by rfl) (by exact fun W2 hW => run_mv (by rfl) (by exact eval_base (by kernel_rfl) (by rfl)) hW) ?_
                            refine @chainG _ _ _ _ _ _ _ _ 226 (.int .i64 (i : Int)) (by kernel_rfl) (by rfl) (by exact fun W2 hW => run_mv (by rfl) (by exact eval_base (by kernel_rfl) (by rfl)) hW) ?_
                            refine @chainG _ _ _ _ _ _ _ _ 227 (.pointer (some ⟨b7, o7 + i, none⟩)) (by kernel_rfl) (by rfl) (by exact fun W2 hW => run_ia (u := .slice (some ⟨b7, o7, none⟩) kn c7) (v := .int .i64 (i : Int)) (by rfl) (by exact eval_look (by kernel_rfl) (by kernel_rfl)) (by exact eval_look (by kernel_rfl) (by kernel_rfl)) (fun W => idxK_run _ _ _ _ _ (by omega) W) hW) ?_
                            refine @chainG _ _ _ _ _ _ _ _ 228 (.string kk) (by kernel_rfl) (by rfl) (by exact fun W2 hW => run_lw (by rfl) (by exact eval_look (by kernel_rfl) (by kernel_rfl)) (fun W hW => ldStr _ _ _ _ (cell_later hW Y15.out)) hW) ?_
                            refine @chainG _ _ _ _ _ _ _ _ 229 (.bool true) (by kernel_rfl) (by rfl) (by exact fun W2 hW => run_bo (u := .string kj) (v := .string kk) (by rfl) (by exact eval_look (by kernel_rfl) (by kernel_rfl)) (by exact eval_look (by kernel_rfl) (by kernel_rfl)) (fun W => eqlS_yes _ _ _ _ _ HKE.out W) hW) ?_
                            refine @chain _ _ _ _ _ _ _ _ 230 (.bool true) (by rfl) (by rfl) (by exact fun W2 hW => run_pkF (by rfl) (by exact eval_look (by kernel_rfl) (by kernel_rfl)) (by exact eval_look (by kernel_rfl) (by kernel_rfl)) hW) ?_
                            refine calm_nil (fun W2 hW2 => ?_)
                            refine Eq.mpr (congrArg (fun a => wpList _ _ _ _ a W2) (show _ = (⟨#[Value.slice A dn c, Value.slice A1 n1 c1, Value.string key, Value.int IntKind.u64 q, undef, undef, undef, undef, u8, Value.pointer (some ⟨t, 0, none⟩), Value.slice A5 n1 c5, Value.int IntKind.i64 (n1 : Int), Value.slice (some ⟨b7, o7, none⟩) kn c7, Value.int IntKind.i64 (kn : Int), u14, u15, u16, u17, u18, Value.slice A10 fm c10, Value.bool true, Value.int IntKind.i64 (dl : Int), Value.int IntKind.i64 (fm : Int), u23, u24, Value.int IntKind.i64 (i : Int), Value.pointer (some ⟨w14.heap.size, 0, none⟩), Value.bool b, Value.bool false, Value.int IntKind.i64 (j : Int), Value.bool true, Value.bool false, Value.slice B ln d, Value.bool true, Value.bool false, Value.slice B ln d, Value.slice A1 n1 c1, Value.slice A dn c, Value.pointer (some ⟨t, 0, none⟩), Value.pointer (some ⟨t, 0, none⟩), Value.bool false, Value.slice A1 n1 c1, Value.slice A5 n1 c5, Value.int IntKind.i64 (n1 : Int), Value.slice A1 n1 c1, Value.int IntKind.i64 (n1 : Int), Value.bool false, u47, u48, u49, u50, u51, u52, u53, u54, u55, u56, u57, u58, u59, Value.slice A1 n1 c1, Value.string key, Value.slice (some ⟨b7, o7, none⟩) kn c7, Value.int IntKind.i64 (kn : Int), Value.slice (some ⟨b7, o7, none⟩) kn c7, Value.int IntKind.i64 (kn : Int), Value.bool false, u67, u68, u69, u70, u71, u72, u73, u74, u75, u76, u77, u78, u79, u80, u81, u82, u83, u84, u85, u86, u87, u88, u89, u90, u91, u92, u93, u94, u95, u96, u97, u98, u99, u100, u101, u102, u103, u104, u105, u106, u107, u108, u109, u110, u111, u112, u113, u114, u115, u116, u117, u118, u119, u120, u121, u122, u123, u124, u125, u126, u127, u128, u129, u130, u131, u132, u133, Value.tuple #[Value.slice A10 fm c10, Value.bool true], Value.pointer (some ⟨t, 0, none⟩), Value.string key, Value.int IntKind.u64 q, f, Value.tuple #[Value.slice A10 fm c10, Value.bool true], Value.slice A10 fm c10, Value.bool true, Value.bool true, Value.bool false, Value.int IntKind.i64 (fm : Int), Value.slice A10 fm c10, Value.int IntKind.i64 (fm : Int), Value.bool false, u148, u149, u150, u151, u152, u153, u154, u155, u156, u157, u158, u159, u160, u161, u162, u163, u164, u165, u166, u167, u168, u169, u170, u171, u172, u173, u174, u175, u176, u177, u178, u179, u180, u181, u182, u183, u184, u185, u186, u187, u188, u189, u190, u191, u192, u193, u194, u195, u196, u197, Value.int IntKind.i64 (i : Int), Value.slice (some ⟨b7, o7, none⟩) kn c7, Value.int IntKind.i64 (kn : Int), Value.bool true, u202, u203, Value.tuple #[Value.agg #[Value.string e.fst, Value.int IntKind.u64 e.snd.fst, Value.bool e.snd.snd.fst, Value.string e.snd.snd.snd], Value.bool b], Value.pointer (some ⟨t, 0, none⟩), Value.slice (some ⟨b7, o7, none⟩) kn c7, Value.int IntKind.i64 (i : Int), Value.pointer (some ⟨b7, o7 + i, none⟩), Value.string kk, Value.int IntKind.u64 q, Value.tuple #[Value.agg #[Value.string e.fst, Value.int IntKind.u64 e.snd.fst, Value.bool e.snd.snd.fst, Value.string e.snd.snd.snd], Value.bool b], Value.agg #[Value.string e.fst, Value.int IntKind.u64 e.snd.fst, Value.bool e.snd.snd.fst, Value.string e.snd.snd.snd], Value.bool b, Value.int IntKind.i64 (j : Int), Value.int IntKind.i64 (i : Int), Value.bool true, u217, u218, Value.bool false, Value.bool false, Value.slice (some ⟨b7, o7, none⟩) kn c7, Value.int IntKind.i64 (j : Int), Value.pointer (some ⟨b7, o7 + j, none⟩), Value.string kj, Value.slice (some ⟨b7, o7, none⟩) kn c7, Value.int IntKind.i64 (i : Int), Value.pointer (some ⟨b7, o7 + i, none⟩), Value.string kk, Value.bool true, Value.bool true, u231, u232, u233, u234, u235, u236, u237, u238, u239, u240, u241, u242, u243, u244, u245, undef, undef, undef, undef], []⟩ : Act) by kernel_rfl)) ?_
                            have HW2 := Lib.hid hW2
                            clear hW2
                            go_wp2
                            go_roundw
                            case rel => exact ⟨j + 1, true, by first | rfl | simp, by first | rfl | simp, by omega, by rw [HTJ.out]; simp [HKE.out], HB15.out.trans (HW2.out.mono HB15.out.size)⟩
                            case measure => simp [intOf]; omega
                          · have HKE := Lib.hid hkk2
                            clear hkk2
                            go_wp2_with fail
                            refine wp_region_calmB 12 (by kernel_rfl) (by kernel_rfl) ?_
                            simp only [List.take_succ_cons, List.take_zero, List.drop_succ_cons, List.drop_zero]
                            refine chain0 ?_
                            refine @chain _ _ _ _ _ _ _ _ 219 (.bool false) (by rfl) (by rfl) (by exact fun W2 hW => run_mv (by rfl) (by exact eval_base (by kernel_rfl) (by rfl)) hW) ?_
                            refine @chain _ _ _ _ _ _ _ _ 220 (.bool false) (by rfl) (by rfl) (by exact fun W2 hW => run_mv (by rfl) (by exact eval_look (by kernel_rfl) (by kernel_rfl)) hW) ?_
                            refine @chainG _ _ _ _ _ _ _ _ 221 (.slice (some ⟨b7, o7, none⟩) kn c7) (by kernel_rfl) (by rfl) (by exact fun W2 hW => run_mv (by rfl) (by exact eval_base (by kernel_rfl) (by rfl)) hW) ?_
                            refine @chainG _ _ _ _ _ _ _ _ 222 (.int .i64 (j : Int)) (by kernel_rfl) (by rfl) (by exact fun W2 hW => run_mv (by rfl) (by exact eval_base (by kernel_rfl) (by rfl)) hW) ?_
                            refine @chainG _ _ _ _ _ _ _ _ 223 (.pointer (some ⟨b7, o7 + j, none⟩)) (by kernel_rfl) (by rfl) (by exact fun W2 hW => run_ia (u := .slice (some ⟨b7, o7, none⟩) kn c7) (v := .int .i64 (j : Int)) (by rfl) (by exact eval_look (by kernel_rfl) (by kernel_rfl)) (by exact eval_look (by kernel_rfl) (by kernel_rfl)) (fun W => idxK_run _ _ _ _ _ (by omega) W) hW) ?_
                            refine @chainG _ _ _ _ _ _ _ _ 224 (.string kj) (by kernel_rfl) (by rfl) (by exact fun W2 hW => run_lw (by rfl) (by exact eval_look (by kernel_rfl) (by kernel_rfl)) (fun W hW => ldStr _ _ _ _ (cell_later hW YJ.out)) hW) ?_
                            refine @chainG _ _ _ _ _ _ _ _ 225 (.slice (some ⟨b7, o7, none⟩) kn c7) (by kernel_rfl) (by rfl) (by exact fun W2 hW => run_mv (by rfl) (by exact eval_base (by kernel_rfl) (by rfl)) hW) ?_
                            refine @chainG _ _ _ _ _ _ _ _ 226 (.int .i64 (i : Int)) (by kernel_rfl) (by rfl) (by exact fun W2 hW => run_mv (by rfl) (by exact eval_base (by kernel_rfl) (by rfl)) hW) ?_
                            refine @chainG _ _ _ _ _ _ _ _ 227 (.pointer (some ⟨b7, o7 + i, none⟩)) (by kernel_rfl) (by rfl) (by exact fun W2 hW => run_ia (u := .slice (some ⟨b7, o7, none⟩) kn c7) (v := .int .i64 (i : Int)) (by rfl) (by exact eval_look (by kernel_rfl) (by kernel_rfl)) (by exact eval_look (by kernel_rfl) (by kernel_rfl)) (fun W => idxK_run _ _ _ _ _ (by omega) W) hW) ?_
                            refine @chainG _ _ _ _ _ _ _ _ 228 (.string kk) (by kernel_rfl) (by rfl) (by exact fun W2 hW => run_lw (by rfl) (by exact eval_look (by kernel_rfl) (by kernel_rfl)) (fun W hW => ldStr _ _ _ _ (cell_later hW Y15.out)) hW) ?_
                            refine @chainG _ _ _ _ _ _ _ _ 229 (.bool false) (by kernel_rfl) (by rfl) (by exact fun W2 hW => run_bo (u := .string kj) (v := .string kk) (by rfl) (by exact eval_look (by kernel_rfl) (by kernel_rfl)) (by exact eval_look (by kernel_rfl) (by kernel_rfl)) (fun W => eqlS_no _ _ _ _ _ HKE.out W) hW) ?_
                            refine @chain _ _ _ _ _ _ _ _ 230 (.bool false) (by rfl) (by rfl) (by exact fun W2 hW => run_pkF (by rfl) (by exact eval_look (by kernel_rfl) (by kernel_rfl)) (by exact eval_look (by kernel_rfl) (by kernel_rfl)) hW) ?_
                            refine calm_nil (fun W2 hW2 => ?_)
                            refine Eq.mpr (congrArg (fun a => wpList _ _ _ _ a W2) (show _ = (⟨#[Value.slice A dn c, Value.slice A1 n1 c1, Value.string key, Value.int IntKind.u64 q, undef, undef, undef, undef, u8, Value.pointer (some ⟨t, 0, none⟩), Value.slice A5 n1 c5, Value.int IntKind.i64 (n1 : Int), Value.slice (some ⟨b7, o7, none⟩) kn c7, Value.int IntKind.i64 (kn : Int), u14, u15, u16, u17, u18, Value.slice A10 fm c10, Value.bool true, Value.int IntKind.i64 (dl : Int), Value.int IntKind.i64 (fm : Int), u23, u24, Value.int IntKind.i64 (i : Int), Value.pointer (some ⟨w14.heap.size, 0, none⟩), Value.bool b, Value.bool false, Value.int IntKind.i64 (j : Int), Value.bool true, Value.bool false, Value.slice B ln d, Value.bool true, Value.bool false, Value.slice B ln d, Value.slice A1 n1 c1, Value.slice A dn c, Value.pointer (some ⟨t, 0, none⟩), Value.pointer (some ⟨t, 0, none⟩), Value.bool false, Value.slice A1 n1 c1, Value.slice A5 n1 c5, Value.int IntKind.i64 (n1 : Int), Value.slice A1 n1 c1, Value.int IntKind.i64 (n1 : Int), Value.bool false, u47, u48, u49, u50, u51, u52, u53, u54, u55, u56, u57, u58, u59, Value.slice A1 n1 c1, Value.string key, Value.slice (some ⟨b7, o7, none⟩) kn c7, Value.int IntKind.i64 (kn : Int), Value.slice (some ⟨b7, o7, none⟩) kn c7, Value.int IntKind.i64 (kn : Int), Value.bool false, u67, u68, u69, u70, u71, u72, u73, u74, u75, u76, u77, u78, u79, u80, u81, u82, u83, u84, u85, u86, u87, u88, u89, u90, u91, u92, u93, u94, u95, u96, u97, u98, u99, u100, u101, u102, u103, u104, u105, u106, u107, u108, u109, u110, u111, u112, u113, u114, u115, u116, u117, u118, u119, u120, u121, u122, u123, u124, u125, u126, u127, u128, u129, u130, u131, u132, u133, Value.tuple #[Value.slice A10 fm c10, Value.bool true], Value.pointer (some ⟨t, 0, none⟩), Value.string key, Value.int IntKind.u64 q, f, Value.tuple #[Value.slice A10 fm c10, Value.bool true], Value.slice A10 fm c10, Value.bool true, Value.bool true, Value.bool false, Value.int IntKind.i64 (fm : Int), Value.slice A10 fm c10, Value.int IntKind.i64 (fm : Int), Value.bool false, u148, u149, u150, u151, u152, u153, u154, u155, u156, u157, u158, u159, u160, u161, u162, u163, u164, u165, u166, u167, u168, u169, u170, u171, u172, u173, u174, u175, u176, u177, u178, u179, u180, u181, u182, u183, u184, u185, u186, u187, u188, u189, u190, u191, u192, u193, u194, u195, u196, u197, Value.int IntKind.i64 (i : Int), Value.slice (some ⟨b7, o7, none⟩) kn c7, Value.int IntKind.i64 (kn : Int), Value.bool true, u202, u203, Value.tuple #[Value.agg #[Value.string e.fst, Value.int IntKind.u64 e.snd.fst, Value.bool e.snd.snd.fst, Value.string e.snd.snd.snd], Value.bool b], Value.pointer (some ⟨t, 0, none⟩), Value.slice (some ⟨b7, o7, none⟩) kn c7, Value.int IntKind.i64 (i : Int), Value.pointer (some ⟨b7, o7 + i, none⟩), Value.string kk, Value.int IntKind.u64 q, Value.tuple #[Value.agg #[Value.string e.fst, Value.int IntKind.u64 e.snd.fst, Value.bool e.snd.snd.fst, Value.string e.snd.snd.snd], Value.bool b], Value.agg #[Value.string e.fst, Value.int IntKind.u64 e.snd.fst, Value.bool e.snd.snd.fst, Value.string e.snd.snd.snd], Value.bool b, Value.int IntKind.i64 (j : Int), Value.int IntKind.i64 (i : Int), Value.bool true, u217, u218, Value.bool false, Value.bool false, Value.slice (some ⟨b7, o7, none⟩) kn c7, Value.int IntKind.i64 (j : Int), Value.pointer (some ⟨b7, o7 + j, none⟩), Value.string kj, Value.slice (some ⟨b7, o7, none⟩) kn c7, Value.int IntKind.i64 (i : Int), Value.pointer (some ⟨b7, o7 + i, none⟩), Value.string kk, Value.bool false, Value.bool false, u231, u232, u233, u234, u235, u236, u237, u238, u239, u240, u241, u242, u243, u244, u245, undef, undef, undef, undef], []⟩ : Act) by kernel_rfl)) ?_
                            have HW2 := Lib.hid hW2
                            clear hW2
                            go_wp2
                            go_roundw
                            case rel => exact ⟨j + 1, false, by first | rfl | simp, by first | rfl | simp, by omega, by rw [HTJ.out, List.mem_append, List.mem_singleton]; exact ⟨fun h => by (cases h), fun h => h.elim HGK.out.2 (fun h => (HKE.out h.symm).elim)⟩, HB15.out.trans (HW2.out.mono HB15.out.size)⟩
                            case measure => simp [intOf]; omega
                      · have hji2 : i = j := by omega
                        clear hji hj5 i7
                        subst hji2
                        have x15 := Y15.out
                        have HBZ := Lib.hid (HBF.out.trans (HB15.out.mono HBF.out.size))
                        have HGD := Lib.hid (show good M.L key q kk = (b && !(Op.bytesLess kk.toList key.toList)) by unfold good; rw [HR.out])
                        have hdk : (dl : Int) ≤ 961 := by omega
                        have hd0 : (0 : Int) ≤ dl := by omega
                        cases b with
                        | false =>
                          go_wp2
                          go_roundw
                          case rel => exact ⟨i + 1, D, by rw [HDL.out], by first | rfl | simp, by omega, by rw [HTK.out]; exact HCN.out.same (.inl HGD.out), by rw [HDL.out]; omega, HBZ.out⟩
                          case measure => simp [intOf]; omega
                        | true =>
                          obtain ⟨ls, hls⟩ : ∃ x, Op.bytesLess kk.toList key.toList = x := ⟨_, rfl⟩
                          rw [hls] at HGD
                          cases ls with
                          | true =>
                            go_wp2
                            go_roundw
                            case rel => exact ⟨i + 1, D, by rw [HDL.out], by first | rfl | simp, by omega, by rw [HTK.out]; exact HCN.out.same (.inl HGD.out), by rw [HDL.out]; omega, HBZ.out⟩
                            case measure => simp [intOf]; omega
                          | false =>
                            cases g with
                            | true =>
                              go_wp2
                              go_roundw
                              case rel => exact ⟨i + 1, D, by rw [HDL.out], by first | rfl | simp, by omega, by rw [HTK.out]; exact HCN.out.same (.inr (by first | exact HGK.out.1 rfl | exact HGK.out.1 trivial)), by rw [HDL.out]; omega, HBZ.out⟩
                              case measure => simp [intOf]; omega
                            | false =>
                              go_wp2
                              go_roundw
                              case rel => exact ⟨i + 1, kk :: D, by rw [List.length_cons, HDL.out]; first | rfl | simp, by first | rfl | simp, by omega, by rw [HTK.out]; exact HCN.out.more HGD.out (fun h => by have := HGK.out.2 h; cases this), by rw [List.length_cons, HDL.out]; omega, HBZ.out⟩
                              case measure => simp [intOf]; omega
                  · have hik4 : kn = i := by omega
                    clear hin4 hi4
                    subst hik4
                    have hde : dl = fm := by
                      have h1 := HCN.out
                      rw [List.take_of_length_le (by rw [HKN.out]; exact Nat.le_refl _)] at h1
                      rw [← HDL.out, ← HFM.out]
                      exact h1.fr HFR.out HIN.out
                    clear hdl
                    subst hde
                    go_wp2
                    go_ret
                    exact ⟨rfl, HB7.out.trans ((HB10.out.trans (HB13.out.mono HB10.out.size)).mono HB7.out.size)⟩
theorem memReads_w (A : Option Addr) (c : Nat) (draws : List Int) (B : Option Addr) (d : Nat) (l : List (List Wri)) (key : ByteArray) (q : Int) (w : World) (ha : Sl encB 1 w A draws) (hal : draws.length < 140737488351233) (hby : ∀ x ∈ draws, U8 x) (hb : ∃ L : List HW, L.map (·.2.2) = l ∧ Sl2 w B L) :
    Calls Try.prog 8 #[.slice A draws.length c, .slice B l.length d, .string key, .int .u64 q] w fun e w' => e = .returned (.bool true) ∧ Below w.heap.size w w' := by
  obtain ⟨L, rfl, hL⟩ := hb
  rw [List.length_map]
  exact memReads_c A c draws B d L key q w ha hal hby hL
end Go.Proofs.Ytjbbobhjomhnmaa.H
