/- MemSeen's walk (printed by genme17.py). Conditions: sizes. -/
import Derived.Test.YtjbbobhjomhnmaaMe16
namespace Go.Proofs.Ytjbbobhjomhnmaa.H
open Go Go.RowKit Go.Deep Go.Shelf Go.Proofs Go.Proofs.YtjbbobhjomhnmaaW.PrintWords
set_option linter.unusedVariables false
set_option linter.unusedSimpArgs false
theorem addU_run (t : TypeId) (x y : Operand) (a b : Int) (h : 0 ≤ a + b ∧ a + b ≤ 18446744073709551615) (W : World) : (do eqGuard .add t x y (.int .u64 a) (.int .u64 b); binOp .add t (.int .u64 a) (.int .u64 b) : Sem Value).run Try.prog W = .ok (.int .u64 (a + b)) W := by
  have h2 : IntKind.u64.wrap (a + b) = a + b := by rw [IntKind.wrap_u64]; omega
  go_simp
theorem convU_run (a : Int) (h : 0 ≤ a ∧ a ≤ 9223372036854775807) (W : World) : (convert 3 51 (.int .i64 a)).run Try.prog W = .ok (.int .u64 a) W := by
  have h2 : IntKind.u64.wrap a = a := by rw [IntKind.wrap_u64]; omega
  go_simp
set_option maxHeartbeats 12800000 in
set_option maxRecDepth 100000 in
theorem memSeen_c (A : Option Addr) (c : Nat) (draws : List Int) (B : Option Addr) (d : Nat) (l : List HW) (Am : Option Addr) (mc : Nat) (more : List Wri) (key : ByteArray) (q : Int) (w : World) (ha : Sl encB 1 w A draws) (hal : draws.length < 140737488351233) (hby : ∀ x ∈ draws, U8 x) (hb : Sl2 w B l) (hmo : Sl encW 3 w Am more) (hq0 : 0 ≤ q) (hq1 : q ≤ 18446744073709551615) :
    Calls Try.prog 9 #[.slice A draws.length c, .slice B l.length d, .slice Am more.length mc, .string key, .int .u64 q] w fun e w' => e = .returned (.bool true) ∧ Below w.heap.size w w' := by
  have HK := Lib.hid (known6_c w)
  have HMO := Lib.hid (fun (w1 : World) (hb1 : Below w.heap.size w w1) => hmo.later hb1)
  have HNEW := Lib.hid (fun (w1 : World) (hb1 : Below w.heap.size w w1) => mnew_c A c draws w1 (ha.later hb1) hal hby)
  have HGR := Lib.hid (fun (w1 : World) (hb1 : Below w.heap.size w w1) => groups_c B d l w1 (hb.later hb1))
  have HBA := Lib.hid (fun (w1 : World) (hb1 : Below w.heap.size w w1) => batches_c B d l w1 (hb.later hb1))
  obtain ⟨dn, hdn⟩ : ∃ n, draws.length = n := ⟨_, rfl⟩
  obtain ⟨ln, hln⟩ : ∃ n, l.length = n := ⟨_, rfl⟩
  obtain ⟨mn, hmn⟩ : ∃ n, more.length = n := ⟨_, rfl⟩
  rw [hdn] at HNEW ⊢
  rw [hln] at HGR HBA ⊢
  have HMN := Lib.hid hmn
  have HRI := Lib.hid (fun (w1 : World) (hb1 : Below w.heap.size w w1) => right_c Am mc more w1 (HMO.out w1 hb1))
  have HG2 := Lib.hid (fun (w1 : World) (hb1 : Below w.heap.size w w1) => groups_c (some ⟨w1.heap.size, 0, none⟩) 1 [(Am, mc, more)] (w1.alloc (.cells #[.slice Am mn mc] 87)) ⟨Sl.one okH w1 _ _ (by rw [← hmn]; rfl), fun x hx => by rw [List.mem_singleton.1 hx]; exact (HMO.out w1 hb1).later ((Below.refl _ _).alloc (Nat.le_refl _) _)⟩)
  rw [hmn] at HRI ⊢
  clear ha hal hby hb hdn hln hmo hmn
  go_enter Try.func9, Try.ntmps9
  go_wp2_with fail
  refine HK.out.mono ?_
  rintro _ w1 ⟨rfl, hb1⟩
  have HB1 := Lib.hid hb1
  clear hb1
  go_wp2_with fail
  refine (HGR.out w1 HB1.out).mono ?_
  rintro _ w0 ⟨⟨b, rfl⟩, hb2⟩
  have HB0 := Lib.hid (HB1.out.trans (hb2.mono HB1.out.size))
  clear hb2
  rcases b with _ | _
  · go_wp2
    go_ret
    exact ⟨rfl, HB0.out⟩
  go_wp2_with fail
  refine (HG2.out w0 HB0.out).mono ?_
  rintro _ w2 ⟨⟨b, rfl⟩, hb2⟩
  have HB2 := Lib.hid (HB0.out.trans ((((Below.refl w0.heap.size w0).alloc (Nat.le_refl _) _).trans (hb2.mono (by simp))).mono HB0.out.size))
  clear hb2
  rcases b with _ | _
  · go_wp2
    go_ret
    exact ⟨rfl, HB2.out⟩
  go_wp2_with fail
  refine (HBA.out w2 HB2.out).mono ?_
  rintro _ w3 ⟨v1, rfl, L1, hL1, hmade, hb3⟩
  obtain ⟨A1, c1, rfl⟩ := own_slice hmade.own
  have HFIT := Lib.hid (show Fit (L1.map (·.2.2)) by rw [hL1]; exact batch_fit _)
  obtain ⟨BB, hBB⟩ : ∃ X, L1.map (·.2.2) = X := ⟨_, rfl⟩
  obtain ⟨n1, hn1⟩ : ∃ n, L1.length = n := ⟨_, rfl⟩
  have hbn : BB.length = n1 := by rw [← hBB, List.length_map, hn1]
  rw [hBB] at HFIT
  have HMADE := Lib.hid hmade
  have HB3 := Lib.hid (HB2.out.trans (hb3.mono HB2.out.size))
  have hn60 : n1 ≤ 60 := by rw [← hbn]; exact HFIT.out.len
  have HNU := Lib.hid (fun (w : World) (hs : Sl2 w A1 L1) => numbered_c A1 c1 L1 5 w hs (by decide) (by rw [hBB]; have := HFIT.out.tot; omega) (by omega))
  rw [hBB, hn1] at HNU
  rw [hn1] at HMADE ⊢
  have HBBE := Lib.hid hBB
  have HN1 := Lib.hid hn1
  have HBN := Lib.hid hbn
  clear hL1 hmade hb3 hBB hn1 hbn
  go_wp2_with fail
  refine (HRI.out w3 HB3.out).mono ?_
  rintro _ w6 ⟨v6, rfl, hown6, hb6⟩
  obtain ⟨A6, c6, rfl⟩ := own_slice hown6
  obtain ⟨rm, hrm⟩ : ∃ X, rightL more = X := ⟨_, rfl⟩
  have hrf := right_fit more
  rw [hrm] at hown6 hrf ⊢
  obtain ⟨rn, hrn⟩ : ∃ X, rm.length = X := ⟨_, rfl⟩
  rw [hrn] at hrf ⊢
  have HRN := Lib.hid hrn
  have HO6 := Lib.hid hown6
  have HRF := Lib.hid hrf
  have hr16 : rn ≤ 16 := hrf.1
  have HB6 := Lib.hid (HB3.out.trans (hb6.mono HB3.out.size))
  have HMADE6 := Lib.hid (HMADE.out.later hb6)
  have H36 := Lib.hid hb6.size
  clear hown6 hb6 hrm hrf hrn
  go_wp2_with fail
  refine (HNEW.out w6 HB6.out).mono ?_
  rintro _ w4 ⟨t, g, S0, rfl, hm0, hS0, ht0, hb4⟩
  have HM0 := Lib.hid hm0
  have HS0 := Lib.hid hS0
  have HT0 := Lib.hid ht0
  have HB4 := Lib.hid (HB6.out.trans (hb4.mono HB6.out.size))
  have HB64 := Lib.hid hb4
  have HMADE4 := Lib.hid (HMADE6.out.later hb4)
  clear hm0 hS0 ht0 hb4
  go_wp2_with fail
  refine (HNU.out w4 HMADE4.out.sl2.2).mono ?_
  rintro _ w5 ⟨v5, rfl, hown5, hb5⟩
  obtain ⟨A5, c5, rfl⟩ := own_slice hown5
  rw [numL_len]
  have HO5 := Lib.hid hown5
  have HB45 := Lib.hid hb5
  have HB5 := Lib.hid (HB4.out.trans (hb5.mono HB4.out.size))
  clear hown5 hb5
  go_wp2_with fail
  have HFAR1 := Lib.hid (show ∀ k, w2.heap.size ≤ k → k < w3.heap.size → ¬ (S0 k ∨ k = t) from fun k _ h2 h => by
    rcases h with h | h
    · have := HS0.out k h; have := H36.out; omega
    · have := HT0.out; have := H36.out; omega)
  have HFAR5 := Lib.hid (show ∀ k, w4.heap.size ≤ k → k < w5.heap.size → ¬ (S0 k ∨ k = t) from fun k h1 _ h => by
    rcases h with h | h
    · have := HM0.out.list.lt k h; omega
    · have := blk_lt HM0.out.row; omega)
  have HSL1 := Lib.hid (show ∀ W, Upd (fun j => S0 j ∨ j = t) w5 W → Sl2 W A1 L1 from fun W hW =>
    ⟨sl_stay (HMADE4.out.later HB45.out).sl2.2.1 hW (fun b o e => ownBlock_of HMADE.out.own b o e) HFAR1.out,
      fun x hx => sl_stay ((HMADE4.out.later HB45.out).rows x hx) hW (fun b o e => ⟨(HMADE.out.far x hx b o e).1, (HMADE.out.far x hx b o e).2.1⟩) HFAR1.out⟩)
  have HSL5 := Lib.hid (show ∀ W, Upd (fun j => S0 j ∨ j = t) w5 W → Sl encU 1 W A5 (numL 5 BB n1) from fun W hW => by
    obtain ⟨_, _, e, _, hs, _⟩ := HO5.out.slice (fun x => (okU x).1)
    injection e with e1 e2 e3
    rw [e1]
    exact sl_stay hs hW (fun b o e => ownBlock_of HO5.out b o (by rw [e1, e])) HFAR5.out)
  have HFAR6 := Lib.hid (show ∀ k, w3.heap.size ≤ k → k < w6.heap.size → ¬ (S0 k ∨ k = t) from fun k _ h2 h => by
    rcases h with h | h
    · have := HS0.out k h; omega
    · have := HT0.out; omega)
  have HSL6 := Lib.hid (show ∀ W, Upd (fun j => S0 j ∨ j = t) w5 W → Sl encW 3 W A6 rm from fun W hW => by
    obtain ⟨_, _, e, _, hs, _⟩ := HO6.out.slice (fun x => (okW x).1)
    injection e with e1 e2 e3
    rw [e1]
    exact sl_stay ((hs.later HB64.out).later HB45.out) hW (fun b o e => ownBlock_of HO6.out b o (by rw [e1, e])) HFAR6.out)
  go_loopw [13, 14] (fun s13 s14 wr => ∃ (k : Nat) (S : Nat → Prop), s13 = .int .u64 (5 + ((BB.take k).flatten.length : Int)) ∧ s14 = .int .i64 k ∧ k ≤ n1 ∧ MemIs wr t g S draws (memF draws 5 (BB.take k).flatten) ∧ (∀ j, S j → S0 j ∨ w5.heap.size ≤ j) ∧ Upd (fun j => S0 j ∨ j = t) w5 wr) (fun s13 s14 wr => n1 - (intOf s14).toNat)
  case atStart => exact ⟨0, S0, rfl, rfl, by omega, by simpa [memF, ents, addF] using HM0.out.later HB45.out, fun j h => .inl h, Upd.refl _ _⟩
  case round =>
    obtain ⟨k, S, rfl, rfl, hk, hm, hS, hu⟩ := hrel
    generalize wr = wq at *
    have HM := Lib.hid hm
    have HS := Lib.hid hS
    have HU := Lib.hid hu
    clear hm hS hu
    by_cases hkn : k < n1
    · obtain ⟨x, hx⟩ := getElem?_of_lt (l := L1) (by rw [HN1.out]; exact hkn : k < L1.length)
      have hs2 := HSL1.out wq HU.out
      have HXS := Lib.hid (hs2.2 x (List.mem_of_getElem? hx))
      have HXB := Lib.hid (show BB[k]? = some x.2.2 by rw [← HBBE.out, List.getElem?_map, hx]; rfl)
      obtain ⟨b2, o2, hA2, hl2, hc2⟩ := hs2.1.at hx
      obtain ⟨b5, o5, hA5, hl5, hc5⟩ := (HSL5.out wq HU.out).at (numL_at 5 BB hkn)
      have hf2 : ¬ (S b2 ∨ b2 = t) := fun h => by
        have h1 := ownBlock_of HMADE.out.own b2 o2 hA2
        have := HB64.out.size
        have := HB45.out.size
        have := H36.out
        rcases h with h | h
        · rcases HS.out b2 h with h | h
          · exact HFAR1.out b2 h1.1 h1.2 (.inl h)
          · omega
        · exact HFAR1.out b2 h1.1 h1.2 (.inr h)
      have hf5 : ¬ (S b5 ∨ b5 = t) := fun h => by
        have h1 := ownBlock_of HO5.out b5 o5 hA5
        rcases h with h | h
        · rcases HS.out b5 h with h | h
          · exact HFAR5.out b5 h1.1 h1.2 (.inl h)
          · omega
        · exact HFAR5.out b5 h1.1 h1.2 (.inr h)
      subst hA2
      subst hA5
      have y2 : wq.cell? ⟨b2, o2 + k, none⟩ = some (.slice x.1 x.2.2.length x.2.1) := by simpa using hc2 0 _ rfl
      have y5 : wq.cell? ⟨b5, o5 + k, none⟩ = some (.int .u64 (5 + (tot (BB.take k) : Int))) := by simpa using hc5 0 _ rfl
      rw [← flat_tot] at y5
      obtain ⟨xa, xc, xl⟩ := x
      simp only at y2
      obtain ⟨p, hp⟩ : ∃ p, (BB.take k).flatten = p := ⟨_, rfl⟩
      rw [hp] at y5 HM ⊢
      have HADD := Lib.hid (fun (W : World) (hW : Below wq.heap.size wq W) => addB_c 5 p xl (HM.out.later hW) xa xc (HXS.out.later hW) (HFIT.out.each xl (List.mem_of_getElem? HXB.out)).2.1 (HFIT.out.each xl (List.mem_of_getElem? HXB.out)).2.2 (by rw [← hp]; exact (HFIT.out.take k).flat) (by rw [← hp, flat_tot]; have := (HFIT.out.take k).tot; omega))
      have HPX := Lib.hid (show p.length ≤ 960 ∧ xl.length ≤ 16 from ⟨by rw [← hp, flat_tot]; exact (HFIT.out.take k).tot, (HFIT.out.each xl (List.mem_of_getElem? HXB.out)).1⟩)
      have HPS := Lib.hid (show (BB.take (k + 1)).flatten = p ++ xl by rw [flat_snoc HXB.out, hp])
      have i1 : (0 : Int) ≤ k := by omega
      have i2 : (k : Int) < n1 := by omega
      have Y2 := Lib.hid y2
      have Y5 := Lib.hid y5
      have F2 := Lib.hid hf2
      have F5 := Lib.hid hf5
      clear hx hs2 hc2 hc5 y2 y5 hp hf2 hf5 hl2 hl5
      go_wp2_with fail
      refine wp_region_calmB 9 (by kernel_rfl) (by kernel_rfl) ?_
      simp only [List.take_succ_cons, List.take_zero, List.drop_succ_cons, List.drop_zero]
      refine chain0 ?_
      refine @chain _ _ _ _ _ _ _ _ 53 (.pointer (some ⟨t, 0, none⟩)) (by rfl) (by rfl) (by exact fun W2 hW => run_mv (by rfl) (by exact eval_base (by kernel_rfl) (by rfl)) hW) ?_
      refine @chain _ _ _ _ _ _ _ _ 54 (.slice (some ⟨b5, o5, none⟩) n1 c5) (by rfl) (by rfl) (by exact fun W2 hW => run_mv (by rfl) (by exact eval_base (by kernel_rfl) (by rfl)) hW) ?_
      refine @chain _ _ _ _ _ _ _ _ 55 (.int .i64 (k : Int)) (by rfl) (by rfl) (by exact fun W2 hW => run_mv (by rfl) (by exact eval_base (by kernel_rfl) (by rfl)) hW) ?_
      refine @chain _ _ _ _ _ _ _ _ 56 (.pointer (some ⟨b5, o5 + k, none⟩)) (by rfl) (by rfl) (by exact fun W2 hW => run_ia (u := .slice (some ⟨b5, o5, none⟩) n1 c5) (v := .int .i64 (k : Int)) (by rfl) (by exact eval_look (by kernel_rfl) (by kernel_rfl)) (by exact eval_look (by kernel_rfl) (by kernel_rfl)) (fun W => idxU_run _ _ _ _ _ (by omega) W) hW) ?_
      refine @chain _ _ _ _ _ _ _ _ 57 (.int .u64 (5 + (p.length : Int))) (by rfl) (by rfl) (by exact fun W2 hW => run_lw (by rfl) (by exact eval_look (by kernel_rfl) (by kernel_rfl)) (fun W hW => ldU _ _ _ _ (cell_later hW Y5.out)) hW) ?_
      refine @chain _ _ _ _ _ _ _ _ 58 (.slice (some ⟨b2, o2, none⟩) n1 c1) (by rfl) (by rfl) (by exact fun W2 hW => run_mv (by rfl) (by exact eval_base (by kernel_rfl) (by rfl)) hW) ?_
      refine @chain _ _ _ _ _ _ _ _ 59 (.int .i64 (k : Int)) (by rfl) (by rfl) (by exact fun W2 hW => run_mv (by rfl) (by exact eval_base (by kernel_rfl) (by rfl)) hW) ?_
      refine @chain _ _ _ _ _ _ _ _ 60 (.pointer (some ⟨b2, o2 + k, none⟩)) (by rfl) (by rfl) (by exact fun W2 hW => run_ia (u := .slice (some ⟨b2, o2, none⟩) n1 c1) (v := .int .i64 (k : Int)) (by rfl) (by exact eval_look (by kernel_rfl) (by kernel_rfl)) (by exact eval_look (by kernel_rfl) (by kernel_rfl)) (fun W => idxB_run _ _ _ _ _ (by omega) W) hW) ?_
      refine @chain _ _ _ _ _ _ _ _ 61 (.slice xa xl.length xc) (by rfl) (by rfl) (by exact fun W2 hW => run_lw (by rfl) (by exact eval_look (by kernel_rfl) (by kernel_rfl)) (fun W hW => ldHw _ _ _ _ _ _ (cell_later hW Y2.out)) hW) ?_
      refine calm_nil (fun W2 hW2 => ?_)
      refine Eq.mpr (congrArg (fun a => wpList _ _ _ _ a W2) (show _ = (⟨#[Value.slice A dn c, Value.slice (some ⟨b2, o2, none⟩) n1 c1, Value.slice A6 rn c6, Value.string key, Value.int IntKind.u64 q, undef, undef, undef, undef, undef, Value.bool false, Value.pointer (some ⟨t, 0, none⟩), Value.slice (some ⟨b5, o5, none⟩) n1 c5, Value.int IntKind.u64 (5 + (p.length : Int)), Value.int IntKind.i64 (k : Int), undef, undef, undef, undef, undef, undef, undef, undef, undef, undef, undef, Value.bool true, Value.bool false, Value.slice B ln d, Value.bool true, Value.bool false, Value.bool false, Value.slice Am mn mc, Value.slice (some ⟨w0.heap.size, 0, none⟩) 1 1, Value.bool true, Value.bool false, Value.bool false, Value.slice B ln d, Value.slice (some ⟨b2, o2, none⟩) n1 c1, Value.slice Am mn mc, Value.slice A6 rn c6, Value.slice A dn c, Value.pointer (some ⟨t, 0, none⟩), Value.pointer (some ⟨t, 0, none⟩), Value.bool false, Value.slice (some ⟨b2, o2, none⟩) n1 c1, Value.slice (some ⟨b5, o5, none⟩) n1 c5, Value.int IntKind.i64 (k : Int), Value.slice (some ⟨b2, o2, none⟩) n1 c1, Value.int IntKind.i64 (n1 : Int), Value.bool true, u51, u52, Value.pointer (some ⟨t, 0, none⟩), Value.slice (some ⟨b5, o5, none⟩) n1 c5, Value.int IntKind.i64 (k : Int), Value.pointer (some ⟨b5, o5 + k, none⟩), Value.int IntKind.u64 (5 + (p.length : Int)), Value.slice (some ⟨b2, o2, none⟩) n1 c1, Value.int IntKind.i64 (k : Int), Value.pointer (some ⟨b2, o2 + k, none⟩), Value.slice xa xl.length xc, u62, u63, u64, u65, u66, u67, u68, u69, u70, u71, u72, u73, undef, undef, undef, undef, undef, undef, undef, undef, undef, undef, undef, undef, undef, undef, undef, undef, undef, undef, undef, undef, undef, undef, undef, undef, undef, undef, undef, undef, undef, undef, undef, undef, undef, undef, undef, undef, undef, undef, undef, undef, undef, undef, undef, undef, undef, undef, undef, undef, undef, undef, undef, undef, undef, undef, undef, undef, undef, undef, undef, undef, undef, undef, undef, undef, undef, undef, undef, undef, undef, undef, undef, undef, undef, undef, undef, undef, undef, undef, undef, undef, undef, undef, undef, undef, undef, undef, undef, undef, undef, undef, undef, undef, undef], []⟩ : Act) by kernel_rfl)) ?_
      have HW2 := Lib.hid hW2
      clear hW2
      go_wp2_with fail
      refine (HADD.out W2 HW2.out).mono ?_
      rintro _ wz ⟨rfl, hu1, S', hg, hm1⟩
      have HU1 := Lib.hid ((HU.out.trans (Upd.of_below HW2.out)).step hu1 (fun i hi => by
        rcases hi with hi | hi
        · rcases HS.out i hi with h | h
          · exact .inl (.inl h)
          · exact .inr h
        · exact .inl (.inr hi)))
      have HS1 := Lib.hid (show ∀ j, S' j → S0 j ∨ w5.heap.size ≤ j from fun j hj => by
        rcases hg j hj with h | h
        · exact HS.out j h
        · have := HU.out.size; have := HW2.out.size; exact .inr (by omega))
      have Z2 := Lib.hid (hu1.cell (cell_later HW2.out Y2.out) F2.out)
      have Z5 := Lib.hid (hu1.cell (cell_later HW2.out Y5.out) F5.out)
      have HM1 := Lib.hid hm1
      clear hu1 hg hm1
      go_wp2_with fail
      refine wp_region_calmB 11 (by kernel_rfl) (by kernel_rfl) ?_
      simp only [List.take_succ_cons, List.take_zero, List.drop_succ_cons, List.drop_zero]
      refine chain0 ?_
      refine @chain _ _ _ _ _ _ _ _ 63 (.slice (some ⟨b5, o5, none⟩) n1 c5) (by rfl) (by rfl) (by exact fun W2 hW => run_mv (by rfl) (by exact eval_base (by kernel_rfl) (by rfl)) hW) ?_
      refine @chain _ _ _ _ _ _ _ _ 64 (.int .i64 (k : Int)) (by rfl) (by rfl) (by exact fun W2 hW => run_mv (by rfl) (by exact eval_base (by kernel_rfl) (by rfl)) hW) ?_
      refine @chain _ _ _ _ _ _ _ _ 65 (.pointer (some ⟨b5, o5 + k, none⟩)) (by rfl) (by rfl) (by exact fun W2 hW => run_ia (u := .slice (some ⟨b5, o5, none⟩) n1 c5) (v := .int .i64 (k : Int)) (by rfl) (by exact eval_look (by kernel_rfl) (by kernel_rfl)) (by exact eval_look (by kernel_rfl) (by kernel_rfl)) (fun W => idxU_run _ _ _ _ _ (by omega) W) hW) ?_
      refine @chain _ _ _ _ _ _ _ _ 66 (.int .u64 (5 + (p.length : Int))) (by rfl) (by rfl) (by exact fun W2 hW => run_lw (by rfl) (by exact eval_look (by kernel_rfl) (by kernel_rfl)) (fun W hW => ldU _ _ _ _ (cell_later hW Z5.out)) hW) ?_
      refine @chain _ _ _ _ _ _ _ _ 67 (.slice (some ⟨b2, o2, none⟩) n1 c1) (by rfl) (by rfl) (by exact fun W2 hW => run_mv (by rfl) (by exact eval_base (by kernel_rfl) (by rfl)) hW) ?_
      refine @chain _ _ _ _ _ _ _ _ 68 (.int .i64 (k : Int)) (by rfl) (by rfl) (by exact fun W2 hW => run_mv (by rfl) (by exact eval_base (by kernel_rfl) (by rfl)) hW) ?_
      refine @chain _ _ _ _ _ _ _ _ 69 (.pointer (some ⟨b2, o2 + k, none⟩)) (by rfl) (by rfl) (by exact fun W2 hW => run_ia (u := .slice (some ⟨b2, o2, none⟩) n1 c1) (v := .int .i64 (k : Int)) (by rfl) (by exact eval_look (by kernel_rfl) (by kernel_rfl)) (by exact eval_look (by kernel_rfl) (by kernel_rfl)) (fun W => idxB_run _ _ _ _ _ (by omega) W) hW) ?_
      refine @chain _ _ _ _ _ _ _ _ 70 (.slice xa xl.length xc) (by rfl) (by rfl) (by exact fun W2 hW => run_lw (by rfl) (by exact eval_look (by kernel_rfl) (by kernel_rfl)) (fun W hW => ldHw _ _ _ _ _ _ (cell_later hW Z2.out)) hW) ?_
      refine @chain _ _ _ _ _ _ _ _ 71 (.int .i64 xl.length) (by rfl) (by rfl) (by exact fun W2 hW => run_ln (u := .slice xa xl.length xc) (by rfl) (by exact eval_look (by kernel_rfl) (by kernel_rfl)) (fun W => by go_simp) hW) ?_
      refine @chain _ _ _ _ _ _ _ _ 72 (.int .u64 (xl.length : Int)) (by rfl) (by rfl) (by exact fun W2 hW => run_cv (u := .int .i64 xl.length) (by rfl) (by exact eval_look (by kernel_rfl) (by kernel_rfl)) (fun W => convU_run _ (by have := HPX.out; omega) W) hW) ?_
      refine @chain _ _ _ _ _ _ _ _ 73 (.int .u64 (5 + (p.length : Int) + (xl.length : Int))) (by rfl) (by rfl) (by exact fun W2 hW => run_bo (u := .int .u64 (5 + (p.length : Int))) (v := .int .u64 (xl.length : Int)) (by rfl) (by exact eval_look (by kernel_rfl) (by kernel_rfl)) (by exact eval_look (by kernel_rfl) (by kernel_rfl)) (fun W => addU_run _ _ _ _ _ (by have := HPX.out; omega) W) hW) ?_
      refine calm_nil (fun W3 hW3 => ?_)
      refine Eq.mpr (congrArg (fun a => wpList _ _ _ _ a W3) (show _ = (⟨#[Value.slice A dn c, Value.slice (some ⟨b2, o2, none⟩) n1 c1, Value.slice A6 rn c6, Value.string key, Value.int IntKind.u64 q, undef, undef, undef, undef, undef, Value.bool false, Value.pointer (some ⟨t, 0, none⟩), Value.slice (some ⟨b5, o5, none⟩) n1 c5, Value.int IntKind.u64 (5 + (p.length : Int)), Value.int IntKind.i64 (k : Int), undef, undef, undef, undef, undef, undef, undef, undef, undef, undef, undef, Value.bool true, Value.bool false, Value.slice B ln d, Value.bool true, Value.bool false, Value.bool false, Value.slice Am mn mc, Value.slice (some ⟨w0.heap.size, 0, none⟩) 1 1, Value.bool true, Value.bool false, Value.bool false, Value.slice B ln d, Value.slice (some ⟨b2, o2, none⟩) n1 c1, Value.slice Am mn mc, Value.slice A6 rn c6, Value.slice A dn c, Value.pointer (some ⟨t, 0, none⟩), Value.pointer (some ⟨t, 0, none⟩), Value.bool false, Value.slice (some ⟨b2, o2, none⟩) n1 c1, Value.slice (some ⟨b5, o5, none⟩) n1 c5, Value.int IntKind.i64 (k : Int), Value.slice (some ⟨b2, o2, none⟩) n1 c1, Value.int IntKind.i64 (n1 : Int), Value.bool true, u51, u52, Value.pointer (some ⟨t, 0, none⟩), Value.slice (some ⟨b5, o5, none⟩) n1 c5, Value.int IntKind.i64 (k : Int), Value.pointer (some ⟨b5, o5 + k, none⟩), Value.int IntKind.u64 (5 + (p.length : Int)), Value.slice (some ⟨b2, o2, none⟩) n1 c1, Value.int IntKind.i64 (k : Int), Value.pointer (some ⟨b2, o2 + k, none⟩), Value.slice xa xl.length xc, Value.int IntKind.i64 0, Value.slice (some ⟨b5, o5, none⟩) n1 c5, Value.int IntKind.i64 (k : Int), Value.pointer (some ⟨b5, o5 + k, none⟩), Value.int IntKind.u64 (5 + (p.length : Int)), Value.slice (some ⟨b2, o2, none⟩) n1 c1, Value.int IntKind.i64 (k : Int), Value.pointer (some ⟨b2, o2 + k, none⟩), Value.slice xa xl.length xc, Value.int IntKind.i64 (xl.length : Int), Value.int IntKind.u64 (xl.length : Int), Value.int IntKind.u64 (5 + (p.length : Int) + (xl.length : Int)), undef, undef, undef, undef, undef, undef, undef, undef, undef, undef, undef, undef, undef, undef, undef, undef, undef, undef, undef, undef, undef, undef, undef, undef, undef, undef, undef, undef, undef, undef, undef, undef, undef, undef, undef, undef, undef, undef, undef, undef, undef, undef, undef, undef, undef, undef, undef, undef, undef, undef, undef, undef, undef, undef, undef, undef, undef, undef, undef, undef, undef, undef, undef, undef, undef, undef, undef, undef, undef, undef, undef, undef, undef, undef, undef, undef, undef, undef, undef, undef, undef, undef, undef, undef, undef, undef, undef, undef, undef, undef, undef, undef, undef], []⟩ : Act) by kernel_rfl)) ?_
      have HW3 := Lib.hid hW3
      clear hW3
      go_wp2
      go_roundw
      case rel => exact ⟨k + 1, S', by rw [HPS.out, List.length_append]; first | rfl | (congr 1; push_cast; omega), by first | rfl | simp, by omega, by rw [HPS.out]; exact HM1.out.later HW3.out, HS1.out, HU1.out.trans (Upd.of_below HW3.out)⟩
      case measure => simp [intOf]; omega
    · have hk2 : n1 = k := by omega
      clear hkn hk
      subst hk2
      rw [List.take_of_length_le (by rw [HBN.out]; exact Nat.le_refl _)] at HM ⊢
      obtain ⟨ws, hws⟩ : ∃ X, BB.flatten = X := ⟨_, rfl⟩
      rw [hws] at HM ⊢
      have hwf := HFIT.out.flat
      rw [hws] at hwf
      have hwl : ws.length ≤ 960 := by rw [← hws, flat_tot]; exact HFIT.out.tot
      obtain ⟨wn, hwn⟩ : ∃ X, ws.length = X := ⟨_, rfl⟩
      rw [hwn] at hwl ⊢
      have HWN := Lib.hid hwn
      have HWF := Lib.hid hwf
      have HBQ := Lib.hid (HU.out.below HB5.out (fun k hk => by
        have := HB6.out.size
        rcases hk with hk | hk
        · have := HS0.out k hk; omega
        · have := HT0.out; omega))
      clear hwf hwn hws
      have HCM := Lib.hid (HM.out)
      obtain ⟨M, hMM⟩ : ∃ M, memF draws 5 ws = M := ⟨_, rfl⟩
      rw [hMM] at HM
      have HMM := Lib.hid hMM
      clear hMM
      by_cases hqe : (5 : Int) + wn ≤ q
      · go_wp2_with fail
        obtain ⟨qq, hqq⟩ : ∃ x, (5 + (wn : Int) - 1) = x := ⟨_, rfl⟩
        have hqu : qq < 5 + (wn : Int) := by omega
        rw [hqq]
        have HQU := Lib.hid hqu
        clear hqe hqq hqu
        obtain ⟨⟨e, b⟩, hr⟩ : ∃ r, getM M.L key qq = r := ⟨_, rfl⟩
        have hr2 : getM (memF draws 5 (ws ++ rm)).L key qq = (e, b) := by
          rw [get_low draws 5 ws rm qq (by decide) (by rw [HWN.out, HRN.out]; push_cast; omega) (by rw [HWN.out]; exact HQU.out), HMM.out, hr]
        have HR2 := Lib.hid hr2
        have HR := Lib.hid hr
        obtain ⟨fr, hfe⟩ : ∃ X, thin qq (notAhead key 18446744073709551615 (allE M.L)) = X := ⟨_, rfl⟩
        have HFE10 := Lib.hid hfe
        have hfe2 : thin qq (notAhead key 18446744073709551615 (allE (memF draws 5 (ws ++ rm)).L)) = fr := by
          rw [from_low draws 5 ws rm qq key (by decide) (by rw [HWN.out, HRN.out]; push_cast; omega) (by rw [HWN.out]; exact HQU.out), HMM.out, hfe]
        have HFE14 := Lib.hid hfe2
        have hfl : fr.length ≤ 960 := by
          have := memF_fromlen draws (f := 5) (ws := ws) (by decide) (by rw [HWN.out]; omega) key qq
          rw [HMM.out, hfe, HWN.out] at this
          omega
        obtain ⟨fm, hfm⟩ : ∃ n, fr.length = n := ⟨_, rfl⟩
        rw [hfm] at hfl
        have HFM := Lib.hid hfm
        clear hr hr2 hfe hfe2 hfm
        have hg := get_c HM.out key qq
        rw [HR.out] at hg
        have HG := Lib.hid (show Calls Try.prog 43 #[.pointer (some ⟨t, 0, none⟩), .string key, .int .u64 qq] wq fun en w' => en = .returned (.tuple #[.agg #[.string e.1, .int .u64 e.2.1, .bool e.2.2.1, .string e.2.2.2], .bool b]) ∧ Below wq.heap.size wq w' from hg)
        clear hg
        go_wp2_with fail
        refine HG.out.mono ?_
        rintro _ w7 ⟨rfl, hb7⟩
        clear HG
        obtain ⟨E, hE⟩ : ∃ Z, w7.alloc (.cells #[.string ⟨#[]⟩, .int .u64 0, .bool false, .string ⟨#[]⟩] 53) = Z := ⟨_, rfl⟩
        have rE : E.heap[w7.heap.size]? = some (.cells #[.string ⟨#[]⟩, .int .u64 0, .bool false, .string ⟨#[]⟩] 53 (0, 0)) := by rw [← hE]; exact heap_alloc_new _ _
        obtain ⟨⟨ey0, ey1, ey2, ey3⟩, eg0, eg1, eg2, eg3⟩ := cells4 rE
        obtain ⟨Ea, hEa⟩ : ∃ Z4, (((E.setCell ⟨w7.heap.size, 0, none⟩ (.string e.1)).setCell ⟨w7.heap.size, 1, none⟩ (.int .u64 e.2.1)).setCell ⟨w7.heap.size, 2, none⟩ (.bool e.2.2.1)).setCell ⟨w7.heap.size, 3, none⟩ (.string e.2.2.2) = Z4 := ⟨_, rfl⟩
        have qE : Ea.heap[w7.heap.size]? = some (.cells #[.string e.1, .int .u64 e.2.1, .bool e.2.2.1, .string e.2.2.2] 53 (0, 0)) := by rw [← hEa]; exact put4_heap rE
        have bE : Below w7.heap.size w7 Ea := by
          rw [← hEa, ← hE]
          exact ((Below.refl _ _).alloc (Nat.le_refl _) _).trans ((put4_upd (S := fun k => k = w7.heap.size) _ _ _ _ _ rfl).bel (fun k hk => by omega) (by simp))
        have BE := Lib.hid bE
        have QE := Lib.hid qE
        clear bE qE rE
        have HBE := Lib.hid (hb7.trans (BE.out.mono hb7.size))
        have HE7 := Lib.hid hb7.size
        clear hb7
        have hmf := mfrom_v key qq (HM.out.later HBE.out)
        rw [HFE10.out] at hmf
        have HMF := Lib.hid hmf
        clear hmf
        go_wp2_with fail
        refine HMF.out.mono ?_
        rintro _ v10 ⟨f10, rfl, hit, hb9⟩
        have HT := Lib.hid (taken6_c f10 (-1) _ _ v10 hit (Nat.le_refl _) (by rw [HFM.out]; omega))
        rw [show takeN (-1) fr = fr from takeN_all (.inl (by decide))] at HT
        clear hit
        have HD10 := Lib.hid hb9
        have HVB10 := Lib.hid (HBE.out.trans (hb9.mono HBE.out.size))
        clear hb9
        go_wp2_with fail
        refine HT.out.mono ?_
        rintro _ w10 ⟨x10, rfl, hown10, hb10⟩
        clear HT HMF
        obtain ⟨A10, c10, rfl⟩ := own_slice hown10
        have HA10 := Lib.hid (ownBlock_of hown10)
        obtain ⟨_, _, hv10, _, hs10, _⟩ := hown10.slice (fun _ => rfl)
        injection hv10 with e1 e2 e3
        rw [← e1] at hs10
        rw [HFM.out]
        have HS10 := Lib.hid hs10
        have HB10 := Lib.hid (HVB10.out.trans (hb10.mono HVB10.out.size))
        have HC10 := Lib.hid (HD10.out.trans (hb10.mono HD10.out.size))
        clear hown10 hs10 hb10 e1 e2 e3
        have HADD := Lib.hid (addB_c 5 ws rm (HCM.out.later HB10.out) A6 c6 ((HSL6.out wq HU.out).later HB10.out) HRF.out.2.1 HRF.out.2.2 HWF.out (by rw [HWN.out]; omega))
        rw [HWN.out, HRN.out] at HADD
        go_wp2_with fail
        refine HADD.out.mono ?_
        rintro _ w11 ⟨rfl, hu1, S', hg, hm1⟩
        have hout : ∀ k, wq.heap.size ≤ k → ¬ (S k ∨ k = t) := fun k hk h => by
          rcases h with h | h
          · have := HM.out.list.lt k h; omega
          · have := blk_lt HM.out.row; omega
        have HQ11 := Lib.hid (hu1.heap (blk_below QE.out (HC10.out) ) (hout _ HE7.out))
        have HS11 := Lib.hid (HS10.out.upd hu1 (fun b o h => hout b (by have := (HA10.out b o h).1; have := HVB10.out.size; omega)))
        have HL11 := Lib.hid (HA10.out)
        have HU1 := Lib.hid ((HU.out.trans (Upd.of_below HB10.out)).step hu1 (fun i hi => by
          rcases hi with hi | hi
          · rcases HS.out i hi with h | h
            · exact .inl (.inl h)
            · exact .inr h
          · exact .inl (.inr hi)))
        have HM1 := Lib.hid hm1
        have HBU := Lib.hid (HU1.out.below HB5.out (fun k hk => by
          have := HB6.out.size
          rcases hk with hk | hk
          · have := HS0.out k hk; omega
          · have := HT0.out; omega))
        have HSR := Lib.hid (HSL6.out w11 HU1.out)
        clear hu1 hg hm1 hout HADD
        have hg := get_c HM1.out key qq
        rw [HR2.out] at hg
        have HG := Lib.hid (show Calls Try.prog 43 #[.pointer (some ⟨t, 0, none⟩), .string key, .int .u64 qq] w11 fun en w' => en = .returned (.tuple #[.agg #[.string e.1, .int .u64 e.2.1, .bool e.2.2.1, .string e.2.2.2], .bool b]) ∧ Below w11.heap.size w11 w' from hg)
        clear hg
        go_wp2_with fail
        refine HG.out.mono ?_
        rintro _ w12 ⟨rfl, hb7⟩
        clear HG
        obtain ⟨G, hG⟩ : ∃ Z, w12.alloc (.cells #[.string ⟨#[]⟩, .int .u64 0, .bool false, .string ⟨#[]⟩] 53) = Z := ⟨_, rfl⟩
        have rG : G.heap[w12.heap.size]? = some (.cells #[.string ⟨#[]⟩, .int .u64 0, .bool false, .string ⟨#[]⟩] 53 (0, 0)) := by rw [← hG]; exact heap_alloc_new _ _
        obtain ⟨⟨gy0, gy1, gy2, gy3⟩, gg0, gg1, gg2, gg3⟩ := cells4 rG
        obtain ⟨Ga, hGa⟩ : ∃ Z4, (((G.setCell ⟨w12.heap.size, 0, none⟩ (.string e.1)).setCell ⟨w12.heap.size, 1, none⟩ (.int .u64 e.2.1)).setCell ⟨w12.heap.size, 2, none⟩ (.bool e.2.2.1)).setCell ⟨w12.heap.size, 3, none⟩ (.string e.2.2.2) = Z4 := ⟨_, rfl⟩
        have qG : Ga.heap[w12.heap.size]? = some (.cells #[.string e.1, .int .u64 e.2.1, .bool e.2.2.1, .string e.2.2.2] 53 (0, 0)) := by rw [← hGa]; exact put4_heap rG
        have bG : Below w12.heap.size w12 Ga := by
          rw [← hGa, ← hG]
          exact ((Below.refl _ _).alloc (Nat.le_refl _) _).trans ((put4_upd (S := fun k => k = w12.heap.size) _ _ _ _ _ rfl).bel (fun k hk => by omega) (by simp))
        have BG := Lib.hid bG
        have QG := Lib.hid qG
        clear bG qG rG
        have HBG := Lib.hid (hb7.trans (BG.out.mono hb7.size))
        clear hb7
        have hmf := mfrom_v key qq (HM1.out.later HBG.out)
        rw [HFE14.out] at hmf
        have HMF := Lib.hid hmf
        clear hmf
        go_wp2_with fail
        refine HMF.out.mono ?_
        rintro _ v14 ⟨f14, rfl, hit, hb9⟩
        have HT := Lib.hid (taken6_c f14 (-1) _ _ v14 hit (Nat.le_refl _) (by rw [HFM.out]; omega))
        rw [show takeN (-1) fr = fr from takeN_all (.inl (by decide))] at HT
        clear hit
        have HD14 := Lib.hid hb9
        have HVB14 := Lib.hid (HBG.out.trans (hb9.mono HBG.out.size))
        clear hb9
        go_wp2_with fail
        refine HT.out.mono ?_
        rintro _ w14 ⟨x14, rfl, hown10, hb10⟩
        clear HT HMF
        obtain ⟨A14, c14, rfl⟩ := own_slice hown10
        have HA14 := Lib.hid (ownBlock_of hown10)
        obtain ⟨_, _, hv10, _, hs10, _⟩ := hown10.slice (fun _ => rfl)
        injection hv10 with e1 e2 e3
        rw [← e1] at hs10
        rw [HFM.out]
        have HS14 := Lib.hid hs10
        have HB14 := Lib.hid (HVB14.out.trans (hb10.mono HVB14.out.size))
        have HC14 := Lib.hid (HD14.out.trans (hb10.mono HD14.out.size))
        clear hown10 hs10 hb10 e1 e2 e3
        go_wp2_with fail
        go_loopw [23] (fun s23 wr => ∃ (i : Nat), s23 = .int .i64 i ∧ i ≤ rn ∧ Below w14.heap.size w14 wr) (fun s23 wr => rn - (intOf s23).toNat)
        case atStart => exact ⟨0, rfl, by omega, Below.refl _ _⟩
        case round =>
          obtain ⟨i, rfl, hi, hbi⟩ := hrel
          generalize wr = w15 at *
          have HB15 := Lib.hid hbi
          have HBX := Lib.hid (HB14.out.trans (hbi.mono HB14.out.size))
          clear hbi
          by_cases hin : i < rn
          · obtain ⟨y, hy⟩ := getElem?_of_lt (l := rm) (by rw [HRN.out]; exact hin : i < rm.length)
            obtain ⟨b6, o6, hA6, hl6, hc6⟩ := (HSR.out.later HBX.out).at hy
            subst hA6
            have y0 : w15.cell? ⟨b6, o6 + i * 3, none⟩ = some (.string y.1) := hc6 0 _ rfl
            have i1 : (0 : Int) ≤ i := by omega
            have i2 : (i : Int) < rn := by omega
            obtain ⟨z, hz, hz1, hz2⟩ := get_high draws 5 ws rm (5 + (wn : Int) + (rn : Int) - 1) (by decide) (by rw [HWN.out, HRN.out]; push_cast; omega) (by rw [HWN.out, HRN.out]; push_cast; omega) (List.mem_of_getElem? hy)
            rw [HWN.out] at hz1 hz2
            rw [HRN.out] at hz2
            have hz3 : z.2.1 < 5 + (wn : Int) + (rn : Int) := by push_cast at hz2; omega
            have hg := get_c (HM1.out.later HBX.out) y.1 (5 + (wn : Int) + (rn : Int) - 1)
            rw [hz] at hg
            have HG := Lib.hid (show Calls Try.prog 43 #[.pointer (some ⟨t, 0, none⟩), .string y.1, .int .u64 (5 + (wn : Int) + (rn : Int) - 1)] w15 fun en w' => en = .returned (.tuple #[.agg #[.string z.1, .int .u64 z.2.1, .bool z.2.2.1, .string z.2.2.2], .bool true]) ∧ Below w15.heap.size w15 w' from hg)
            clear hg hz hz2 hy hc6 hl6
            go_wp2_with fail
            refine HG.out.mono ?_
            rintro _ w16 ⟨rfl, hb16⟩
            obtain ⟨X, hX⟩ : ∃ Z, w16.alloc (.cells #[.string ⟨#[]⟩, .int .u64 0, .bool false, .string ⟨#[]⟩] 53) = Z := ⟨_, rfl⟩
            have rX : X.heap[w16.heap.size]? = some (.cells #[.string ⟨#[]⟩, .int .u64 0, .bool false, .string ⟨#[]⟩] 53 (0, 0)) := by rw [← hX]; exact heap_alloc_new _ _
            obtain ⟨⟨xy0, xy1, xy2, xy3⟩, xg0, xg1, xg2, xg3⟩ := cells4 rX
            obtain ⟨Xa, hXa⟩ : ∃ Z4, (((X.setCell ⟨w16.heap.size, 0, none⟩ (.string z.1)).setCell ⟨w16.heap.size, 1, none⟩ (.int .u64 z.2.1)).setCell ⟨w16.heap.size, 2, none⟩ (.bool z.2.2.1)).setCell ⟨w16.heap.size, 3, none⟩ (.string z.2.2.2) = Z4 := ⟨_, rfl⟩
            have qX : Xa.heap[w16.heap.size]? = some (.cells #[.string z.1, .int .u64 z.2.1, .bool z.2.2.1, .string z.2.2.2] 53 (0, 0)) := by rw [← hXa]; exact put4_heap rX
            have bX : Below w16.heap.size w16 Xa := by
              rw [← hXa, ← hX]
              exact ((Below.refl _ _).alloc (Nat.le_refl _) _).trans ((put4_upd (S := fun k => k = w16.heap.size) _ _ _ _ _ rfl).bel (fun k hk => by omega) (by simp))
            have BX := Lib.hid bX
            have QX := Lib.hid qX
            clear bX qX rX
            have HB16 := Lib.hid (HB15.out.trans ((hb16.trans (BX.out.mono hb16.size)).mono HB15.out.size))
            obtain ⟨⟨e0, e1, e2, e3⟩, _⟩ := cells4 QX.out
            clear hb16 y0
            obtain ⟨zq, hzq⟩ : ∃ x, z.2.1 = x := ⟨_, rfl⟩
            rw [hzq] at hz1 hz3 e1
            clear hzq
            go_wp2
            go_roundw
            case rel => exact ⟨i + 1, by first | rfl | simp, by omega, HB16.out⟩
            case measure => simp [intOf]; omega
          · have hik : rn = i := by omega
            clear hin hi
            subst hik
            have hq15 := blk_below HQ11.out HBX.out
            have gq15 := blk_below QG.out (HC14.out.trans (HB15.out.mono HC14.out.size))
            obtain ⟨⟨e0, e1, e2, e3⟩, _⟩ := cells4 hq15
            obtain ⟨⟨g0, g1, g2, g3⟩, _⟩ := cells4 gq15
            have hse := sameEntries6_c A10 c10 fr A14 c14 fr w15 (HS11.out.later HBX.out) (HS14.out.later HB15.out)
            rw [HFM.out] at hse
            have HSE := Lib.hid hse
            clear hse hq15 gq15
            go_wp2_with fail
            refine HSE.out.mono ?_
            rintro _ w17 ⟨rfl, hb17⟩
            go_wp2
            go_ret
            exact ⟨by simp, HBU.out.trans ((HBX.out.trans (hb17.mono HBX.out.size)).mono HBU.out.size)⟩
      · have hqu : q < 5 + (wn : Int) := by omega
        have HQU := Lib.hid hqu
        clear hqu
        obtain ⟨⟨e, b⟩, hr⟩ : ∃ r, getM M.L key q = r := ⟨_, rfl⟩
        have hr2 : getM (memF draws 5 (ws ++ rm)).L key q = (e, b) := by
          rw [get_low draws 5 ws rm q (by decide) (by rw [HWN.out, HRN.out]; push_cast; omega) (by rw [HWN.out]; exact HQU.out), HMM.out, hr]
        have HR2 := Lib.hid hr2
        have HR := Lib.hid hr
        obtain ⟨fr, hfe⟩ : ∃ X, thin q (notAhead key 18446744073709551615 (allE M.L)) = X := ⟨_, rfl⟩
        have HFE10 := Lib.hid hfe
        have hfe2 : thin q (notAhead key 18446744073709551615 (allE (memF draws 5 (ws ++ rm)).L)) = fr := by
          rw [from_low draws 5 ws rm q key (by decide) (by rw [HWN.out, HRN.out]; push_cast; omega) (by rw [HWN.out]; exact HQU.out), HMM.out, hfe]
        have HFE14 := Lib.hid hfe2
        have hfl : fr.length ≤ 960 := by
          have := memF_fromlen draws (f := 5) (ws := ws) (by decide) (by rw [HWN.out]; omega) key q
          rw [HMM.out, hfe, HWN.out] at this
          omega
        obtain ⟨fm, hfm⟩ : ∃ n, fr.length = n := ⟨_, rfl⟩
        rw [hfm] at hfl
        have HFM := Lib.hid hfm
        clear hr hr2 hfe hfe2 hfm
        have hg := get_c HM.out key q
        rw [HR.out] at hg
        have HG := Lib.hid (show Calls Try.prog 43 #[.pointer (some ⟨t, 0, none⟩), .string key, .int .u64 q] wq fun en w' => en = .returned (.tuple #[.agg #[.string e.1, .int .u64 e.2.1, .bool e.2.2.1, .string e.2.2.2], .bool b]) ∧ Below wq.heap.size wq w' from hg)
        clear hg
        go_wp2_with fail
        refine HG.out.mono ?_
        rintro _ w7 ⟨rfl, hb7⟩
        clear HG
        obtain ⟨E, hE⟩ : ∃ Z, w7.alloc (.cells #[.string ⟨#[]⟩, .int .u64 0, .bool false, .string ⟨#[]⟩] 53) = Z := ⟨_, rfl⟩
        have rE : E.heap[w7.heap.size]? = some (.cells #[.string ⟨#[]⟩, .int .u64 0, .bool false, .string ⟨#[]⟩] 53 (0, 0)) := by rw [← hE]; exact heap_alloc_new _ _
        obtain ⟨⟨ey0, ey1, ey2, ey3⟩, eg0, eg1, eg2, eg3⟩ := cells4 rE
        obtain ⟨Ea, hEa⟩ : ∃ Z4, (((E.setCell ⟨w7.heap.size, 0, none⟩ (.string e.1)).setCell ⟨w7.heap.size, 1, none⟩ (.int .u64 e.2.1)).setCell ⟨w7.heap.size, 2, none⟩ (.bool e.2.2.1)).setCell ⟨w7.heap.size, 3, none⟩ (.string e.2.2.2) = Z4 := ⟨_, rfl⟩
        have qE : Ea.heap[w7.heap.size]? = some (.cells #[.string e.1, .int .u64 e.2.1, .bool e.2.2.1, .string e.2.2.2] 53 (0, 0)) := by rw [← hEa]; exact put4_heap rE
        have bE : Below w7.heap.size w7 Ea := by
          rw [← hEa, ← hE]
          exact ((Below.refl _ _).alloc (Nat.le_refl _) _).trans ((put4_upd (S := fun k => k = w7.heap.size) _ _ _ _ _ rfl).bel (fun k hk => by omega) (by simp))
        have BE := Lib.hid bE
        have QE := Lib.hid qE
        clear bE qE rE
        have HBE := Lib.hid (hb7.trans (BE.out.mono hb7.size))
        have HE7 := Lib.hid hb7.size
        clear hb7
        have hmf := mfrom_v key q (HM.out.later HBE.out)
        rw [HFE10.out] at hmf
        have HMF := Lib.hid hmf
        clear hmf
        go_wp2_with fail
        refine HMF.out.mono ?_
        rintro _ v10 ⟨f10, rfl, hit, hb9⟩
        have HT := Lib.hid (taken6_c f10 (-1) _ _ v10 hit (Nat.le_refl _) (by rw [HFM.out]; omega))
        rw [show takeN (-1) fr = fr from takeN_all (.inl (by decide))] at HT
        clear hit
        have HD10 := Lib.hid hb9
        have HVB10 := Lib.hid (HBE.out.trans (hb9.mono HBE.out.size))
        clear hb9
        go_wp2_with fail
        refine HT.out.mono ?_
        rintro _ w10 ⟨x10, rfl, hown10, hb10⟩
        clear HT HMF
        obtain ⟨A10, c10, rfl⟩ := own_slice hown10
        have HA10 := Lib.hid (ownBlock_of hown10)
        obtain ⟨_, _, hv10, _, hs10, _⟩ := hown10.slice (fun _ => rfl)
        injection hv10 with e1 e2 e3
        rw [← e1] at hs10
        rw [HFM.out]
        have HS10 := Lib.hid hs10
        have HB10 := Lib.hid (HVB10.out.trans (hb10.mono HVB10.out.size))
        have HC10 := Lib.hid (HD10.out.trans (hb10.mono HD10.out.size))
        clear hown10 hs10 hb10 e1 e2 e3
        have HADD := Lib.hid (addB_c 5 ws rm (HCM.out.later HB10.out) A6 c6 ((HSL6.out wq HU.out).later HB10.out) HRF.out.2.1 HRF.out.2.2 HWF.out (by rw [HWN.out]; omega))
        rw [HWN.out, HRN.out] at HADD
        go_wp2_with fail
        refine HADD.out.mono ?_
        rintro _ w11 ⟨rfl, hu1, S', hg, hm1⟩
        have hout : ∀ k, wq.heap.size ≤ k → ¬ (S k ∨ k = t) := fun k hk h => by
          rcases h with h | h
          · have := HM.out.list.lt k h; omega
          · have := blk_lt HM.out.row; omega
        have HQ11 := Lib.hid (hu1.heap (blk_below QE.out (HC10.out) ) (hout _ HE7.out))
        have HS11 := Lib.hid (HS10.out.upd hu1 (fun b o h => hout b (by have := (HA10.out b o h).1; have := HVB10.out.size; omega)))
        have HL11 := Lib.hid (HA10.out)
        have HU1 := Lib.hid ((HU.out.trans (Upd.of_below HB10.out)).step hu1 (fun i hi => by
          rcases hi with hi | hi
          · rcases HS.out i hi with h | h
            · exact .inl (.inl h)
            · exact .inr h
          · exact .inl (.inr hi)))
        have HM1 := Lib.hid hm1
        have HBU := Lib.hid (HU1.out.below HB5.out (fun k hk => by
          have := HB6.out.size
          rcases hk with hk | hk
          · have := HS0.out k hk; omega
          · have := HT0.out; omega))
        have HSR := Lib.hid (HSL6.out w11 HU1.out)
        clear hu1 hg hm1 hout HADD
        have hg := get_c HM1.out key q
        rw [HR2.out] at hg
        have HG := Lib.hid (show Calls Try.prog 43 #[.pointer (some ⟨t, 0, none⟩), .string key, .int .u64 q] w11 fun en w' => en = .returned (.tuple #[.agg #[.string e.1, .int .u64 e.2.1, .bool e.2.2.1, .string e.2.2.2], .bool b]) ∧ Below w11.heap.size w11 w' from hg)
        clear hg
        go_wp2_with fail
        refine HG.out.mono ?_
        rintro _ w12 ⟨rfl, hb7⟩
        clear HG
        obtain ⟨G, hG⟩ : ∃ Z, w12.alloc (.cells #[.string ⟨#[]⟩, .int .u64 0, .bool false, .string ⟨#[]⟩] 53) = Z := ⟨_, rfl⟩
        have rG : G.heap[w12.heap.size]? = some (.cells #[.string ⟨#[]⟩, .int .u64 0, .bool false, .string ⟨#[]⟩] 53 (0, 0)) := by rw [← hG]; exact heap_alloc_new _ _
        obtain ⟨⟨gy0, gy1, gy2, gy3⟩, gg0, gg1, gg2, gg3⟩ := cells4 rG
        obtain ⟨Ga, hGa⟩ : ∃ Z4, (((G.setCell ⟨w12.heap.size, 0, none⟩ (.string e.1)).setCell ⟨w12.heap.size, 1, none⟩ (.int .u64 e.2.1)).setCell ⟨w12.heap.size, 2, none⟩ (.bool e.2.2.1)).setCell ⟨w12.heap.size, 3, none⟩ (.string e.2.2.2) = Z4 := ⟨_, rfl⟩
        have qG : Ga.heap[w12.heap.size]? = some (.cells #[.string e.1, .int .u64 e.2.1, .bool e.2.2.1, .string e.2.2.2] 53 (0, 0)) := by rw [← hGa]; exact put4_heap rG
        have bG : Below w12.heap.size w12 Ga := by
          rw [← hGa, ← hG]
          exact ((Below.refl _ _).alloc (Nat.le_refl _) _).trans ((put4_upd (S := fun k => k = w12.heap.size) _ _ _ _ _ rfl).bel (fun k hk => by omega) (by simp))
        have BG := Lib.hid bG
        have QG := Lib.hid qG
        clear bG qG rG
        have HBG := Lib.hid (hb7.trans (BG.out.mono hb7.size))
        clear hb7
        have hmf := mfrom_v key q (HM1.out.later HBG.out)
        rw [HFE14.out] at hmf
        have HMF := Lib.hid hmf
        clear hmf
        go_wp2_with fail
        refine HMF.out.mono ?_
        rintro _ v14 ⟨f14, rfl, hit, hb9⟩
        have HT := Lib.hid (taken6_c f14 (-1) _ _ v14 hit (Nat.le_refl _) (by rw [HFM.out]; omega))
        rw [show takeN (-1) fr = fr from takeN_all (.inl (by decide))] at HT
        clear hit
        have HD14 := Lib.hid hb9
        have HVB14 := Lib.hid (HBG.out.trans (hb9.mono HBG.out.size))
        clear hb9
        go_wp2_with fail
        refine HT.out.mono ?_
        rintro _ w14 ⟨x14, rfl, hown10, hb10⟩
        clear HT HMF
        obtain ⟨A14, c14, rfl⟩ := own_slice hown10
        have HA14 := Lib.hid (ownBlock_of hown10)
        obtain ⟨_, _, hv10, _, hs10, _⟩ := hown10.slice (fun _ => rfl)
        injection hv10 with e1 e2 e3
        rw [← e1] at hs10
        rw [HFM.out]
        have HS14 := Lib.hid hs10
        have HB14 := Lib.hid (HVB14.out.trans (hb10.mono HVB14.out.size))
        have HC14 := Lib.hid (HD14.out.trans (hb10.mono HD14.out.size))
        clear hown10 hs10 hb10 e1 e2 e3
        go_wp2_with fail
        go_loopw [23] (fun s23 wr => ∃ (i : Nat), s23 = .int .i64 i ∧ i ≤ rn ∧ Below w14.heap.size w14 wr) (fun s23 wr => rn - (intOf s23).toNat)
        case atStart => exact ⟨0, rfl, by omega, Below.refl _ _⟩
        case round =>
          obtain ⟨i, rfl, hi, hbi⟩ := hrel
          generalize wr = w15 at *
          have HB15 := Lib.hid hbi
          have HBX := Lib.hid (HB14.out.trans (hbi.mono HB14.out.size))
          clear hbi
          by_cases hin : i < rn
          · obtain ⟨y, hy⟩ := getElem?_of_lt (l := rm) (by rw [HRN.out]; exact hin : i < rm.length)
            obtain ⟨b6, o6, hA6, hl6, hc6⟩ := (HSR.out.later HBX.out).at hy
            subst hA6
            have y0 : w15.cell? ⟨b6, o6 + i * 3, none⟩ = some (.string y.1) := hc6 0 _ rfl
            have i1 : (0 : Int) ≤ i := by omega
            have i2 : (i : Int) < rn := by omega
            obtain ⟨z, hz, hz1, hz2⟩ := get_high draws 5 ws rm (5 + (wn : Int) + (rn : Int) - 1) (by decide) (by rw [HWN.out, HRN.out]; push_cast; omega) (by rw [HWN.out, HRN.out]; push_cast; omega) (List.mem_of_getElem? hy)
            rw [HWN.out] at hz1 hz2
            rw [HRN.out] at hz2
            have hz3 : z.2.1 < 5 + (wn : Int) + (rn : Int) := by push_cast at hz2; omega
            have hg := get_c (HM1.out.later HBX.out) y.1 (5 + (wn : Int) + (rn : Int) - 1)
            rw [hz] at hg
            have HG := Lib.hid (show Calls Try.prog 43 #[.pointer (some ⟨t, 0, none⟩), .string y.1, .int .u64 (5 + (wn : Int) + (rn : Int) - 1)] w15 fun en w' => en = .returned (.tuple #[.agg #[.string z.1, .int .u64 z.2.1, .bool z.2.2.1, .string z.2.2.2], .bool true]) ∧ Below w15.heap.size w15 w' from hg)
            clear hg hz hz2 hy hc6 hl6
            go_wp2_with fail
            refine HG.out.mono ?_
            rintro _ w16 ⟨rfl, hb16⟩
            obtain ⟨X, hX⟩ : ∃ Z, w16.alloc (.cells #[.string ⟨#[]⟩, .int .u64 0, .bool false, .string ⟨#[]⟩] 53) = Z := ⟨_, rfl⟩
            have rX : X.heap[w16.heap.size]? = some (.cells #[.string ⟨#[]⟩, .int .u64 0, .bool false, .string ⟨#[]⟩] 53 (0, 0)) := by rw [← hX]; exact heap_alloc_new _ _
            obtain ⟨⟨xy0, xy1, xy2, xy3⟩, xg0, xg1, xg2, xg3⟩ := cells4 rX
            obtain ⟨Xa, hXa⟩ : ∃ Z4, (((X.setCell ⟨w16.heap.size, 0, none⟩ (.string z.1)).setCell ⟨w16.heap.size, 1, none⟩ (.int .u64 z.2.1)).setCell ⟨w16.heap.size, 2, none⟩ (.bool z.2.2.1)).setCell ⟨w16.heap.size, 3, none⟩ (.string z.2.2.2) = Z4 := ⟨_, rfl⟩
            have qX : Xa.heap[w16.heap.size]? = some (.cells #[.string z.1, .int .u64 z.2.1, .bool z.2.2.1, .string z.2.2.2] 53 (0, 0)) := by rw [← hXa]; exact put4_heap rX
            have bX : Below w16.heap.size w16 Xa := by
              rw [← hXa, ← hX]
              exact ((Below.refl _ _).alloc (Nat.le_refl _) _).trans ((put4_upd (S := fun k => k = w16.heap.size) _ _ _ _ _ rfl).bel (fun k hk => by omega) (by simp))
            have BX := Lib.hid bX
            have QX := Lib.hid qX
            clear bX qX rX
            have HB16 := Lib.hid (HB15.out.trans ((hb16.trans (BX.out.mono hb16.size)).mono HB15.out.size))
            obtain ⟨⟨e0, e1, e2, e3⟩, _⟩ := cells4 QX.out
            clear hb16 y0
            obtain ⟨zq, hzq⟩ : ∃ x, z.2.1 = x := ⟨_, rfl⟩
            rw [hzq] at hz1 hz3 e1
            clear hzq
            go_wp2
            go_roundw
            case rel => exact ⟨i + 1, by first | rfl | simp, by omega, HB16.out⟩
            case measure => simp [intOf]; omega
          · have hik : rn = i := by omega
            clear hin hi
            subst hik
            have hq15 := blk_below HQ11.out HBX.out
            have gq15 := blk_below QG.out (HC14.out.trans (HB15.out.mono HC14.out.size))
            obtain ⟨⟨e0, e1, e2, e3⟩, _⟩ := cells4 hq15
            obtain ⟨⟨g0, g1, g2, g3⟩, _⟩ := cells4 gq15
            have hse := sameEntries6_c A10 c10 fr A14 c14 fr w15 (HS11.out.later HBX.out) (HS14.out.later HB15.out)
            rw [HFM.out] at hse
            have HSE := Lib.hid hse
            clear hse hq15 gq15
            go_wp2_with fail
            refine HSE.out.mono ?_
            rintro _ w17 ⟨rfl, hb17⟩
            go_wp2
            go_ret
            exact ⟨by simp, HBU.out.trans ((HBX.out.trans (hb17.mono HBX.out.size)).mono HBU.out.size)⟩
theorem memSeen_w (A : Option Addr) (c : Nat) (draws : List Int) (B : Option Addr) (d : Nat) (l : List (List Wri)) (Am : Option Addr) (mc : Nat) (more : List Wri) (key : ByteArray) (q : Int) (w : World) (ha : Sl encB 1 w A draws) (hal : draws.length < 140737488351233) (hby : ∀ x ∈ draws, U8 x) (hb : ∃ L : List HW, L.map (·.2.2) = l ∧ Sl2 w B L) (hmo : Sl encW 3 w Am more) (hq : 0 ≤ q ∧ q ≤ 18446744073709551615) :
    Calls Try.prog 9 #[.slice A draws.length c, .slice B l.length d, .slice Am more.length mc, .string key, .int .u64 q] w fun e w' => e = .returned (.bool true) ∧ Below w.heap.size w w' := by
  obtain ⟨L, rfl, hL⟩ := hb
  rw [List.length_map]
  exact memSeen_c A c draws B d L Am mc more key q w ha hal hby hL hmo hq.1 hq.2
end Go.Proofs.Ytjbbobhjomhnmaa.H
