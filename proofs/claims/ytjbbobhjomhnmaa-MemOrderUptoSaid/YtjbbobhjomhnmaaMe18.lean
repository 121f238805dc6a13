/- MemOrder's walk (printed by genme18.py). Conditions: sizes. -/
import Derived.Test.YtjbbobhjomhnmaaMe16
import Derived.Test.YtjbbobhjomhnmaaMeOrd
namespace Go.Proofs.Ytjbbobhjomhnmaa.H
open Go Go.RowKit Go.Deep Go.Shelf Go.Proofs Go.Proofs.YtjbbobhjomhnmaaW.PrintWords
set_option linter.unusedVariables false
set_option linter.unusedSimpArgs false
theorem mulI_run (t : TypeId) (x y : Operand) (a b : Int) (h : -9223372036854775808 ≤ a * b ∧ a * b ≤ 9223372036854775807) (W : World) : (do eqGuard .mul t x y (.int .i64 a) (.int .i64 b); binOp .mul t (.int .i64 a) (.int .i64 b) : Sem Value).run Try.prog W = .ok (.int .i64 (a * b)) W := by
  have h2 : IntKind.i64.wrap (a * b) = a * b := by rw [IntKind.wrap_i64]; omega
  go_simp
theorem idxW_run (b o m c k : Nat) (h : k < m) (W : World) : (Instr.indexAt 87 (.slice (some ⟨b, o, none⟩) m c) (.int .i64 (k : Int))).run Try.prog W = .ok (.pointer (some ⟨b, o + k * 3, none⟩)) W := by
  have h0 : (0 : Int) ≤ k := by omega
  have h1 : (k : Int) < m := by omega
  go_simp
set_option maxHeartbeats 12800000 in
set_option maxRecDepth 100000 in
theorem memOrder_c (A : Option Addr) (c : Nat) (draws : List Int) (Ao : Option Addr) (co : Nat) (other : List Int) (B : Option Addr) (d : Nat) (l : List HW) (w : World) (ha : Sl encB 1 w A draws) (hal : draws.length < 140737488351233) (hby : ∀ x ∈ draws, U8 x) (ho : Sl encB 1 w Ao other) (hol : other.length < 140737488351233) (hoy : ∀ x ∈ other, U8 x) (hb : Sl2 w B l) :
    Calls Try.prog 7 #[.slice A draws.length c, .slice Ao other.length co, .slice B l.length d] w fun e w' => e = .returned (.bool true) ∧ Below w.heap.size w w' := by
  have HK := Lib.hid (known6_c w)
  have HNEW := Lib.hid (fun (w1 : World) (hb1 : Below w.heap.size w w1) => mnew_c A c draws w1 (ha.later hb1) hal hby)
  have HNE2 := Lib.hid (fun (w1 : World) (hb1 : Below w.heap.size w w1) => mnew_c Ao co other w1 (ho.later hb1) hol hoy)
  have HGR := Lib.hid (fun (w1 : World) (hb1 : Below w.heap.size w w1) => groups_c B d l w1 (hb.later hb1))
  have HBA := Lib.hid (fun (w1 : World) (hb1 : Below w.heap.size w w1) => batches_c B d l w1 (hb.later hb1))
  obtain ⟨dn, hdn⟩ : ∃ n, draws.length = n := ⟨_, rfl⟩
  obtain ⟨en, hen⟩ : ∃ n, other.length = n := ⟨_, rfl⟩
  obtain ⟨ln, hln⟩ : ∃ n, l.length = n := ⟨_, rfl⟩
  rw [hdn] at HNEW ⊢
  rw [hen] at HNE2 ⊢
  rw [hln] at HGR HBA ⊢
  clear ha hal hby ho hol hoy hb hdn hen hln
  go_enter Try.func7, Try.ntmps7
  go_wp2_with fail
  refine HK.out.mono ?_
  rintro _ w1 ⟨rfl, hb1⟩
  have HB1 := Lib.hid hb1
  clear hb1
  go_wp2_with fail
  refine (HGR.out w1 HB1.out).mono ?_
  rintro _ w2 ⟨⟨b, rfl⟩, hb2⟩
  have HB2 := Lib.hid (HB1.out.trans (hb2.mono HB1.out.size))
  clear hb2
  rcases b with _ | _
  · go_wp2
    go_ret
    exact ⟨rfl, HB2.out⟩
  go_wp2_with fail
  refine (HBA.out w2 HB2.out).mono ?_
  rintro _ w3 ⟨v1, rfl, L1, hL1, hmade, hb3⟩
  obtain ⟨A1, c1, rfl⟩ := own_slice hmade.own
  have HFIT := Lib.hid (show Fit (L1.map (·.2.2)) by rw [hL1]; exact batch_fit _)
  obtain ⟨BB, hBB⟩ : ∃ X, L1.map (·.2.2) = X := ⟨_, rfl⟩
  obtain ⟨n1, hn1⟩ : ∃ n, L1.length = n := ⟨_, rfl⟩
  have hbn : BB.length = n1 := by rw [← hBB, List.length_map, hn1]
  rw [hBB] at HFIT
  have HMADE := Lib.hid hmade
  have HB3 := Lib.hid (HB2.out.trans (hb3.mono HB2.out.size))
  have hn60 : n1 ≤ 60 := by rw [← hbn]; exact HFIT.out.len
  have HNU := Lib.hid (fun (w : World) (hs : Sl2 w A1 L1) => numbered_c A1 c1 L1 1 w hs (by decide) (by rw [hBB]; have := HFIT.out.tot; omega) (by omega))
  rw [hBB, hn1] at HNU
  rw [hn1] at HMADE ⊢
  have HBBE := Lib.hid hBB
  have HN1 := Lib.hid hn1
  have HBN := Lib.hid hbn
  clear hL1 hmade hb3 hBB hn1 hbn
  go_wp2_with fail
  refine (HNEW.out w3 HB3.out).mono ?_
  rintro _ w6 ⟨t, g, S0, rfl, hm0, hS0, ht0, hb6⟩
  have HM6 := Lib.hid hm0
  have HS0 := Lib.hid hS0
  have HT0 := Lib.hid ht0
  have HB6 := Lib.hid (HB3.out.trans (hb6.mono HB3.out.size))
  have HMADE6 := Lib.hid (HMADE.out.later hb6)
  have H36 := Lib.hid hb6.size
  clear hm0 hS0 ht0 hb6
  go_wp2_with fail
  refine (HNE2.out w6 HB6.out).mono ?_
  rintro _ w4 ⟨u, v, U0, rfl, hm0, hS0, ht0, hb4⟩
  have HM0 := Lib.hid (HM6.out.later hb4)
  have HN0 := Lib.hid hm0
  have HU0 := Lib.hid hS0
  have HV0 := Lib.hid ht0
  have HB4 := Lib.hid (HB6.out.trans (hb4.mono HB6.out.size))
  have HMADE4 := Lib.hid (HMADE6.out.later hb4)
  have H64 := Lib.hid hb4.size
  clear hm0 hS0 ht0 hb4
  go_wp2_with fail
  refine (HNU.out w4 HMADE4.out.sl2.2).mono ?_
  rintro _ w5 ⟨v5, rfl, hown5, hb5⟩
  obtain ⟨A5, c5, rfl⟩ := own_slice hown5
  rw [numL_len]
  have HO5 := Lib.hid hown5
  have HB45 := Lib.hid hb5
  have HB5 := Lib.hid (HB4.out.trans (hb5.mono HB4.out.size))
  clear hown5 hb5
  go_wp2_with fail
  have HIN := Lib.hid (show ∀ k, ((S0 k ∨ k = t) ∨ (U0 k ∨ k = u)) → w3.heap.size ≤ k ∧ k < w4.heap.size from fun k h => by
    have h36 := H36.out
    rcases h with (h | h) | (h | h)
    · exact ⟨HS0.out k h, HM0.out.list.lt k h⟩
    · have := HT0.out; have := blk_lt HM0.out.row; omega
    · have := HU0.out k h; exact ⟨by omega, HN0.out.list.lt k h⟩
    · have := HV0.out; have := blk_lt HN0.out.row; omega)
  have HTW := Lib.hid (show TwoM w5 w5 t g u v (fun k => S0 k ∨ k = t) (fun k => U0 k ∨ k = u) draws other (memE draws (ents 1 (BB.take 0).flatten)) (memE other (revE BB 0)) from
    ⟨⟨S0, U0, HM0.out.later HB45.out, HN0.out.later HB45.out, fun k h1 h2 => by
      have a1 : k < w6.heap.size := by
        rcases h1 with h1 | h1
        · exact HM6.out.list.lt k h1
        · have := blk_lt HM6.out.row; omega
      have a2 : w6.heap.size ≤ k := by
        rcases h2 with h2 | h2
        · exact HU0.out k h2
        · have := HV0.out; omega
      omega, fun k h => .inl h, fun k h => .inl h⟩, Upd.refl _ _⟩)
  have HSL1 := Lib.hid (show ∀ W, Upd (fun k => (S0 k ∨ k = t) ∨ (U0 k ∨ k = u)) w5 W → Sl2 W A1 L1 from fun W hW =>
    ⟨sl_stay (HMADE4.out.later HB45.out).sl2.2.1 hW (fun b o e => ownBlock_of HMADE.out.own b o e) (fun k h1 h2 h => by have := (HIN.out k h).1; omega),
      fun x hx => sl_stay ((HMADE4.out.later HB45.out).rows x hx) hW (fun b o e => ⟨(HMADE.out.far x hx b o e).1, (HMADE.out.far x hx b o e).2.1⟩) (fun k h1 h2 h => by have := (HIN.out k h).1; omega)⟩)
  have HSL5 := Lib.hid (show ∀ W, Upd (fun k => (S0 k ∨ k = t) ∨ (U0 k ∨ k = u)) w5 W → Sl encU 1 W A5 (numL 1 BB n1) from fun W hW => by
    obtain ⟨_, _, e, _, hs, _⟩ := HO5.out.slice (fun x => (okU x).1)
    injection e with e1 e2 e3
    rw [e1]
    exact sl_stay hs hW (fun b o e => ownBlock_of HO5.out b o (by rw [e1, e])) (fun k h1 h2 h => by have := (HIN.out k h).2; omega))
  go_loopw [10, 11] (fun s10 s11 wr => ∃ (k : Nat), s10 = .int .i64 (wsum (BB.take k).flatten) ∧ s11 = .int .i64 k ∧ k ≤ n1 ∧ TwoM w5 wr t g u v (fun k => S0 k ∨ k = t) (fun k => U0 k ∨ k = u) draws other (memE draws (ents 1 (BB.take k).flatten)) (memE other (revE BB k))) (fun s10 s11 wr => n1 - (intOf s11).toNat)
  case atStart => exact ⟨0, rfl, rfl, by omega, HTW.out⟩
  case round =>
    obtain ⟨k, rfl, rfl, hk, ht⟩ := hrel
    generalize wr = wq at *
    have HT := Lib.hid ht
    clear ht
    by_cases hkn : k < n1
    · obtain ⟨j, hj⟩ : ∃ j : Nat, n1 - 1 - k = j := ⟨_, rfl⟩
      have hjn : j < n1 := by omega
      have HJ := Lib.hid hj
      have hji : (n1 : Int) - 1 - k = (j : Int) := by omega
      have HJI := Lib.hid hji
      clear hj hji
      obtain ⟨x, hx⟩ := getElem?_of_lt (l := L1) (by rw [HN1.out]; exact hkn : k < L1.length)
      obtain ⟨y, hy⟩ := getElem?_of_lt (l := L1) (by rw [HN1.out]; exact hjn : j < L1.length)
      have HXB := Lib.hid (show BB[k]? = some x.2.2 by rw [← HBBE.out, List.getElem?_map, hx]; rfl)
      have HYB := Lib.hid (show BB[j]? = some y.2.2 by rw [← HBBE.out, List.getElem?_map, hy]; rfl)
      have HXS := Lib.hid (fun W hW => (HSL1.out W hW).2 x (List.mem_of_getElem? hx))
      have HYS := Lib.hid (fun W hW => (HSL1.out W hW).2 y (List.mem_of_getElem? hy))
      obtain ⟨b2, o2, hA2, _, _⟩ := (HSL1.out w5 (Upd.refl _ _)).1.at hx
      obtain ⟨b5, o5, hA5, _, _⟩ := (HSL5.out w5 (Upd.refl _ _)).at (numL_at 1 BB hkn)
      subst hA2
      subst hA5
      have CX1 := Lib.hid (show ∀ W, Upd (fun k => (S0 k ∨ k = t) ∨ (U0 k ∨ k = u)) w5 W → W.cell? ⟨b2, o2 + k, none⟩ = some (.slice x.1 x.2.2.length x.2.1) from fun W hW => by
        obtain ⟨_, _, e, _, h⟩ := (HSL1.out W hW).1.at hx
        injection e with e
        injection e with e1 e2
        subst e1
        subst e2
        simpa using h 0 _ rfl)
      have CX2 := Lib.hid (show ∀ W, Upd (fun k => (S0 k ∨ k = t) ∨ (U0 k ∨ k = u)) w5 W → W.cell? ⟨b2, o2 + j, none⟩ = some (.slice y.1 y.2.2.length y.2.1) from fun W hW => by
        obtain ⟨_, _, e, _, h⟩ := (HSL1.out W hW).1.at hy
        injection e with e
        injection e with e1 e2
        subst e1
        subst e2
        simpa using h 0 _ rfl)
      have CU1 := Lib.hid (show ∀ W, Upd (fun k => (S0 k ∨ k = t) ∨ (U0 k ∨ k = u)) w5 W → W.cell? ⟨b5, o5 + k, none⟩ = some (.int .u64 (1 + (tot (BB.take k) : Int))) from fun W hW => by
        obtain ⟨_, _, e, _, h⟩ := (HSL5.out W hW).at (numL_at 1 BB hkn)
        injection e with e
        injection e with e1 e2
        subst e1
        subst e2
        simpa using h 0 _ rfl)
      have CU2 := Lib.hid (show ∀ W, Upd (fun k => (S0 k ∨ k = t) ∨ (U0 k ∨ k = u)) w5 W → W.cell? ⟨b5, o5 + j, none⟩ = some (.int .u64 (1 + (tot (BB.take j) : Int))) from fun W hW => by
        obtain ⟨_, _, e, _, h⟩ := (HSL5.out W hW).at (numL_at 1 BB hjn)
        injection e with e
        injection e with e1 e2
        subst e1
        subst e2
        simpa using h 0 _ rfl)
      obtain ⟨xa, xc, xl⟩ := x
      obtain ⟨ya, yc, yl⟩ := y
      have HXF := Lib.hid (HFIT.out.each xl (List.mem_of_getElem? HXB.out))
      have HYF := Lib.hid (HFIT.out.each yl (List.mem_of_getElem? HYB.out))
      obtain ⟨p, hp⟩ : ∃ p, ents 1 (BB.take k).flatten = p := ⟨_, rfl⟩
      obtain ⟨r, hr⟩ : ∃ r, revE BB k = r := ⟨_, rfl⟩
      rw [hp, hr] at HT
      have hpl : p.length ≤ 960 := by rw [← hp, ents_len, flat_tot]; exact (HFIT.out.take k).tot
      have hpo : ∀ e ∈ p, OkE e := by rw [← hp]; exact ents_ok (fun x hx => by have := (HFIT.out.take k).flat x hx; omega)
      have hro := revE_ok HFIT.out k (by rw [HBN.out]; omega)
      rw [hr] at hro
      have HAD1 := Lib.hid (show ∀ S W, MemIs W t g S draws (memE draws p) → Upd (fun k => (S0 k ∨ k = t) ∨ (U0 k ∨ k = u)) w5 W → Calls Try.prog 35 #[.pointer (some ⟨t, 0, none⟩), .int .u64 (1 + (tot (BB.take k) : Int)), .slice xa xl.length xc] W fun e w' => e = .returned (.int .i64 0) ∧ AddOk W w' t g S draws (memE draws (p ++ ents (1 + (tot (BB.take k) : Int)) xl)) from
        fun S W hm hW => addE_c p _ xl hm xa xc (HXS.out W hW) HXF.out.2.1 HXF.out.2.2 hpo (by omega))
      have HAD2 := Lib.hid (show ∀ S W, MemIs W u v S other (memE other r) → Upd (fun k => (S0 k ∨ k = t) ∨ (U0 k ∨ k = u)) w5 W → Calls Try.prog 35 #[.pointer (some ⟨u, 0, none⟩), .int .u64 (1 + (tot (BB.take j) : Int)), .slice ya yl.length yc] W fun e w' => e = .returned (.int .i64 0) ∧ AddOk W w' u v S other (memE other (r ++ ents (1 + (tot (BB.take j) : Int)) yl)) from
        fun S W hm hW => addE_c r _ yl hm ya yc (HYS.out W hW) HYF.out.2.1 HYF.out.2.2 hro.2 (by omega))
      have HPN := Lib.hid (show ents 1 (BB.take (k + 1)).flatten = p ++ ents (1 + (tot (BB.take k) : Int)) xl by rw [ents_take HXB.out, hp])
      have HRN := Lib.hid (show revE BB (k + 1) = r ++ ents (1 + (tot (BB.take j) : Int)) yl by rw [revE_succ (by rw [HBN.out]; exact HJ.out) HYB.out, hr])
      have HWS := Lib.hid (flat_snoc HXB.out)
      obtain ⟨ws, hws⟩ : ∃ ws, (BB.take k).flatten = ws := ⟨_, rfl⟩
      have hwl : ws.length ≤ 960 := by rw [← hws, flat_tot]; exact (HFIT.out.take k).tot
      have HWL := Lib.hid hwl
      have HWF := Lib.hid (show ∀ y ∈ ws, y.1.size ≤ 64 ∧ y.2.2.size ≤ 512 by rw [← hws]; intro y hy; have := (HFIT.out.take k).flat y hy; omega)
      rw [hws] at HWS ⊢
      have i1 : (0 : Int) ≤ k := by omega
      have i2 : (k : Int) < n1 := by omega
      have i3 : (0 : Int) ≤ j := by omega
      have i4 : (j : Int) < n1 := by omega
      clear hx hy hp hr hpl hpo hro hws hwl
      go_wp2_with fail
      rw [HJI.out]
      refine wp_region_step (OrdR w5 t g u v (fun k => S0 k ∨ k = t) (fun k => U0 k ∨ k = u) draws other p (p ++ ents (1 + (tot (BB.take k) : Int)) xl) r (r ++ ents (1 + (tot (BB.take j) : Int)) yl)) (fun (a b : Nat) => a ≤ b) Nat.le_refl (fun _ _ _ => Nat.le_trans) 0 [0, 0, 0, 0, 0, 0, 0, 0, 0, 2, 0, 0, 0, 0, 0, 0, 0, 0, 0, 0, 0, 2, 0] [.pointer (some ⟨t, 0, none⟩), .slice (some ⟨b5, o5, none⟩) n1 c5, .int .i64 (k : Int), .pointer (some ⟨b5, o5 + k, none⟩), .int .u64 (1 + (tot (BB.take k) : Int)), .slice (some ⟨b2, o2, none⟩) n1 c1, .int .i64 (k : Int), .pointer (some ⟨b2, o2 + k, none⟩), .slice xa xl.length xc, undef, .bool false, .bool false, .pointer (some ⟨u, 0, none⟩), .slice (some ⟨b5, o5, none⟩) n1 c5, .int .i64 (j : Int), .pointer (some ⟨b5, o5 + j, none⟩), .int .u64 (1 + (tot (BB.take j) : Int)), .slice (some ⟨b2, o2, none⟩) n1 c1, .int .i64 (j : Int), .pointer (some ⟨b2, o2 + j, none⟩), .slice ya yl.length yc, undef, .bool false] 23 (by kernel_rfl) (by kernel_rfl) (show TwoM _ _ _ _ _ _ _ _ _ _ _ _ from HT.out.later (Below.refl _ _).drew) ?_
      simp only [List.take_succ_cons, List.take_zero, List.drop_succ_cons, List.drop_zero]
      refine schain0 ?_
      refine @schain _ _ _ _ _ _ _ _ _ _ _ _ _ _ 50 (.pointer (some ⟨t, 0, none⟩)) (by rfl) (by rfl) (by kernel_rfl) (by rfl) (by exact fun s' W2 hW => srun_mv (by rfl) (by exact eval_base (by kernel_rfl) (by rfl)) hW) ?_
      refine @schain _ _ _ _ _ _ _ _ _ _ _ _ _ _ 51 (.slice (some ⟨b5, o5, none⟩) n1 c5) (by rfl) (by rfl) (by kernel_rfl) (by rfl) (by exact fun s' W2 hW => srun_mv (by rfl) (by exact eval_base (by kernel_rfl) (by rfl)) hW) ?_
      refine @schain _ _ _ _ _ _ _ _ _ _ _ _ _ _ 52 (.int .i64 (k : Int)) (by rfl) (by rfl) (by kernel_rfl) (by rfl) (by exact fun s' W2 hW => srun_mv (by rfl) (by exact eval_base (by kernel_rfl) (by rfl)) hW) ?_
      refine @schain _ _ _ _ _ _ _ _ _ _ _ _ _ _ 53 (.pointer (some ⟨b5, o5 + k, none⟩)) (by rfl) (by rfl) (by kernel_rfl) (by rfl) (by exact fun s' W2 hW => srun_ia (u := .slice (some ⟨b5, o5, none⟩) n1 c5) (v := .int .i64 (k : Int)) (by rfl) (by exact eval_look (by kernel_rfl) (by kernel_rfl)) (by exact eval_look (by kernel_rfl) (by kernel_rfl)) (fun W => idxU_run _ _ _ _ _ (by omega) W) hW) ?_
      refine @schain _ _ _ _ _ _ _ _ _ _ _ _ _ _ 54 (.int .u64 (1 + (tot (BB.take k) : Int))) (by rfl) (by rfl) (by kernel_rfl) (by rfl) (by exact fun s' W2 hW => srun_ld (by rfl) (by exact eval_look (by kernel_rfl) (by kernel_rfl)) (ldU _ _ _ _ (CU1.out _ hW.upd)) hW) ?_
      refine @schain _ _ _ _ _ _ _ _ _ _ _ _ _ _ 55 (.slice (some ⟨b2, o2, none⟩) n1 c1) (by rfl) (by rfl) (by kernel_rfl) (by rfl) (by exact fun s' W2 hW => srun_mv (by rfl) (by exact eval_base (by kernel_rfl) (by rfl)) hW) ?_
      refine @schain _ _ _ _ _ _ _ _ _ _ _ _ _ _ 56 (.int .i64 (k : Int)) (by rfl) (by rfl) (by kernel_rfl) (by rfl) (by exact fun s' W2 hW => srun_mv (by rfl) (by exact eval_base (by kernel_rfl) (by rfl)) hW) ?_
      refine @schain _ _ _ _ _ _ _ _ _ _ _ _ _ _ 57 (.pointer (some ⟨b2, o2 + k, none⟩)) (by rfl) (by rfl) (by kernel_rfl) (by rfl) (by exact fun s' W2 hW => srun_ia (u := .slice (some ⟨b2, o2, none⟩) n1 c1) (v := .int .i64 (k : Int)) (by rfl) (by exact eval_look (by kernel_rfl) (by kernel_rfl)) (by exact eval_look (by kernel_rfl) (by kernel_rfl)) (fun W => idxB_run _ _ _ _ _ (by omega) W) hW) ?_
      refine @schain _ _ _ _ _ _ _ _ _ _ _ _ _ _ 58 (.slice xa xl.length xc) (by rfl) (by rfl) (by kernel_rfl) (by rfl) (by exact fun s' W2 hW => srun_ld (by rfl) (by exact eval_look (by kernel_rfl) (by kernel_rfl)) (ldHw _ _ _ _ _ _ (CX1.out _ hW.upd)) hW) ?_
      refine @schainW _ _ _ _ _ _ _ _ _ _ _ _ _ _ 59 (.int .i64 0) (1) (by rfl) (by kernel_rfl) (by rfl) (by decide) (by exact fun W2 hW => srun_call (vs := #[.pointer (some ⟨t, 0, none⟩), .int .u64 (1 + (tot (BB.take k) : Int)), .slice xa xl.length xc]) (by rfl) (by kernel_rfl) (enters_of Try.func35 (by kernel_rfl) (by rfl)) ((show TwoM _ _ _ _ _ _ _ _ _ _ _ _ from hW).add fun S hS => HAD1.out S _ hS hW.upd)) ?_
      refine @schain _ _ _ _ _ _ _ _ _ _ _ _ _ _ 60 (.bool false) (by rfl) (by rfl) (by kernel_rfl) (by rfl) (by exact fun s' W2 hW => srun_bo (u := .int .i64 0) (v := .int .i64 0) (by rfl) (by exact eval_look (by kernel_rfl) (by kernel_rfl)) (by rfl) (fun W => by go_simp) hW) ?_
      refine @schain _ _ _ _ _ _ _ _ _ _ _ _ _ _ 61 (.bool false) (by rfl) (by rfl) (by kernel_rfl) (by rfl) (by exact fun s' W2 hW => srun_mv (by rfl) (by exact eval_look (by kernel_rfl) (by kernel_rfl)) hW) ?_
      refine @schain _ _ _ _ _ _ _ _ _ _ _ _ _ _ 62 (.pointer (some ⟨u, 0, none⟩)) (by rfl) (by rfl) (by kernel_rfl) (by rfl) (by exact fun s' W2 hW => srun_mv (by rfl) (by exact eval_base (by kernel_rfl) (by rfl)) hW) ?_
      refine @schain _ _ _ _ _ _ _ _ _ _ _ _ _ _ 63 (.slice (some ⟨b5, o5, none⟩) n1 c5) (by rfl) (by rfl) (by kernel_rfl) (by rfl) (by exact fun s' W2 hW => srun_mv (by rfl) (by exact eval_base (by kernel_rfl) (by rfl)) hW) ?_
      refine @schain _ _ _ _ _ _ _ _ _ _ _ _ _ _ 64 (.int .i64 (j : Int)) (by rfl) (by rfl) (by kernel_rfl) (by rfl) (by exact fun s' W2 hW => srun_mv (by rfl) (by exact eval_base (by kernel_rfl) (by rfl)) hW) ?_
      refine @schain _ _ _ _ _ _ _ _ _ _ _ _ _ _ 65 (.pointer (some ⟨b5, o5 + j, none⟩)) (by rfl) (by rfl) (by kernel_rfl) (by rfl) (by exact fun s' W2 hW => srun_ia (u := .slice (some ⟨b5, o5, none⟩) n1 c5) (v := .int .i64 (j : Int)) (by rfl) (by exact eval_look (by kernel_rfl) (by kernel_rfl)) (by exact eval_look (by kernel_rfl) (by kernel_rfl)) (fun W => idxU_run _ _ _ _ _ (by omega) W) hW) ?_
      refine @schain _ _ _ _ _ _ _ _ _ _ _ _ _ _ 66 (.int .u64 (1 + (tot (BB.take j) : Int))) (by rfl) (by rfl) (by kernel_rfl) (by rfl) (by exact fun s' W2 hW => srun_ld (by rfl) (by exact eval_look (by kernel_rfl) (by kernel_rfl)) (ldU _ _ _ _ (CU2.out _ hW.upd)) hW) ?_
      refine @schain _ _ _ _ _ _ _ _ _ _ _ _ _ _ 67 (.slice (some ⟨b2, o2, none⟩) n1 c1) (by rfl) (by rfl) (by kernel_rfl) (by rfl) (by exact fun s' W2 hW => srun_mv (by rfl) (by exact eval_base (by kernel_rfl) (by rfl)) hW) ?_
      refine @schain _ _ _ _ _ _ _ _ _ _ _ _ _ _ 68 (.int .i64 (j : Int)) (by rfl) (by rfl) (by kernel_rfl) (by rfl) (by exact fun s' W2 hW => srun_mv (by rfl) (by exact eval_base (by kernel_rfl) (by rfl)) hW) ?_
      refine @schain _ _ _ _ _ _ _ _ _ _ _ _ _ _ 69 (.pointer (some ⟨b2, o2 + j, none⟩)) (by rfl) (by rfl) (by kernel_rfl) (by rfl) (by exact fun s' W2 hW => srun_ia (u := .slice (some ⟨b2, o2, none⟩) n1 c1) (v := .int .i64 (j : Int)) (by rfl) (by exact eval_look (by kernel_rfl) (by kernel_rfl)) (by exact eval_look (by kernel_rfl) (by kernel_rfl)) (fun W => idxB_run _ _ _ _ _ (by omega) W) hW) ?_
      refine @schain _ _ _ _ _ _ _ _ _ _ _ _ _ _ 70 (.slice ya yl.length yc) (by rfl) (by rfl) (by kernel_rfl) (by rfl) (by exact fun s' W2 hW => srun_ld (by rfl) (by exact eval_look (by kernel_rfl) (by kernel_rfl)) (ldHw _ _ _ _ _ _ (CX2.out _ hW.upd)) hW) ?_
      refine @schainW _ _ _ _ _ _ _ _ _ _ _ _ _ _ 71 (.int .i64 0) (2) (by rfl) (by kernel_rfl) (by rfl) (by decide) (by exact fun W2 hW => srun_call (vs := #[.pointer (some ⟨u, 0, none⟩), .int .u64 (1 + (tot (BB.take j) : Int)), .slice ya yl.length yc]) (by rfl) (by kernel_rfl) (enters_of Try.func35 (by kernel_rfl) (by rfl)) (((show TwoM _ _ _ _ _ _ _ _ _ _ _ _ from hW).swap.add fun S hS => HAD2.out S _ hS hW.upd).mono fun e W' h => ⟨h.1, h.2.swap⟩)) ?_
      refine @schain _ _ _ _ _ _ _ _ _ _ _ _ _ _ 72 (.bool false) (by rfl) (by rfl) (by kernel_rfl) (by rfl) (by exact fun s' W2 hW => srun_bo (u := .int .i64 0) (v := .int .i64 0) (by rfl) (by exact eval_look (by kernel_rfl) (by kernel_rfl)) (by rfl) (fun W => by go_simp) hW) ?_
      refine snil (fun W2 hW2 => ?_)
      refine Eq.mpr (congrArg (fun a => wpList _ _ _ _ a W2) (show _ = (⟨#[Value.slice A dn c, Value.slice Ao en co, Value.slice (some ⟨b2, o2, none⟩) n1 c1, undef, undef, undef, u6, Value.pointer (some ⟨t, 0, none⟩), Value.pointer (some ⟨u, 0, none⟩), Value.slice (some ⟨b5, o5, none⟩) n1 c5, Value.int IntKind.i64 (wsum ws), Value.int IntKind.i64 (k : Int), Value.int IntKind.i64 (j : Int), u13, undef, undef, undef, undef, undef, undef, Value.bool true, Value.bool false, Value.slice B ln d, Value.bool true, Value.bool false, Value.slice B ln d, Value.slice (some ⟨b2, o2, none⟩) n1 c1, Value.slice A dn c, Value.pointer (some ⟨t, 0, none⟩), Value.slice Ao en co, Value.pointer (some ⟨u, 0, none⟩), Value.pointer (some ⟨t, 0, none⟩), Value.bool false, Value.bool false, Value.pointer (some ⟨u, 0, none⟩), Value.bool false, Value.bool false, Value.slice (some ⟨b2, o2, none⟩) n1 c1, Value.slice (some ⟨b5, o5, none⟩) n1 c5, Value.int IntKind.i64 (k : Int), Value.slice (some ⟨b2, o2, none⟩) n1 c1, Value.int IntKind.i64 (n1 : Int), Value.bool true, u43, u44, Value.slice (some ⟨b2, o2, none⟩) n1 c1, Value.int IntKind.i64 (n1 : Int), Value.int IntKind.i64 ((n1 : Int) - 1), Value.int IntKind.i64 (k : Int), Value.int IntKind.i64 (j : Int), Value.pointer (some ⟨t, 0, none⟩), Value.slice (some ⟨b5, o5, none⟩) n1 c5, Value.int IntKind.i64 (k : Int), Value.pointer (some ⟨b5, o5 + k, none⟩), Value.int IntKind.u64 (1 + ((Nat.cast : Nat → Int) (tot (List.take k BB)))), Value.slice (some ⟨b2, o2, none⟩) n1 c1, Value.int IntKind.i64 (k : Int), Value.pointer (some ⟨b2, o2 + k, none⟩), Value.slice xa xl.length xc, Value.int IntKind.i64 0, Value.bool false, Value.bool false, Value.pointer (some ⟨u, 0, none⟩), Value.slice (some ⟨b5, o5, none⟩) n1 c5, Value.int IntKind.i64 (j : Int), Value.pointer (some ⟨b5, o5 + j, none⟩), Value.int IntKind.u64 (1 + ((Nat.cast : Nat → Int) (tot (List.take j BB)))), Value.slice (some ⟨b2, o2, none⟩) n1 c1, Value.int IntKind.i64 (j : Int), Value.pointer (some ⟨b2, o2 + j, none⟩), Value.slice ya yl.length yc, Value.int IntKind.i64 0, Value.bool false, u73, u74, u75, u76, u77, u78, u79, u80, u81, u82, u83, u84, u85, u86, u87, u88, u89, u90, u91, u92, u93, u94, u95, u96, u97, u98, u99, u100, u101, u102, u103, u104, u105, undef, undef, undef, undef, undef, undef, undef, undef, undef, undef, undef, undef, undef, undef, undef, undef, undef, undef, undef, undef, undef, undef, undef, undef, undef, undef, undef, undef, undef, undef, undef, undef, undef, undef, undef, undef, undef, undef, undef, undef, undef, undef, undef, undef, undef, undef, undef, undef, undef, undef, undef, undef, undef, undef, undef, undef, undef, undef, undef, undef, undef, undef, undef, undef, undef, undef], []⟩ : Act) by kernel_rfl)) ?_
      have HT2 := Lib.hid (show TwoM _ _ _ _ _ _ _ _ _ _ _ _ from hW2)
      clear hW2
      obtain ⟨xn, hxn⟩ : ∃ X, xl.length = X := ⟨_, rfl⟩
      have HXN := Lib.hid hxn
      have hx16 : xn ≤ 16 := by rw [← hxn]; exact HXF.out.1
      have cx := CX1.out W2 HT2.out.upd
      rw [hxn] at cx ⊢
      clear hxn
      go_wp2_with fail
      go_loopw [10, 13] (fun s10 s13 wr => ∃ (i : Nat), s10 = .int .i64 (wsum (ws ++ xl.take i)) ∧ s13 = .int .i64 i ∧ i ≤ xn ∧ Below W2.heap.size W2 wr) (fun s10 s13 wr => xn - (intOf s13).toNat)
      case atStart => exact ⟨0, by simp, rfl, by omega, Below.refl _ _⟩
      case round =>
        obtain ⟨i, rfl, rfl, hi, hbi⟩ := hrel
        generalize wr = w8 at *
        have HB8 := Lib.hid hbi
        have HU8 := Lib.hid (HT2.out.upd.trans (Upd.of_below hbi))
        have cxi := CX1.out w8 HU8.out
        simp only [HXN.out] at cxi
        have CXI := Lib.hid cxi
        clear hbi
        by_cases hin : i < xn
        · obtain ⟨y, hy⟩ := getElem?_of_lt (l := xl) (by rw [HXN.out]; exact hin : i < xl.length)
          obtain ⟨b3, o3, hA3, _, hc3⟩ := (HXS.out w8 HU8.out).at hy
          subst hA3
          have CY0 := Lib.hid (show w8.cell? ⟨b3, o3 + i * 3, none⟩ = some (.string y.1) from hc3 0 _ rfl)
          have CY2 := Lib.hid (show w8.cell? ⟨b3, o3 + i * 3 + 2, none⟩ = some (.string y.2.2) from hc3 2 _ rfl)
          have hyf := HXF.out.2.2 y (List.mem_of_getElem? hy)
          have hy1 : y.1.size ≤ 64 := hyf.1
          have hy2 : y.2.2.size ≤ 512 := hyf.2.1
          have hsn : ws ++ xl.take (i + 1) = (ws ++ xl.take i) ++ [y] := by rw [List.take_add_one, hy, List.append_assoc]; rfl
          have hsm := wsum_bound (ws ++ xl.take i) (fun z hz => by
            rcases List.mem_append.1 hz with hz | hz
            · exact HWF.out z hz
            · have := HXF.out.2.2 z (List.mem_of_mem_take hz); omega)
          have hsl : (ws ++ xl.take i).length ≤ 976 := by
            rw [List.length_append, List.length_take]
            have := HWL.out
            omega
          have hsw := wsum_snoc (ws ++ xl.take i) y
          rw [← hsn] at hsw
          obtain ⟨sm, hse⟩ : ∃ X, wsum (ws ++ xl.take i) = X := ⟨_, rfl⟩
          rw [hse] at hsm hsw ⊢
          have hs1 : 0 ≤ sm := hsm.1
          have hs2 : sm ≤ 2000000 := by have := hsm.2; omega
          have HSW := Lib.hid hsw
          have i5 : (0 : Int) ≤ i := by omega
          have i6 : (i : Int) < xn := by omega
          clear hy hc3 hyf hsn hsm hsl hsw hse
          go_wp2_with fail
          refine wp_region_calmB 23 (by kernel_rfl) (by kernel_rfl) ?_
          simp only [List.take_succ_cons, List.take_zero, List.drop_succ_cons, List.drop_zero]
          refine chain0 ?_
          refine @chain _ _ _ _ _ _ _ _ 83 (.int .i64 sm) (by rfl) (by rfl) (by exact fun W2 hW => run_mv (by rfl) (by exact eval_base (by kernel_rfl) (by rfl)) hW) ?_
          refine @chain _ _ _ _ _ _ _ _ 84 (.slice (some ⟨b2, o2, none⟩) n1 c1) (by rfl) (by rfl) (by exact fun W2 hW => run_mv (by rfl) (by exact eval_base (by kernel_rfl) (by rfl)) hW) ?_
          refine @chain _ _ _ _ _ _ _ _ 85 (.int .i64 (k : Int)) (by rfl) (by rfl) (by exact fun W2 hW => run_mv (by rfl) (by exact eval_base (by kernel_rfl) (by rfl)) hW) ?_
          refine @chain _ _ _ _ _ _ _ _ 86 (.pointer (some ⟨b2, o2 + k, none⟩)) (by rfl) (by rfl) (by exact fun W2 hW => run_ia (u := .slice (some ⟨b2, o2, none⟩) n1 c1) (v := .int .i64 (k : Int)) (by rfl) (by exact eval_look (by kernel_rfl) (by kernel_rfl)) (by exact eval_look (by kernel_rfl) (by kernel_rfl)) (fun W => idxB_run _ _ _ _ _ (by omega) W) hW) ?_
          refine @chain _ _ _ _ _ _ _ _ 87 (.slice (some ⟨b3, o3, none⟩) xn xc) (by rfl) (by rfl) (by exact fun W2 hW => run_lw (by rfl) (by exact eval_look (by kernel_rfl) (by kernel_rfl)) (fun W hW => ldHw _ _ _ _ _ _ (cell_later hW CXI.out)) hW) ?_
          refine @chain _ _ _ _ _ _ _ _ 88 (.int .i64 (i : Int)) (by rfl) (by rfl) (by exact fun W2 hW => run_mv (by rfl) (by exact eval_base (by kernel_rfl) (by rfl)) hW) ?_
          refine @chain _ _ _ _ _ _ _ _ 89 (.pointer (some ⟨b3, o3 + i * 3, none⟩)) (by rfl) (by rfl) (by exact fun W2 hW => run_ia (u := .slice (some ⟨b3, o3, none⟩) xn xc) (v := .int .i64 (i : Int)) (by rfl) (by exact eval_look (by kernel_rfl) (by kernel_rfl)) (by exact eval_look (by kernel_rfl) (by kernel_rfl)) (fun W => idxW_run _ _ _ _ _ (by omega) W) hW) ?_
          refine @chain _ _ _ _ _ _ _ _ 90 (.pointer (some ⟨b3, o3 + i * 3, none⟩)) (by rfl) (by rfl) (by exact fun W2 hW => run_fa (p := .pointer (some ⟨b3, o3 + i * 3, none⟩)) (by rfl) (by exact eval_look (by kernel_rfl) (by kernel_rfl)) (fun W => by first | kernel_rfl | go_simp) hW) ?_
          refine @chain _ _ _ _ _ _ _ _ 91 (.string y.1) (by rfl) (by rfl) (by exact fun W2 hW => run_lw (by rfl) (by exact eval_look (by kernel_rfl) (by kernel_rfl)) (fun W hW => ldStr _ _ _ _ (cell_later hW CY0.out)) hW) ?_
          refine @chain _ _ _ _ _ _ _ _ 92 (.int .i64 (y.1.size : Int)) (by rfl) (by rfl) (by exact fun W2 hW => run_ln (u := .string y.1) (by rfl) (by exact eval_look (by kernel_rfl) (by kernel_rfl)) (fun W => by go_simp) hW) ?_
          refine @chain _ _ _ _ _ _ _ _ 93 (.int .i64 (2 * (y.1.size : Int))) (by rfl) (by rfl) (by exact fun W2 hW => run_bo (u := .int .i64 2) (v := .int .i64 (y.1.size : Int)) (by rfl) (by rfl) (by exact eval_look (by kernel_rfl) (by kernel_rfl)) (fun W => mulI_run _ _ _ _ _ (by omega) W) hW) ?_
          refine @chain _ _ _ _ _ _ _ _ 94 (.int .i64 (sm + (2 * (y.1.size : Int)))) (by rfl) (by rfl) (by exact fun W2 hW => run_bo (u := .int .i64 sm) (v := .int .i64 (2 * (y.1.size : Int))) (by rfl) (by exact eval_look (by kernel_rfl) (by kernel_rfl)) (by exact eval_look (by kernel_rfl) (by kernel_rfl)) (fun W => addI_run _ _ _ _ _ (by omega) W) hW) ?_
          refine @chain _ _ _ _ _ _ _ _ 95 (.slice (some ⟨b2, o2, none⟩) n1 c1) (by rfl) (by rfl) (by exact fun W2 hW => run_mv (by rfl) (by exact eval_base (by kernel_rfl) (by rfl)) hW) ?_
          refine @chain _ _ _ _ _ _ _ _ 96 (.int .i64 (k : Int)) (by rfl) (by rfl) (by exact fun W2 hW => run_mv (by rfl) (by exact eval_base (by kernel_rfl) (by rfl)) hW) ?_
          refine @chain _ _ _ _ _ _ _ _ 97 (.pointer (some ⟨b2, o2 + k, none⟩)) (by rfl) (by rfl) (by exact fun W2 hW => run_ia (u := .slice (some ⟨b2, o2, none⟩) n1 c1) (v := .int .i64 (k : Int)) (by rfl) (by exact eval_look (by kernel_rfl) (by kernel_rfl)) (by exact eval_look (by kernel_rfl) (by kernel_rfl)) (fun W => idxB_run _ _ _ _ _ (by omega) W) hW) ?_
          refine @chain _ _ _ _ _ _ _ _ 98 (.slice (some ⟨b3, o3, none⟩) xn xc) (by rfl) (by rfl) (by exact fun W2 hW => run_lw (by rfl) (by exact eval_look (by kernel_rfl) (by kernel_rfl)) (fun W hW => ldHw _ _ _ _ _ _ (cell_later hW CXI.out)) hW) ?_
          refine @chain _ _ _ _ _ _ _ _ 99 (.int .i64 (i : Int)) (by rfl) (by rfl) (by exact fun W2 hW => run_mv (by rfl) (by exact eval_base (by kernel_rfl) (by rfl)) hW) ?_
          refine @chain _ _ _ _ _ _ _ _ 100 (.pointer (some ⟨b3, o3 + i * 3, none⟩)) (by rfl) (by rfl) (by exact fun W2 hW => run_ia (u := .slice (some ⟨b3, o3, none⟩) xn xc) (v := .int .i64 (i : Int)) (by rfl) (by exact eval_look (by kernel_rfl) (by kernel_rfl)) (by exact eval_look (by kernel_rfl) (by kernel_rfl)) (fun W => idxW_run _ _ _ _ _ (by omega) W) hW) ?_
          refine @chain _ _ _ _ _ _ _ _ 101 (.pointer (some ⟨b3, o3 + i * 3 + 2, none⟩)) (by rfl) (by rfl) (by exact fun W2 hW => run_fa (p := .pointer (some ⟨b3, o3 + i * 3, none⟩)) (by rfl) (by exact eval_look (by kernel_rfl) (by kernel_rfl)) (fun W => by first | kernel_rfl | go_simp) hW) ?_
          refine @chain _ _ _ _ _ _ _ _ 102 (.string y.2.2) (by rfl) (by rfl) (by exact fun W2 hW => run_lw (by rfl) (by exact eval_look (by kernel_rfl) (by kernel_rfl)) (fun W hW => ldStr _ _ _ _ (cell_later hW CY2.out)) hW) ?_
          refine @chain _ _ _ _ _ _ _ _ 103 (.int .i64 (y.2.2.size : Int)) (by rfl) (by rfl) (by exact fun W2 hW => run_ln (u := .string y.2.2) (by rfl) (by exact eval_look (by kernel_rfl) (by kernel_rfl)) (fun W => by go_simp) hW) ?_
          refine @chain _ _ _ _ _ _ _ _ 104 (.int .i64 ((sm + (2 * (y.1.size : Int))) + (y.2.2.size : Int))) (by rfl) (by rfl) (by exact fun W2 hW => run_bo (u := .int .i64 (sm + (2 * (y.1.size : Int)))) (v := .int .i64 (y.2.2.size : Int)) (by rfl) (by exact eval_look (by kernel_rfl) (by kernel_rfl)) (by exact eval_look (by kernel_rfl) (by kernel_rfl)) (fun W => addI_run _ _ _ _ _ (by omega) W) hW) ?_
          refine @chain _ _ _ _ _ _ _ _ 105 (.int .i64 (((sm + (2 * (y.1.size : Int))) + (y.2.2.size : Int)) + 448)) (by rfl) (by rfl) (by exact fun W2 hW => run_bo (u := .int .i64 ((sm + (2 * (y.1.size : Int))) + (y.2.2.size : Int))) (v := .int .i64 448) (by rfl) (by exact eval_look (by kernel_rfl) (by kernel_rfl)) (by rfl) (fun W => addI_run _ _ _ _ _ (by omega) W) hW) ?_
          refine calm_nil (fun W3 hW3 => ?_)
          refine Eq.mpr (congrArg (fun a => wpList _ _ _ _ a W3) (show _ = (⟨#[Value.slice A dn c, Value.slice Ao en co, Value.slice (some ⟨b2, o2, none⟩) n1 c1, undef, undef, undef, u6, Value.pointer (some ⟨t, 0, none⟩), Value.pointer (some ⟨u, 0, none⟩), Value.slice (some ⟨b5, o5, none⟩) n1 c5, Value.int IntKind.i64 sm, Value.int IntKind.i64 (k : Int), Value.int IntKind.i64 (j : Int), Value.int IntKind.i64 (i : Int), undef, undef, undef, undef, undef, undef, Value.bool true, Value.bool false, Value.slice B ln d, Value.bool true, Value.bool false, Value.slice B ln d, Value.slice (some ⟨b2, o2, none⟩) n1 c1, Value.slice A dn c, Value.pointer (some ⟨t, 0, none⟩), Value.slice Ao en co, Value.pointer (some ⟨u, 0, none⟩), Value.pointer (some ⟨t, 0, none⟩), Value.bool false, Value.bool false, Value.pointer (some ⟨u, 0, none⟩), Value.bool false, Value.bool false, Value.slice (some ⟨b2, o2, none⟩) n1 c1, Value.slice (some ⟨b5, o5, none⟩) n1 c5, Value.int IntKind.i64 (k : Int), Value.slice (some ⟨b2, o2, none⟩) n1 c1, Value.int IntKind.i64 (n1 : Int), Value.bool true, u43, u44, Value.slice (some ⟨b2, o2, none⟩) n1 c1, Value.int IntKind.i64 (n1 : Int), Value.int IntKind.i64 ((n1 : Int) - 1), Value.int IntKind.i64 (k : Int), Value.int IntKind.i64 (j : Int), Value.pointer (some ⟨t, 0, none⟩), Value.slice (some ⟨b5, o5, none⟩) n1 c5, Value.int IntKind.i64 (k : Int), Value.pointer (some ⟨b5, o5 + k, none⟩), Value.int IntKind.u64 (1 + ((Nat.cast : Nat → Int) (tot (List.take k BB)))), Value.slice (some ⟨b2, o2, none⟩) n1 c1, Value.int IntKind.i64 (k : Int), Value.pointer (some ⟨b2, o2 + k, none⟩), Value.slice (some ⟨b3, o3, none⟩) xn xc, Value.int IntKind.i64 0, Value.bool false, Value.bool false, Value.pointer (some ⟨u, 0, none⟩), Value.slice (some ⟨b5, o5, none⟩) n1 c5, Value.int IntKind.i64 (j : Int), Value.pointer (some ⟨b5, o5 + j, none⟩), Value.int IntKind.u64 (1 + ((Nat.cast : Nat → Int) (tot (List.take j BB)))), Value.slice (some ⟨b2, o2, none⟩) n1 c1, Value.int IntKind.i64 (j : Int), Value.pointer (some ⟨b2, o2 + j, none⟩), Value.slice ya yl.length yc, Value.int IntKind.i64 0, Value.bool false, Value.bool false, Value.int IntKind.i64 (i : Int), Value.slice (some ⟨b2, o2, none⟩) n1 c1, Value.int IntKind.i64 (k : Int), Value.pointer (some ⟨b2, o2 + k, none⟩), Value.slice (some ⟨b3, o3, none⟩) xn xc, Value.int IntKind.i64 (xn : Int), Value.bool true, u81, u82, Value.int IntKind.i64 sm, Value.slice (some ⟨b2, o2, none⟩) n1 c1, Value.int IntKind.i64 (k : Int), Value.pointer (some ⟨b2, o2 + k, none⟩), Value.slice (some ⟨b3, o3, none⟩) xn xc, Value.int IntKind.i64 (i : Int), Value.pointer (some ⟨b3, o3 + i * 3, none⟩), Value.pointer (some ⟨b3, o3 + i * 3, none⟩), Value.string y.fst, Value.int IntKind.i64 (y.fst.size : Int), Value.int IntKind.i64 (2 * (y.fst.size : Int)), Value.int IntKind.i64 (sm + 2 * (y.fst.size : Int)), Value.slice (some ⟨b2, o2, none⟩) n1 c1, Value.int IntKind.i64 (k : Int), Value.pointer (some ⟨b2, o2 + k, none⟩), Value.slice (some ⟨b3, o3, none⟩) xn xc, Value.int IntKind.i64 (i : Int), Value.pointer (some ⟨b3, o3 + i * 3, none⟩), Value.pointer (some ⟨b3, o3 + i * 3 + 2, none⟩), Value.string y.snd.snd, Value.int IntKind.i64 (y.snd.snd.size : Int), Value.int IntKind.i64 (sm + 2 * (y.fst.size : Int) + (y.snd.snd.size : Int)), Value.int IntKind.i64 (sm + 2 * (y.fst.size : Int) + (y.snd.snd.size : Int) + 448), undef, undef, undef, undef, undef, undef, undef, undef, undef, undef, undef, undef, undef, undef, undef, undef, undef, undef, undef, undef, undef, undef, undef, undef, undef, undef, undef, undef, undef, undef, undef, undef, undef, undef, undef, undef, undef, undef, undef, undef, undef, undef, undef, undef, undef, undef, undef, undef, undef, undef, undef, undef, undef, undef, undef, undef, undef, undef, undef, undef, undef, undef, undef, undef, undef, undef], []⟩ : Act) by kernel_rfl)) ?_
          have HW3 := Lib.hid hW3
          clear hW3
          go_wp2
          go_roundw
          case rel => exact ⟨i + 1, by rw [HSW.out]; (try congr 1); omega, by first | rfl | simp, by omega, HB8.out.trans (HW3.out.mono HB8.out.size)⟩
          case measure => simp [intOf]; omega
        · have hi2 : xn = i := by omega
          clear hin hi
          subst hi2
          have HTE := Lib.hid (HT2.out.later HB8.out)
          rw [show xl.take xn = xl from List.take_of_length_le (by rw [HXN.out]; exact Nat.le_refl _)]
          go_wp2
          go_roundw
          case rel => exact ⟨k + 1, by rw [HWS.out], by first | rfl | simp, by omega, by rw [HPN.out, HRN.out]; exact HTE.out⟩
          case measure => simp [intOf]; omega
    · have hk2 : n1 = k := by omega
      clear hkn hk
      subst hk2
      rw [List.take_of_length_le (by rw [HBN.out]; exact Nat.le_refl _)] at HT ⊢
      have hos := order_same draws other HFIT.out
      have hsq := order_seq draws HFIT.out
      rw [HBN.out] at hos
      have HTL := Lib.hid (show ∀ k, tot (BB.take k) ≤ 960 from fun k => (HFIT.out.take k).tot)
      have htl : tot BB ≤ 960 := HFIT.out.tot
      obtain ⟨tn, htn⟩ : ∃ X, tot BB = X := ⟨_, rfl⟩
      rw [htn] at hos htl
      have HTN := Lib.hid htn
      obtain ⟨wn, hwn⟩ : ∃ X, wsum BB.flatten = X := ⟨_, rfl⟩
      rw [hwn] at hos ⊢
      obtain ⟨M1, hM1⟩ : ∃ M, memE draws (ents 1 BB.flatten) = M := ⟨_, rfl⟩
      obtain ⟨M2, hM2⟩ : ∃ M, memE other (revE BB n1) = M := ⟨_, rfl⟩
      rw [hM1, hM2] at hos HT
      rw [hM1] at hsq
      obtain ⟨p1, p2, p3, p4, p5, p6⟩ := hos
      obtain ⟨fr, hfr⟩ : ∃ X, allE M1.L = X := ⟨_, rfl⟩
      rw [hfr] at p1 p2 hsq
      have HNA := Lib.hid (show notAhead ⟨#[]⟩ 18446744073709551615 (allE M1.L) = fr by rw [hfr]; exact notAhead_all hsq)
      have HNB := Lib.hid (show notAhead ⟨#[]⟩ 18446744073709551615 (allE M2.L) = fr by rw [← p1]; exact notAhead_all hsq)
      have HFM := Lib.hid p2
      have P3 := Lib.hid p3
      have P4 := Lib.hid p4
      have P5 := Lib.hid p5
      have P6 := Lib.hid p6
      obtain ⟨Sa, hsa⟩ := HT.out.left
      obtain ⟨Sb, hsb⟩ := HT.out.right
      have HMA := Lib.hid hsa
      have HMB := Lib.hid hsb
      have HBQ := Lib.hid (HT.out.upd.below HB5.out (fun k hk => by
        have := HIN.out k hk
        have := HB3.out.size
        omega))
      clear hsq htn hwn hM1 hM2 p1 p2 p3 p4 p5 p6 hfr hsa hsb
      go_wp2_with fail
      have hmf := mall_v (HMA.out) (Below.refl _ _)
      rw [HNA.out] at hmf
      have HMF := Lib.hid hmf
      clear hmf
      refine HMF.out.mono ?_
      rintro _ v10 ⟨f10, rfl, hit, hb9⟩
      have HT10 := Lib.hid (taken6_c f10 (-1) _ _ v10 hit hb9.size (by rw [HFM.out]; omega))
      rw [show takeN (-1) fr = fr from takeN_all (.inl (by decide))] at HT10
      clear hit
      have HD10 := Lib.hid hb9
      clear hb9
      go_wp2_with fail
      refine HT10.out.mono ?_
      rintro _ w10 ⟨x10, rfl, hown10, hb10⟩
      clear HT10 HMF
      obtain ⟨A10, c10, rfl⟩ := own_slice hown10
      obtain ⟨_, _, hv10, _, hs10, _⟩ := hown10.slice (fun _ => rfl)
      injection hv10 with e1 e2 e3
      rw [← e1] at hs10
      rw [HFM.out]
      have HS10 := Lib.hid hs10
      have HX10 := Lib.hid (HD10.out.trans (hb10.mono HD10.out.size))
      have HB10 := Lib.hid (HX10.out)
      clear hown10 hs10 hb10 e1 e2 e3
      go_wp2_with fail
      have hmf := mall_v (HMB.out.later HB10.out) (Below.refl _ _)
      rw [HNB.out] at hmf
      have HMF := Lib.hid hmf
      clear hmf
      refine HMF.out.mono ?_
      rintro _ v14 ⟨f14, rfl, hit, hb9⟩
      have HT14 := Lib.hid (taken6_c f14 (-1) _ _ v14 hit hb9.size (by rw [HFM.out]; omega))
      rw [show takeN (-1) fr = fr from takeN_all (.inl (by decide))] at HT14
      clear hit
      have HD14 := Lib.hid hb9
      clear hb9
      go_wp2_with fail
      refine HT14.out.mono ?_
      rintro _ w14 ⟨x14, rfl, hown10, hb10⟩
      clear HT14 HMF
      obtain ⟨A14, c14, rfl⟩ := own_slice hown10
      obtain ⟨_, _, hv10, _, hs10, _⟩ := hown10.slice (fun _ => rfl)
      injection hv10 with e1 e2 e3
      rw [← e1] at hs10
      rw [HFM.out]
      have HS14 := Lib.hid hs10
      have HX14 := Lib.hid (HD14.out.trans (hb10.mono HD14.out.size))
      have HB14 := Lib.hid (HB10.out.trans (HX14.out.mono HB10.out.size))
      clear hown10 hs10 hb10 e1 e2 e3
      have HVW := Lib.hid HX14.out
      go_wp2_with fail
      go_loopw [18, 19] (fun s18 s19 wr => ∃ (k : Nat), s18 = .int .i64 (tot (BB.take k) : Int) ∧ s19 = .int .i64 k ∧ k ≤ n1 ∧ Below w14.heap.size w14 wr) (fun s18 s19 wr => n1 - (intOf s19).toNat)
      case atStart => exact ⟨0, rfl, rfl, by omega, Below.refl _ _⟩
      case round =>
        obtain ⟨k, rfl, rfl, hk, hbk⟩ := hrel
        generalize wr = w15 at *
        have HB15 := Lib.hid (HB14.out.trans (hbk.mono HB14.out.size))
        have HBK := Lib.hid hbk
        clear hbk
        by_cases hkn : k < n1
        · obtain ⟨x, hx⟩ := getElem?_of_lt (l := L1) (by rw [HN1.out]; exact hkn : k < L1.length)
          have hxb : BB[k]? = some x.2.2 := by rw [← HBBE.out, List.getElem?_map, hx]; rfl
          have HTS := Lib.hid (tot_snoc hxb)
          have htk := HTL.out k
          have htk2 := HTL.out (k + 1)
          rw [HTS.out] at htk2
          obtain ⟨b2, o2, hA2, _, hc2⟩ := (HSL1.out w15 (HT.out.upd.trans (Upd.of_below HB15.out))).1.at hx
          subst hA2
          have y2 : w15.cell? ⟨b2, o2 + k, none⟩ = some (.slice x.1 x.2.2.length x.2.1) := by simpa using hc2 0 _ rfl
          have i1 : (0 : Int) ≤ k := by omega
          have i2 : (k : Int) < n1 := by omega
          obtain ⟨tk, htk3⟩ : ∃ X, tot (BB.take k) = X := ⟨_, rfl⟩
          rw [htk3] at HTS htk htk2 ⊢
          obtain ⟨xn, hxn⟩ : ∃ X, x.2.2.length = X := ⟨_, rfl⟩
          rw [hxn] at HTS htk2 y2
          clear hx hxb hc2 htk3 hxn
          go_wp2
          go_roundw
          case rel => exact ⟨k + 1, by rw [HTS.out]; first | rfl | simp | (push_cast; rfl), by first | rfl | simp, by omega, HBK.out⟩
          case measure => simp [intOf]; omega
        · have hk3 : n1 = k := by omega
          clear hkn hk
          subst hk3
          rw [List.take_of_length_le (by rw [HBN.out]; exact Nat.le_refl _), HTN.out]
          have hse := sameEntries6_c A10 c10 fr A14 c14 fr w15 ((HS10.out.later HVW.out).later HBK.out) (HS14.out.later HBK.out)
          rw [HFM.out] at hse
          have HSE := Lib.hid hse
          clear hse
          go_wp2_with fail
          refine HSE.out.mono ?_
          rintro _ w17 ⟨rfl, hb17⟩
          have HB17 := Lib.hid (HB15.out.trans (hb17.mono HB15.out.size))
          clear hb17 HSE
          have HW1 := Lib.hid (mweight_c (HMA.out.later HB17.out))
          have HW2 := Lib.hid (mweight_c (HMB.out.later HB17.out))
          have HL1 := Lib.hid (mlast_c (HMA.out.later HB17.out))
          have HL2 := Lib.hid (mlast_c (HMB.out.later HB17.out))
          rw [P3.out] at HW1
          rw [P4.out] at HW2
          rw [P5.out] at HL1
          rw [P6.out] at HL2
          simp only [decide_true]
          go_wp2_with fail
          refine HW1.out.mono ?_
          rintro _ _ ⟨rfl, rfl⟩
          go_wp2_with fail
          refine HW2.out.mono ?_
          rintro _ _ ⟨rfl, rfl⟩
          go_wp2_with fail
          refine HL1.out.mono ?_
          rintro _ _ ⟨rfl, rfl⟩
          go_wp2_with fail
          refine HL2.out.mono ?_
          rintro _ _ ⟨rfl, rfl⟩
          go_wp2
          go_ret
          exact ⟨by first | rfl | simp, HBQ.out.trans (HB17.out.mono HBQ.out.size)⟩
theorem memOrder_w (A : Option Addr) (c : Nat) (draws : List Int) (Ao : Option Addr) (co : Nat) (other : List Int) (B : Option Addr) (d : Nat) (l : List (List Wri)) (w : World) (ha : Sl encB 1 w A draws) (hal : draws.length < 140737488351233) (hby : ∀ x ∈ draws, U8 x) (ho : Sl encB 1 w Ao other) (hol : other.length < 140737488351233) (hoy : ∀ x ∈ other, U8 x) (hb : ∃ L : List HW, L.map (·.2.2) = l ∧ Sl2 w B L) :
    Calls Try.prog 7 #[.slice A draws.length c, .slice Ao other.length co, .slice B l.length d] w fun e w' => e = .returned (.bool true) ∧ Below w.heap.size w w' := by
  obtain ⟨L, rfl, hL⟩ := hb
  rw [List.length_map]
  exact memOrder_c A c draws Ao co other B d L w ha hal hby ho hol hoy hL
end Go.Proofs.Ytjbbobhjomhnmaa.H
