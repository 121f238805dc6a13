/- MemFresh's walk (printed by genme20.py). Conditions: sizes. -/
import Derived.Test.YtjbbobhjomhnmaaMe19
import Derived.Deep.DeepCutAuto
namespace Go.Proofs.Ytjbbobhjomhnmaa.H
open Go Go.RowKit Go.Deep Go.Shelf Go.Proofs Go.Proofs.YtjbbobhjomhnmaaW.PrintWords
set_option linter.unusedVariables false
set_option linter.unusedSimpArgs false
theorem ldTb (b j t : Nat) (W : World) (h : W.cell? ⟨b, j, none⟩ = some (.pointer (some ⟨t, 0, none⟩))) : (Instr.loadAt 81 (.pointer (some ⟨b, j, none⟩))).run Try.prog W = .ok (.pointer (some ⟨t, 0, none⟩)) W := by
  go_simp
theorem run_store_func (P : Program) (w : World) (a : Addr) (m : Mode) (f : Fn) (x y : Array Value) : (store a (.func f x y) m).run P w = stored P w a (.func f x y) m := run_store P w a _ m rfl
attribute [local go_sem] run_store_func
theorem ne_out {T : Nat → Prop} {a b : Nat} (hT : ∀ k, T k → a ≤ k) (h : b < a) : ¬ T b := fun h2 => by have := hT b h2; omega
/-- From's iterator, wherever its own blocks and the list's lie as they lay. -/
theorem from_u (g : Nat) (S : Nat → Prop) (l : List Nd) (draws : List Int) (k : ByteArray) (q : Int) (w0 w : World) (h : SkIs w0 g S l draws) (hb0 : Below w0.heap.size w0 w) :
    Calls Try.prog 17 #[.pointer (some ⟨g, 0, none⟩), .string k, .int .u64 q] w fun e w' => ∃ gf lb, e = .returned (.func (.func gf) #[] lb) ∧ (∀ args w, (callFunc gf args).run Try.prog w = .ok (.enter gf args) w) ∧
      (∀ (T : Nat → Prop) W, Upd T w' W → (∀ k, T k → w0.heap.size ≤ k ∧ (k < w.heap.size ∨ w'.heap.size ≤ k)) → IterT Try.prog gf lb encA w0.heap.size (notAhead k q (l.map (·.e))) W) ∧ Below w.heap.size w w' := by
  obtain ⟨pre, post, rfl, h1, h2⟩ := split_at l h.order (k, q, false, ⟨#[]⟩)
  refine (from_c (.pointer (some ⟨g, 0, none⟩)) k q w (some ⟨g, 0, none⟩)).mono ?_
  rintro e w' ⟨rfl, rfl⟩
  have hb : Below w.heap.size w (((w.alloc (.cells #[.pointer (some ⟨g, 0, none⟩)] 43)).alloc (.cells #[.string k] 9)).alloc (.cells #[.int .u64 q] 51)) := (((Below.refl _ _).alloc (Nat.le_refl _) _).alloc (by simp) _).alloc (by simp; omega) _
  refine ⟨_, _, rfl, enters_of Try.func79 (by kernel_rfl) rfl, fun T W hW hT => ?_, hb⟩
  rw [notAhead_post h1 h2]
  have hsz : (((w.alloc (.cells #[.pointer (some ⟨g, 0, none⟩)] 43)).alloc (.cells #[.string k] 9)).alloc (.cells #[.int .u64 q] 51)).heap.size = w.heap.size + 1 + 1 + 1 := by simp
  refine from1_it w0 W g pre post k q (hW.below (hb0.trans (hb.mono hb0.size)) (fun k hk => (hT k hk).1)) h.nodes h1 h2 _ _ _ (hW.cell ?_ (fun h => ?_)) (hW.cell ?_ (fun h => ?_)) (hW.cell ?_ (fun h => ?_))
  · exact (blk_cell (blk_alloc (blk_alloc (heap_alloc_new _ _) _) _) 0).trans rfl
  · have := (hT _ h).2; simp only at this; omega
  · exact (blk_cell (blk_alloc (by simpa using heap_alloc_new (w.alloc (.cells #[.pointer (some ⟨g, 0, none⟩)] 43)) (.cells #[.string k] 9)) _) 0).trans rfl
  · have := (hT _ h).2; simp only at this; omega
  · exact (blk_cell (by simpa using heap_alloc_new ((w.alloc (.cells #[.pointer (some ⟨g, 0, none⟩)] 43)).alloc (.cells #[.string k] 9)) (.cells #[.int .u64 q] 51)) 0).trans rfl
  · have := (hT _ h).2; simp only at this; omega
set_option maxHeartbeats 1000000 in
theorem mall_u {t g : Nat} {S : Nat → Prop} {draws : List Int} {m : MemV} {w0 w : World} (h : MemIs w0 t g S draws m) (hb0 : Below w0.heap.size w0 w) :
    Calls Try.prog 37 #[.pointer (some ⟨t, 0, none⟩)] w fun e w' => ∃ gf lb, e = .returned (.func (.func gf) #[] lb) ∧ (∀ args w, (callFunc gf args).run Try.prog w = .ok (.enter gf args) w) ∧
      (∀ (T : Nat → Prop) W, Upd T w' W → (∀ k, T k → w0.heap.size ≤ k ∧ (k < w.heap.size ∨ w'.heap.size ≤ k)) → IterT Try.prog gf lb encA w0.heap.size (notAhead ⟨#[]⟩ 18446744073709551615 (allE m.L)) W) ∧ Below w.heap.size w w' := by
  have h2 := h.later hb0
  obtain ⟨⟨t0, t1, t2, t3⟩, _⟩ := h2.cells
  obtain ⟨l, hs, hl, hlt⟩ := h.list
  have HF := Lib.hid (from_u g S l draws ⟨#[]⟩ 18446744073709551615 w0 w hs hb0)
  rw [← hl, show allE (ehs l) = l.map (·.e) from ehs_fst l]
  clear h h2 hb0 hs hl hlt
  go_enter Try.func37, Try.ntmps37
  go_wp2_with fail
  refine HF.out.mono ?_
  rintro e w' ⟨gf, lb, rfl, hen, hit, hb⟩
  have HIT := Lib.hid hit
  have HEN := Lib.hid hen
  have HB := Lib.hid hb
  clear hit hen hb
  go_wp2
  go_ret
  exact ⟨gf, lb, rfl, HEN.out, HIT.out, HB.out⟩
/-- Where the walk within stands: how many have come. -/
structure FreAt (bW bN : Nat) (pre : List Ent) (T : Nat → Prop) (W : World) : Prop where
  foot : ∀ k, T k ↔ k = bW ∨ k = bN
  w : W.heap[bW]? = some (.cells #[.bool true] 4 (0, 0))
  n : W.heap[bN]? = some (.cells #[.int .i64 (pre.length : Int)] 3 (0, 0))
theorem fre_foot (bW bN : Nat) : Foot (FreAt bW bN) := by
  refine ⟨fun {s T W k} h hk => ?_, fun {s T W W'} h hs => ⟨h.foot, (hs.block _ ((h.foot _).2 (.inl rfl))).trans h.w, (hs.block _ ((h.foot _).2 (.inr rfl))).trans h.n⟩⟩
  rcases (h.foot k).1 hk with rfl | rfl
  · exact blk_lt h.w
  · exact blk_lt h.n
theorem no_foot {α : Type} : Foot (fun (_ : List α) (_ : Nat → Prop) (_ : World) => False) := ⟨fun h => h.elim, fun h => h.elim⟩
theorem MemIs.seq {draws : List Int} {f : Int} {ws : List Wri} (h0 : 0 ≤ f) (h1 : f + (ws.length : Int) ≤ 9223372036854775807) : ∀ e ∈ allE (memF draws f ws).L, e.2.1 ≤ 18446744073709551615 := fun e he => by
  obtain ⟨j, hj⟩ := List.getElem?_of_mem ((memF_laid draws h0 h1).perm.subset he)
  obtain ⟨x, hx, rfl⟩ := ents_at hj
  have := (List.getElem?_eq_some_iff.1 hx).1
  rw [ent_seq h0 (by omega)]
  omega
theorem add_frozen {t g : Nat} {S : Nat → Prop} {draws : List Int} {m : MemV} {w : World} (h : MemIs w t g S draws m) (hf : m.fz = true) (hl : m.L.length < 2932031000000) (hw : 0 ≤ m.wt ∧ m.wt < 4000000000000000000) :
    Calls Try.prog 35 #[.pointer (some ⟨t, 0, none⟩), .int .u64 1, .slice none 0 0] w fun e w' => e = .returned (.int .i64 60) ∧ Upd (fun k => S k ∨ k = t) w w' := by
  have ha := add_c h 1 none 0 [] (Sl.nil _ _ _ _) (fun x hx => by simp at hx) hl hw
  simp only [hf, if_true] at ha
  exact ha.mono fun e w' hh => ⟨hh.1, hh.2.upd⟩
set_option maxHeartbeats 12800000 in
set_option maxRecDepth 100000 in
theorem memFresh_c (A : Option Addr) (c : Nat) (draws : List Int) (B : Option Addr) (d : Nat) (l : List HW) (w : World) (ha : Sl encB 1 w A draws) (hal : draws.length < 140737488351233) (hby : ∀ x ∈ draws, U8 x) (hb : Sl2 w B l) :
    Calls Try.prog 11 #[.slice A draws.length c, .slice B l.length d] w fun e w' => e = .returned (.bool true) ∧ Below w.heap.size w w' := by
  have HK := Lib.hid (known6_c w)
  have HNEW := Lib.hid (fun (w1 : World) (hb1 : Below w.heap.size w w1) => mnew_c A c draws w1 (ha.later hb1) hal hby)
  have HGR := Lib.hid (fun (w1 : World) (hb1 : Below w.heap.size w w1) => groups_c B d l w1 (hb.later hb1))
  have HBA := Lib.hid (fun (w1 : World) (hb1 : Below w.heap.size w w1) => batches_c B d l w1 (hb.later hb1))
  obtain ⟨dn, hdn⟩ : ∃ n, draws.length = n := ⟨_, rfl⟩
  obtain ⟨ln, hln⟩ : ∃ n, l.length = n := ⟨_, rfl⟩
  rw [hdn] at HNEW ⊢
  rw [hln] at HGR HBA ⊢
  clear ha hal hby hb hdn hln
  go_enter Try.func11, Try.ntmps11
  go_wp2_with fail
  refine HK.out.mono ?_
  rintro _ w1 ⟨rfl, hb1⟩
  have HB1 := Lib.hid hb1
  clear hb1
  go_wp2_with fail
  refine (HGR.out w1 HB1.out).mono ?_
  rintro _ w2 ⟨⟨b, rfl⟩, hb2⟩
  have HB2 := Lib.hid (HB1.out.trans (hb2.mono HB1.out.size))
  clear hb2
  rcases b with _ | _
  · go_wp2
    go_ret
    exact ⟨rfl, HB2.out⟩
  go_wp2_with fail
  refine (HBA.out w2 HB2.out).mono ?_
  rintro _ w3 ⟨v1, rfl, L1, hL1, hmade, hb3⟩
  obtain ⟨A1, c1, hv1, hlc, _, _⟩ := hmade.own.slice (fun x => (okH x).1)
  subst hv1
  have HFIT := Lib.hid (show Fit (L1.map (·.2.2)) by rw [hL1]; exact batch_fit _)
  obtain ⟨BB, hBB⟩ : ∃ X, L1.map (·.2.2) = X := ⟨_, rfl⟩
  rw [hBB] at HFIT
  have HMADE := Lib.hid hmade
  have HB3 := Lib.hid (HB2.out.trans (hb3.mono HB2.out.size))
  obtain ⟨n1, hn1⟩ : ∃ n, L1.length = n := ⟨_, rfl⟩
  obtain ⟨n8, hn8⟩ : ∃ n, (L1.take 8).length = n := ⟨_, rfl⟩
  have hn8m : n8 = min 8 n1 := by rw [← hn8, List.length_take, hn1]
  obtain ⟨BC, hBC⟩ : ∃ X, (L1.take 8).map (·.2.2) = X := ⟨_, rfl⟩
  have HFC := Lib.hid (show Fit BC by rw [← hBC, List.map_take, hBB]; exact HFIT.out.take 8)
  have hbn : BC.length = n8 := by rw [← hBC, List.length_map, hn8]
  have hn60 : n8 ≤ 60 := by rw [← hbn]; exact HFC.out.len
  have HNU := Lib.hid (fun (w : World) (hs : Sl2 w A1 (L1.take 8)) => numbered_c A1 c1 (L1.take 8) 1 w hs (by decide) (by rw [hBC]; have := HFC.out.tot; omega) (by omega))
  rw [hBC, hn8] at HNU
  have HOB := Lib.hid (ownBlock_of HMADE.out.own)
  rw [hn1] at HMADE ⊢
  rw [hn1] at hlc
  have HBCE := Lib.hid hBC
  have HN8 := Lib.hid hn8
  have HBN := Lib.hid hbn
  have HN8M := Lib.hid hn8m
  clear hL1 hmade hb3 hBB hn1 hbn hn8 hBC hn8m
  go_upto_region 6 with fail
  go_cut [1] (fun s1 wx => s1 = .slice A1 n8 c1 ∧ wx = w3)
  case first =>
    have i0 : (0 : Int) ≤ n1 := by omega
    have i9 : (n1 : Int) ≤ c1 := by omega
    rcases Nat.lt_or_ge 8 n1 with h | h
    · have i1 : (8 : Int) < n1 := by omega
      have i2 : (8 : Int) ≤ n1 := by omega
      have i3 : ¬ (n1 : Int) ≤ 8 := by omega
      have i4 : (8 : Int) ≤ c1 := by omega
      have HH := Lib.hid h
      clear h
      go_wp2_with fail
      go_meet
      exact ⟨by rw [HN8M.out, Nat.min_eq_left (by have := HH.out; omega)], rfl⟩
    · have i1 : (n1 : Int) ≤ 8 := by omega
      have i2 : ¬ (8 : Int) < n1 := by omega
      have HH := Lib.hid h
      clear h
      go_wp2_with fail
      go_meet
      exact ⟨by rw [HN8M.out, Nat.min_eq_right HH.out], rfl⟩
  case rest =>
    obtain ⟨rfl, rfl⟩ := hcut
    clear hlc
    generalize wc = w3 at *
    go_wp2_with fail
    refine (HNEW.out w3 HB3.out).mono ?_
    rintro _ w4 ⟨t, g, S0, rfl, hm0, hS0, ht0, hb4⟩
    have HM0 := Lib.hid hm0
    have HS0 := Lib.hid hS0
    have HT0 := Lib.hid ht0
    have HB4 := Lib.hid (HB3.out.trans (hb4.mono HB3.out.size))
    have HMADE4 := Lib.hid (HMADE.out.later hb4)
    have H34 := Lib.hid hb4.size
    clear hm0 hS0 ht0 hb4
    obtain ⟨Zt, hZt⟩ : ∃ Z, w4.alloc (.cells #[.pointer (some ⟨t, 0, none⟩)] 81) = Z := ⟨_, rfl⟩
    have qZt : Zt.heap[w4.heap.size]? = some (.cells #[.pointer (some ⟨t, 0, none⟩)] 81 (0, 0)) := by rw [← hZt]; exact heap_alloc_new _ _
    have bZt : Below w4.heap.size w4 Zt := by rw [← hZt]; exact (Below.refl _ _).alloc (Nat.le_refl _) _
    have QZt := Lib.hid qZt
    have BZt := Lib.hid bZt
    clear qZt bZt
    have yt : Zt.cell? ⟨w4.heap.size, 0, none⟩ = some (.pointer (some ⟨t, 0, none⟩)) := (blk_cell QZt.out 0).trans rfl
    have HSQ4 := Lib.hid (show Sl2 Zt A1 (L1.take 8) from ⟨(HMADE4.out.later BZt.out).sl2.2.1.take_ 8, fun x hx => (HMADE4.out.later BZt.out).rows x (List.mem_of_mem_take hx)⟩)
    go_wp2_with fail
    refine (HNU.out Zt HSQ4.out).mono ?_
    rintro _ w5 ⟨v5, rfl, hown5, hb5⟩
    obtain ⟨A5, c5, rfl⟩ := own_slice hown5
    rw [numL_len]
    have HO5 := Lib.hid hown5
    have HB45 := Lib.hid (BZt.out.trans (hb5.mono BZt.out.size))
    have HB5 := Lib.hid (HB4.out.trans (HB45.out.mono HB4.out.size))
    have HZ5 := Lib.hid hb5.size
    have HQ5 := Lib.hid (blk_below QZt.out hb5)
    have HSZ := Lib.hid (show Zt.heap.size = w4.heap.size + 1 by rw [← hZt]; simp)
    clear hown5 hb5 yt
    have HIN := Lib.hid (show ∀ k, (S0 k ∨ k = t) → w3.heap.size ≤ k ∧ k < w4.heap.size from fun k h => by
      rcases h with h | h
      · exact ⟨HS0.out k h, HM0.out.list.lt k h⟩
      · have := HT0.out; have := blk_lt HM0.out.row; omega)
    have HSL1 := Lib.hid (show ∀ W, Upd (fun j => S0 j ∨ j = t) w5 W → Sl2 W A1 (L1.take 8) from fun W hW =>
      ⟨sl_stay ((HMADE4.out.later HB45.out).sl2.2.1.take_ 8) hW (fun b o e => HOB.out b o e) (fun k h1 h2 h => by have := (HIN.out k h).1; omega),
        fun x hx => sl_stay ((HMADE4.out.later HB45.out).rows x (List.mem_of_mem_take hx)) hW (fun b o e => ⟨(HMADE.out.far x (List.mem_of_mem_take hx) b o e).1, (HMADE.out.far x (List.mem_of_mem_take hx) b o e).2.1⟩) (fun k h1 h2 h => by have := (HIN.out k h).1; omega)⟩)
    have HSL5 := Lib.hid (show ∀ W, Upd (fun j => S0 j ∨ j = t) w5 W → Sl encU 1 W A5 (numL 1 BC n8) from fun W hW => by
      obtain ⟨_, _, e, _, hs, _⟩ := HO5.out.slice (fun x => (okU x).1)
      injection e with e1 e2 e3
      rw [e1]
      exact sl_stay hs hW (fun b o e => ownBlock_of HO5.out b o (by rw [e1, e])) (fun k h1 h2 h => by have := (HIN.out k h).2; have := HSZ.out; omega))
    have HYT := Lib.hid (show ∀ W, Upd (fun j => S0 j ∨ j = t) w5 W → W.heap[w4.heap.size]? = some (.cells #[.pointer (some ⟨t, 0, none⟩)] 81 (0, 0)) from fun W hW => hW.heap HQ5.out (fun h => by have := (HIN.out _ h).2; omega))
    go_wp2_with fail
    go_loopw [7] (fun s7 wr => ∃ (k : Nat) (S : Nat → Prop), s7 = .int .i64 k ∧ k ≤ n8 ∧ MemIs wr t g S draws (memF draws 1 (BC.take k).flatten) ∧ (∀ j, S j → S0 j ∨ w5.heap.size ≤ j) ∧ Upd (fun j => S0 j ∨ j = t) w5 wr) (fun s7 wr => n8 - (intOf s7).toNat)
    case atStart => exact ⟨0, S0, rfl, by omega, by simpa [memF, ents, addF] using HM0.out.later HB45.out, fun j h => .inl h, Upd.refl _ _⟩
    case round =>
      obtain ⟨k, S, rfl, hk, hm, hS, hu⟩ := hrel
      generalize wr = wq at *
      have HM := Lib.hid hm
      have HS := Lib.hid hS
      have HU := Lib.hid hu
      clear hm hS hu
      by_cases hkn : k < n8
      · obtain ⟨x, hx⟩ := getElem?_of_lt (l := L1.take 8) (by rw [HN8.out]; exact hkn : k < (L1.take 8).length)
        have hs2 := HSL1.out wq HU.out
        have HXS := Lib.hid (hs2.2 x (List.mem_of_getElem? hx))
        have HXB := Lib.hid (show BC[k]? = some x.2.2 by rw [← HBCE.out, List.getElem?_map, hx]; rfl)
        obtain ⟨b2, o2, hA2, hl2, hc2⟩ := hs2.1.at hx
        obtain ⟨b5, o5, hA5, hl5, hc5⟩ := (HSL5.out wq HU.out).at (numL_at 1 BC hkn)
        subst hA2
        subst hA5
        have y2 : wq.cell? ⟨b2, o2 + k, none⟩ = some (.slice x.1 x.2.2.length x.2.1) := by simpa using hc2 0 _ rfl
        have y5 : wq.cell? ⟨b5, o5 + k, none⟩ = some (.int .u64 (1 + (tot (BC.take k) : Int))) := by simpa using hc5 0 _ rfl
        rw [← flat_tot] at y5
        have YT := Lib.hid (show wq.cell? ⟨w4.heap.size, 0, none⟩ = some (.pointer (some ⟨t, 0, none⟩)) from (blk_cell (HYT.out wq HU.out) 0).trans rfl)
        obtain ⟨xa, xc, xl⟩ := x
        simp only at y2
        obtain ⟨p, hp⟩ : ∃ p, (BC.take k).flatten = p := ⟨_, rfl⟩
        rw [hp] at y5 HM
        have HADD := Lib.hid (fun (W : World) (hW : Below wq.heap.size wq W) => addB_c 1 p xl (HM.out.later hW) xa xc (HXS.out.later hW) (HFC.out.each xl (List.mem_of_getElem? HXB.out)).2.1 (HFC.out.each xl (List.mem_of_getElem? HXB.out)).2.2 (by rw [← hp]; exact (HFC.out.take k).flat) (by rw [← hp, flat_tot]; have := (HFC.out.take k).tot; omega))
        have HPS := Lib.hid (show (BC.take (k + 1)).flatten = p ++ xl by rw [flat_snoc HXB.out, hp])
        have i1 : (0 : Int) ≤ k := by omega
        have i2 : (k : Int) < n8 := by omega
        have Y2 := Lib.hid y2
        have Y5 := Lib.hid y5
        clear hx hs2 hc2 hc5 y2 y5 hp hl2 hl5
        go_wp2_with fail
        refine wp_region_calmB 9 (by kernel_rfl) (by kernel_rfl) ?_
        simp only [List.take_succ_cons, List.take_zero, List.drop_succ_cons, List.drop_zero]
        refine chain0 ?_
        refine @chain _ _ _ _ _ _ _ _ 39 (.pointer (some ⟨t, 0, none⟩)) (by rfl) (by rfl) (by exact fun W2 hW => run_lw (by rfl) (by exact eval_base (by kernel_rfl) (by rfl)) (fun W hW => ldTb _ _ _ _ (cell_later hW YT.out)) hW) ?_
        refine @chain _ _ _ _ _ _ _ _ 40 (.slice (some ⟨b5, o5, none⟩) n8 c5) (by rfl) (by rfl) (by exact fun W2 hW => run_mv (by rfl) (by exact eval_base (by kernel_rfl) (by rfl)) hW) ?_
        refine @chain _ _ _ _ _ _ _ _ 41 (.int .i64 (k : Int)) (by rfl) (by rfl) (by exact fun W2 hW => run_mv (by rfl) (by exact eval_base (by kernel_rfl) (by rfl)) hW) ?_
        refine @chain _ _ _ _ _ _ _ _ 42 (.pointer (some ⟨b5, o5 + k, none⟩)) (by rfl) (by rfl) (by exact fun W2 hW => run_ia (u := .slice (some ⟨b5, o5, none⟩) n8 c5) (v := .int .i64 (k : Int)) (by rfl) (by exact eval_look (by kernel_rfl) (by kernel_rfl)) (by exact eval_look (by kernel_rfl) (by kernel_rfl)) (fun W => idxU_run _ _ _ _ _ (by omega) W) hW) ?_
        refine @chain _ _ _ _ _ _ _ _ 43 (.int .u64 (1 + (p.length : Int))) (by rfl) (by rfl) (by exact fun W2 hW => run_lw (by rfl) (by exact eval_look (by kernel_rfl) (by kernel_rfl)) (fun W hW => ldU _ _ _ _ (cell_later hW Y5.out)) hW) ?_
        refine @chain _ _ _ _ _ _ _ _ 44 (.slice (some ⟨b2, o2, none⟩) n8 c1) (by rfl) (by rfl) (by exact fun W2 hW => run_mv (by rfl) (by exact eval_base (by kernel_rfl) (by rfl)) hW) ?_
        refine @chain _ _ _ _ _ _ _ _ 45 (.int .i64 (k : Int)) (by rfl) (by rfl) (by exact fun W2 hW => run_mv (by rfl) (by exact eval_base (by kernel_rfl) (by rfl)) hW) ?_
        refine @chain _ _ _ _ _ _ _ _ 46 (.pointer (some ⟨b2, o2 + k, none⟩)) (by rfl) (by rfl) (by exact fun W2 hW => run_ia (u := .slice (some ⟨b2, o2, none⟩) n8 c1) (v := .int .i64 (k : Int)) (by rfl) (by exact eval_look (by kernel_rfl) (by kernel_rfl)) (by exact eval_look (by kernel_rfl) (by kernel_rfl)) (fun W => idxB_run _ _ _ _ _ (by omega) W) hW) ?_
        refine @chain _ _ _ _ _ _ _ _ 47 (.slice xa xl.length xc) (by rfl) (by rfl) (by exact fun W2 hW => run_lw (by rfl) (by exact eval_look (by kernel_rfl) (by kernel_rfl)) (fun W hW => ldHw _ _ _ _ _ _ (cell_later hW Y2.out)) hW) ?_
        refine calm_nil (fun W2 hW2 => ?_)
        refine Eq.mpr (congrArg (fun a => wpList _ _ _ _ a W2) (show _ = (⟨#[Value.slice A dn c, Value.slice (some ⟨b2, o2, none⟩) n8 c1, undef, undef, Value.bool false, Value.pointer (some ⟨w4.heap.size, 0, none⟩), Value.slice (some ⟨b5, o5, none⟩) n8 c5, Value.int IntKind.i64 (k : Int), undef, undef, undef, undef, undef, undef, undef, u15, u16, u17, u18, u19, u20, u21, u22, u23, u24, u25, u26, Value.slice A dn c, Value.pointer (some ⟨t, 0, none⟩), Value.pointer (some ⟨t, 0, none⟩), Value.bool false, Value.slice (some ⟨b2, o2, none⟩) n8 c1, Value.slice (some ⟨b5, o5, none⟩) n8 c5, Value.int IntKind.i64 (k : Int), Value.slice (some ⟨b2, o2, none⟩) n8 c1, Value.int IntKind.i64 (n8 : Int), Value.bool true, u37, u38, Value.pointer (some ⟨t, 0, none⟩), Value.slice (some ⟨b5, o5, none⟩) n8 c5, Value.int IntKind.i64 (k : Int), Value.pointer (some ⟨b5, o5 + k, none⟩), Value.int IntKind.u64 (1 + (p.length : Int)), Value.slice (some ⟨b2, o2, none⟩) n8 c1, Value.int IntKind.i64 (k : Int), Value.pointer (some ⟨b2, o2 + k, none⟩), Value.slice xa xl.length xc, u48, u49, u50, u51, u52, u53, u54, u55, u56, u57, u58, u59, u60, u61, u62, u63, u64, u65, u66, u67, u68, u69, u70, u71, u72, u73, u74, u75, u76, u77, u78, u79, u80, u81, u82, u83, u84, u85, u86, u87, u88, u89, u90, u91, u92, u93, u94, u95, u96], []⟩ : Act) by kernel_rfl)) ?_
        have HW2 := Lib.hid hW2
        clear hW2
        go_wp2_with fail
        refine (HADD.out W2 HW2.out).mono ?_
        rintro _ wz ⟨rfl, hu1, S', hg, hm1⟩
        have HU1 := Lib.hid ((HU.out.trans (Upd.of_below HW2.out)).step hu1 (fun i hi => by
          rcases hi with hi | hi
          · rcases HS.out i hi with h | h
            · exact .inl (.inl h)
            · exact .inr h
          · exact .inl (.inr hi)))
        have HS1 := Lib.hid (show ∀ j, S' j → S0 j ∨ w5.heap.size ≤ j from fun j hj => by
          rcases hg j hj with h | h
          · exact HS.out j h
          · have := HU.out.size; have := HW2.out.size; exact .inr (by omega))
        have HM1 := Lib.hid hm1
        clear hu1 hg hm1
        go_wp2
        go_roundw
        case rel => exact ⟨k + 1, S', by first | rfl | simp, by omega, by rw [HPS.out]; exact HM1.out, HS1.out, HU1.out⟩
        case measure => simp [intOf]; omega
      · have hk2 : n8 = k := by omega
        clear hkn hk
        subst hk2
        rw [List.take_of_length_le (by rw [HBN.out]; exact Nat.le_refl _)] at HM
        obtain ⟨ws, hws⟩ : ∃ X, BC.flatten = X := ⟨_, rfl⟩
        rw [hws] at HM
        have hwf := HFC.out.flat
        rw [hws] at hwf
        have hwl : ws.length ≤ 960 := by rw [← hws, flat_tot]; exact HFC.out.tot
        have hsq := MemIs.seq (draws := draws) (f := 1) (ws := ws) (by decide) (by omega)
        have hfl := memF_laid draws (f := 1) (ws := ws) (by decide) (by omega)
        have hml := memF_len draws 1 ws
        have hmw := memF_wt draws 1 ws (fun x hx => by have := hwf x hx; omega) (by omega)
        have hmz := memF_fz draws 1 ws
        have hpl := memF_fromlen draws (f := 1) (ws := ws) (by decide) (by omega) ⟨#[]⟩ 18446744073709551615
        obtain ⟨M, hMM⟩ : ∃ M, memF draws 1 ws = M := ⟨_, rfl⟩
        rw [hMM] at HM hsq hfl hml hmw hmz hpl
        obtain ⟨fr, hfr⟩ : ∃ X, allE M.L = X := ⟨_, rfl⟩
        obtain ⟨fm, hfm⟩ : ∃ X, fr.length = X := ⟨_, rfl⟩
        obtain ⟨pt, hpt⟩ : ∃ X, partL M = X := ⟨_, rfl⟩
        obtain ⟨pm, hpm⟩ : ∃ X, pt.length = X := ⟨_, rfl⟩
        have hf960 : fm ≤ 960 := by
          have := hfl.perm.length_eq
          rw [ents_len, hfr, hfm] at this
          omega
        have hp960 : pm ≤ 960 := by
          rw [show thin 18446744073709551615 (notAhead ⟨#[]⟩ 18446744073709551615 (allE M.L)) = pt from hpt, hpm] at hpl
          omega
        have HNA := Lib.hid (show notAhead ⟨#[]⟩ 18446744073709551615 (allE M.L) = fr by rw [← hfr]; exact notAhead_all hsq)
        have HPT := Lib.hid hpt
        have HFM := Lib.hid hfm
        have HPM := Lib.hid hpm
        have HML := Lib.hid (show M.L.length < 2932031000000 by omega)
        have HMW := Lib.hid hmw
        have HMZ := Lib.hid hmz
        have HYQ := Lib.hid (HYT.out wq HU.out)
        have HBQ := Lib.hid (HU.out.below HB5.out (fun k hk => by
          have := HIN.out k hk
          have := HB3.out.size
          omega))
        have H4Q := Lib.hid (show w4.heap.size < wq.heap.size from blk_lt HYQ.out)
        have yt : wq.cell? ⟨w4.heap.size, 0, none⟩ = some (.pointer (some ⟨t, 0, none⟩)) := (blk_cell HYQ.out 0).trans rfl
        have YT := Lib.hid yt
        clear hws hwf hwl hsq hfl hml hmw hmz hpl hMM hfr hfm hpt hpm
        have hma := mall_v HM.out (Below.refl _ _)
        rw [HNA.out] at hma
        have HMF := Lib.hid hma
        clear hma
        go_wp2_with fail
        refine HMF.out.mono ?_
        rintro _ v10 ⟨f10, rfl, hit, hb9⟩
        clear HMF
        have HT10 := Lib.hid (taken6_c f10 (-1) _ _ v10 hit hb9.size (by rw [HFM.out]; omega))
        rw [show takeN (-1) fr = fr from takeN_all (.inl (by decide))] at HT10
        clear hit
        have HD10 := Lib.hid hb9
        clear hb9
        go_wp2_with fail
        refine HT10.out.mono ?_
        rintro _ w10 ⟨x10, rfl, hown10, hb10⟩
        clear HT10
        obtain ⟨A10, c10, rfl⟩ := own_slice hown10
        have HA10 := Lib.hid (ownBlock_of hown10)
        obtain ⟨_, _, hv10, _, hs10, _⟩ := hown10.slice (fun _ => rfl)
        injection hv10 with e1 e2 e3
        rw [← e1] at hs10
        rw [HFM.out]
        have HS10 := Lib.hid hs10
        have HX10 := Lib.hid (HD10.out.trans (hb10.mono HD10.out.size))
        clear hown10 hs10 hb10 e1 e2 e3
        have hb10 := HX10.out
        have yt10 := cell_later hb10 YT.out
        clear yt hb10
        obtain ⟨Ze, hZe⟩ : ∃ Z, w10.alloc (.cells #[.slice A10 fm c10] 64) = Z := ⟨_, rfl⟩
        have qZe : Ze.heap[w10.heap.size]? = some (.cells #[.slice A10 fm c10] 64 (0, 0)) := by rw [← hZe]; exact heap_alloc_new _ _
        have bZe : Below w10.heap.size w10 Ze := by rw [← hZe]; exact (Below.refl _ _).alloc (Nat.le_refl _) _
        have QZe := Lib.hid qZe
        have BZe := Lib.hid bZe
        clear qZe bZe
        have HB8 := Lib.hid (HX10.out.trans (BZe.out.mono HX10.out.size))
        have yt8 := cell_later HB8.out YT.out
        clear yt10
        have hmf := mfrom_v ⟨#[]⟩ 18446744073709551615 (HM.out.later HB8.out)
        rw [show thin 18446744073709551615 (notAhead ⟨#[]⟩ 18446744073709551615 (allE M.L)) = pt from HPT.out] at hmf
        have HMF := Lib.hid hmf
        clear hmf
        go_wp2_with fail
        refine HMF.out.mono ?_
        rintro _ v14 ⟨f14, rfl, hit, hb9⟩
        clear HMF
        have HT14 := Lib.hid (taken6_c f14 (-1) _ _ v14 hit (Nat.le_refl _) (by rw [HPM.out]; omega))
        rw [show takeN (-1) pt = pt from takeN_all (.inl (by decide))] at HT14
        clear hit
        have HD14 := Lib.hid hb9
        clear hb9
        go_wp2_with fail
        refine HT14.out.mono ?_
        rintro _ w14 ⟨x14, rfl, hown10, hb10⟩
        clear HT14
        obtain ⟨A14, c14, rfl⟩ := own_slice hown10
        have HA14 := Lib.hid (ownBlock_of hown10)
        obtain ⟨_, _, hv10, _, hs10, _⟩ := hown10.slice (fun _ => rfl)
        injection hv10 with e1 e2 e3
        rw [← e1] at hs10
        rw [HPM.out]
        have HS14 := Lib.hid hs10
        have HX14 := Lib.hid (HD14.out.trans (hb10.mono HD14.out.size))
        clear hown10 hs10 hb10 e1 e2 e3
        have HB14 := Lib.hid (HB8.out.trans (HX14.out.mono HB8.out.size))
        clear yt8
        obtain ⟨Zp, hZp⟩ : ∃ Z, w14.alloc (.cells #[.slice A14 pm c14] 64) = Z := ⟨_, rfl⟩
        have qZp : Zp.heap[w14.heap.size]? = some (.cells #[.slice A14 pm c14] 64 (0, 0)) := by rw [← hZp]; exact heap_alloc_new _ _
        have bZp : Below w14.heap.size w14 Zp := by rw [← hZp]; exact (Below.refl _ _).alloc (Nat.le_refl _) _
        have QZp := Lib.hid qZp
        have BZp := Lib.hid bZp
        clear qZp bZp
        have HBP := Lib.hid (HB14.out.trans (BZp.out.mono HB14.out.size))
        have ytp := cell_later HBP.out YT.out
        have hfz := mfrozen_c (HM.out.later HBP.out)
        rw [HMZ.out] at hfz
        have HFZ := Lib.hid hfz
        have HFR := Lib.hid (mfreeze_c (HM.out.later HBP.out))
        clear hfz
        go_wp2_with fail
        refine HFZ.out.mono ?_
        rintro _ _ ⟨rfl, rfl⟩
        go_wp2_with fail
        refine HFR.out.mono ?_
        rintro _ wz ⟨⟨vz, rfl⟩, huz, hmz⟩
        clear HFR HFZ ytp
        have hNT : ∀ k, w4.heap.size ≤ k → k ≠ t := fun k hk h => by have := (HIN.out k (.inr h)).2; omega
        have HMZ2 := Lib.hid hmz
        have KT := Lib.hid (huz.heap (blk_below HYQ.out HBP.out) (hNT _ (Nat.le_refl _)))
        have HE8 := Lib.hid (show w4.heap.size ≤ w10.heap.size from Nat.le_trans (Nat.le_of_lt H4Q.out) HX10.out.size)
        have HE14 := Lib.hid (show w4.heap.size ≤ w14.heap.size from Nat.le_trans (Nat.le_of_lt H4Q.out) HB14.out.size)
        have K8 := Lib.hid (huz.heap (blk_below (blk_below QZe.out HX14.out) BZp.out) (hNT _ HE8.out))
        have K10 := Lib.hid (huz.heap QZp.out (hNT _ HE14.out))
        have L8 := Lib.hid (((HS10.out.later (BZe.out.trans (HX14.out.mono BZe.out.size))).later BZp.out).upd huz (fun b o h => hNT b (by have := (HA10.out b o h).1; have := H4Q.out; have := HD10.out.size; omega)))
        have L10 := Lib.hid ((HS14.out.later BZp.out).upd huz (fun b o h => hNT b (by have := (HA14.out b o h).1; have := H4Q.out; have := HB8.out.size; have := HD14.out.size; omega)))
        have HBZ := Lib.hid ((HBQ.out.trans (HBP.out.mono HBQ.out.size)).size)
        have HUZ := Lib.hid (huz.below (HBQ.out.trans (HBP.out.mono HBQ.out.size)) (fun k hk => by have := (HIN.out k (.inr hk)).1; have := HB3.out.size; omega))
        have HLT := Lib.hid (show w4.heap.size < w10.heap.size ∧ w10.heap.size < w14.heap.size ∧ w14.heap.size < wz.heap.size from ⟨Nat.lt_of_lt_of_le H4Q.out HX10.out.size, Nat.lt_of_lt_of_le (blk_lt QZe.out) HX14.out.size, Nat.lt_of_lt_of_le (blk_lt QZp.out) huz.size⟩)
        clear hmz huz hNT
        obtain ⟨ZW, hZW⟩ : ∃ Z, (wz.alloc (.cells #[.int .i64 0] 3)).alloc (.cells #[.bool true] 4) = Z := ⟨_, rfl⟩
        have HSW := Lib.hid (show ZW.heap.size = wz.heap.size + 1 + 1 by rw [← hZW]; simp)
        have QW := Lib.hid (show ZW.heap[wz.heap.size + 1]? = some (.cells #[.bool true] 4 (0, 0)) by rw [← hZW]; simpa using heap_alloc_new (wz.alloc (.cells #[.int .i64 0] 3)) (.cells #[.bool true] 4))
        have HBW := Lib.hid (show Below wz.heap.size wz ZW by rw [← hZW]; exact ((Below.refl _ _).alloc (Nat.le_refl _) _).alloc (by simp) _)
        have QN := Lib.hid (show ZW.heap[wz.heap.size]? = some (.cells #[.int .i64 0] 3 (0, 0)) by rw [← hZW]; exact blk_alloc (heap_alloc_new _ _) _)
        have ytw : ZW.cell? ⟨w4.heap.size, 0, none⟩ = some (.pointer (some ⟨t, 0, none⟩)) := (blk_cell (blk_below KT.out HBW.out) 0).trans rfl
        have hau := mall_u HMZ2.out HBW.out
        rw [show notAhead ⟨#[]⟩ 18446744073709551615 (allE ({ M with fz := true } : MemV).L) = fr from HNA.out] at hau
        have HAU := Lib.hid hau
        clear hau
        go_wp2_with fail
        refine HAU.out.mono ?_
        rintro _ v20 ⟨gf, lb, rfl, henter, hit, hb20⟩
        have HIT := Lib.hid hit
        have HEN := Lib.hid henter
        have HB20 := Lib.hid hb20
        clear hit hb20 HAU ytw
        obtain ⟨Zf, hZf⟩ : ∃ Z, v20.alloc (.cells #[.func (.func gf) #[] lb] 58) = Z := ⟨_, rfl⟩
        have qZf : Zf.heap[v20.heap.size]? = some (.cells #[.func (.func gf) #[] lb] 58 (0, 0)) := by rw [← hZf]; exact heap_alloc_new _ _
        have bZf : Below v20.heap.size v20 Zf := by rw [← hZf]; exact (Below.refl _ _).alloc (Nat.le_refl _) _
        have QZf := Lib.hid qZf
        have BZf := Lib.hid bZf
        clear qZf bZf
        have yf : Zf.cell? ⟨v20.heap.size, 0, none⟩ = some (.func (.func gf) #[] lb) := (blk_cell QZf.out 0).trans rfl
        have HZ20 := Lib.hid (HB20.out.trans (BZf.out.mono HB20.out.size))
        have HZF := Lib.hid (HBW.out.trans (HZ20.out.mono HBW.out.size))
        have HFRE := Lib.hid (show FreAt (wz.heap.size + 1) wz.heap.size [] (fun k => k = wz.heap.size + 1 ∨ k = wz.heap.size) Zf from ⟨fun k => Iff.rfl, blk_below QW.out HZ20.out, blk_below QN.out HZ20.out⟩)
        have HNT := Lib.hid (show ∀ k, k < wz.heap.size ∨ ZW.heap.size ≤ k → ¬ (k = wz.heap.size + 1 ∨ k = wz.heap.size) from fun k hk h => by have := HSW.out; omega)
        have HMF := Lib.hid (HMZ2.out.later HZF.out)
        have KTF := Lib.hid (blk_below KT.out HZF.out)
        have K8F := Lib.hid (blk_below K8.out HZF.out)
        have K10F := Lib.hid (blk_below K10.out HZF.out)
        have L8F := Lib.hid (L8.out.later HZF.out)
        have L10F := Lib.hid (L10.out.later HZF.out)
        have HRD := Lib.hid (show ∀ pre x T1 W1, FreAt (wz.heap.size + 1) wz.heap.size pre T1 W1 → Grow (fun k => k = wz.heap.size + 1 ∨ k = wz.heap.size) T1 Zf → Upd (fun k => k = wz.heap.size + 1 ∨ k = wz.heap.size) Zf W1 → pre ++ [x] <+: fr →
            CallT Try.prog (.func 55) #[.pointer (some ⟨v20.heap.size, 0, none⟩), .pointer (some ⟨w4.heap.size, 0, none⟩), .pointer (some ⟨wz.heap.size + 1, 0, none⟩), .pointer (some ⟨wz.heap.size, 0, none⟩), .pointer (some ⟨w10.heap.size, 0, none⟩), .pointer (some ⟨w14.heap.size, 0, none⟩)] (encA x) W1
              (RoundT (FreAt (wz.heap.size + 1) wz.heap.size) (fun _ _ _ => False) (pre ++ [x]) T1 W1) from fun pre x T1 W1 hj hg hu hp => by
          have hl := HLT.out
          have hsw := HSW.out
          have hsz := hu.size
          have hb20 := HB20.out.size
          have hzf := HZF.out.size
          have hit1 : IterV Try.prog (.func (.func gf) #[] lb) encA wz.heap.size fr W1 := ⟨gf, lb, rfl, HEN.out, fun W hW => HIT.out _ W (((Upd.of_below BZf.out).trans hu).trans (Upd.of_below hW)) (fun k hk => by
            rcases hk with hk | hk
            · exact ⟨by omega, .inl (by omega)⟩
            · exact ⟨by omega, .inl (by omega)⟩)⟩
          have hm1 := HMF.out.upd hu (fun k hk => HNT.out k (.inl (HMZ2.out.list.lt k hk))) (HNT.out t (.inl (blk_lt HMZ2.out.row)))
          refine .inr ⟨_, rfl, enters_of Try.func55 (by kernel_rfl) rfl, (fresh1_c v20.heap.size w4.heap.size (wz.heap.size + 1) wz.heap.size w10.heap.size w14.heap.size pre.length fm pm t g wz.heap.size (.func (.func gf) #[] lb) A10 A14 c10 c14 fr pt x S draws _ W1
            (hu.heap QZf.out (HNT.out _ (.inr hb20))) hit1 (by omega) (hu.heap KTF.out (HNT.out _ (.inl (by omega)))) hj.w hj.n (hu.heap K8F.out (HNT.out _ (.inl (by omega)))) (hu.heap K10F.out (HNT.out _ (.inl (by omega))))
            (L8F.out.upd hu (fun b o h => HNT.out b (.inl (by have := (HA10.out b o h).2; omega)))) (L10F.out.upd hu (fun b o h => HNT.out b (.inl (by have := (HA14.out b o h).2; omega)))) hm1 HPT.out HFM.out HPM.out hf960 hp960 (by obtain ⟨r, rfl⟩ := hp; simp) (by omega)).mono ?_⟩
          rintro e W2 ⟨rfl, a1, a2, a3⟩
          exact ⟨T1, Grow.refl _ _, a3.mono (fun k hk => (hj.foot k).2 hk), .inl ⟨rfl, hj.foot, a1, by rw [List.length_append, List.length_singleton]; push_cast; exact a2⟩⟩)
        have HCA := Lib.hid (HIT.out (fun _ => False) Zf (Upd.of_below BZf.out) (fun k h => h.elim) (.func 55) #[.pointer (some ⟨v20.heap.size, 0, none⟩), .pointer (some ⟨w4.heap.size, 0, none⟩), .pointer (some ⟨wz.heap.size + 1, 0, none⟩), .pointer (some ⟨wz.heap.size, 0, none⟩), .pointer (some ⟨w10.heap.size, 0, none⟩), .pointer (some ⟨w14.heap.size, 0, none⟩)]
          (FreAt (wz.heap.size + 1) wz.heap.size) (fun _ _ _ => False) (fun k => k = wz.heap.size + 1 ∨ k = wz.heap.size) (fre_foot _ _) no_foot (fun k hk => by omega) HFRE.out HRD.out)
        go_wp2_with fail
        go_at_fn gf
        refine HCA.out.mono ?_
        rintro e W5 ⟨⟨v5, rfl⟩, T5, hg5, hu5, hres⟩
        have hF : FreAt (wz.heap.size + 1) wz.heap.size fr T5 W5 := by
          rcases hres with h | ⟨_, _, h⟩
          · exact h
          · exact h.elim
        have z1 : W5.cell? ⟨wz.heap.size + 1, 0, none⟩ = some (.bool true) := (blk_cell hF.w 0).trans rfl
        have z2 : W5.cell? ⟨wz.heap.size, 0, none⟩ = some (.int .i64 (fr.length : Int)) := (blk_cell hF.n 0).trans rfl
        rw [HFM.out] at z2
        have z3 : W5.cell? ⟨w10.heap.size, 0, none⟩ = some (.slice A10 fm c10) := (blk_cell (hu5.heap K8F.out (HNT.out _ (.inl (by have := HLT.out; omega)))) 0).trans rfl
        have z4 : W5.cell? ⟨w4.heap.size, 0, none⟩ = some (.pointer (some ⟨t, 0, none⟩)) := (blk_cell (hu5.heap KTF.out (HNT.out _ (.inl (by have := HLT.out; omega)))) 0).trans rfl
        have hm5 := HMF.out.upd hu5 (fun k hk => HNT.out k (.inl (HMZ2.out.list.lt k hk))) (HNT.out t (.inl (blk_lt HMZ2.out.row)))
        have HFZ5 := Lib.hid (mfrozen_c hm5)
        have HAF := Lib.hid (add_frozen hm5 rfl HML.out HMW.out)
        have HB5W := Lib.hid (hu5.below (HUZ.out.trans (HZF.out.mono HUZ.out.size)) (fun k hk => by have := HUZ.out.size; omega))
        have HSW5 := Lib.hid (show ∀ k, (S k ∨ k = t) → w.heap.size ≤ k from fun k hk => by
          have h3 := HB3.out.size
          have h5 := HB5.out.size
          rcases hk with hk | hk
          · rcases HS.out k hk with h | h
            · have := (HIN.out k (.inl h)).1; omega
            · omega
          · have := (HIN.out k (.inr hk)).1; omega)
        clear hres hF hg5 hu5 hm5 yf HCA HRD
        simp only at HFZ5
        go_wp2_with fail
        refine HFZ5.out.mono ?_
        rintro _ _ ⟨rfl, rfl⟩
        go_wp2_with fail
        refine HAF.out.mono ?_
        rintro _ w30 ⟨rfl, hu30⟩
        have HB30 := Lib.hid (hu30.below HB5W.out HSW5.out)
        clear hu30
        go_wp2_with fail
        refine (many_c w30).mono ?_
        rintro _ w31 ⟨rfl, hb31⟩
        go_wp2
        go_ret
        exact ⟨by first | rfl | simp, HB30.out.trans (hb31.mono HB30.out.size)⟩
theorem memFresh_w (A : Option Addr) (c : Nat) (draws : List Int) (B : Option Addr) (d : Nat) (l : List (List Wri)) (w : World) (ha : Sl encB 1 w A draws) (hal : draws.length < 140737488351233) (hby : ∀ x ∈ draws, U8 x) (hb : ∃ L : List HW, L.map (·.2.2) = l ∧ Sl2 w B L) :
    Calls Try.prog 11 #[.slice A draws.length c, .slice B l.length d] w fun e w' => e = .returned (.bool true) ∧ Below w.heap.size w w' := by
  obtain ⟨L, rfl, hL⟩ := hb
  rw [List.length_map]
  exact memFresh_c A c draws B d L w ha hal hby hL
end Go.Proofs.Ytjbbobhjomhnmaa.H
