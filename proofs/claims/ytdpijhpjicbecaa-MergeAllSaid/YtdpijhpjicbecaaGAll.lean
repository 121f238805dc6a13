/- MergeAll. Conditions: sizes. (genall.py) -/
import Derived.Test.YtdpijhpjicbecaaGRest
import Derived.Test.YtdpijhpjicbecaaGOf4
import Derived.Test.YtdpijhpjicbecaaGSeq4
import Derived.Test.YtdpijhpjicbecaaGRfK
import Derived.Test.YtdpijhpjicbecaaGAny
import Derived.Deep.DeepCutAuto
namespace Go.Proofs.Ytdpijhpjicbecaa.H
open Go Go.RowKit Go.Deep Go.Shelf Go.Proofs Go.Proofs.YtdpijhpjicbecaaW.PrintWords
set_option linter.unusedVariables false
set_option linter.unusedSimpArgs false
attribute [local go_sem] Oper.semAt_some
theorem all_totLe (l : List (List Ent)) (k : Nat) : totL (l.take k) ≤ totL l := by
  have h2 : ∀ a b : List (List Ent), totL (a ++ b) = totL a + totL b := by intro a b; simp [totL]
  have h3 := h2 (l.take k) (l.drop k)
  rw [List.take_append_drop] at h3
  omega
theorem all_ris (M : List HE) : totL (M.map (fun h => risenL h.2.2)) ≤ totL (M.map (·.2.2)) := by
  induction M with
  | nil => simp [totL]
  | cons a M ih => have := risenL_len a.2.2; simp only [totL, List.map_cons, List.sum_cons] at ih ⊢; omega
theorem takeN_map {α β : Type} (g : α → β) (n : Int) (l : List α) : (takeN n l).map g = takeN n (l.map g) := by
  unfold takeN
  split
  · rfl
  · rw [List.map_take]
theorem takeN_sub {α : Type} (n : Int) (l : List α) : ∃ k, takeN n l = l.take k := by
  unfold takeN
  split
  · exact ⟨l.length, by simp⟩
  · exact ⟨_, rfl⟩
theorem Sl.takeN {α : Type} {enc : α → List Value} {sz : Nat} {w : World} {A : Option Addr} {l : List α} (h : Sl enc sz w A l) (n : Int) : Sl enc sz w A (takeN n l) := by
  obtain ⟨k, e⟩ := takeN_sub n l
  rw [e]
  exact h.take_ k
theorem Sl2.takeN {w : World} {A : Option Addr} {l : List HE} (h : Sl2 w A l) (n : Int) : Sl2 w A (takeN n l) := by
  obtain ⟨k, e⟩ := takeN_sub n l
  rw [e]
  exact ⟨h.1.take_ k, fun x hx => h.2 x (List.mem_of_mem_take hx)⟩
theorem Upd.of_ge {n : Nat} {w w' : World} (h : Below n w w') : Upd (fun k => n ≤ k) w w' := ⟨h.os, h.tape, h.output, h.size, fun k hk hn => h.block k (by omega)⟩
/-- Lists that were made stand whatever the sources do. -/
theorem MadeE.off {w w' : World} {base : Nat} {v : Value} {L : List HE} {S : Nat → Prop} (h : MadeE w base v L) (u : Upd S w w') (hS : ∀ k, S k → ¬ (v.ownBlock = some k ∨ ∃ h ∈ L, ∃ o, h.1 = some ⟨k, o, none⟩)) : MadeE w' base v L :=
  h.same (T := fun k => v.ownBlock = some k ∨ ∃ h ∈ L, ∃ o, h.1 = some ⟨k, o, none⟩) (u.same fun k hk => ⟨by
    rcases hk with hk | ⟨x, hx, o, e⟩
    · exact (h.own.block_lt hk).2
    · exact (h.far x hx k o e).2.1, fun hs => hS k hs hk⟩) (fun k hk => hk)
theorem own_len {α : Type} {enc : α → List Value} {e : TypeId} {w : World} {base : Nat} {A : Option Addr} {n c : Nat} {sz : Nat} {l : List α} (h : Own enc e sz w base (.slice A n c) l) (he : ∀ x, (enc x).length = sz) : n ≤ c := by
  obtain ⟨A1, c1, hv, hlc, _, _⟩ := h.slice he
  injection hv with h1 h2 h3
  omega
set_option maxHeartbeats 12800000 in
set_option maxRecDepth 100000 in
theorem mergeAll_c (A : Option Addr) (c : Nat) (L : List HE) (m : Int) (w : World) (hs : Sl2 w A L) (hok : OkL L) :
    Calls Try.prog 3 #[.slice A L.length c, .int .i64 m] w fun e w' => e = .returned (.bool true) ∧ Below w.heap.size w w' := by
  have hm := hs.1.1
  have HF := few11_c A c L w hs hok
  have HS := Lib.hid hs
  obtain ⟨n, hn⟩ : ∃ n, L.length = n := ⟨_, rfl⟩
  have HN := Lib.hid hn
  rw [hn] at hm HF ⊢
  clear hs hok hn
  go_enter Try.func3, Try.ntmps3
  go_wp2_with fail
  refine HF.mono ?_
  clear HF
  rintro _ w1 ⟨b, rfl, hbd, hb1⟩
  have HB1 := Lib.hid hb1
  clear hb1
  cases b with
  | false =>
    go_wp2
    go_ret
    exact ⟨rfl, HB1.out⟩
  | true =>
    have hbd := hbd rfl
    have HBD := Lib.hid (show n + totL (L.map (·.2.2)) ≤ 10000 from by rw [sumL_tot] at hbd; have := HN.out; omega)
    clear hbd
    have hl : n < 1000000000 := by have := HBD.out; omega
    have HSO := Lib.hid (sources2_c A c L w1 ⟨HS.out.1.later HB1.out, fun x hx => (HS.out.2 x hx).later HB1.out⟩ (by rw [HN.out]; exact hl) (fun h hh => (few_bounds (L := L) (by rw [HN.out]; exact HBD.out)).2.2 h hh))
    rw [HN.out] at HSO
    go_wp2_with fail
    refine HSO.out.mono ?_
    clear HSO
    rintro _ W1 ⟨v4, v5, X, L2, rfl, hmade, hX, hL2, hb3, -⟩
    obtain ⟨A4, c4, rfl⟩ := own_slice hmade.own4
    obtain ⟨A5, c5, rfl⟩ := own_slice hmade.made5.own
    have hxl : X.length = n := by
      have := congrArg List.length hX
      rw [List.length_map, List.length_map, HN.out] at this
      exact this
    have hl2' : L2.length = n := by
      have := congrArg List.length hL2
      rw [List.length_map, List.length_map, HN.out] at this
      exact this
    have hlist : L2.map (·.2.2) = X.map (·.l) := hL2.trans hX.symm
    have HTL := Lib.hid (show totL (X.map (·.l)) ≤ 10000 from by
      rw [hX]
      have := all_ris L
      have := HBD.out
      omega)
    rw [hxl, hl2'] at hmade ⊢
    have HMD := Lib.hid hmade
    have HXL := Lib.hid hxl
    have HB3 := Lib.hid (HB1.out.trans (hb3.mono HB1.out.size))
    have HLIST := Lib.hid hlist
    have HL2N := Lib.hid hl2'
    obtain ⟨N, hN⟩ : ∃ N, W1.heap.size = N := ⟨_, rfl⟩
    have HNW := Lib.hid hN
    have HSE0 := Lib.hid (show SrcsE N X (fun _ => (0, 0)) W1 from hN ▸ hmade.src)
    have HLOW := Lib.hid (show ∀ k, InU X k → w.heap.size ≤ k ∧ k < N from fun k hk => by
      obtain ⟨j, s, hj, e⟩ := hk
      have h1 := HMD.out.low s (List.mem_of_getElem? hj)
      have h2 := HB1.out.size
      have h3 := HMD.out.lt (k := k) ⟨s, List.mem_of_getElem? hj, .inl e⟩
      omega)
    have HRL := Lib.hid (show ∀ k, (Value.slice A4 n c4).ownBlock = some k → k < N ∧ ¬ InU X k from fun k hk => ⟨by rw [← hN]; exact (hmade.own4.block_lt hk).2, fun h => (HMD.out.d4 k hk).1 h.sx⟩)
    -- what stands whatever the sources do
    have HK4 := Lib.hid (show ∀ W, Upd (InU X) W1 W → Sl encSr 1 W A4 X from fun W u => own_sl (HMD.out.own4.upd u (fun k hk h => (HRL.out k hk).2 h)) (fun x => (okS' x).1))
    have HK5 := Lib.hid (show ∀ W, Upd (InU X) W1 W → Sl2 W A5 L2 from fun W u => (HMD.out.made5.off u (fun k hk h => by
      rcases h with h | ⟨x, hx, o, e⟩
      · exact HMD.out.d5 k h hk.sx
      · exact HMD.out.d6 x hx k o e hk.sx)).sl2.2)
    have HRF := Lib.hid (refOf_c A5 c5 L2 W1 hmade.made5.sl2.2 (by rw [hlist, hl2']; have := HTL.out; have := HBD.out; omega))
    have HRK := Lib.hid (fun W (hb : Below W1.heap.size W1 W) => refKeys_c A5 c5 L2 W (hmade.made5.later hb).sl2.2 (by rw [hlist, hl2']; have := HTL.out; have := HBD.out; omega))
    rw [hlist, hl2'] at HRF HRK
    obtain ⟨ls, hls⟩ : ∃ ls, X.map (·.l) = ls := ⟨_, rfl⟩
    obtain ⟨mg, hmg⟩ : ∃ mg, mergeL ls = mg := ⟨_, rfl⟩
    rw [hls, hmg] at HRF HRK
    have HLS := Lib.hid hls
    have HMG := Lib.hid hmg
    have HTT := Lib.hid (show totL ls ≤ 10000 from hls ▸ HTL.out)
    have HGL := Lib.hid (show mg.length ≤ 10000 from by rw [← hmg, mergeL_length, ← hls]; exact HTL.out)
    have HLSN := Lib.hid (show ls.length = n from by rw [← hls, List.length_map]; exact hxl)
    clear hmade hX hL2 hb3 hxl hl2' hlist hls hmg
    go_wp2_with fail
    refine HRF.out.mono ?_
    clear HRF
    rintro _ W2 ⟨vw, rfl, hown, hb2⟩
    obtain ⟨Aw, cw, rfl⟩ := own_slice hown
    have HOW := Lib.hid hown
    have HB2 := Lib.hid hb2
    clear hown hb2
    go_wp2_with fail
    refine (HRK.out W2 HB2.out).mono ?_
    clear HRK
    rintro _ W3 ⟨vk, LK, rfl, hlk, hmk, hb3⟩
    obtain ⟨Ak, ck, rfl⟩ := own_slice hmk.own
    have HB13 := Lib.hid (show Below N W1 W3 from by rw [← hN]; exact HB2.out.trans (hb3.mono HB2.out.size))
    have HOW3 := Lib.hid (HOW.out.below hb3)
    have HMK := Lib.hid hmk
    have HLK := Lib.hid hlk
    have hs13 := HB13.out.size
    have hs12 := HB2.out.size
    have HKW := Lib.hid (show ∀ W, Upd (InU X) W3 W → Sl encE 4 W Aw mg from fun W u => own_sl (HOW3.out.upd u (fun k hk h => by have := (HLOW.out k h).2; have := (HOW3.out.block_lt hk).1; omega)) (fun x => (okE x).1))
    have HKK := Lib.hid (show ∀ W, Upd (InU X) W3 W → Sl2 W Ak LK from fun W u => (hmk.off u (fun k hk h => by
      have h1 := (HLOW.out k hk).2
      rcases h with h | ⟨x, hx, o, e⟩
      · have := (HMK.out.own.block_lt h).1; omega
      · have := (HMK.out.far x hx k o e).1; omega)).sl2.2)
    have hcw : mg.length ≤ cw := own_len HOW3.out (fun x => (okE x).1)
    have hck : LK.length ≤ ck := own_len HMK.out.own (fun x => (okHE x).1)
    have HKL := Lib.hid (show LK.length ≤ 10000 from by
      have h1 := congrArg List.length hlk
      rw [List.length_map] at h1
      rw [h1]
      exact Nat.le_trans (groups_len _) HGL.out)
    obtain ⟨q, hq⟩ : ∃ q, mg.length = q := ⟨_, rfl⟩
    obtain ⟨r, hr⟩ : ∃ r, LK.length = r := ⟨_, rfl⟩
    obtain ⟨p, hp⟩ : ∃ p, (takeN m mg).length = p := ⟨_, rfl⟩
    obtain ⟨s, hs⟩ : ∃ s, (takeN m LK).length = s := ⟨_, rfl⟩
    rw [hq] at hcw ⊢
    rw [hr] at hck ⊢
    have HL1 := Lib.hid hq
    have HL2 := Lib.hid hr
    have HP1 := Lib.hid hp
    have HP2 := Lib.hid hs
    have hq9 : q < 1000000000 := by have := HGL.out; omega
    have hr9 : r < 1000000000 := by have := HKL.out; omega
    have i4 : (q : Int) ≤ cw := by omega
    have i5 : (r : Int) ≤ ck := by omega
    clear hlk hmk hb3 hq hr hp hs
    obtain ⟨b1, hb1⟩ : ∃ b, decide (0 ≤ m ∧ m < (q : Int)) = b := ⟨_, rfl⟩
    have HBB1 := Lib.hid hb1
    clear hb1
    go_upto_region 6 with fail
    go_cut [45] (fun s45 wx => s45 = .bool b1 ∧ wx = W3)
    case first =>
      by_cases hpos : (0 : Int) ≤ m
      · by_cases hlt : m < (q : Int)
        · have HQ := Lib.hid (show true = b1 from by rw [← HBB1.out]; exact (decide_eq_true ⟨hpos, hlt⟩).symm)
          go_wp2_with fail
          go_meet
          exact ⟨by rw [← HQ.out], rfl⟩
        · have HQ := Lib.hid (show false = b1 from by rw [← HBB1.out]; exact (decide_eq_false (fun h => hlt h.2)).symm)
          go_wp2_with fail
          go_meet
          exact ⟨by rw [← HQ.out], rfl⟩
      · have HQ := Lib.hid (show false = b1 from by rw [← HBB1.out]; exact (decide_eq_false (fun h => hpos h.1)).symm)
        go_wp2_with fail
        go_meet
        exact ⟨by rw [← HQ.out], rfl⟩
    case rest =>
    obtain ⟨rfl, hwc⟩ := hcut
    replace hwc := hwc.symm
    subst hwc
    go_upto_if 45 with fail
    go_cut [9] (fun s9 wx => s9 = .slice Aw p cw ∧ wx = W3)
    case first =>
      cases b1 with
      | false =>
        have HQ := Lib.hid (show q = p from by
          have hb := of_decide_eq_false HBB1.out
          rw [← HP1.out, takeN]
          split
          · rw [HL1.out]
          · rw [List.length_take, HL1.out]; omega)
        clear HBB1
        go_wp2_with fail
        go_meet
        exact ⟨by rw [HQ.out], rfl⟩
      | true =>
        obtain ⟨hpos, hlt⟩ := of_decide_eq_true HBB1.out
        obtain ⟨k, rfl⟩ := Int.eq_ofNat_of_zero_le hpos
        have i1 : (k : Int) < q := by omega
        have i2 : (k : Int) ≤ cw := by omega
        have i3 : (k : Int) ≤ q := by omega
        have HQ := Lib.hid (show k = p from by rw [← HP1.out, takeN, if_neg (by omega), Int.toNat_natCast, List.length_take, HL1.out]; omega)
        clear hlt hpos HBB1
        go_wp2_with fail
        go_meet
        exact ⟨by rw [HQ.out], rfl⟩
    case rest =>
    obtain ⟨rfl, hwc⟩ := hcut
    replace hwc := hwc.symm
    subst hwc
    obtain ⟨b2, hb2⟩ : ∃ b, decide (0 ≤ m ∧ m < (r : Int)) = b := ⟨_, rfl⟩
    have HBB2 := Lib.hid hb2
    clear hb2
    go_upto_region 8 with fail
    go_cut [56] (fun s56 wx => s56 = .bool b2 ∧ wx = W3)
    case first =>
      by_cases hpos : (0 : Int) ≤ m
      · by_cases hlt : m < (r : Int)
        · have HQ := Lib.hid (show true = b2 from by rw [← HBB2.out]; exact (decide_eq_true ⟨hpos, hlt⟩).symm)
          go_wp2_with fail
          go_meet
          exact ⟨by rw [← HQ.out], rfl⟩
        · have HQ := Lib.hid (show false = b2 from by rw [← HBB2.out]; exact (decide_eq_false (fun h => hlt h.2)).symm)
          go_wp2_with fail
          go_meet
          exact ⟨by rw [← HQ.out], rfl⟩
      · have HQ := Lib.hid (show false = b2 from by rw [← HBB2.out]; exact (decide_eq_false (fun h => hpos h.1)).symm)
        go_wp2_with fail
        go_meet
        exact ⟨by rw [← HQ.out], rfl⟩
    case rest =>
    obtain ⟨rfl, hwc⟩ := hcut
    replace hwc := hwc.symm
    subst hwc
    go_upto_if 56 with fail
    go_cut [10] (fun s10 wx => s10 = .slice Ak s ck ∧ wx = W3)
    case first =>
      cases b2 with
      | false =>
        have HQ := Lib.hid (show r = s from by
          have hb := of_decide_eq_false HBB2.out
          rw [← HP2.out, takeN]
          split
          · rw [HL2.out]
          · rw [List.length_take, HL2.out]; omega)
        clear HBB2
        go_wp2_with fail
        go_meet
        exact ⟨by rw [HQ.out], rfl⟩
      | true =>
        obtain ⟨hpos, hlt⟩ := of_decide_eq_true HBB2.out
        obtain ⟨k, rfl⟩ := Int.eq_ofNat_of_zero_le hpos
        have i1 : (k : Int) < r := by omega
        have i2 : (k : Int) ≤ ck := by omega
        have i3 : (k : Int) ≤ r := by omega
        have HQ := Lib.hid (show k = s from by rw [← HP2.out, takeN, if_neg (by omega), Int.toNat_natCast, List.length_take, HL2.out]; omega)
        clear hlt hpos HBB2
        go_wp2_with fail
        go_meet
        exact ⟨by rw [HQ.out], rfl⟩
    case rest =>
    obtain ⟨rfl, hwc⟩ := hcut
    replace hwc := hwc.symm
    subst hwc
    have hu13 : Upd (InU X) W1 W3 := Upd.of_below (by rw [hN]; exact HB13.out)
    have hN3 : N ≤ W3.heap.size := by omega
    have HN3 := Lib.hid hN3
    have HU13 := Lib.hid hu13
    have HSQ := Lib.hid (fun (W : World) (hu : Upd (InU X) W1 W) => seqs_c A4 c4 X W (HK4.out W hu) (by rw [HXL.out]; exact hl))
    rw [HXL.out] at HSQ
    have HPL := Lib.hid hN3
    clear hs13 hs12 hN hcw hck i4 i5 hbd hN3 hu13
    go_wp2_with fail
    refine (HSQ.out W3 HU13.out).mono ?_
    rintro _ Wa ⟨vq, rfl, hq, hbq⟩
    obtain ⟨Aq, cq, rfl⟩ := own_slice hq
    rw [List.length_map, HXL.out] at hq ⊢
    have HOF := of2_c Aq cq (X.map fvS) Wa (own_sl hq (fun x => (okF x).1)) (fun _ => own_form hq) (by rw [List.length_map, HXL.out]; exact hl)
    rw [List.length_map, HXL.out] at HOF
    have HBQ := Lib.hid hbq
    clear hq hbq
    go_wp2_with fail
    refine HOF.mono ?_
    clear HOF
    rintro _ W4 ⟨f, rfl, hb5, HDf, hdf, hstf, hszf, hitf⟩
    have HITF := Lib.hid hitf
    have HSTF := Lib.hid hstf
    have HDF := Lib.hid hdf
    have HB34 := Lib.hid (show Below W3.heap.size W3 W4 from HBQ.out.trans (hb5.mono HBQ.out.size))
    have HBS := Lib.hid hb5.size
    clear hb5 hdf hstf hszf hitf
    go_wp2_with fail
    refine (HSQ.out W4 (HU13.out.trans (Upd.of_below HB34.out))).mono ?_
    clear HSQ
    rintro _ Wb ⟨vq, rfl, hq, hbq⟩
    obtain ⟨Ar, cr, rfl⟩ := own_slice hq
    rw [List.length_map, HXL.out] at hq ⊢
    have HKE := keys2_c Ar cr (X.map fvS) Wb (own_sl hq (fun x => (okF x).1)) (fun _ => own_form hq) (by rw [List.length_map, HXL.out]; exact hl)
    rw [List.length_map, HXL.out] at HKE
    have HBQ2 := Lib.hid hbq
    clear hq hbq
    go_wp2_with fail
    refine HKE.mono ?_
    clear HKE
    rintro _ W5 ⟨g, rfl, hb6, HDg, hdg, hstg, hszg, hitg⟩
    have hsz : N ≤ W3.heap.size ∧ W3.heap.size ≤ Wa.heap.size ∧ Wa.heap.size ≤ W4.heap.size ∧ W4.heap.size ≤ Wb.heap.size ∧ Wb.heap.size ≤ W5.heap.size := ⟨HPL.out, HBQ.out.size, HBS.out, HBQ2.out.size, hb6.size⟩
    have HB45 : Below W4.heap.size W4 W5 := HBQ2.out.trans (hb6.mono HBQ2.out.size)
    have HB35 := Lib.hid (show Below W3.heap.size W3 W5 from HB34.out.trans (HB45.mono HB34.out.size))
    have hdf5 : HDf W5 := HSTF.out.firm.later HDF.out HB45
    have hB15 : Below N W1 W5 := HB13.out.trans (HB35.out.mono HPL.out)
    have hse5 : SrcsE N X (fun _ => (0, 0)) W5 := srcsE_firm N X _ _ _ HSE0.out (Upd.of_ge hB15)
    -- the two iterators, held
    have HUL := Lib.hid (show ∀ k, InU X k → k < Wa.heap.size ∧ k < Wb.heap.size from fun k hk => by have := (HLOW.out k hk).2; omega)
    have HGA := Lib.hid (show ∀ W W', (HDf W ∧ W5.heap.size ≤ W.heap.size) → Upd (fun k => InU X k ∨ W5.heap.size ≤ k) W W' → (HDf W' ∧ W5.heap.size ≤ W'.heap.size) from fun W W' h u => ⟨HSTF.out _ W W' h.1 u (fun k hk => hk.elim (fun h => .inl (HUL.out k h).1) (fun h => .inr (by omega))), Nat.le_trans h.2 u.size⟩)
    have HGB := Lib.hid (show ∀ W W', HDg W → Upd (fun k => InU X k ∨ W5.heap.size ≤ k) W W' → HDg W' from fun W W' h u => hstg _ W W' h u (fun k hk => hk.elim (fun h => .inl (HUL.out k h).2) .inr))
    have hsrc : ∀ (St : Nat → World → Prop), Srcs N (InU X) St (X.map fvS) (X.map (·.l)) → Srcs W5.heap.size (InU X) St (X.map fvS) ls := fun St h => by
      rw [← HLS.out]
      exact ⟨h.1, fun k f l a b => (h.2 k f l a b).mono (by omega) (fun k h => h) (fun W h => h) (fun W h => h) (fun W h => h)⟩
    have HMF := Lib.hid (show ∀ (St : Nat → World → Prop), Srcs N (InU X) St (X.map fvS) (X.map (·.l)) → (∀ k, Firm N (St k)) → IterUV Try.prog (valF f) encA W5.heap.size (InU X) (fun W => St 0 W ∧ HDf W ∧ W5.heap.size ≤ W.heap.size) (fun W => St n W ∧ HDf W ∧ W5.heap.size ≤ W.heap.size) (fun W => St n W ∧ HDf W ∧ W5.heap.size ≤ W.heap.size) mg from fun St h hf => by
      have := HITF.out W5.heap.size (InU X) St ls (by omega) (hsrc St h) (fun k => (hf k).mono (by omega)) (fun k hk => (HUL.out k hk).1) (by have := HTT.out; omega)
      rw [HLSN.out, HMG.out] at this
      exact this)
    have HMGK := Lib.hid (show ∀ (St : Nat → World → Prop), Srcs N (InU X) St (X.map fvS) (X.map (·.l)) → (∀ k, Firm N (St k)) → KeyV g W5.heap.size (InU X) (fun W => St 0 W ∧ HDg W) (fun W => St n W ∧ HDg W) (groupsL mg) from fun St h hf => by
      have := hitg (InU X) St ls (hsrc St h) (fun k => (hf k).mono (by omega)) (fun k hk => (HUL.out k hk).2) (by have := HTT.out; omega)
      rw [HLSN.out, HMG.out] at this
      exact this)
    have HOV := Lib.hid (show OfV N X f mg W5 from ⟨W5.heap.size, fun W => HDf W ∧ W5.heap.size ≤ W.heap.size, by omega, Nat.le_refl _, fun W W' h u => HGA.out W W' h (u.mono fun k hk => .inr hk), ⟨hdf5, Nat.le_refl _⟩, HGA.out, HMF.out (fun _ => SrcsX N X) (srcs_ex N X HMD.out.nod) (fun _ => srcsX_firm N X)⟩)
    have HKV := Lib.hid (show KeyVS N X g (groupsL mg) W5 from ⟨W5.heap.size, HDg, by omega, Nat.le_refl _, fun W W' h u => HGB.out W W' h (u.mono fun k hk => .inr hk), hdg, HGB.out, HMGK.out (fun _ => SrcsX N X) (srcs_ex N X HMD.out.nod) (fun _ => srcsX_firm N X)⟩)
    have HDF5 := Lib.hid hdf5
    have HDG5 := Lib.hid hdg
    have HSE5 := Lib.hid hse5
    have HN5 := Lib.hid (show N ≤ W5.heap.size from by omega)
    have HU15 := Lib.hid (show Upd (InU X) W1 W5 from HU13.out.trans (Upd.of_below HB35.out))
    have HU35 := Lib.hid (show Upd (InU X) W3 W5 from Upd.of_below HB35.out)
    have HBW5 := Lib.hid (show Below w.heap.size w W5 from HB3.out.trans (hB15.mono (by rw [← HNW.out]; exact HB3.out.size)))
    clear hb6 hdg hstg hszg hitg hsz HB45 hdf5 hB15 hse5 hsrc HITF HSTF HDF HB34 HBS HBQ HBQ2 HUL
    go_wp2_with fail
    go_loopw [13] (fun s13 wr => ∃ i : Nat, s13 = .int .i64 i ∧ i ≤ n ∧ Below W5.heap.size W5 wr) (fun s13 wr => n - (intOf s13).toNat)
    case atStart => exact ⟨0, rfl, by omega, Below.refl _ _⟩
    case round =>
      obtain ⟨i, rfl, hi, hb⟩ := hrel
      generalize wr = W6 at *
      have HB56 := Lib.hid hb
      clear hb
      have i0 : (0 : Int) ≤ i := by omega
      by_cases hlt : i < n
      · have i1 : (i : Int) < n := by omega
        obtain ⟨sx, hsx⟩ := getElem?_of_lt (l := X) (by rw [HXL.out]; exact hlt : i < X.length)
        obtain ⟨b4, o4, hA4, _, hc4⟩ := (HK4.out W6 (HU15.out.trans (Upd.of_below HB56.out))).at hsx
        subst hA4
        have s4 : W6.cell? ⟨b4, o4 + i, none⟩ = some (.pointer (some ⟨sx.p, 0, none⟩)) := by have := hc4 0 _ rfl; simpa using this
        have hblk := blk_below (HSE5.out i sx hsx).1 HB56.out
        have a0 : W6.cell? ⟨sx.p, 1, none⟩ = some (.int .i64 0) := (blk_cell hblk 1).trans rfl
        clear hc4 hsx hblk
        go_wp2
        go_roundw
        case rel => exact ⟨i + 1, by first | rfl | simp, by omega, HB56.out⟩
        case measure => simp [intOf]; omega
      · have e : n = i := by omega
        subst e
        clear hlt hi
        have HSX6 := Lib.hid (show SrcsX N X W6 from ⟨_, srcsE_firm N X _ _ _ HSE5.out (Upd.of_ge (HB56.out.mono HN5.out))⟩)
        go_wp2_with fail
        go_loopw [14] (fun s14 wr => ∃ i : Nat, s14 = .int .i64 i ∧ i ≤ 3 ∧ SrcsX N X wr ∧ Upd (InU X) W5 wr) (fun s14 wr => 3 - (intOf s14).toNat)
        case atStart => exact ⟨0, rfl, by omega, HSX6.out, Upd.of_below HB56.out⟩
        case round =>
          obtain ⟨i, rfl, hi, hsx, hu⟩ := hrel
          generalize wr = W7 at *
          have HSX7 := Lib.hid hsx
          have HU7 := Lib.hid hu
          clear hsx hu
          have j0 : (0 : Int) ≤ i := by omega
          have HRFT := Lib.hid (fun (z : Int) (W : World) (hu : Upd (InU X) W5 W) (hx : SrcsX N X W) => takenOf_c N X f mg z W (HOV.out.updU hu) hx (by rw [HL1.out]; exact hq9))
          have HRFK := Lib.hid (fun (z : Int) (W : World) (hu : Upd (InU X) W5 W) (hx : SrcsX N X W) => runsKeys_c N X g (groupsL mg) z W (HKV.out.updU hu) hx (by rw [← HLK.out, List.length_map, HL2.out]; exact hr9) (fun x hx => Nat.lt_of_le_of_lt (groups_each _ x hx) (by rw [HL1.out]; exact hq9)))
          have HEQ := Lib.hid (show ∀ (W : World) (Ax : Option Addr) (cx : Nat) (z : Int) (l : Nat), Upd (InU X) W5 W → (takeN z mg).length = l → Sl encE 4 W Ax (takeN z mg) → Calls Try.prog 21 #[.slice Ax l cx, .slice Aw l cw] W (fun e w' => e = .returned (.bool true) ∧ Below W.heap.size W w') from fun W Ax cx z l hu hl hs => by
            subst hl
            have := sameEntries11_c Ax cx (takeN z mg) Aw cw (takeN z mg) W hs ((HKW.out W (HU35.out.trans hu)).takeN z)
            rwa [decide_eq_true rfl] at this)
          have HEK := Lib.hid (show ∀ (W : World) (Ax : Option Addr) (cx : Nat) (z : Int) (l : Nat) (LG : List HE), Upd (InU X) W5 W → (takeN z LK).length = l → LG.map (·.2.2) = takeN z (groupsL mg) → Sl2 W Ax LG → Calls Try.prog 22 #[.slice Ax LG.length cx, .slice Ak l ck] W (fun e w' => e = .returned (.bool true) ∧ Below W.heap.size W w') from fun W Ax cx z l LG hu hl hg hs => by
            subst hl
            exact sameRuns11_c Ax cx LG Ak ck (takeN z LK) W hs ((HKK.out W (HU35.out.trans hu)).takeN z) (by rw [hg, takeN_map, HLK.out]))
          by_cases hlt : i < 3
          · have j1 : (i : Int) < 3 := by omega
            go_wp2_with fail
            refine (HRFT.out (m) W7 HU7.out HSX7.out).mono ?_
            rintro _ WA ⟨vx, rfl, hvx, hua, hxa⟩
            obtain ⟨Ax, cx, rfl⟩ := own_slice hvx
            rw [HP1.out] at hvx ⊢
            have HVX := Lib.hid hvx
            have HUA := Lib.hid hua
            have HXA := Lib.hid hxa
            clear hvx hua hxa
            go_wp2_with fail
            refine (HRFK.out (m) WA (HU7.out.trans HUA.out) HXA.out).mono ?_
            rintro _ WB ⟨vy, LG, rfl, hlg, hmg, hub, hxb⟩
            obtain ⟨AG, cG, rfl⟩ := own_slice hmg.own
            have HUB := Lib.hid ((HU7.out.trans HUA.out).trans hub)
            have HXB := Lib.hid hxb
            have HLG := Lib.hid hlg
            have HMG2 := Lib.hid hmg
            have HSE := Lib.hid (HEQ.out WB Ax cx (m) p HUB.out HP1.out (own_sl (HVX.out.upd hub (fun k hk h => by have h1 := (HLOW.out k h).2; have h2 := (HVX.out.block_lt hk).1; have h3 := HU7.out.size; have h4 := HN5.out; omega)) (fun x => (okE x).1)))
            clear hlg hmg hub hxb HVX
            go_wp2_with fail
            refine HSE.out.mono ?_
            clear HSE
            rintro _ WC ⟨rfl, hbc⟩
            have HUC := Lib.hid (HUB.out.trans (Upd.of_below hbc))
            have HXC := Lib.hid (HXB.out.later (by have h1 := HUB.out.size; have h2 := HN5.out; omega) hbc)
            have HSR := Lib.hid (HEK.out WC AG cG (m) s LG HUC.out HP2.out HLG.out (HMG2.out.later hbc).sl2.2)
            clear hbc HUA HXA HUB HXB HLG HMG2
            go_wp2_with fail
            refine HSR.out.mono ?_
            clear HSR
            rintro _ WD ⟨rfl, hbd9⟩
            have HUD := Lib.hid (HUC.out.trans (Upd.of_below hbd9))
            have HSXD := Lib.hid (HXC.out.later (by have h1 := HUC.out.size; have h2 := HN5.out; omega) hbd9)
            clear hbd9 HUC HXC
            go_wp2_with fail
            go_roundw
            case rel => exact ⟨i + 1, by first | rfl | simp, by omega, HSXD.out, HUD.out⟩
            case measure => simp [intOf]; omega
          · have e : i = 3 := by omega
            subst e
            clear hlt hi j0
            have HQ1 := Lib.hid (show (takeN (-1) mg).length = q from by rw [takeN_all (.inl (by decide))]; exact HL1.out)
            have HQ2 := Lib.hid (show (takeN (-1) LK).length = r from by rw [takeN_all (.inl (by decide))]; exact HL2.out)
            go_wp2_with fail
            refine (HRFT.out (-1) W7 HU7.out HSX7.out).mono ?_
            rintro _ WA ⟨vx, rfl, hvx, hua, hxa⟩
            obtain ⟨Ax, cx, rfl⟩ := own_slice hvx
            rw [HQ1.out] at hvx ⊢
            have HVX := Lib.hid hvx
            have HUA := Lib.hid hua
            have HXA := Lib.hid hxa
            clear hvx hua hxa
            go_wp2_with fail
            refine (HRFK.out (-1) WA (HU7.out.trans HUA.out) HXA.out).mono ?_
            rintro _ WB ⟨vy, LG, rfl, hlg, hmg, hub, hxb⟩
            obtain ⟨AG, cG, rfl⟩ := own_slice hmg.own
            have HUB := Lib.hid ((HU7.out.trans HUA.out).trans hub)
            have HXB := Lib.hid hxb
            have HLG := Lib.hid hlg
            have HMG2 := Lib.hid hmg
            have HSE := Lib.hid (HEQ.out WB Ax cx (-1) q HUB.out HQ1.out (own_sl (HVX.out.upd hub (fun k hk h => by have h1 := (HLOW.out k h).2; have h2 := (HVX.out.block_lt hk).1; have h3 := HU7.out.size; have h4 := HN5.out; omega)) (fun x => (okE x).1)))
            clear hlg hmg hub hxb HVX
            go_wp2_with fail
            refine HSE.out.mono ?_
            clear HSE
            rintro _ WC ⟨rfl, hbc⟩
            have HUC := Lib.hid (HUB.out.trans (Upd.of_below hbc))
            have HXC := Lib.hid (HXB.out.later (by have h1 := HUB.out.size; have h2 := HN5.out; omega) hbc)
            have HSR := Lib.hid (HEK.out WC AG cG (-1) r LG HUC.out HQ2.out HLG.out (HMG2.out.later hbc).sl2.2)
            clear hbc HUA HXA HUB HXB HLG HMG2
            go_wp2_with fail
            refine HSR.out.mono ?_
            clear HSR
            rintro _ WD ⟨rfl, hbd9⟩
            have HUD := Lib.hid (HUC.out.trans (Upd.of_below hbd9))
            have HSXD := Lib.hid (HXC.out.later (by have h1 := HUC.out.size; have h2 := HN5.out; omega) hbd9)
            clear hbd9 HUC HXC
            go_wp2_with fail
            go_loopw [23] (fun s23 wr => ∃ i : Nat, s23 = .int .i64 i ∧ i ≤ n ∧ SrcsX N X wr ∧ Upd (InU X) W5 wr) (fun s23 wr => n - (intOf s23).toNat)
            case atStart => exact ⟨0, rfl, by omega, HSXD.out, HUD.out⟩
            case round =>
              obtain ⟨i, rfl, hi, hsx, hu⟩ := hrel
              generalize wr = W8 at *
              have HSX8 := Lib.hid hsx
              have HU8 := Lib.hid hu
              clear hsx hu
              have i0 : (0 : Int) ≤ i := by omega
              by_cases hlt : i < n
              · have i1 : (i : Int) < n := by omega
                obtain ⟨F, hF⟩ := HSX8.out
                obtain ⟨sx, hsx⟩ := getElem?_of_lt (l := X) (by rw [HXL.out]; exact hlt : i < X.length)
                obtain ⟨lx, hlx⟩ := getElem?_of_lt (l := L2) (by rw [HL2N.out]; exact hlt : i < L2.length)
                have hu18 := HU15.out.trans HU8.out
                obtain ⟨b4, o4, hA4, _, hc4⟩ := (HK4.out W8 hu18).at hsx
                obtain ⟨b5, o5, hA5, _, hc5⟩ := (HK5.out W8 hu18).1.at hlx
                subst hA4
                subst hA5
                have hxy : sx.l = lx.2.2 := by
                  have := congrArg (fun l => l[i]?) HLIST.out
                  simp only [List.getElem?_map, hsx, hlx] at this
                  simpa using this.symm
                obtain ⟨z, hz⟩ : ∃ z, sx.l.length = z := ⟨_, rfl⟩
                have s4 : W8.cell? ⟨b4, o4 + i, none⟩ = some (.pointer (some ⟨sx.p, 0, none⟩)) := by have := hc4 0 _ rfl; simpa using this
                have s5 : W8.cell? ⟨b5, o5 + i, none⟩ = some (.slice lx.1 z lx.2.1) := by have := hc5 0 _ rfl; rw [← hxy, hz] at this; simpa using this
                have a0 : W8.cell? ⟨sx.p, 0, none⟩ = some (.slice sx.A z sx.c) := by have := blk_cell (hF i sx hsx).1 0; rw [hz] at this; exact this.trans rfl
                have HS9 := Lib.hid (sameEntries11_c sx.A sx.c sx.l lx.1 lx.2.1 lx.2.2 W8.drew ((hF i sx hsx).2.1.drew) (((HK5.out W8 hu18).2 lx (List.mem_of_getElem? hlx)).drew))
                rw [decide_eq_true hxy, ← hxy, hz] at HS9
                have hmx : Try.prog.follows .mixedOrders = true := by kernel_rfl
                clear hc4 hc5 hsx hlx hxy hz hF hu18
                go_wp2_with fail
                go_still_tail 11, hmx
                change wpList _ _ _ _ _ W8.drew
                go_wp2_with (go_at_call 21; refine HS9.out.mono ?_; rintro e W9 ⟨rfl, hb9⟩; have HU9 := Lib.hid (HU8.out.trans (Upd.of_below (((Below.refl _ _).drew).trans hb9))); have HSX9 := Lib.hid (HSX8.out.later (by have h1 := HU8.out.size; have h2 := HN5.out; omega) (((Below.refl _ _).drew).trans hb9)); clear hb9)
                go_roundw
                case rel => exact ⟨i + 1, by first | rfl | simp, by omega, HSX9.out, HU9.out⟩
                case measure => simp [intOf]; omega
              · have e : n = i := by omega
                subst e
                clear hlt hi i0
                have HRE := Lib.hid (show ∀ z : Int, 1 ≤ z → Calls Try.prog 23 #[.slice A4 n c4, valF f, valF g, .int .i64 z] W8 (fun e w' => e = .returned (.bool true) ∧ Upd (InU X) W8 w') from fun z hz => by
                  obtain ⟨F, hF⟩ := HSX8.out
                  have hs58 := HU8.out.size
                  have := rests_c A4 c4 N W5.heap.size X F (cntAt X F n) (cntAt X (cntAt X F n) n) f g z (fun W => HDf W ∧ W5.heap.size ≤ W.heap.size) HDg mg (groupsL mg) W8 (HK4.out W8 (HU15.out.trans HU8.out)) (fun k hk => by rw [HXL.out] at hk; exact HRL.out k hk) hF HN5.out hs58 (fun k hk => (HLOW.out k hk).2) hz (by rw [HL1.out]; exact hq9) (by rw [← HLK.out, List.length_map, HL2.out]; exact hr9)
                    (HMF.out (fun k => SrcsE N X (cntAt X F k)) (srcs_exact N X F HMD.out.nod) (fun k => srcsE_firm N X _)) (HMGK.out (fun k => SrcsE N X (cntAt X (cntAt X F n) k)) (srcs_exact N X _ HMD.out.nod) (fun k => srcsE_firm N X _)) (HGA.out W5 W8 ⟨HDF5.out, Nat.le_refl _⟩ (HU8.out.mono fun k hk => .inl hk)) (HGB.out W5 W8 HDG5.out (HU8.out.mono fun k hk => .inl hk)) (fun W W' h u => HGA.out W W' h (u.mono fun k hk => .inr hk)) HGB.out
                  rw [HXL.out] at this
                  exact this)
                go_wp2_with fail
                all_goals (
                  refine (HRE.out _ (by omega)).mono ?_
                  clear HRE
                  rintro _ W9 ⟨rfl, hu9⟩
                  have HBE := Lib.hid (HBW5.out.trans ((HU8.out.trans hu9).bel (fun k hk => (HLOW.out k hk).1) HBW5.out.size))
                  clear hu9
                  go_wp2
                  go_ret
                  exact ⟨rfl, HBE.out⟩)
theorem mergeAll_w (A : Option Addr) (c : Nat) (l : List (List Ent)) (q : Int) (w : World) (hb : ∃ L : List HE, L.map (·.2.2) = l ∧ Sl2 w A L) (hok : ∀ y ∈ l, ∀ x ∈ y, x.1.size ≤ 140737488351232 ∧ x.2.2.2.size ≤ 140737488351232) :
    Calls Try.prog 3 #[.slice A l.length c, .int .i64 q] w fun e w' => e = .returned (.bool true) ∧ Below w.heap.size w w' := by
  obtain ⟨L, rfl, hL⟩ := hb
  rw [List.length_map]
  exact mergeAll_c A c L q w hL (fun h hh x hx => hok h.2.2 (List.mem_map_of_mem hh) x hx)
end Go.Proofs.Ytdpijhpjicbecaa.H
