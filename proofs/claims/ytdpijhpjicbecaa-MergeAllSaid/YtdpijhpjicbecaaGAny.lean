/- MergeAny. Conditions: sizes. -/
import Derived.Test.YtdpijhpjicbecaaGKn
namespace Go.Proofs.Ytdpijhpjicbecaa.H
open Go Go.RowKit Go.Deep Go.Shelf Go.Proofs Go.Proofs.YtdpijhpjicbecaaW.PrintWords
set_option linter.unusedVariables false
set_option linter.unusedSimpArgs false
attribute [local go_sem] Oper.semAt_some
def OkL (L : List HE) : Prop := ∀ h ∈ L, ∀ x ∈ h.2.2, x.1.size ≤ 140737488351232 ∧ x.2.2.2.size ≤ 140737488351232
/-- The law's bounds. -/
theorem few_bounds {L : List HE} (h : L.length + totL (L.map (·.2.2)) ≤ 10000) : L.length < 1000000000 ∧ totL (L.map (·.2.2)) < 1000000000 ∧ ∀ h ∈ L, h.2.2.length < 1000000000 := by
  refine ⟨by omega, by omega, fun x hx => ?_⟩
  obtain ⟨i, hi⟩ := List.getElem?_of_mem hx
  have := totL_le (ls := L.map (·.2.2)) (k := i) (l := x.2.2) (by rw [List.getElem?_map, hi]; rfl)
  omega
/-- What stays while the sources are gone through. -/
structure InvA (w : World) (N0 : Nat) (v : Value) (X : List Src) (W : World) : Prop where
  bel : Below w.heap.size w W
  src : SrcsX N0 X W
  own : Own encSr 40 1 W w.heap.size v X
  sz : N0 ≤ W.heap.size
theorem InvA.later {w : World} {N0 : Nat} {v : Value} {X : List Src} {W W' : World} (h : InvA w N0 v X W) (hb : Below W.heap.size W W') : InvA w N0 v X W' :=
  ⟨h.bel.trans (hb.mono h.bel.size), h.src.later h.sz hb, h.own.below hb, Nat.le_trans h.sz hb.size⟩
theorem InU.sx {X : List Src} {k : Nat} (h : InU X k) : SX X k := by
  obtain ⟨j, s, hj, e⟩ := h
  exact ⟨s, List.mem_of_getElem? hj, .inl e⟩
theorem InvA.updU {w : World} {N0 : Nat} {v v5 : Value} {X : List Src} {L2 : List HE} {W0 W W' : World} (h : InvA w N0 v X W) (hm : SrcMade W0 w.heap.size v v5 X L2) (u : Upd (InU X) W W') (hx : SrcsX N0 X W') : InvA w N0 v X W' :=
  ⟨h.bel.trans (u.bel (fun k ⟨j, s, hj, e⟩ => by rw [← e]; exact hm.low s (List.mem_of_getElem? hj)) h.bel.size), hx, h.own.upd u (fun k hk hx => (hm.d4 k hk).1 hx.sx), Nat.le_trans h.sz u.size⟩
set_option maxHeartbeats 6400000 in
set_option maxRecDepth 100000 in
theorem mergeAny_c (A : Option Addr) (c : Nat) (L : List HE) (q : Int) (w : World) (hs : Sl2 w A L) (hok : OkL L) :
    Calls Try.prog 7 #[.slice A L.length c, .int .i64 q] w fun e w' => e = .returned (.bool true) ∧ Below w.heap.size w w' := by
  have HK := Lib.hid (known11_c w)
  have HS := Lib.hid hs
  have HOK := Lib.hid hok
  have hm := hs.1.1
  obtain ⟨n, hn⟩ : ∃ n, L.length = n := ⟨_, rfl⟩
  have HN := Lib.hid hn
  rw [hn] at hm ⊢
  clear hs hok hn
  go_enter Try.func7, Try.ntmps7
  go_wp2_with fail
  refine HK.out.mono ?_
  rintro _ w1 ⟨rfl, hb1⟩
  have HF := few11_c A c L w1 ⟨HS.out.1.later hb1, fun x hx => (HS.out.2 x hx).later hb1⟩ HOK.out
  rw [HN.out] at HF
  have HB1 := Lib.hid hb1
  clear HK hb1
  go_wp2_with fail
  refine HF.mono ?_
  clear HF
  rintro _ w2 ⟨b, rfl, hbd, hb2⟩
  have HB2 := Lib.hid (HB1.out.trans (hb2.mono HB1.out.size))
  clear hb2
  cases b with
  | false =>
    go_wp2
    go_ret
    exact ⟨rfl, HB2.out⟩
  | true =>
    have hbd := hbd rfl
    have HBD := Lib.hid (show totL (L.map (·.2.2)) < 1000000000 from by rw [sumL_tot] at hbd; omega)
    have hl : n < 1000000000 := by have := HN.out; omega
    clear hbd
    go_wp2_with fail
    go_loopw [5, 6] (fun s5 s6 wr => ∃ (k : Nat) (X : List Src), s6 = .int .i64 k ∧ k ≤ n ∧ SrcMade wr w.heap.size s5 (.slice none 0 0) X [] ∧ X.map (·.l) = (L.take k).map (·.2.2) ∧ Below w.heap.size w wr) (fun s5 s6 wr => n - (intOf s6).toNat)
    case atStart => exact ⟨0, [], rfl, by omega, SrcMade.nil _ _, rfl, HB2.out⟩
    case round =>
      obtain ⟨k, X, rfl, hk, hmade, hX, hb⟩ := hrel
      obtain ⟨A5, c5, rfl⟩ := own_slice hmade.own4
      have hxl : X.length = k := by
        have := congrArg List.length hX
        rw [List.length_map, List.length_map, List.length_take, HN.out] at this
        omega
      rw [hxl] at hmade ⊢
      have HM := Lib.hid hmade
      have HB := Lib.hid hb
      have HX := Lib.hid hX
      have HXL := Lib.hid hxl
      clear hmade hb hX hxl
      generalize wr = W5 at *
      by_cases hlt : k < n
      · obtain ⟨x, hx⟩ := getElem?_of_lt (l := L) (by rw [HN.out]; exact hlt : k < L.length)
        obtain ⟨b2, o2, hB2, hb2, hc2⟩ := (HS.out.1.later HB.out).at hx
        subst hB2
        have y0 : W5.cell? ⟨b2, o2 + k, none⟩ = some (.slice x.1 x.2.2.length x.2.1) := by simpa using hc2 0 _ rfl
        have HXX := Lib.hid hx
        have HSX := Lib.hid (HS.out.2 x (List.mem_of_getElem? hx))
        clear hc2 hx
        have i1 : (0 : Int) ≤ k := by omega
        have i2 : (k : Int) < n := by omega
        obtain ⟨xa, xc, xl⟩ := x
        simp only at y0 HXX HSX
        obtain ⟨Wb, hWb⟩ : ∃ Z, W5.alloc (.cells #[.slice xa xl.length xc, .int .i64 0, .int .i64 0] 39) = Z := ⟨_, rfl⟩
        have HRB := Lib.hid (show Wb.heap[W5.heap.size]? = some (.cells #[.slice xa xl.length xc, .int .i64 0, .int .i64 0] 39 (0, 0)) from by rw [← hWb]; exact heap_alloc_new _ _)
        have HBB := Lib.hid (show Below W5.heap.size W5 Wb from by rw [← hWb]; exact (Below.refl _ _).alloc (Nat.le_refl _) _)
        have hw5 := HB.out.size
        have HSZ := Lib.hid (show Wb.heap.size = W5.heap.size + 1 from by rw [← hWb]; simp)
        have HLOW := Lib.hid (show xl ≠ [] → ∀ b o, xa = some ⟨b, o, none⟩ → b < w.heap.size from fun hne b o e => by
          rcases HSX.out.2 with h | ⟨b', o', hA, hlt, _⟩
          · exact absurd h hne
          · rw [e] at hA; injection hA with hA; injection hA with h1 h2; rw [h1]; exact hlt)
        go_wp2_with (at_builtin; refine wpList_app rfl (.tmp 18) (.tmp 25) rfl uSlS infoS rfl (by decide) (by decide) okS' (.slice A5 k c5) X rfl (base := w.heap.size) ?c1 (some ⟨Wb.heap.size, 0, none⟩) 1 [(⟨W5.heap.size, xa, xc, xl⟩ : Src)] rfl ?c2 ?c3 ?c4 ?_)
        case c1 => exact (HM.out.later HBB.out).own4.below ((Below.refl _ _).alloc (Nat.le_refl _) _)
        case c2 => exact Sl.one okS' Wb _ _ rfl
        case c3 => have := HXL.out; simp only [this, List.length_cons, List.length_nil]; omega
        case c4 => have := HSZ.out; simp; omega
        intro v4 Wc hoc hgc hatc
        have hsz := HSZ.out
        have hmc := HM.out.addS (HBB.out.alloc (by omega) (.cells #[.pointer (some ⟨W5.heap.size, 0, none⟩)] 40)) hw5 ⟨W5.heap.size, xa, xc, xl⟩ (blk_alloc HRB.out _) (((HSX.out.later HB.out).later HBB.out).later ((Below.refl _ _).alloc (Nat.le_refl _) _)) (Nat.le_refl _) (fun hne b o e => .inr (HLOW.out hne b o e)) hoc hgc (by simpa using hatc)
        have HMC := Lib.hid hmc
        have HBC := Lib.hid (show Below w.heap.size w Wc from (HB.out.trans ((HBB.out.alloc (by omega) (.cells #[.pointer (some ⟨W5.heap.size, 0, none⟩)] 40)).mono hw5)).trans ((Upd.of_grown (S := fun j => (Value.slice A5 k c5).ownBlock = some j) hgc (fun j hj => hj)).bel (fun j hj => (HM.out.own4.block_lt hj).1) (by simp; omega)))
        have HXN := Lib.hid (show (X ++ [(⟨W5.heap.size, xa, xc, xl⟩ : Src)]).map (·.l) = (L.take (k + 1)).map (·.2.2) from by rw [List.map_append, HX.out, take_suc HXX.out, List.map_append]; rfl)
        clear hoc hgc hatc hmc hsz
        go_wp2
        go_roundw
        case rel => exact ⟨k + 1, _, by first | rfl | simp, by omega, HMC.out, HXN.out, HBC.out⟩
        case measure => simp [intOf]; omega
      · have hk2 : n = k := by omega
        subst hk2
        have HE1 := Lib.hid (show X.map (·.l) = L.map (·.2.2) from by rw [HX.out, List.take_of_length_le (by rw [HN.out]; exact Nat.le_refl _)])
        have HTOT := Lib.hid (show totL (X.map (·.l)) < 1000000000 from by rw [HE1.out]; exact HBD.out)
        have HND := Lib.hid HM.out.nod
        obtain ⟨N0, hN0⟩ : ∃ N0, W5.heap.size = N0 := ⟨_, rfl⟩
        have IV := Lib.hid (show InvA w N0 (.slice A5 n c5) X W5 from ⟨HB.out, ⟨_, hN0 ▸ HM.out.src⟩, HM.out.own4, by omega⟩)
        obtain ⟨W0, hmd⟩ : ∃ W0, SrcMade W0 w.heap.size (.slice A5 n c5) (.slice none 0 0) X [] := ⟨_, HM.out⟩
        have HMD := Lib.hid hmd
        clear hmd HM HB HX hN0 hlt
        generalize W5 = Wi at *
        go_wp2_with fail
        have hc := seqs_c A5 c5 X Wi (own_sl IV.out.own (fun x => (okS' x).1)) (by rw [HXL.out]; exact hl)
        rw [HXL.out] at hc
        refine hc.mono ?_
        clear hc
        rintro _ W6 ⟨vq, rfl, hq, hbq⟩
        obtain ⟨Aq, cq, rfl⟩ := own_slice hq
        rw [List.length_map, HXL.out] at hq ⊢
        have IV6 := Lib.hid (IV.out.later hbq)
        have HSL6 := Lib.hid (own_sl hq (fun x => (okF x).1))
        have HFO6 := Lib.hid (own_form hq)
        clear hq hbq IV
        generalize W6 = Wi at *
        go_wp2_with fail
        have hc := srcOf_c N0 X Aq cq Wi HSL6.out (fun _ => HFO6.out) HND.out IV6.out.src IV6.out.sz HTOT.out (by rw [HXL.out]; exact hl)
        rw [HXL.out] at hc
        refine hc.mono ?_
        clear hc
        rintro _ W7 ⟨f, rfl, hb7, hof⟩
        have IV7 := Lib.hid (IV6.out.later hb7)
        have HOF := Lib.hid hof
        clear hof hb7 IV6 HSL6 HFO6
        generalize W7 = Wi at *
        go_wp2_with fail
        refine (takenOf_c N0 X f _ q Wi HOF.out IV7.out.src (by rw [mergeL_length]; exact HTOT.out)).mono ?_
        rintro _ W8 ⟨vt, rfl, _, hut, hxt⟩
        have IV := Lib.hid (IV7.out.updU HMD.out hut hxt)
        clear hut hxt IV7 HOF
        generalize W8 = Wi at *
        go_wp2_with fail
        have hc := seqs_c A5 c5 X Wi (own_sl IV.out.own (fun x => (okS' x).1)) (by rw [HXL.out]; exact hl)
        rw [HXL.out] at hc
        refine hc.mono ?_
        clear hc
        rintro _ W6 ⟨vq, rfl, hq, hbq⟩
        obtain ⟨Aq, cq, rfl⟩ := own_slice hq
        rw [List.length_map, HXL.out] at hq ⊢
        have IV6 := Lib.hid (IV.out.later hbq)
        have HSL6 := Lib.hid (own_sl hq (fun x => (okF x).1))
        have HFO6 := Lib.hid (own_form hq)
        clear hq hbq IV
        generalize W6 = Wi at *
        go_wp2_with fail
        have hc := srcKeys_c N0 X Aq cq Wi HSL6.out (fun _ => HFO6.out) HND.out IV6.out.src IV6.out.sz HTOT.out (by rw [HXL.out]; exact hl)
        rw [HXL.out] at hc
        refine hc.mono ?_
        clear hc
        rintro _ W7 ⟨f, rfl, hb7, hof⟩
        have IV7 := Lib.hid (IV6.out.later hb7)
        have HOF := Lib.hid hof
        clear hof hb7 IV6 HSL6 HFO6
        generalize W7 = Wi at *
        go_wp2_with fail
        refine (runsKeys_c N0 X f _ q Wi HOF.out IV7.out.src (Nat.lt_of_le_of_lt (groups_len _) (by rw [mergeL_length]; exact HTOT.out)) (fun x hx => Nat.lt_of_le_of_lt (groups_each _ x hx) (by rw [mergeL_length]; exact HTOT.out))).mono ?_
        rintro _ W8 ⟨vt, _, rfl, _, _, hut, hxt⟩
        have IV := Lib.hid (IV7.out.updU HMD.out hut hxt)
        clear hut hxt IV7 HOF
        generalize W8 = Wi at *
        go_wp2_with fail
        have hc := seqs_c A5 c5 X Wi (own_sl IV.out.own (fun x => (okS' x).1)) (by rw [HXL.out]; exact hl)
        rw [HXL.out] at hc
        refine hc.mono ?_
        clear hc
        rintro _ W6 ⟨vq, rfl, hq, hbq⟩
        obtain ⟨Aq, cq, rfl⟩ := own_slice hq
        rw [List.length_map, HXL.out] at hq ⊢
        have IV6 := Lib.hid (IV.out.later hbq)
        have HSL6 := Lib.hid (own_sl hq (fun x => (okF x).1))
        have HFO6 := Lib.hid (own_form hq)
        clear hq hbq IV
        generalize W6 = Wi at *
        go_wp2_with fail
        have hc := srcOf_c N0 X Aq cq Wi HSL6.out (fun _ => HFO6.out) HND.out IV6.out.src IV6.out.sz HTOT.out (by rw [HXL.out]; exact hl)
        rw [HXL.out] at hc
        refine hc.mono ?_
        clear hc
        rintro _ W7 ⟨f, rfl, hb7, hof⟩
        have IV7 := Lib.hid (IV6.out.later hb7)
        have HOF := Lib.hid hof
        clear hof hb7 IV6 HSL6 HFO6
        generalize W7 = Wi at *
        go_wp2_with fail
        refine (takenOf_c N0 X f _ (-1) Wi HOF.out IV7.out.src (by rw [mergeL_length]; exact HTOT.out)).mono ?_
        rintro _ W8 ⟨vt, rfl, _, hut, hxt⟩
        have IV := Lib.hid (IV7.out.updU HMD.out hut hxt)
        clear hut hxt IV7 HOF
        generalize W8 = Wi at *
        go_wp2_with fail
        have hc := seqs_c A5 c5 X Wi (own_sl IV.out.own (fun x => (okS' x).1)) (by rw [HXL.out]; exact hl)
        rw [HXL.out] at hc
        refine hc.mono ?_
        clear hc
        rintro _ W6 ⟨vq, rfl, hq, hbq⟩
        obtain ⟨Aq, cq, rfl⟩ := own_slice hq
        rw [List.length_map, HXL.out] at hq ⊢
        have IV6 := Lib.hid (IV.out.later hbq)
        have HSL6 := Lib.hid (own_sl hq (fun x => (okF x).1))
        have HFO6 := Lib.hid (own_form hq)
        clear hq hbq IV
        generalize W6 = Wi at *
        go_wp2_with fail
        have hc := srcKeys_c N0 X Aq cq Wi HSL6.out (fun _ => HFO6.out) HND.out IV6.out.src IV6.out.sz HTOT.out (by rw [HXL.out]; exact hl)
        rw [HXL.out] at hc
        refine hc.mono ?_
        clear hc
        rintro _ W7 ⟨f, rfl, hb7, hof⟩
        have IV7 := Lib.hid (IV6.out.later hb7)
        have HOF := Lib.hid hof
        clear hof hb7 IV6 HSL6 HFO6
        generalize W7 = Wi at *
        go_wp2_with fail
        refine (runsKeys_c N0 X f _ (-1) Wi HOF.out IV7.out.src (Nat.lt_of_le_of_lt (groups_len _) (by rw [mergeL_length]; exact HTOT.out)) (fun x hx => Nat.lt_of_le_of_lt (groups_each _ x hx) (by rw [mergeL_length]; exact HTOT.out))).mono ?_
        rintro _ W8 ⟨vt, _, rfl, _, _, hut, hxt⟩
        have IV := Lib.hid (IV7.out.updU HMD.out hut hxt)
        clear hut hxt IV7 HOF
        generalize W8 = Wi at *
        have HK2 := known11_c Wi
        go_wp2_with fail
        refine HK2.mono ?_
        rintro _ W9 ⟨rfl, hb9⟩
        have HBF := Lib.hid (IV.out.later hb9).bel
        clear HK2 hb9
        go_wp2
        go_ret
        exact ⟨rfl, HBF.out⟩
theorem mergeAny_w (A : Option Addr) (c : Nat) (l : List (List Ent)) (q : Int) (w : World) (hb : ∃ L : List HE, L.map (·.2.2) = l ∧ Sl2 w A L) (hok : ∀ y ∈ l, ∀ x ∈ y, x.1.size ≤ 140737488351232 ∧ x.2.2.2.size ≤ 140737488351232) :
    Calls Try.prog 7 #[.slice A l.length c, .int .i64 q] w fun e w' => e = .returned (.bool true) ∧ Below w.heap.size w w' := by
  obtain ⟨L, rfl, hL⟩ := hb
  rw [List.length_map]
  exact mergeAny_c A c L q w hL (fun h hh x hx => hok h.2.2 (List.mem_map_of_mem hh) x hx)
end Go.Proofs.Ytdpijhpjicbecaa.H
