/- MergeOrder. Conditions: sizes. (genord.py) -/
import Derived.Test.YtdpijhpjicbecaaGNest
import Derived.Test.YtdpijhpjicbecaaGAny
import Derived.Deep.DeepCutAuto
import Derived.BigQuiet
import Derived.StillTailTactics
namespace Go.Proofs.Ytdpijhpjicbecaa.H
open Go Go.RowKit Go.Deep Go.Shelf Go.Proofs Go.Proofs.YtdpijhpjicbecaaW.PrintWords
set_option linter.unusedVariables false
set_option linter.unusedSimpArgs false
attribute [local go_sem] Oper.semAt_some
theorem drop_at {α : Type} {l : List α} {a : Nat} {y : α} (h : l[a]? = some y) : l.drop a = y :: l.drop (a + 1) := by
  obtain ⟨h1, h2⟩ := List.getElem?_eq_some_iff.1 h
  rw [List.drop_eq_getElem_cons h1, h2]
theorem sub_eq {l m : List Ent} {a j : Nat} {x : Ent} (hl : l[a]? = some x) (hm : m[j]? = some x) (h : (l.drop a).Sublist (m.drop j)) : (l.drop (a + 1)).Sublist (m.drop (j + 1)) := by
  rw [drop_at hl, drop_at hm] at h
  exact List.cons_sublist_cons.1 h
theorem sub_ne {l m : List Ent} {a j : Nat} {x y : Ent} (hl : l[a]? = some y) (hm : m[j]? = some x) (hne : ¬ x = y) (h : (l.drop a).Sublist (m.drop j)) : (l.drop a).Sublist (m.drop (j + 1)) := by
  rw [drop_at hm] at h
  rw [drop_at hl] at h ⊢
  cases h with
  | cons _ h => exact h
  | cons_cons _ h => exact absurd rfl hne
theorem sub_end {l m : List Ent} {a : Nat} (h : (l.drop a).Sublist (m.drop m.length)) : l.length ≤ a := by
  rw [List.drop_length] at h
  exact List.drop_eq_nil_iff.1 (List.sublist_nil.1 h)
/-- What stays while the sources are gone through. -/
structure InvO (w : World) (N0 n bA : Nat) (v4 v5 : Value) (X : List Src) (L2 : List HE) (AA : Option Addr) (cA : Nat) (all : List Ent) (W : World) : Prop where
  bel : Below w.heap.size w W
  src : SrcsX N0 X W
  own4 : Own encSr 40 1 W w.heap.size v4 X
  made : MadeE W w.heap.size v5 L2
  ents : Sl encE 4 W AA all
  sz : N0 ≤ W.heap.size
  allA : all ≠ [] → ∀ b o, AA = some ⟨b, o, none⟩ → N0 ≤ b
theorem InvO.later {w : World} {N0 n bA : Nat} {v4 v5 : Value} {X : List Src} {L2 : List HE} {AA : Option Addr} {cA : Nat} {all : List Ent} {W W' : World} (h : InvO w N0 n bA v4 v5 X L2 AA cA all W) (hb : Below W.heap.size W W') : InvO w N0 n bA v4 v5 X L2 AA cA all W' :=
  ⟨h.bel.trans (hb.mono h.bel.size), h.src.later h.sz hb, h.own4.below hb, h.made.later hb, h.ents.later hb, Nat.le_trans h.sz hb.size, h.allA⟩
theorem InvO.updU {w : World} {N0 n bA : Nat} {v4 v5 : Value} {X : List Src} {L2 : List HE} {AA : Option Addr} {cA : Nat} {all : List Ent} {W0 W W' : World} (h : InvO w N0 n bA v4 v5 X L2 AA cA all W) (hm : SrcMade W0 w.heap.size v4 v5 X L2) (u : Upd (InU X) W W') (hx : SrcsX N0 X W') : InvO w N0 n bA v4 v5 X L2 AA cA all W' :=
  ⟨h.bel.trans (u.bel (fun k ⟨j, s, hj, e⟩ => by rw [← e]; exact hm.low s (List.mem_of_getElem? hj)) h.bel.size), hx, h.own4.upd u (fun k hk hx => (hm.d4 k hk).1 hx.sx),
    h.made.same (u.same (T := fun k => v5.ownBlock = some k ∨ ∃ h ∈ L2, ∃ o, h.1 = some ⟨k, o, none⟩) fun k hk => ⟨by
      rcases hk with hk | ⟨y, hy, o, e⟩
      · exact (h.made.own.block_lt hk).2
      · exact (h.made.far y hy k o e).2.1, fun hx => by
      rcases hk with hk | ⟨y, hy, o, e⟩
      · exact hm.d5 k hk hx.sx
      · exact hm.d6 y hy k o e hx.sx⟩) (fun k hk => hk),
    h.ents.upd2 u (fun hne b o e hx => by have := h.allA hne b o e; have := h.src.low b hx; omega), Nat.le_trans h.sz u.size, h.allA⟩
set_option maxHeartbeats 12800000 in
set_option maxRecDepth 100000 in
theorem mergeOrder_c (A : Option Addr) (c : Nat) (L : List HE) (w : World) (hs : Sl2 w A L) (hok : OkL L) :
    Calls Try.prog 5 #[.slice A L.length c] w fun e w' => e = .returned (.bool true) ∧ Below w.heap.size w w' := by
  have HK := Lib.hid (known11_c w)
  have HS := Lib.hid hs
  have HOK := Lib.hid hok
  have hm := hs.1.1
  obtain ⟨n, hn⟩ : ∃ n, L.length = n := ⟨_, rfl⟩
  have HN := Lib.hid hn
  rw [hn] at hm ⊢
  clear hs hok hn
  go_enter Try.func5, Try.ntmps5
  go_wp2_with fail
  refine HK.out.mono ?_
  rintro _ w1 ⟨rfl, hb1⟩
  have HF := few11_c A c L w1 ⟨HS.out.1.later hb1, fun x hx => (HS.out.2 x hx).later hb1⟩ HOK.out
  rw [HN.out] at HF
  have HB1 := Lib.hid hb1
  clear HK hb1
  go_wp2_with fail
  refine HF.mono ?_
  clear HF
  rintro _ w2 ⟨b, rfl, hbd, hb2⟩
  have HB2 := Lib.hid (HB1.out.trans (hb2.mono HB1.out.size))
  clear hb2
  cases b with
  | false =>
    go_wp2
    go_ret
    exact ⟨rfl, HB2.out⟩
  | true =>
      have hbd := hbd rfl
      have HBD := Lib.hid (show n + totL (L.map (·.2.2)) ≤ 10000 from by rw [sumL_tot] at hbd; have := HN.out; omega)
      have hl : n < 1000000000 := by have := HBD.out; omega
      have HSO := Lib.hid (sources_c A c L w2 ⟨HS.out.1.later HB2.out, fun x hx => (HS.out.2 x hx).later HB2.out⟩ (by rw [HN.out]; exact hl) (fun h hh => (few_bounds (L := L) (by rw [← sumL_tot, HN.out]; exact hbd)).2.2 h hh))
      rw [HN.out] at HSO
      clear hbd
      go_wp2_with fail
      refine HSO.out.mono ?_
      clear HSO
      rintro _ Wi ⟨v4, v5, X, L2, rfl, hmade, hX, hL2, hb3⟩
      have hlow2 : w.heap.size ≤ w2.heap.size := HB2.out.size
      obtain ⟨A4, c4, rfl⟩ := own_slice hmade.own4
      obtain ⟨A5, c5, rfl⟩ := own_slice hmade.made5.own
      have hxl : X.length = n := by
        have := congrArg List.length hX
        rw [List.length_map, List.length_map, HN.out] at this
        exact this
      have hl2 : L2.length = n := by
        have := congrArg List.length hL2
        rw [List.length_map, List.length_map, HN.out] at this
        exact this
      rw [hxl, hl2] at hmade ⊢
      obtain ⟨ls, hls⟩ : ∃ ls, X.map (·.l) = ls := ⟨_, rfl⟩
      have HLS := Lib.hid hls
      have HLS2 := Lib.hid (show L2.map (·.2.2) = ls from by rw [← hls, hL2, hX])
      have HRI := Lib.hid (show ∀ a ∈ ls, RisenL a from fun a ha => by
        rw [← hls, hX] at ha
        obtain ⟨h, _, rfl⟩ := List.mem_map.1 ha
        exact risenL_ok _)
      have HTB := Lib.hid (show n + totL ls ≤ 10000 from by
        have h1 : ∀ (M : List HE), totL (M.map (fun h => risenL h.2.2)) ≤ totL (M.map (·.2.2)) := by
          intro M
          induction M with
          | nil => simp [totL]
          | cons a M ih => have := risenL_len a.2.2; simp only [totL, List.map_cons, List.sum_cons] at ih ⊢; omega
        have := h1 L
        rw [← hls, hX]
        have := HBD.out
        omega)
      have HXL := Lib.hid hxl
      have HL2L := Lib.hid hl2
      have HND := Lib.hid hmade.nod
      have HTOT := Lib.hid (show totL (X.map (·.l)) < 1000000000 from by rw [hls]; have := HTB.out; omega)
      obtain ⟨N0, hN0⟩ : ∃ N0, Wi.heap.size = N0 := ⟨_, rfl⟩
      obtain ⟨n1, hn1⟩ : ∃ n1, w2.heap.size = n1 := ⟨_, rfl⟩
      have HMD := Lib.hid (show ∃ W0, SrcMade W0 w2.heap.size (.slice A4 n c4) (.slice A5 n c5) X L2 from ⟨_, hmade⟩)
      have IV := Lib.hid (show InvO w2 N0 0 0 (.slice A4 n c4) (.slice A5 n c5) X L2 none 0 [] Wi from ⟨hb3, ⟨_, hN0 ▸ hmade.src⟩, hmade.own4, hmade.made5, Sl.nil _ _ _ _, by omega, fun h => absurd rfl h⟩)
      clear hmade hX hL2 hb3 hxl hl2 hls hN0 hn1
      go_wp2_with fail
      have hc := seqs_c A4 c4 X Wi (own_sl IV.out.own4 (fun x => (okS' x).1)) (by rw [HXL.out]; exact hl)
      rw [HXL.out] at hc
      refine hc.mono ?_
      clear hc
      rintro _ W6 ⟨vq, rfl, hq, hbq⟩
      obtain ⟨Aq, cq, rfl⟩ := own_slice hq
      rw [List.length_map, HXL.out] at hq ⊢
      have IV6 := Lib.hid (IV.out.later hbq)
      have HSL6 := Lib.hid (own_sl hq (fun x => (okF x).1))
      have HFO6 := Lib.hid (own_form hq)
      clear hq hbq IV
      have IV := IV6
      clear IV6
      generalize W6 = Wi at *
      go_wp2_with fail
      have hc := srcOf_c N0 X Aq cq Wi HSL6.out (fun _ => HFO6.out) HND.out IV.out.src IV.out.sz HTOT.out (by rw [HXL.out]; exact hl)
      rw [HXL.out] at hc
      refine hc.mono ?_
      clear hc
      rintro _ W7 ⟨f, rfl, hb7, hof⟩
      have IV7 := Lib.hid (IV.out.later hb7)
      have HOF := Lib.hid hof
      clear hof hb7 IV HSL6 HFO6
      have IV := IV7
      clear IV7
      generalize W7 = Wi at *
      go_wp2_with fail
      refine (takenOf_c N0 X f _ (-1) Wi HOF.out IV.out.src (by rw [mergeL_length]; exact HTOT.out)).mono ?_
      rintro _ Wl ⟨vt, rfl, hvt, hut, hxt⟩
      rw [show ∀ l : List Ent, takeN (-1) l = l from fun _ => rfl, HLS.out] at hvt
      obtain ⟨AA, cA, rfl⟩ := own_slice hvt
      obtain ⟨all, hall⟩ : ∃ all, mergeL ls = all := ⟨_, rfl⟩
      rw [hall] at hvt ⊢
      obtain ⟨m, hm2⟩ : ∃ m, all.length = m := ⟨_, rfl⟩
      have HALL := Lib.hid hall
      have HM := Lib.hid hm2
      have HMT := Lib.hid (show m = totL ls from by rw [← hm2, ← hall, mergeL_length])
      obtain ⟨W0, hmd⟩ := HMD.out
      have hiv := IV.out.updU hmd hut hxt
      have hadr := own_addr hvt
      have IV2 := Lib.hid (show InvO w2 N0 n 0 (.slice A4 n c4) (.slice A5 n c5) X L2 AA cA all Wl from ⟨hiv.bel, hiv.src, hiv.own4, hiv.made, own_sl hvt (fun x => (okE x).1), hiv.sz, fun _ b o e => Nat.le_trans IV.out.sz (hadr b o e).1⟩)
      rw [hm2]
      clear hvt hut hxt hiv hadr HOF IV hall hm2 hmd
      have IV := IV2
      clear IV2
      generalize Wl = Wi at *
      have HRA := Lib.hid (show RisenL all from by rw [← HALL.out]; exact mergeL_risen _ HRI.out)
      have hmb : m ≤ 10000 := by have := HMT.out; have := HTB.out; omega
      go_wp2_with fail
      go_loopw [7, 8] (fun s7 s8 wr => ∃ k : Nat, s8 = .int .i64 k ∧ k ≤ n ∧ s7 = .int .i64 ((totL (ls.take k) : Nat) : Int) ∧ InvO w2 N0 n 0 (.slice A4 n c4) (.slice A5 n c5) X L2 AA cA all wr) (fun s7 s8 wr => n - (intOf s8).toNat)
      case atStart => exact ⟨0, rfl, by omega, by simp [totL], IV.out⟩
      case round =>
        obtain ⟨k, rfl, hk, rfl, hiv⟩ := hrel
        clear IV
        have IV := Lib.hid hiv
        clear hiv
        generalize wr = Wi at *
        by_cases hlt : k < n
        · obtain ⟨h, hh⟩ := getElem?_of_lt (l := L2) (by rw [HL2L.out]; exact hlt : k < L2.length)
          obtain ⟨s, hsx⟩ := getElem?_of_lt (l := X) (by rw [HXL.out]; exact hlt : k < X.length)
          have e1 : ls[k]? = some h.2.2 := by rw [← HLS2.out, List.getElem?_map, hh]; rfl
          have e2 : ls[k]? = some s.l := by rw [← HLS.out, List.getElem?_map, hsx]; rfl
          have esl : s.l = h.2.2 := by rw [e1] at e2; injection e2 with e2; exact e2.symm
          obtain ⟨lx, hlx⟩ : ∃ lx, s.l = lx := ⟨_, rfl⟩
          have HLX := Lib.hid hlx
          have HLH := Lib.hid (show h.2.2 = lx from by rw [← esl]; exact hlx)
          obtain ⟨q, hq⟩ : ∃ q, lx.length = q := ⟨_, rfl⟩
          have HQ := Lib.hid hq
          have HSX := Lib.hid hsx
          have HEK := Lib.hid (show ls[k]? = some lx from by rw [e2, hlx])
          have HTS := Lib.hid (show totL (ls.take (k + 1)) = totL (ls.take k) + q from by
            rw [take_suc (by rw [e2, hlx] : ls[k]? = some lx)]
            simp [totL, hq])
          have htk : totL (ls.take k) + q ≤ 10000 := by
            have h1 : totL (ls.take (k + 1)) ≤ totL ls := by
              have : ls = ls.take (k + 1) ++ ls.drop (k + 1) := (List.take_append_drop _ _).symm
              have h2 : ∀ a b : List (List Ent), totL (a ++ b) = totL a + totL b := by intro a b; simp [totL]
              rw [this, h2] 
              simp
            have := HTS.out
            have := HTB.out
            omega
          obtain ⟨t, ht⟩ : ∃ t, totL (ls.take k) = t := ⟨_, rfl⟩
          have HT1 := Lib.hid ht
          rw [ht] at htk ⊢
          -- where the list stands
          have HLC := Lib.hid (show ∃ b5 o5, A5 = some ⟨b5, o5, none⟩ ∧ ∀ W, InvO w2 N0 n 0 (.slice A4 n c4) (.slice A5 n c5) X L2 AA cA all W → W.cell? ⟨b5, o5 + k, none⟩ = some (.slice h.1 q h.2.1) ∧ Sl encE 4 W h.1 lx from by
            obtain ⟨b5, o5, e5, _, _⟩ := IV.out.made.sl2.2.1.at hh
            refine ⟨b5, o5, e5, fun W hW => ⟨?_, ?_⟩⟩
            · obtain ⟨b6, o6, e6, _, hc6⟩ := hW.made.sl2.2.1.at hh
              rw [e5] at e6
              injection e6 with e6
              injection e6 with e6 e7
              subst e6; subst e7
              have := hc6 0 _ rfl
              rw [HLH.out, hq] at this
              simpa using this
            · have := hW.made.sl2.2.2 h (List.mem_of_getElem? hh)
              rw [HLH.out] at this
              exact this)
          obtain ⟨b5, o5, hA5, hlc⟩ := HLC.out
          clear HLC
          have HLC := Lib.hid hlc
          have HCP := Lib.hid (show ∃ b4 o4, A4 = some ⟨b4, o4, none⟩ ∧ ∀ W, InvO w2 N0 n 0 (.slice A4 n c4) (.slice A5 n c5) X L2 AA cA all W → W.cell? ⟨b4, o4 + k, none⟩ = some (.pointer (some ⟨s.p, 0, none⟩)) from by
            obtain ⟨b5, o5, e5, _, _⟩ := (own_sl IV.out.own4 (fun x => (okS' x).1)).at hsx
            refine ⟨b5, o5, e5, fun W hW => ?_⟩
            obtain ⟨b6, o6, e6, _, hc6⟩ := (own_sl hW.own4 (fun x => (okS' x).1)).at hsx
            rw [e5] at e6
            injection e6 with e6
            injection e6 with e6 e7
            subst e6; subst e7
            have := hc6 0 _ rfl
            simpa using this)
          obtain ⟨b4, o4, hA4, hcp⟩ := HCP.out
          subst hA5; subst hA4
          have y5 := (HLC.out Wi IV.out).1
          have y4 := hcp Wi IV.out
          clear HCP hlc hcp e1 e2 esl hlx hq hh hsx ht
          have i1 : (0 : Int) ≤ k := by omega
          have i2 : (k : Int) < n := by omega
          obtain ⟨sp, hsp⟩ : ∃ sp, s.p = sp := ⟨_, rfl⟩
          have HSP := Lib.hid hsp
          rw [hsp] at y4
          clear hsp
          obtain ⟨Wj, hWj⟩ : ∃ Z, Wi.alloc (.cells #[.func (.func 26) #[.pointer (some ⟨sp, 0, none⟩)] #[]] 31) = Z := ⟨_, rfl⟩
          have hb : Below Wi.heap.size Wi Wj := by rw [← hWj]; exact (Below.refl _ _).alloc (Nat.le_refl _) _
          have HSLJ := Lib.hid (show Sl encF 1 Wj (some ⟨Wi.heap.size, 0, none⟩) [fvS s] from by rw [← hWj]; exact Sl.of_block (fun x => (okF x).1) (heap_alloc_new _ _) (by rw [← HSP.out]; rfl) (by simp))
          have IVJ := Lib.hid (IV.out.later hb)
          clear hb
          have HNE := Lib.hid (ofNest_c N0 X (some ⟨Wi.heap.size, 0, none⟩) 1 [fvS s] [lx] Wj HSLJ.out (fun h => by cases h) rfl (fun j f l hf hl => by
            match j with
            | 0 => simp at hf hl; subst hf; subst hl; rw [← HLX.out]; exact srcV N0 X HND.out HSX.out Wj IVJ.out.sz
            | j + 1 => simp at hf) IVJ.out.src IVJ.out.sz (by have := HQ.out; simp [totL]; omega) (by simp))
          rw [mergeL_one] at HNE
          go_wp2_with fail
          refine HNE.out.mono ?_
          rintro _ Wk ⟨g, rfl, hb, hof⟩
          have IVK := Lib.hid (IVJ.out.later hb)
          have HTK := Lib.hid (takenOf_c N0 X g lx (-1) Wk hof IVK.out.src (by have := HQ.out; omega))
          clear hof hb HSLJ hWj IVJ IV HNE
          go_wp2_with fail
          refine HTK.out.mono ?_
          rintro _ Wl ⟨vt, rfl, hvt, hut, hxt⟩
          rw [show ∀ l : List Ent, takeN (-1) l = l from fun _ => rfl] at hvt
          obtain ⟨Ao, co, rfl⟩ := own_slice hvt
          obtain ⟨W0, hmd⟩ := HMD.out
          have IV := Lib.hid (IVK.out.updU hmd hut hxt)
          have HSE := Lib.hid (sameEntries11_c Ao co lx h.1 h.2.1 lx Wl (own_sl hvt (fun x => (okE x).1)) (HLC.out Wl IV.out).2)
          rw [decide_eq_true rfl, HQ.out] at HSE
          rw [HQ.out]
          have y5l := (HLC.out Wl IV.out).1
          clear hvt hut hxt hmd HTK IVK y5 y4
          go_wp2_with fail
          refine HSE.out.mono ?_
          rintro _ W6 ⟨rfl, hb6⟩
          have IV6 := Lib.hid (IV.out.later hb6)
          clear hb6 HSE IV y5l
          have IV := IV6
          clear IV6
          go_wp2_with fail
          go_loopw [11, 12] (fun s11 s12 wr => ∃ a j : Nat, s11 = .int .i64 a ∧ s12 = .int .i64 j ∧ a ≤ q ∧ j ≤ m ∧ (lx.drop a).Sublist (all.drop j) ∧ InvO w2 N0 n 0 (.slice (some ⟨b4, o4, none⟩) n c4) (.slice (some ⟨b5, o5, none⟩) n c5) X L2 AA cA all wr) (fun s11 s12 wr => m - (intOf s12).toNat)
          case atStart => exact ⟨0, 0, rfl, rfl, by omega, by omega, by simpa [← HALL.out] using mergeL_sub ls k lx HEK.out, IV.out⟩
          case round =>
            obtain ⟨a, j, rfl, rfl, ha, hj, hsub, hiv⟩ := hrel
            clear IV
            have IV := Lib.hid hiv
            have HSUB := Lib.hid hsub
            clear hiv hsub
            generalize wr = Wi at *
            have y5 := (HLC.out Wi IV.out).1
            have j1 : (0 : Int) ≤ j := by omega
            have a1 : (0 : Int) ≤ a := by omega
            have FINL := Lib.hid (show a = q → InvO w2 N0 n 0 (.slice (some ⟨b4, o4, none⟩) n c4) (.slice (some ⟨b5, o5, none⟩) n c5) X L2 AA cA all Wi → True from fun _ _ => trivial)
            by_cases hjm : j < m
            · have j2 : (j : Int) < m := by omega
              by_cases haq : a < q
              · have a2 : (a : Int) < q := by omega
                obtain ⟨x, hx⟩ := getElem?_of_lt (l := all) (by rw [HM.out]; exact hjm : j < all.length)
                obtain ⟨y, hy⟩ := getElem?_of_lt (l := lx) (by rw [HQ.out]; exact haq : a < lx.length)
                obtain ⟨bx, ox, ex, _, hcx⟩ := IV.out.ents.at hx
                obtain ⟨by', oy, ey, _, hcy⟩ := (HLC.out Wi IV.out).2.at hy
                rw [ey] at y5
                subst ex
                have x0 : Wi.cell? ⟨bx, ox + j * 4, none⟩ = some (.string x.1) := hcx 0 _ rfl
                have x1 : Wi.cell? ⟨bx, ox + j * 4 + 1, none⟩ = some (.int .u64 x.2.1) := hcx 1 _ rfl
                have x2 : Wi.cell? ⟨bx, ox + j * 4 + 2, none⟩ = some (.bool x.2.2.1) := hcx 2 _ rfl
                have x3 : Wi.cell? ⟨bx, ox + j * 4 + 3, none⟩ = some (.string x.2.2.2) := hcx 3 _ rfl
                have z0 : Wi.cell? ⟨by', oy + a * 4, none⟩ = some (.string y.1) := hcy 0 _ rfl
                have z1 : Wi.cell? ⟨by', oy + a * 4 + 1, none⟩ = some (.int .u64 y.2.1) := hcy 1 _ rfl
                have z2 : Wi.cell? ⟨by', oy + a * 4 + 2, none⟩ = some (.bool y.2.2.1) := hcy 2 _ rfl
                have z3 : Wi.cell? ⟨by', oy + a * 4 + 3, none⟩ = some (.string y.2.2.2) := hcy 3 _ rfl
                have hee := eqE_run x y
                have HX := Lib.hid hx
                have HY := Lib.hid hy
                clear hcx hcy hx hy ey
                by_cases hxy : x = y
                · have hd : decide (x = y) = true := decide_eq_true hxy
                  rw [hd] at hee
                  have HSN := Lib.hid (sub_eq HY.out (by rw [← hxy]; exact HX.out) HSUB.out)
                  clear hxy hd
                  go_wp2_with fail
                  go_quiet (fail)
                  have HIN := Lib.hid (IV.out.later ((Upd.drewN (S := fun _ => False) Wi nq).bel (fun _ h => h.elim) (Nat.le_refl _)))
                  go_wp2_with fail
                  go_roundw
                  case rel => exact ⟨a + 1, j + 1, by first | rfl | simp, by first | rfl | simp, by omega, by omega, HSN.out, HIN.out⟩
                  case measure => simp [intOf]; omega
                · have hd : decide (x = y) = false := decide_eq_false hxy
                  rw [hd] at hee
                  have HSN := Lib.hid (sub_ne HY.out HX.out hxy HSUB.out)
                  clear hxy hd
                  go_wp2_with fail
                  go_quiet (fail)
                  have HIN := Lib.hid (IV.out.later ((Upd.drewN (S := fun _ => False) Wi nq).bel (fun _ h => h.elim) (Nat.le_refl _)))
                  go_wp2_with fail
                  go_roundw
                  case rel => exact ⟨a, j + 1, by first | rfl | simp, by first | rfl | simp, by omega, by omega, HSN.out, HIN.out⟩
                  case measure => simp [intOf]; omega
              · have e : a = q := by omega
                subst e
                clear HSUB haq
                go_wp2_with fail
                go_roundw
                case rel => exact ⟨k + 1, by first | rfl | simp, by omega, by rw [HTS.out, HT1.out]; first | rfl | simp, IV.out⟩
                case measure => simp [intOf]; omega
            · have e : j = m := by omega
              subst e
              have e2 : a = q := by
                have h1 := HSUB.out
                rw [← HM.out] at h1
                have := sub_end h1
                have := HQ.out
                omega
              subst e2
              clear HSUB hjm
              go_wp2_with fail
              go_roundw
              case rel => exact ⟨k + 1, by first | rfl | simp, by omega, by rw [HTS.out, HT1.out]; first | rfl | simp, IV.out⟩
              case measure => simp [intOf]; omega
        · have hk2 : n = k := by omega
          subst hk2
          have hln : ls.length = n := by rw [← HLS.out, List.length_map, HXL.out]
          have e0 : totL (ls.take n) = m := by rw [List.take_of_length_le (by omega), HMT.out]
          rw [e0]
          clear e0 hlt hk
          go_wp2_with fail
          go_loopw [13] (fun s13 wr => ∃ j : Nat, s13 = .int .i64 j ∧ 1 ≤ j ∧ (j ≤ m ∨ j = 1) ∧ InvO w2 N0 n 0 (.slice A4 n c4) (.slice A5 n c5) X L2 AA cA all wr) (fun s13 wr => m - (intOf s13).toNat)
          case atStart => exact ⟨1, rfl, by omega, by omega, IV.out⟩
          case round =>
            obtain ⟨j, rfl, hj1, hjm, hiv⟩ := hrel
            clear IV
            have IV := Lib.hid hiv
            clear hiv
            generalize wr = Wi at *
            by_cases hlt : j < m
            · have j2 : (j : Int) < m := by omega
              have j0 : (0 : Int) ≤ j := by omega
              obtain ⟨j1, hjj⟩ : ∃ j1, j = j1 + 1 := ⟨j - 1, by omega⟩
              have jw : IntKind.i64.wrap (j1 : Int) = (j1 : Int) := by rw [IntKind.wrap_i64]; omega
              have jw2 : (j : Int) - 1 = (j1 : Int) := by omega
              have j3 : (0 : Int) ≤ j1 := by omega
              have j4 : (j1 : Int) < m := by omega
              obtain ⟨x, hx⟩ := getElem?_of_lt (l := all) (by rw [HM.out]; exact hlt : j < all.length)
              obtain ⟨y, hy⟩ := getElem?_of_lt (l := all) (by rw [HM.out]; omega : j1 < all.length)
              have hnl : ¬ ltE x y := by
                have h1 := HRA.out
                obtain ⟨i1, e1⟩ := List.getElem?_eq_some_iff.1 hy
                obtain ⟨i2, e2⟩ := List.getElem?_eq_some_iff.1 hx
                have := List.pairwise_iff_getElem.1 h1 j1 j i1 i2 (by omega)
                rw [e1, e2] at this
                exact this
              obtain ⟨bx, ox, ex, _, hcx⟩ := IV.out.ents.at hx
              subst ex
              obtain ⟨_, _, ey, _, hcy⟩ := IV.out.ents.at hy
              injection ey with ey
              injection ey with ey ey2
              subst ey; subst ey2
              have x0 : Wi.cell? ⟨bx, ox + j * 4, none⟩ = some (.string x.1) := hcx 0 _ rfl
              have x1 : Wi.cell? ⟨bx, ox + j * 4 + 1, none⟩ = some (.int .u64 x.2.1) := hcx 1 _ rfl
              have x2 : Wi.cell? ⟨bx, ox + j * 4 + 2, none⟩ = some (.bool x.2.2.1) := hcx 2 _ rfl
              have x3 : Wi.cell? ⟨bx, ox + j * 4 + 3, none⟩ = some (.string x.2.2.2) := hcx 3 _ rfl
              have z0 : Wi.cell? ⟨bx, ox + j1 * 4, none⟩ = some (.string y.1) := hcy 0 _ rfl
              have z1 : Wi.cell? ⟨bx, ox + j1 * 4 + 1, none⟩ = some (.int .u64 y.2.1) := hcy 1 _ rfl
              have z2 : Wi.cell? ⟨bx, ox + j1 * 4 + 2, none⟩ = some (.bool y.2.2.1) := hcy 2 _ rfl
              have z3 : Wi.cell? ⟨bx, ox + j1 * 4 + 3, none⟩ = some (.string y.2.2.2) := hcy 3 _ rfl
              have HAH := Lib.hid (ahead11_c x y Wi.drew)
              rw [decide_eq_false hnl] at HAH
              have hmx : Try.prog.follows .mixedOrders = true := by kernel_rfl
              have HJJ := Lib.hid hjj
              clear hcx hcy hx hy hnl hjj
              go_wp2_with fail
              go_still_tail 9, hmx
              change wpList _ _ _ _ _ Wi.drew
              go_wp2_with (go_at_call 27; refine HAH.out.mono ?_; rintro e W6 ⟨rfl, hb6⟩; have HIN := Lib.hid (IV.out.later (((Below.refl _ _).drew).trans hb6)); clear hb6)
              go_roundw
              case rel => exact ⟨j + 1, by first | rfl | simp, by omega, by omega, HIN.out⟩
              case measure => simp [intOf]; omega
            · clear hjm hj1
              go_upto_region 32 with fail
              clear hlt
              go_wp2_with fail
              have hc := seqs_c A4 c4 X Wi (own_sl IV.out.own4 (fun x => (okS' x).1)) (by rw [HXL.out]; exact hl)
              rw [HXL.out] at hc
              refine hc.mono ?_
              clear hc
              rintro _ W6 ⟨vq, rfl, hq, hbq⟩
              obtain ⟨Aq, cq, rfl⟩ := own_slice hq
              rw [List.length_map, HXL.out] at hq ⊢
              have IV6 := Lib.hid (IV.out.later hbq)
              have HSL6 := Lib.hid (own_sl hq (fun x => (okF x).1))
              have HFO6 := Lib.hid (own_form hq)
              clear hq hbq IV
              have IV := IV6
              clear IV6
              generalize W6 = Wi at *
              go_wp2_with fail
              have hc := srcKeys_c N0 X Aq cq Wi HSL6.out (fun _ => HFO6.out) HND.out IV.out.src IV.out.sz HTOT.out (by rw [HXL.out]; exact hl)
              rw [HXL.out] at hc
              refine hc.mono ?_
              clear hc
              rintro _ W7 ⟨f, rfl, hb7, hof⟩
              have IV7 := Lib.hid (IV.out.later hb7)
              have HOF := Lib.hid hof
              clear hof hb7 IV HSL6 HFO6
              have IV := IV7
              clear IV7
              generalize W7 = Wi at *
              go_wp2_with fail
              refine (runsKeys_c N0 X f _ (-1) Wi HOF.out IV.out.src (Nat.lt_of_le_of_lt (groups_len _) (by rw [mergeL_length]; exact HTOT.out)) (fun x hx => Nat.lt_of_le_of_lt (groups_each _ x hx) (by rw [mergeL_length]; exact HTOT.out))).mono ?_
              rintro _ W9 ⟨vG, LG, rfl, hLG, hmG, hut, hxt⟩
              obtain ⟨W0, hmd⟩ := HMD.out
              have HIV9 := Lib.hid (IV.out.updU hmd hut hxt)
              rw [show ∀ l : List (List Ent), takeN (-1) l = l from fun _ => rfl, HLS.out, HALL.out] at hLG
              obtain ⟨AG, cG, rfl⟩ := own_slice hmG.own
              obtain ⟨gs, hgs⟩ : ∃ gs, groupsL all = gs := ⟨_, rfl⟩
              rw [hgs] at hLG
              have HGS := Lib.hid hgs
              have HLG := Lib.hid hLG
              obtain ⟨g, hg⟩ : ∃ g, LG.length = g := ⟨_, rfl⟩
              have HG := Lib.hid hg
              rw [hg] at hmG ⊢
              have hgb : g ≤ 10000 := by
                have h1 := groups_len all
                have h2 := congrArg List.length hLG
                rw [List.length_map, hg] at h2
                rw [hgs] at h1
                have := HM.out
                omega
              have HMG := Lib.hid hmG
              clear hLG hmG hut hxt hgs hg hmd HOF IV
              go_wp2_with fail
              go_loopw [16, 17] (fun s16 s17 wr => ∃ i : Nat, s17 = .int .i64 i ∧ i ≤ g ∧ Own encE 53 4 wr W9.heap.size s16 ((gs.take i).flatten) ∧ Below W9.heap.size W9 wr) (fun s16 s17 wr => g - (intOf s17).toNat)
              case atStart => exact ⟨0, rfl, by omega, by simpa using Own.nil _ _ _ _ _, Below.refl _ _⟩
              case round =>
                obtain ⟨i, rfl, hi, ho, hb9⟩ := hrel
                obtain ⟨AF, cF, rfl⟩ := own_slice ho
                obtain ⟨fl, hfl⟩ : ∃ fl, (gs.take i).flatten = fl := ⟨_, rfl⟩
                rw [hfl] at ho ⊢
                obtain ⟨nf, hnf⟩ : ∃ nf, fl.length = nf := ⟨_, rfl⟩
                rw [hnf] at ho ⊢
                have HFL := Lib.hid hfl
                have HNF := Lib.hid hnf
                have HO := Lib.hid ho
                have HB9 := Lib.hid hb9
                clear hfl hnf ho hb9
                generalize wr = W5 at *
                by_cases hlt : i < g
                · obtain ⟨h, hh⟩ := getElem?_of_lt (l := LG) (by rw [HG.out]; exact hlt : i < LG.length)
                  have hgi : gs[i]? = some h.2.2 := by rw [← HLG.out, List.getElem?_map, hh]; rfl
                  have hmem : h.2.2 ∈ groupsL all := by rw [HGS.out]; exact List.mem_of_getElem? hgi
                  obtain ⟨o, r, hor⟩ : ∃ o r, h.2.2 = o :: r := by
                    cases hc : h.2.2 with
                    | nil => exact absurd hc (groups_ne hmem)
                    | cons o r => exact ⟨o, r, rfl⟩
                  have HONE := Lib.hid (show ∀ x ∈ h.2.2, x.1 = o.1 from fun x hx => groups_one hmem hx (by rw [hor]; exact List.mem_cons_self))
                  obtain ⟨bG, oG, eG, _, hcG⟩ := (HMG.out.sl2.2.1.later HB9.out).at hh
                  subst eG
                  have HSH := Lib.hid ((HMG.out.rows h (List.mem_of_getElem? hh)).later HB9.out)
                  obtain ⟨bh, oh, eh, _, hch⟩ := HSH.out.at (i := 0) (x := o) (by rw [hor]; rfl)
                  obtain ⟨q, hq⟩ : ∃ q, h.2.2.length = q := ⟨_, rfl⟩
                  have hq1 : 0 < q := by rw [← hq, hor]; simp
                  have y0 : W5.cell? ⟨bG, oG + i, none⟩ = some (.slice (some ⟨bh, oh, none⟩) q h.2.1) := by have := hcG 0 _ rfl; rw [hq, eh] at this; simpa using this
                  have k0 : W5.cell? ⟨bh, oh, none⟩ = some (.string o.1) := by have := hch 0 _ rfl; simpa using this
                  have HQ := Lib.hid hq
                  have HGI := Lib.hid hgi
                  have HOR := Lib.hid hor
                  have HFN := Lib.hid (show (gs.take (i + 1)).flatten = fl ++ h.2.2 from by rw [take_suc hgi, List.flatten_append, HFL.out]; simp)
                  have hnq : nf + q ≤ 10000 := by
                    have h1 : ((gs.take (i + 1)).flatten).length ≤ gs.flatten.length := by
                      have h2 : gs.flatten = (gs.take (i + 1)).flatten ++ (gs.drop (i + 1)).flatten := by rw [← List.flatten_append, List.take_append_drop]
                      rw [h2, List.length_append]
                      omega
                    rw [HFN.out, ← HGS.out, groups_flat] at h1
                    have := HM.out
                    have := HNF.out
                    simp at h1
                    omega
                  have HEH := Lib.hid eh
                  clear hcG hch hq hgi hmem hor eh
                  have i1 : (0 : Int) ≤ i := by omega
                  have i2 : (i : Int) < g := by omega
                  have q0 : (0 : Int) < q := by omega
                  have q1 : ((q : Int) == 0) = false := by rw [beq_eq_false_iff_ne]; omega
                  have q2 : ¬ (q : Int) = 0 := by omega
                  have q3 : ¬ q = 0 := by omega
                  -- the groups' keys rise
                  by_cases hi0 : 0 < i
                  · obtain ⟨i1', hii⟩ : ∃ i1, i = i1 + 1 := ⟨i - 1, by omega⟩
                    obtain ⟨h', hh'⟩ := getElem?_of_lt (l := LG) (by rw [HG.out]; omega : i1' < LG.length)
                    have hgi' : gs[i1']? = some h'.2.2 := by rw [← HLG.out, List.getElem?_map, hh']; rfl
                    have hmem' : h'.2.2 ∈ groupsL all := by rw [HGS.out]; exact List.mem_of_getElem? hgi'
                    obtain ⟨o', r', hor'⟩ : ∃ o r, h'.2.2 = o :: r := by
                      cases hc : h'.2.2 with
                      | nil => exact absurd hc (groups_ne hmem')
                      | cons o r => exact ⟨o, r, rfl⟩
                    have hkl : keyLt o' o := by
                      have h1 := groups_up HRA.out
                      rw [HGS.out] at h1
                      obtain ⟨u1, e1⟩ := List.getElem?_eq_some_iff.1 hgi'
                      obtain ⟨u2, e2⟩ := List.getElem?_eq_some_iff.1 HGI.out
                      have h2 := List.pairwise_iff_getElem.1 h1 i1' i u1 u2 (by omega)
                      rw [e1, e2] at h2
                      exact h2 o' (by rw [hor']; exact List.mem_cons_self) o (by rw [HOR.out]; exact List.mem_cons_self)
                    have hless : Op.bytesLess o.1.toList o'.1.toList = false := by
                      cases hc : Op.bytesLess o.1.toList o'.1.toList with
                      | false => rfl
                      | true =>
                        have := less_trans _ _ _ hkl hc
                        rw [less_irrefl] at this
                        cases this
                    have hneq : (o.1.toList == o'.1.toList) = false := by
                      rw [beq_eq_false_iff_ne]
                      intro e
                      unfold keyLt at hkl
                      rw [e, less_irrefl] at hkl
                      cases hkl
                    obtain ⟨_, _, eG', _, hcG'⟩ := (HMG.out.sl2.2.1.later HB9.out).at hh'
                    injection eG' with eG'
                    injection eG' with eG' eG2
                    subst eG'; subst eG2
                    obtain ⟨bh', oh', eh', _, hch'⟩ := ((HMG.out.rows h' (List.mem_of_getElem? hh')).later HB9.out).at (i := 0) (x := o') (by rw [hor']; rfl)
                    have y0' : W5.cell? ⟨bG, oG + i1', none⟩ = some (.slice (some ⟨bh', oh', none⟩) (r'.length + 1) h'.2.1) := by have := hcG' 0 _ rfl; rw [hor', eh'] at this; simpa using this
                    have k0' : W5.cell? ⟨bh', oh', none⟩ = some (.string o'.1) := by have := hch' 0 _ rfl; simpa using this
                    have jw : IntKind.i64.wrap (i1' : Int) = (i1' : Int) := by rw [IntKind.wrap_i64]; omega
                    have jw2 : (i : Int) - 1 = (i1' : Int) := by omega
                    have j3 : (0 : Int) ≤ i1' := by omega
                    have j4 : (i1' : Int) < g := by omega
                    have j5 : (0 : Int) < i := by omega
                    have j6 : (0 : Int) < ((r'.length : Int) + 1) := by omega
                    clear hcG' hch' hh' hgi' hmem' hor' hkl eh' hii
                    go_wp2_with fail
                    go_quiet (fail)
                    have HO6 := Lib.hid (show Own encE 53 4 (W5.drewN nq) W9.heap.size (.slice AF nf cF) fl from HO.out)
                    have HB6 := Lib.hid (show Below W9.heap.size W9 (W5.drewN nq) from HB9.out.trans ((Upd.drewN (S := fun _ => False) W5 nq).bel (fun _ h => h.elim) HB9.out.size))
                    have y6 : (W5.drewN nq).cell? ⟨bG, oG + i, none⟩ = some (.slice (some ⟨bh, oh, none⟩) q h.2.1) := y0
                    have k6 : (W5.drewN nq).cell? ⟨bh, oh, none⟩ = some (.string o.1) := k0
                    have HS6 := Lib.hid (show Sl encE 4 (W5.drewN nq) (some ⟨bh, oh, none⟩) h.2.2 from by have := HSH.out; rw [HEH.out] at this; exact this)
                    clear HO HB9 y0 k0 HSH
                    generalize W5.drewN nq = W6 at *
                    go_wp2_with fail
                    go_loopw [18] (fun s18 wr => ∃ j : Nat, s18 = .int .i64 j ∧ j ≤ q ∧ Below W6.heap.size W6 wr) (fun s18 wr => q - (intOf s18).toNat)
                    case atStart => exact ⟨0, rfl, by omega, Below.refl _ _⟩
                    case round =>
                      obtain ⟨j, rfl, hj, hbj⟩ := hrel
                      have HBJ := Lib.hid hbj
                      have y7 := cell_later hbj y6
                      have k7 := cell_later hbj k6
                      clear hbj
                      generalize wr = W7 at *
                      have j0 : (0 : Int) ≤ j := by omega
                      by_cases hjq : j < q
                      · have j7 : (j : Int) < q := by omega
                        obtain ⟨x, hx⟩ := getElem?_of_lt (l := h.2.2) (by rw [HQ.out]; exact hjq : j < h.2.2.length)
                        obtain ⟨_, _, ex, _, hcx⟩ := (HS6.out.later HBJ.out).at hx
                        injection ex with ex
                        injection ex with ex ex2
                        subst ex; subst ex2
                        have x0 : W7.cell? ⟨bh, oh + j * 4, none⟩ = some (.string x.1) := hcx 0 _ rfl
                        have hke : (x.1.toList == o.1.toList) = true := by rw [HONE.out x (List.mem_of_getElem? hx)]; simp
                        clear hcx hx
                        go_wp2_with fail
                        go_quiet (fail)
                        have HBK := Lib.hid (HBJ.out.trans ((Upd.drewN (S := fun _ => False) W7 nq).bel (fun _ h => h.elim) HBJ.out.size))
                        go_wp2_with fail
                        go_roundw
                        case rel => exact ⟨j + 1, by first | rfl | simp, by omega, HBK.out⟩
                        case measure => simp [intOf]; omega
                      · have e : j = q := by omega
                        subst e
                        clear hjq
                        have HO7 := Lib.hid (HO6.out.later' HBJ.out)
                        have HB7 := Lib.hid (HB6.out.trans (HBJ.out.mono HB6.out.size))
                        have HS7 := Lib.hid (HS6.out.later HBJ.out)
                        have HQQ := Lib.hid HQ.out
                        clear HO6 HB6 HS6 y6 k6
                        go_wp2_with (at_builtin; refine wpList_app rfl (.tmp 195) (.tmp 199) rfl uSlE infoE rfl (by decide) (by decide) okE (.slice AF nf cF) fl rfl (base := W9.heap.size) ?c1 (some ⟨bh, oh, none⟩) h.2.1 h.2.2 (by rw [HQQ.out]; rfl) ?c2 ?c3 ?c4 ?_)
                        case c1 => exact HO7.out
                        case c2 => exact HS7.out
                        case c3 => have := HNF.out; have := HQQ.out; omega
                        case c4 => exact HB7.out.size
                        intro v1 w1 ho1 hg1 hat1
                        have HON := Lib.hid (show Own encE 53 4 w1 W9.heap.size v1 ((gs.take (i + 1)).flatten) from by rw [HFN.out]; exact ho1)
                        have HBN := Lib.hid (show Below W9.heap.size W9 w1 from HB7.out.trans ((Upd.of_grown (S := fun j => (Value.slice AF nf cF).ownBlock = some j) hg1 (fun j hj => hj)).bel (fun j hj => (HO7.out.block_lt hj).1) HB7.out.size))
                        clear ho1 hg1 hat1
                        go_wp2
                        go_roundw
                        case rel => exact ⟨i + 1, by first | rfl | simp, by omega, HON.out, HBN.out⟩
                        case measure => simp [intOf]; omega
                  · have j5 : ¬ (0 : Int) < i := by omega
                    go_wp2_with fail
                    go_quiet (fail)
                    have HO6 := Lib.hid (show Own encE 53 4 (W5.drewN nq) W9.heap.size (.slice AF nf cF) fl from HO.out)
                    have HB6 := Lib.hid (show Below W9.heap.size W9 (W5.drewN nq) from HB9.out.trans ((Upd.drewN (S := fun _ => False) W5 nq).bel (fun _ h => h.elim) HB9.out.size))
                    have y6 : (W5.drewN nq).cell? ⟨bG, oG + i, none⟩ = some (.slice (some ⟨bh, oh, none⟩) q h.2.1) := y0
                    have k6 : (W5.drewN nq).cell? ⟨bh, oh, none⟩ = some (.string o.1) := k0
                    have HS6 := Lib.hid (show Sl encE 4 (W5.drewN nq) (some ⟨bh, oh, none⟩) h.2.2 from by have := HSH.out; rw [HEH.out] at this; exact this)
                    clear HO HB9 y0 k0 HSH
                    generalize W5.drewN nq = W6 at *
                    go_wp2_with fail
                    go_loopw [18] (fun s18 wr => ∃ j : Nat, s18 = .int .i64 j ∧ j ≤ q ∧ Below W6.heap.size W6 wr) (fun s18 wr => q - (intOf s18).toNat)
                    case atStart => exact ⟨0, rfl, by omega, Below.refl _ _⟩
                    case round =>
                      obtain ⟨j, rfl, hj, hbj⟩ := hrel
                      have HBJ := Lib.hid hbj
                      have y7 := cell_later hbj y6
                      have k7 := cell_later hbj k6
                      clear hbj
                      generalize wr = W7 at *
                      have j0 : (0 : Int) ≤ j := by omega
                      by_cases hjq : j < q
                      · have j7 : (j : Int) < q := by omega
                        obtain ⟨x, hx⟩ := getElem?_of_lt (l := h.2.2) (by rw [HQ.out]; exact hjq : j < h.2.2.length)
                        obtain ⟨_, _, ex, _, hcx⟩ := (HS6.out.later HBJ.out).at hx
                        injection ex with ex
                        injection ex with ex ex2
                        subst ex; subst ex2
                        have x0 : W7.cell? ⟨bh, oh + j * 4, none⟩ = some (.string x.1) := hcx 0 _ rfl
                        have hke : (x.1.toList == o.1.toList) = true := by rw [HONE.out x (List.mem_of_getElem? hx)]; simp
                        clear hcx hx
                        go_wp2_with fail
                        go_quiet (fail)
                        have HBK := Lib.hid (HBJ.out.trans ((Upd.drewN (S := fun _ => False) W7 nq).bel (fun _ h => h.elim) HBJ.out.size))
                        go_wp2_with fail
                        go_roundw
                        case rel => exact ⟨j + 1, by first | rfl | simp, by omega, HBK.out⟩
                        case measure => simp [intOf]; omega
                      · have e : j = q := by omega
                        subst e
                        clear hjq
                        have HO7 := Lib.hid (HO6.out.later' HBJ.out)
                        have HB7 := Lib.hid (HB6.out.trans (HBJ.out.mono HB6.out.size))
                        have HS7 := Lib.hid (HS6.out.later HBJ.out)
                        have HQQ := Lib.hid HQ.out
                        clear HO6 HB6 HS6 y6 k6
                        go_wp2_with (at_builtin; refine wpList_app rfl (.tmp 195) (.tmp 199) rfl uSlE infoE rfl (by decide) (by decide) okE (.slice AF nf cF) fl rfl (base := W9.heap.size) ?c1 (some ⟨bh, oh, none⟩) h.2.1 h.2.2 (by rw [HQQ.out]; rfl) ?c2 ?c3 ?c4 ?_)
                        case c1 => exact HO7.out
                        case c2 => exact HS7.out
                        case c3 => have := HNF.out; have := HQQ.out; omega
                        case c4 => exact HB7.out.size
                        intro v1 w1 ho1 hg1 hat1
                        have HON := Lib.hid (show Own encE 53 4 w1 W9.heap.size v1 ((gs.take (i + 1)).flatten) from by rw [HFN.out]; exact ho1)
                        have HBN := Lib.hid (show Below W9.heap.size W9 w1 from HB7.out.trans ((Upd.of_grown (S := fun j => (Value.slice AF nf cF).ownBlock = some j) hg1 (fun j hj => hj)).bel (fun j hj => (HO7.out.block_lt hj).1) HB7.out.size))
                        clear ho1 hg1 hat1
                        go_wp2
                        go_roundw
                        case rel => exact ⟨i + 1, by first | rfl | simp, by omega, HON.out, HBN.out⟩
                        case measure => simp [intOf]; omega
                · have e : g = i := by omega
                  subst e
                  have hlg : gs.length = g := by rw [← HLG.out, List.length_map, HG.out]
                  have efl : fl = all := by
                    rw [← HFL.out, List.take_of_length_le (by omega), ← HGS.out, groups_flat]
                  have enf : nf = m := by rw [← HNF.out, efl, HM.out]
                  have HSE := Lib.hid (sameEntries11_c AF cF all AA cA all W5 (by have := own_sl HO.out (fun x => (okE x).1); rw [efl] at this; exact this) (HIV9.out.ents.later HB9.out))
                  rw [decide_eq_true rfl, HM.out] at HSE
                  rw [enf]
                  have HBF := Lib.hid (HIV9.out.bel.trans (HB9.out.mono HIV9.out.bel.size))
                  clear efl enf hlt hi
                  go_wp2_with fail
                  refine HSE.out.mono ?_
                  rintro _ WZ ⟨rfl, hbz⟩
                  have HBZ := Lib.hid ((HB2.out.trans (HBF.out.mono HB2.out.size)).trans (hbz.mono (Nat.le_trans HB2.out.size HBF.out.size)))
                  clear hbz HSE
                  go_wp2
                  go_ret
                  exact ⟨rfl, HBZ.out⟩
theorem mergeOrder_w (A : Option Addr) (c : Nat) (l : List (List Ent)) (w : World) (hb : ∃ L : List HE, L.map (·.2.2) = l ∧ Sl2 w A L) (hok : ∀ y ∈ l, ∀ x ∈ y, x.1.size ≤ 140737488351232 ∧ x.2.2.2.size ≤ 140737488351232) :
    Calls Try.prog 5 #[.slice A l.length c] w fun e w' => e = .returned (.bool true) ∧ Below w.heap.size w w' := by
  obtain ⟨L, rfl, hL⟩ := hb
  rw [List.length_map]
  exact mergeOrder_c A c L w hL (fun h hh x hx => hok h.2.2 (List.mem_map_of_mem hh) x hx)
end Go.Proofs.Ytdpijhpjicbecaa.H
