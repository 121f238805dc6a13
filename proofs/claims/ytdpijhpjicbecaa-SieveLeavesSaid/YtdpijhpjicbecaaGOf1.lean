/- merge.Of's iterator: the walk. Conditions: sizes. -/
import Derived.Test.YtdpijhpjicbecaaGOf2
import Derived.Deep.LoopGhost
namespace Go.Proofs.Ytdpijhpjicbecaa.H
open Go Go.RowKit Go.Deep Go.Shelf Go.Proofs Go.Proofs.YtdpijhpjicbecaaW.PrintWords
set_option linter.unusedVariables false
set_option linter.unusedSimpArgs false
attribute [local go_sem] Oper.semAt_some
set_option maxHeartbeats 3200000 in
set_option maxRecDepth 100000 in
theorem of1_it (n₀ : Nat) (U : Nat → Prop) (St : Nat → World → Prop) (bl : Nat) (A : Option Addr) (c : Nat) (fs : List Value) (ls : List (List Ent)) (hlen : fs.length = ls.length) (hfs : ∀ (k : Nat) (f : Value) (l : List Ent), fs[k]? = some f → ls[k]? = some l → IterUV Try.prog f encA n₀ U (St k) (fun _ => True) (St (k + 1)) l)
    (hSt : ∀ k, Firm n₀ (St k)) (hU : ∀ k, U k → k < n₀) (htot : totL ls < 1000000000) (hln : ls.length < 1000000000) (W : World) :
    IterU Try.prog 59 #[] #[.pointer (some ⟨bl, 0, none⟩)] encA n₀ U (fun W => St 0 W ∧ Held n₀ U bl A c fs W) (fun W => St ls.length W ∧ Held n₀ U bl A c fs W) (fun W => St ls.length W ∧ Held n₀ U bl A c fs W) (mergeL ls) W := by
  intro fn cap J Jx T hJ hJx hT h0 hi0 hY
  obtain ⟨hst0, hheld⟩ := hi0
  have HFS := Lib.hid hfs
  have HY := Lib.hid hY
  have HJ := Lib.hid hJ
  have HJX := Lib.hid hJx
  have H0 := Lib.hid h0
  have HT := Lib.hid hT
  have HST := Lib.hid hSt
  have HU := Lib.hid hU
  have HS0 := Lib.hid hst0
  have HH := Lib.hid hheld
  have HN := Lib.hid (newHeap_c (D := DC []) 61 #[] W)
  clear hfs hY hJ hJx h0 hT hSt hU hst0 hheld
  refine (callsIn_wide (n := 8)).1 ?_
  refine callsIn_of_wp Try.func59 rfl trivial ?_ rfl
  simp only [Try.ntmps59, List.size_toArray, List.length_cons, List.length_nil, Nat.reduceAdd, Nat.reduceSub, Array.replicate_succ, Array.replicate_zero, List.push_toArray, List.append_toArray, List.nil_append, List.cons_append]
  gi_wp2_with fail
  refine ⟨trivial, (callsIn_wide.2 HN.out).mono ?_⟩
  rintro _ w1 ⟨rfl, hh1, hb1⟩
  have hst1 : OfSt W.heap.size w1 [] (fun k => k = W.heap.size) := ⟨fun k s h => by simp at h, fun k hk => ⟨by omega, by rw [hk]; exact hh1.lt⟩, fun k s h => by simp at h⟩
  have hu1 : Upd U W w1 := Upd.of_below hb1
  have hg : Held n₀ U bl A c fs w1 := HH.out.upd hu1 (fun k hk => .inl hk)
  have HB0 := Lib.hid (show (∃ (C : List CS) (H : List (Cu (DC C))) (S : Nat → Prop), C.length = 0 ∧ H.length ≤ 0 ∧ rests C = ls.take 0 ∧ HeapC C (fun _ => False) H ∧ HeapIs w1 W.heap.size S (.func (.func 61) #[] #[]) H ∧ OfSt W.heap.size w1 C S) ∧ Upd U W w1 ∧ St 0 w1 from
    ⟨⟨[], [], _, rfl, Nat.le_refl _, rfl, heapC_nil, hh1, hst1⟩, hu1, (HST.out 0) W w1 HS0.out (Upd.of_below hb1)⟩)
  have c1 : w1.cell? ⟨bl, 0, none⟩ = some (.slice A fs.length c) := (blk_cell hg.box 0).trans rfl
  have hfl := hg.row.1
  have HG1 := Lib.hid hg
  obtain ⟨nn, hnn⟩ : ∃ nn, fs.length = nn := ⟨_, rfl⟩
  have HNN := Lib.hid hnn
  have HNB := Lib.hid (show nn < 1000000000 by rw [← hnn, hlen]; exact hln)
  rw [hnn] at c1 hfl
  clear hh1 hb1 hst1 hu1 hg hnn
  gi_wp2
  gi_loopw [16] (fun si wr => ∃ k : Nat, si = .int .i64 k ∧ k ≤ nn ∧ (∃ (C : List CS) (H : List (Cu (DC C))) (S : Nat → Prop), C.length = k ∧ H.length ≤ k ∧ rests C = ls.take k ∧ HeapC C (fun _ => False) H ∧ HeapIs wr W.heap.size S (.func (.func 61) #[] #[]) H ∧ OfSt W.heap.size wr C S) ∧ Upd U W wr ∧ St k wr) (fun si _ => nn - (intOf si).toNat)
  case atStart => exact ⟨0, rfl, Nat.zero_le _, HB0.out⟩
  case round =>
    obtain ⟨k, rfl, hk, ⟨C, H, S, hCl, hHl, hr, hHC, hHI, hOf⟩, hU, hSt⟩ := hrel
    have hgr := HH.out.upd hU (fun k hk => .inl hk)
    by_cases hlt : k < nn
    · obtain ⟨f, hf⟩ := getElem?_of_lt (l := fs) (by rw [HNN.out]; exact hlt : k < fs.length)
      obtain ⟨l, hl⟩ := getElem?_of_lt (l := ls) (by rw [← hlen, HNN.out]; exact hlt : k < ls.length)
      have hit := HFS.out k f l hf hl
      have hit2 := hit
      obtain ⟨gf, fa, lb, rfl, _, _⟩ := hit2
      obtain ⟨ba, o, rfl, _, hcell⟩ := hgr.row.at hf
      have cf : wr.cell? ⟨ba, o + k, none⟩ = some (.func (.func gf) fa lb) := by simpa using hcell 0 _ rfl
      have hll : l.length < 1000000000 := by have := totL_le hl; omega
      have HC := Lib.hid (collect_c _ n₀ U _ _ _ l wr hit (HST.out k) (fun _ _ _ _ => trivial) (HST.out (k + 1)) hgr.sz hSt (by omega))
      have HHI := Lib.hid hHI
      have HOF := Lib.hid hOf
      have HUU := Lib.hid hU
      have HHC := Lib.hid hHC
      have HHL := Lib.hid hHl
      have HRR := Lib.hid hr
      have HCL := Lib.hid hCl
      have HGR := Lib.hid hgr
      have hlt2 : (k : Int) < (nn : Int) := by omega
      have hk0 : (0 : Int) ≤ (k : Int) := by omega
      clear hit hgr hcell hSt hHI hOf hU hHC hr hCl hHl
      gi_wp2_with fail
      refine ⟨trivial, (callsIn_wide.2 HC.out).mono ?_⟩
      rintro _ w2 ⟨v, rfl, ho, hu2, hst2⟩
      obtain ⟨A2, c2, rfl⟩ := own_slice ho
      obtain ⟨W3, hW3⟩ : ∃ Z, w2.alloc (.cells #[.slice A2 l.length c2, .int .i64 0, .int .i64 k] 94) = Z := ⟨_, rfl⟩
      have r3 : W3.heap[w2.heap.size]? = some (.cells #[.slice A2 l.length c2, .int .i64 0, .int .i64 k] 94 (0, 0)) := by rw [← hW3]; exact heap_alloc_new _ _
      have hb3 : Below w2.heap.size w2 W3 := by rw [← hW3]; exact (Below.refl _ _).alloc (Nat.le_refl _) _
      have hn1 : n₀ ≤ W.heap.size := HH.out.sz
      have hWw : W.heap.size ≤ w2.heap.size := Nat.le_trans HUU.out.size hu2.size
      have hU2 : Upd U W W3 := (HUU.out.trans hu2).trans (Upd.of_below hb3)
      have hOf3 : OfSt W.heap.size W3 C S := (HOF.out.upd hu2 (fun j s hj => ⟨fun h => by have := HU.out _ h; have := (HOF.out.lowC j s hj).1; omega, fun b o e h => by have := HU.out _ h; have := ((HOF.out.lowC j s hj).2.2 b o e).1; omega⟩)).later hb3
      have hHI3 : HeapIs W3 W.heap.size S (.func (.func 61) #[] #[]) H := (HHI.out.upd hu2 (fun j hj h => by have := HU.out _ h; have := (HOF.out.lowS j hj).1; omega)).later hb3
      have hst3 : St (k + 1) W3 := (HST.out (k + 1)).later hst2 hb3
      have hcu : CurAt W3 w2.heap.size A2 c2 l 0 C.length := ⟨by rw [HCL.out]; exact r3, (own_sl ho (fun x => (okE x).1)).later hb3, Nat.zero_le _⟩
      have hCb : ∀ (j : Nat) (s' : CS), C[j]? = some s' → s'.b ≠ w2.heap.size ∧ ∀ b o, s'.A = some ⟨b, o, none⟩ → b ≠ w2.heap.size := fun j s' hj => ⟨fun e => by have := HOF.out.blt hj; have := hu2.size; omega, fun b o e e2 => by have := ((HOF.out.lowC j s' hj).2.2 b o e).2.1; have := hu2.size; omega⟩
      have hOf4 : OfSt W.heap.size W3 (C ++ [⟨w2.heap.size, A2, c2, l, 0⟩]) S := hOf3.more (s := ⟨w2.heap.size, A2, c2, l, 0⟩) hcu hWw (fun h => by have h2 : w2.heap.size < wr.heap.size := (HOF.out.lowS _ h).2; have := hu2.size; omega) hCb (fun b o e => by
        have h1 := own_addr ho b o e
        have h2 := hu2.size
        refine ⟨by have := HUU.out.size; omega, Nat.lt_of_lt_of_le h1.2 hb3.size, fun h => by have := (HOF.out.lowS _ h).2; omega, fun e2 => by have e3 : b = w2.heap.size := e2; omega, fun j s' hj e2 => by have e3 : s'.b = b := e2; have := HOF.out.blt hj; omega⟩)
      have hr4 : rests (C ++ [⟨w2.heap.size, A2, c2, l, 0⟩]) = ls.take (k + 1) := by rw [rests_app, HRR.out, take_app hl]; simp
      have hcl4 : (C ++ [(⟨w2.heap.size, A2, c2, l, 0⟩ : CS)]).length = k + 1 := by rw [List.length_append, HCL.out]; rfl
      have c3 : W3.cell? ⟨w2.heap.size, 0, none⟩ = some (.slice A2 l.length c2) := (blk_cell r3 0).trans rfl
      have HU2 := Lib.hid hU2
      have HHI3 := Lib.hid hHI3
      have HST3 := Lib.hid hst3
      have HOF4 := Lib.hid hOf4
      have HR4 := Lib.hid hr4
      have HCL4 := Lib.hid hcl4
      have HCB := Lib.hid hCb
      clear ho hu2 hst2 r3 hb3 hn1 hWw hU2 hOf3 hHI3 hst3 hcu hCb hOf4 hr4 hcl4
      by_cases hl0 : l = []
      · obtain ⟨H', e', hHC'⟩ := HHC.out.more0 ⟨w2.heap.size, A2, c2, l, 0⟩ (fun j s' hj => (HCB.out j s' hj).1) (by rw [hl0]; rfl)
        have HHC' := Lib.hid hHC'
        have HHI4 := Lib.hid (HHI3.out.recast e')
        have HLE := Lib.hid (len_val e')
        have hle : l.length = 0 := by rw [hl0]; rfl
        rw [hle] at c3
        clear hHC' e' hl0 hle
        gi_wp2
        go_roundw
        case rel => exact ⟨k + 1, by rfl, by omega, ⟨_, H', S, HCL4.out, by rw [HLE.out]; have := HHL.out; omega, HR4.out, HHC'.out, HHI4.out, HOF4.out⟩, HU2.out, HST3.out⟩
        case measure => first | (simp [intOf]; done) | (simp [intOf]; omega)
      · obtain ⟨e0, he0⟩ : ∃ e0, l[0]? = some e0 := by
          cases l with
          | nil => exact absurd rfl hl0
          | cons e0 l => exact ⟨e0, rfl⟩
        obtain ⟨H', d, e', hHC', hHC2⟩ := HHC.out.more1 ⟨w2.heap.size, A2, c2, l, 0⟩ (fun j s' hj => (HCB.out j s' hj).1) he0
        have hl1 : (0 : Int) < (l.length : Int) := by
          cases l with
          | nil => exact absurd rfl hl0
          | cons e0 l => simp
        have HLE := Lib.hid (len_val e')
        have HP := Lib.hid (push_c W.heap.size S 61 #[] _ _ (lessC _) H' ⟨w2.heap.size, d⟩ (by rw [HLE.out]; have := HHL.out; have := HNB.out; omega) W3 (HHI3.out.recast e') HOF4.out.cur HOF4.out.stays)
        have HHC2 := Lib.hid hHC2
        clear hHC' hHC2 e' hl0 he0
        gi_wp2_with fail
        refine ⟨trivial, (callsIn_wide.2 HP.out).mono ?_⟩
        rintro _ w4 ⟨rfl, hh4, hu4⟩
        have hU4 : Upd U W w4 := HU2.out.step hu4 (fun j hj => .inr (HOF4.out.lowS j hj).1)
        have hO4 : OfSt W.heap.size w4 _ (fun j => New S W3 j ∧ j < w4.heap.size) := HOF4.out.grow hu4 HU2.out.size (fun j hj => hj)
        have hS4 : St (k + 1) w4 := HST.out (k + 1) _ _ HST3.out (hu4.mono (fun j hj => by have := (HOF4.out.lowS j hj).1; have := HH.out.sz; show n₀ ≤ j; omega))
        have HH4 := Lib.hid hh4.tight
        have HU4 := Lib.hid hU4
        have HO4 := Lib.hid hO4
        have HS4 := Lib.hid hS4
        clear hh4 hu4 hU4 hO4 hS4
        gi_wp2
        go_roundw
        case rel => exact ⟨k + 1, by rfl, by omega, ⟨_, _, _, HCL4.out, by rw [pushL_length, HLE.out]; have := HHL.out; omega, HR4.out, HHC2.out, HH4.out, HO4.out⟩, HU4.out, HS4.out⟩
        case measure => first | (simp [intOf]; done) | (simp [intOf]; omega)
    · have hke : k = nn := by omega
      subst hke
      rw [show ls.take k = ls from List.take_of_length_le (by rw [← hlen, HNN.out]; exact Nat.le_refl _)] at hr
      have hst' : St ls.length wr := by rw [← hlen, HNN.out]; exact hSt
      have HHC := Lib.hid hHC
      have HHI := Lib.hid hHI
      have HOF := Lib.hid hOf
      have HUU := Lib.hid hU
      have HHL := Lib.hid hHl
      have HRR := Lib.hid hr
      have HS1 := Lib.hid hst'
      have HGR := Lib.hid hgr
      have hlt2 : ¬ (k : Int) < (k : Int) := by omega
      clear hgr hSt hHI hOf hU hHC hr hCl hHl hst' hlt
      have hn1 : n₀ ≤ W.heap.size := HH.out.sz
      have hkN : k < 1000000000000 := by have := HNB.out; omega
      have HPR := Lib.hid (show OfPre U ls (St ls.length) J T W k (totL (rests C)) wr from ⟨C, H, S, rfl, HHL.out, HHC.out, HHI.out, HOF.out, [], T, HJ.out.move H0.out (HUU.out.same fun j hj => ⟨HJ.out.lt H0.out hj, fun h => by have := HT.out j hj; have := HU.out j h; omega⟩), Grow.refl _ _, HUU.out.mono (fun j hj => .inr hj), HS1.out, fun j hj h => by have := (HOF.out.lowS j hj).1; have := HJ.out.lt H0.out h; omega, fun j s hj => ⟨fun h => by have := (HOF.out.lowC j s hj).1; have := HJ.out.lt H0.out h; omega, fun b o e h => by have := ((HOF.out.lowC j s hj).2.2 b o e).1; have := HJ.out.lt H0.out h; omega⟩, by rw [HRR.out]; rfl⟩)
      have HPOP := fun (w : World) (m : Nat) (h : OfPre U ls (St ls.length) J T W k m w) => ofPop h HJ.out (HST.out ls.length) hn1 hkN
      have HPOP1 := Lib.hid (HPOP wr _ HPR.out)
      have HPOP := Lib.hid HPOP
      have m1 := meth_next
      have m2 := meth_goOn
      clear HHC HHI HOF HUU HHL HRR HS1 HPR hlt2
      gi_wp2_with fail
      refine ⟨trivial, (callsIn_wide.2 HPOP1.out).mono ?_⟩
      rintro _ w2 ⟨s7, s8, rfl, hL⟩
      have HL := Lib.hid hL
      clear hL HPOP1
      gi_wp2
      gi_loopw [7, 8] (fun s7 s8 wr => ∃ m, OfLoop U ls (St ls.length) J T W k m s7 s8 wr) (fun s7 s8 wr => leastOf (fun m => OfLoop U ls (St ls.length) J T W k m s7 s8 wr))
      case atStart => exact ⟨_, HL.out⟩
      case round =>
        obtain ⟨C, S, hm, hO, hCom, hcase⟩ := (leastOf_spec hrel).1
        clear hrel
        rcases hcase with ⟨rfl, j, s, e, r, hj, rfl, he, hb, hN, hC, hH⟩ | ⟨rfl, hend⟩
        · have HNX := Lib.hid (next_some s.b s.A s.c s.L s.i j e he wr (hO.cur j s hj))
          obtain ⟨pre, T1, hcj, hcg, hcu, hcs, hc1, hc2, hc3⟩ := hCom
          have HM := Lib.hid hm
          have HO := Lib.hid hO
          have HJJ := Lib.hid hcj
          have HGG := Lib.hid hcg
          have HUU := Lib.hid hcu
          have HSS := Lib.hid hcs
          have HC1 := Lib.hid hc1
          have HC2 := Lib.hid hc2
          have HC3 := Lib.hid hc3
          have HJT := Lib.hid hj
          have HE := Lib.hid he
          have HBE := Lib.hid hb
          have HNN2 := Lib.hid hN
          have HHC := Lib.hid hC
          have HHI := Lib.hid hH
          clear hm hO hcj hcg hcu hcs hc1 hc2 hc3 hj he hb hN hC hH
          gi_wp2_with fail
          refine ⟨trivial, (callsIn_wide.2 HNX.out).mono ?_⟩
          rintro _ w3 ⟨rfl, hb3⟩
          obtain ⟨W4, hW4⟩ : ∃ Z, w3.alloc (.cells #[.string e.1, .int .u64 e.2.1, .bool e.2.2.1, .string e.2.2.2] 53) = Z := ⟨_, rfl⟩
          have r4 : W4.heap[w3.heap.size]? = some (.cells #[.string e.1, .int .u64 e.2.1, .bool e.2.2.1, .string e.2.2.2] 53 (0, 0)) := by rw [← hW4]; exact heap_alloc_new _ _
          have hb4 : Below wr.heap.size wr W4 := by rw [← hW4]; exact hb3.trans (((Below.refl _ _).alloc (Nat.le_refl _) _).mono hb3.size)
          obtain ⟨⟨x0, x1, x2, x3⟩, _⟩ := cells4 r4
          have HB4 := Lib.hid hb4
          clear hb3 r4 hb4
          have hn4 : wr.heap.size ≤ W4.heap.size := HB4.out.size
          have HCALL := Lib.hid ((HY.out pre e T1 W4 (HJ.out.move HJJ.out (Same.of_below HB4.out (fun j hj => HJ.out.lt HJJ.out hj))) ⟨(HST.out ls.length).later HSS.out HB4.out, (HH.out.upd HUU.out (fun k hk => by rcases hk with h | h; exact .inr (HT.out k h); exact .inl h)).upd (Upd.of_below (S := fun _ => False) HB4.out) (fun k h => h.elim)⟩ HGG.out (HUU.out.trans (Upd.of_below HB4.out)) ⟨_, by rw [← HC3.out, mergeL_step HBE.out, List.append_assoc]; rfl⟩).mono fun e W1 h => h.bool)
          have HGOF := Lib.hid (fun (T3 : Nat → Prop) (W5 : World) (hj3 : J (pre ++ [e]) T3 W5) (hg3 : Grow T1 T3 W4) (hu3 : Upd T1 W4 W5) => ofGoOn HJ.out (HST.out ls.length) hn1 HT.out HJT.out HE.out HBE.out HNN2.out HHC.out (HHI.out.later HB4.out) (HO.out.later HB4.out) (fun j hj => Nat.lt_of_lt_of_le (HJ.out.lt HJJ.out hj) hn4) HGG.out (HUU.out.trans (Upd.of_below HB4.out)) ((HST.out ls.length).later HSS.out HB4.out) HC1.out HC2.out HC3.out hj3 hg3 hu3)
          have HLEFT := Lib.hid (show ∀ (T3 : Nat → Prop) (W5 : World), Jx (pre ++ [e]) T3 W5 → Grow T1 T3 W4 → Upd T1 W4 W5 → ∃ T', Grow T T' W ∧ Upd (fun k => T k ∨ U k) W W5 ∧ ((J (mergeL ls) T' W5 ∧ St ls.length W5 ∧ Held n₀ U bl A c fs W5) ∨ ∃ pre, pre <+: mergeL ls ∧ Jx pre T' W5 ∧ St ls.length W5 ∧ Held n₀ U bl A c fs W5) from fun T3 W5 hx3 hg3 hu3 => by
            have hu5 := ((HUU.out.trans (Upd.of_below HB4.out)).step hu3 (fun k hk => (HGG.out k hk).imp .inl id))
            refine ⟨T3, (HGG.out.trans hg3 (Nat.le_trans HUU.out.size hn4)), hu5, .inr ⟨_, ⟨_, by rw [← HC3.out, mergeL_step HBE.out, List.append_assoc]; rfl⟩, hx3, HST.out ls.length _ _ ((HST.out ls.length).later HSS.out HB4.out) (hu3.mono fun k hk => HGG.out.ge HT.out hn1 k hk), HH.out.upd hu5 (fun k hk => by rcases hk with h | h; exact .inr (HT.out k h); exact .inl h)⟩⟩)
          rcases HCALL.out with ⟨l2, rfl, rfl, fn', tmps', assign', body', hy', hR⟩ | ⟨f', rfl, henter', hC'⟩
          · have HC := Lib.hid hR
            have hy2 := show (Instr.yield l2 #[.agg #[.string e.1, .int .u64 e.2.1, .bool e.2.2.1, .string e.2.2.2]]).run Try.prog W4 = _ from hy'
            clear hR HCALL hy'
            gi_wp2
            refine (RoundIn.wide HC.out).mono ?_
            rintro e' W5 ⟨b, T3, rfl, hg3, hu3, hj3, hx3⟩
            cases b with
            | true =>
              have hj3 := hj3 rfl
              clear hx3
              have HGO := Lib.hid (HGOF.out T3 W5 hj3 hg3 hu3)
              clear hj3 hg3 hu3
              gi_wp2_with fail
              refine ⟨trivial, (callsIn_wide.2 HGO.out).mono ?_⟩
              rintro _ w6 ⟨rfl, m, hm6, hmid⟩
              obtain ⟨C6, r6, S6, hcu6, hrest6⟩ := id hmid
              have HNX := Lib.hid (ofNext hcu6)
              have HM6 := Lib.hid hm6
              have HMID := Lib.hid hmid
              clear hm6 hmid hcu6 hrest6
              gi_wp2_with fail
              refine ⟨trivial, (callsIn_wide.2 HNX.out).mono ?_⟩
              rintro _ w7 ⟨x, more, rfl, hb7, hmt, hmf⟩
              obtain ⟨W8, hW8⟩ : ∃ Z, w7.alloc (.cells #[.string x.1, .int .u64 x.2.1, .bool x.2.2.1, .string x.2.2.2] 53) = Z := ⟨_, rfl⟩
              have hb8 : Below w6.heap.size w6 W8 := by rw [← hW8]; exact hb7.trans (((Below.refl _ _).alloc (Nat.le_refl _) _).mono hb7.size)
              have HMID8 := Lib.hid (HMID.out.later HJ.out (HST.out ls.length) hn1 hb8)
              have HMT := Lib.hid hmt
              have HMF := Lib.hid hmf
              clear hb7 hb8 hmt hmf
              cases more with
              | true =>
                obtain ⟨e8, he8⟩ := HMT.out rfl
                have HPU := Lib.hid (ofPush HMID8.out he8 HJ.out (HST.out ls.length) hn1 hkN)
                clear he8
                gi_wp2_with fail
                refine ⟨trivial, (callsIn_wide.2 HPU.out).mono ?_⟩
                rintro _ w9 ⟨rfl, hpre9⟩
                have HP9 := Lib.hid (HPOP.out _ _ hpre9)
                clear hpre9
                gi_wp2_with fail
                refine ⟨trivial, (callsIn_wide.2 HP9.out).mono ?_⟩
                rintro _ wA ⟨s7', s8', rfl, hLA⟩
                have HLA := Lib.hid hLA
                clear hLA
                gi_wp2
                go_roundw
                case rel => exact ⟨_, HLA.out⟩
                case measure =>
                  have q1 := (leastOf_spec (p := fun m => OfLoop U ls (St ls.length) J T W k m s7' s8' wA) ⟨_, HLA.out⟩).2 _ HLA.out
                  have q2 := HM.out
                  have q3 := HM6.out
                  omega
              | false =>
                have HP9 := Lib.hid (HPOP.out _ _ (ofNone HMID8.out (HMF.out rfl)))
                gi_wp2_with fail
                refine ⟨trivial, (callsIn_wide.2 HP9.out).mono ?_⟩
                rintro _ wA ⟨s7', s8', rfl, hLA⟩
                have HLA := Lib.hid hLA
                clear hLA
                gi_wp2
                go_roundw
                case rel => exact ⟨_, HLA.out⟩
                case measure =>
                  have q1 := (leastOf_spec (p := fun m => OfLoop U ls (St ls.length) J T W k m s7' s8' wA) ⟨_, HLA.out⟩).2 _ HLA.out
                  have q2 := HM.out
                  have q3 := HM6.out
                  omega
            | false =>
              have hx3 := hx3 rfl
              clear hj3
              have HFIN := Lib.hid (HLEFT.out T3 W5 hx3 hg3 hu3)
              clear hx3 hg3 hu3
              gi_wp2
              refine bodyPost_ret (results_none rfl _ _ _) rfl ?_
              exact ⟨⟨_, rfl⟩, HFIN.out⟩
          · have HC := Lib.hid hC'
            clear hC' HCALL
            gi_wp2_with fail
            refine ⟨trivial, ?_⟩
            refine (callsIn_wide.2 HC.out).mono ?_
            rintro e' W5 ⟨b, T3, rfl, hg3, hu3, hj3, hx3⟩
            cases b with
            | true =>
              have hj3 := hj3 rfl
              clear hx3
              have HGO := Lib.hid (HGOF.out T3 W5 hj3 hg3 hu3)
              clear hj3 hg3 hu3
              gi_wp2_with fail
              refine ⟨trivial, (callsIn_wide.2 HGO.out).mono ?_⟩
              rintro _ w6 ⟨rfl, m, hm6, hmid⟩
              obtain ⟨C6, r6, S6, hcu6, hrest6⟩ := id hmid
              have HNX := Lib.hid (ofNext hcu6)
              have HM6 := Lib.hid hm6
              have HMID := Lib.hid hmid
              clear hm6 hmid hcu6 hrest6
              gi_wp2_with fail
              refine ⟨trivial, (callsIn_wide.2 HNX.out).mono ?_⟩
              rintro _ w7 ⟨x, more, rfl, hb7, hmt, hmf⟩
              obtain ⟨W8, hW8⟩ : ∃ Z, w7.alloc (.cells #[.string x.1, .int .u64 x.2.1, .bool x.2.2.1, .string x.2.2.2] 53) = Z := ⟨_, rfl⟩
              have hb8 : Below w6.heap.size w6 W8 := by rw [← hW8]; exact hb7.trans (((Below.refl _ _).alloc (Nat.le_refl _) _).mono hb7.size)
              have HMID8 := Lib.hid (HMID.out.later HJ.out (HST.out ls.length) hn1 hb8)
              have HMT := Lib.hid hmt
              have HMF := Lib.hid hmf
              clear hb7 hb8 hmt hmf
              cases more with
              | true =>
                obtain ⟨e8, he8⟩ := HMT.out rfl
                have HPU := Lib.hid (ofPush HMID8.out he8 HJ.out (HST.out ls.length) hn1 hkN)
                clear he8
                gi_wp2_with fail
                refine ⟨trivial, (callsIn_wide.2 HPU.out).mono ?_⟩
                rintro _ w9 ⟨rfl, hpre9⟩
                have HP9 := Lib.hid (HPOP.out _ _ hpre9)
                clear hpre9
                gi_wp2_with fail
                refine ⟨trivial, (callsIn_wide.2 HP9.out).mono ?_⟩
                rintro _ wA ⟨s7', s8', rfl, hLA⟩
                have HLA := Lib.hid hLA
                clear hLA
                gi_wp2
                go_roundw
                case rel => exact ⟨_, HLA.out⟩
                case measure =>
                  have q1 := (leastOf_spec (p := fun m => OfLoop U ls (St ls.length) J T W k m s7' s8' wA) ⟨_, HLA.out⟩).2 _ HLA.out
                  have q2 := HM.out
                  have q3 := HM6.out
                  omega
              | false =>
                have HP9 := Lib.hid (HPOP.out _ _ (ofNone HMID8.out (HMF.out rfl)))
                gi_wp2_with fail
                refine ⟨trivial, (callsIn_wide.2 HP9.out).mono ?_⟩
                rintro _ wA ⟨s7', s8', rfl, hLA⟩
                have HLA := Lib.hid hLA
                clear hLA
                gi_wp2
                go_roundw
                case rel => exact ⟨_, HLA.out⟩
                case measure =>
                  have q1 := (leastOf_spec (p := fun m => OfLoop U ls (St ls.length) J T W k m s7' s8' wA) ⟨_, HLA.out⟩).2 _ HLA.out
                  have q2 := HM.out
                  have q3 := HM6.out
                  omega
            | false =>
              have hx3 := hx3 rfl
              clear hj3
              have HFIN := Lib.hid (HLEFT.out T3 W5 hx3 hg3 hu3)
              clear hx3 hg3 hu3
              gi_wp2
              refine bodyPost_ret (results_none rfl _ _ _) rfl ?_
              exact ⟨⟨_, rfl⟩, HFIN.out⟩
        · obtain ⟨pre, T1, hcj, hcg, hcu, hcs, hc1, hc2, hc3⟩ := hCom
          have HFIN := Lib.hid (show ∃ T', Grow T T' W ∧ Upd (fun k => T k ∨ U k) W wr ∧ ((J (mergeL ls) T' wr ∧ St ls.length wr ∧ Held n₀ U bl A c fs wr) ∨ ∃ pre, pre <+: mergeL ls ∧ Jx pre T' wr ∧ St ls.length wr ∧ Held n₀ U bl A c fs wr) from
            ⟨T1, hcg, hcu, .inl ⟨by rw [← hc3, hend, List.append_nil]; exact hcj, hcs, HH.out.upd hcu (fun k hk => by rcases hk with h | h; exact .inr (HT.out k h); exact .inl h)⟩⟩)
          clear hm hO hend hcj hcg hcu hcs hc1 hc2 hc3
          gi_wp2
          go_end0
          exact ⟨⟨_, rfl⟩, HFIN.out⟩
end Go.Proofs.Ytdpijhpjicbecaa.H
