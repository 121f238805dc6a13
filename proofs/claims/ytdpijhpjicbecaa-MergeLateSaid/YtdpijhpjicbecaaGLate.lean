/- MergeLate. Conditions: sizes. (genlate.py) -/
import Derived.Test.YtdpijhpjicbecaaGSeq4
import Derived.Test.YtdpijhpjicbecaaGOf4
import Derived.Test.YtdpijhpjicbecaaGSame
import Derived.Test.YtdpijhpjicbecaaGUse
import Derived.Test.YtdpijhpjicbecaaGAny
import Derived.Deep.DeepCutAuto
namespace Go.Proofs.Ytdpijhpjicbecaa.H
open Go Go.RowKit Go.Deep Go.Shelf Go.Proofs Go.Proofs.YtdpijhpjicbecaaW.PrintWords
set_option linter.unusedVariables false
set_option linter.unusedSimpArgs false
attribute [local go_sem] Oper.semAt_some
/-- The k-th source's list is another one. -/
theorem SrcsE.put {N : Nat} {Z : List Src} {f : Cnt} {w : World} {k : Nat} {s : Src} {A : Option Addr} {c : Nat} {l : List Ent} (h : SrcsE N Z f w) (hd : NoDup Z) (hk : Z[k]? = some s) (hs : Sl encE 4 w A l) (hA : l ≠ [] → ∀ b o, A = some ⟨b, o, none⟩ → b < N ∧ ¬ InU Z b) :
    SrcsE N (Z.set k ⟨s.p, A, c, l⟩) f (w.setCell ⟨s.p, 0, none⟩ (.slice A l.length c)) := by
  have hin : ∀ b, InU (Z.set k ⟨s.p, A, c, l⟩) b → InU Z b := fun b ⟨j, t, hj, e⟩ => by
    by_cases ek : k = j
    · subst ek
      rw [List.getElem?_set_self (List.getElem?_eq_some_iff.1 hk).1] at hj
      injection hj with hj
      subst hj
      exact ⟨k, s, hk, e⟩
    · rw [List.getElem?_set_ne ek] at hj
      exact ⟨j, t, hj, e⟩
  have u : Upd (fun b => b = s.p) w (w.setCell ⟨s.p, 0, none⟩ (.slice A l.length c)) := Upd.setCell _ _ _ rfl
  obtain ⟨s1, s2, s3, s4⟩ := h k s hk
  intro j t hj
  by_cases ek : k = j
  · subst ek
    rw [List.getElem?_set_self (List.getElem?_eq_some_iff.1 hk).1] at hj
    injection hj with hj
    subst hj
    refine ⟨(blk_set s1 0 _).trans rfl, hs.upd2 u (fun hl b o e e2 => (hA hl b o e).2 (by rw [e2]; exact ⟨k, s, hk, rfl⟩)), s3, fun hl b o e => ⟨(hA hl b o e).1, fun hx => (hA hl b o e).2 (hin b hx)⟩⟩
  · rw [List.getElem?_set_ne ek] at hj
    obtain ⟨a1, a2, a3, a4⟩ := h j t hj
    exact ⟨u.heap a1 (fun e => ek (hd k j s t hk hj e.symm)), a2.upd2 u (fun hl b o e e2 => (a4 hl b o e).2 (by rw [e2]; exact ⟨k, s, hk, rfl⟩)), a3, fun hl b o e => ⟨(a4 hl b o e).1, fun hx => (a4 hl b o e).2 (hin b hx)⟩⟩
/-- Where the law stands in its second loop: Z = the sources as they are now. -/
structure Late (w2 : World) (N : Nat) (X X2 : List Src) (i : Nat) (Z : List Src) (W : World) : Prop where
  ps : Z.map (·.p) = X.map (·.p)
  src : SrcsE N Z (fun _ => (0, 0)) W
  src2 : SrcsE N X2 (fun _ => (0, 0)) W
  rest : ∀ j, i ≤ j → Z[j]? = X[j]?
  tot : totL ((Z.take i).map (·.l)) ≤ totL ((X.take i).map (·.l)) + totL ((X2.take i).map (·.l))
theorem late_len {w2 : World} {N : Nat} {X X2 : List Src} {i : Nat} {Z : List Src} {W : World} (h : Late w2 N X X2 i Z W) : Z.length = X.length := by
  have := congrArg List.length h.ps
  simpa using this
theorem late_p {w2 : World} {N : Nat} {X X2 : List Src} {i : Nat} {Z : List Src} {W : World} (h : Late w2 N X X2 i Z W) {j : Nat} {s : Src} (hj : Z[j]? = some s) : ∃ t, X[j]? = some t ∧ t.p = s.p := by
  have := congrArg (fun l => l[j]?) h.ps
  simp only [List.getElem?_map, hj] at this
  cases hx : X[j]? with
  | none => rw [hx] at this; cases this
  | some t => rw [hx] at this; injection this with this; exact ⟨t, rfl, this.symm⟩
theorem late_in {w2 : World} {N : Nat} {X X2 : List Src} {i : Nat} {Z : List Src} {W : World} (h : Late w2 N X X2 i Z W) {b : Nat} (hb : InU Z b) : InU X b := by
  obtain ⟨j, s, hj, e⟩ := hb
  obtain ⟨t, ht, e2⟩ := late_p h hj
  exact ⟨j, t, ht, e2.trans e⟩
theorem late_nod {w2 : World} {N : Nat} {X X2 : List Src} {i : Nat} {Z : List Src} {W : World} (h : Late w2 N X X2 i Z W) (hd : NoDup X) : NoDup Z := fun a b s t ha hb e => by
  obtain ⟨s', h1, e1⟩ := late_p h ha
  obtain ⟨t', h2, e2⟩ := late_p h hb
  exact hd a b s' t' h1 h2 (by rw [e1, e2, e])
theorem late_fv {w2 : World} {N : Nat} {X X2 : List Src} {i : Nat} {Z : List Src} {W : World} (h : Late w2 N X X2 i Z W) : Z.map fvS = X.map fvS := by
  have e : ∀ (M : List Src), M.map fvS = (M.map (·.p)).map (fun p => ((26, #[.pointer (some ⟨p, 0, none⟩)], #[]) : FV)) := fun M => by rw [List.map_map]; rfl
  rw [e, e, h.ps]
theorem totL_snoc (M : List Src) (i : Nat) (s : Src) (h : M[i]? = some s) : totL ((M.take (i + 1)).map (·.l)) = totL ((M.take i).map (·.l)) + s.l.length := by
  rw [take_suc h, List.map_append]
  simp [totL]
theorem totL_mono (M : List Src) (i : Nat) : totL ((M.take i).map (·.l)) ≤ totL ((M.take (i + 1)).map (·.l)) := by
  cases h : M[i]? with
  | none =>
    have := List.getElem?_eq_none_iff.1 h
    rw [List.take_of_length_le this, List.take_of_length_le (by omega)]
    exact Nat.le_refl _
  | some s => rw [totL_snoc M i s h]; omega
/-- Nothing is put. -/
theorem Late.skip {w2 : World} {N : Nat} {X X2 : List Src} {i : Nat} {Z : List Src} {W : World} (h : Late w2 N X X2 i Z W) (hn : i < X.length) : Late w2 N X X2 (i + 1) Z W := by
  obtain ⟨s, hs⟩ := getElem?_of_lt hn
  refine ⟨h.ps, h.src, h.src2, fun j hj => h.rest j (by omega), ?_⟩
  rw [totL_snoc Z i s (by rw [h.rest i (Nat.le_refl _), hs]), totL_snoc X i s hs]
  have := h.tot
  have := totL_mono X2 i
  omega
/-- A list is put. -/
theorem Late.put {w2 : World} {N : Nat} {X X2 : List Src} {i : Nat} {Z : List Src} {W : World} (h : Late w2 N X X2 i Z W) (hd : NoDup X) {s t : Src} (hs : X[i]? = some s) (ht : X2[i]? = some t) (hfar : ∀ k, InU X k → ¬ SX X2 k) : Late w2 N X X2 (i + 1) (Z.set i ⟨s.p, t.A, t.c, t.l⟩) (W.setCell ⟨s.p, 0, none⟩ (.slice t.A t.l.length t.c)) := by
  have hz : Z[i]? = some s := by rw [h.rest i (Nat.le_refl _), hs]
  have hi := (List.getElem?_eq_some_iff.1 hz).1
  obtain ⟨t1, t2, t3, t4⟩ := h.src2 i t ht
  have u : Upd (fun b => b = s.p) W (W.setCell ⟨s.p, 0, none⟩ (.slice t.A t.l.length t.c)) := Upd.setCell _ _ _ rfl
  have hin : InU X s.p := ⟨i, s, hs, rfl⟩
  refine ⟨?_, h.src.put (late_nod h hd) hz t2 (fun hl b o e => ⟨(t4 hl b o e).1, fun hx => hfar b (late_in h hx) ⟨t, List.mem_of_getElem? ht, .inr ⟨hl, o, e⟩⟩⟩), fun j y hj => ?_, fun j hj => ?_, ?_⟩
  · rw [List.map_set, ← h.ps]
    refine List.ext_getElem? fun j => ?_
    by_cases e : i = j
    · subst e
      rw [List.getElem?_set_self (by simpa using hi), List.getElem?_map, hz]
      rfl
    · rw [List.getElem?_set_ne e]
  · obtain ⟨a1, a2, a3, a4⟩ := h.src2 j y hj
    exact ⟨u.heap a1 (fun e => hfar _ hin ⟨y, List.mem_of_getElem? hj, .inl e⟩), a2.upd2 u (fun hl b o e e2 => hfar _ hin ⟨y, List.mem_of_getElem? hj, .inr ⟨hl, o, by rw [← e2]; exact e⟩⟩), a3, a4⟩
  · rw [List.getElem?_set_ne (by omega)]
    exact h.rest j (by omega)
  · have e1 : (Z.set i ⟨s.p, t.A, t.c, t.l⟩)[i]? = some ⟨s.p, t.A, t.c, t.l⟩ := List.getElem?_set_self hi
    rw [totL_snoc _ i _ e1, totL_snoc X2 i t ht]
    have e2 : (Z.set i ⟨s.p, t.A, t.c, t.l⟩).take i = Z.take i := by
      refine List.ext_getElem? fun j => ?_
      by_cases hj : j < i
      · rw [List.getElem?_take_of_lt hj, List.getElem?_take_of_lt hj, List.getElem?_set_ne (by omega)]
      · rw [List.getElem?_take_eq_none (by omega), List.getElem?_take_eq_none (by omega)]
    rw [e2]
    have := h.tot
    have := totL_mono X i
    show _ + t.l.length ≤ _
    omega
theorem Late.later {w2 : World} {N : Nat} {X X2 : List Src} {i : Nat} {Z : List Src} {S : Nat → Prop} {W W' : World} (h : Late w2 N X X2 i Z W) (u : Upd S W W') (hS : ∀ k, S k → N ≤ k) : Late w2 N X X2 i Z W' :=
  ⟨h.ps, h.src.upd u hS, h.src2.upd u hS, h.rest, h.tot⟩
theorem totL_takeLe (l : List (List Ent)) (k : Nat) : totL (l.take k) ≤ totL l := by
  have h2 : ∀ a b : List (List Ent), totL (a ++ b) = totL a + totL b := by intro a b; simp [totL]
  have : l = l.take k ++ l.drop k := (List.take_append_drop _ _).symm
  have h3 := h2 (l.take k) (l.drop k)
  rw [← this] at h3
  omega
theorem Srcs.mono {n m : Nat} {U V : Nat → Prop} {St : Nat → World → Prop} {fs : List FV} {ls : List (List Ent)} (h : Srcs n U St fs ls) (hn : n ≤ m) (hU : ∀ k, U k → V k) : Srcs m V St fs ls :=
  ⟨h.1, fun k f l a b => (h.2 k f l a b).mono hn hU (fun W h => h) (fun W h => h) (fun W h => h)⟩
theorem ris_tot (M : List HE) : totL (M.map (fun h => risenL h.2.2)) ≤ totL (M.map (·.2.2)) := by
  induction M with
  | nil => simp [totL]
  | cons a M ih => have := risenL_len a.2.2; simp only [totL, List.map_cons, List.sum_cons] at ih ⊢; omega
set_option maxHeartbeats 12800000 in
set_option maxRecDepth 100000 in
theorem mergeLate_c (A : Option Addr) (c : Nat) (L : List HE) (B : Option Addr) (d : Nat) (M : List HE) (w : World) (hs : Sl2 w A L) (hok : OkL L) (ht : Sl2 w B M) (hok2 : OkL M) :
    Calls Try.prog 4 #[.slice A L.length c, .slice B M.length d] w fun e w' => e = .returned (.bool true) ∧ Below w.heap.size w w' := by
  have hm := hs.1.1
  have hm2 := ht.1.1
  have HF := few11_c A c L w hs hok
  have HS := Lib.hid hs
  have HS2 := Lib.hid ht
  have HOK2 := Lib.hid hok2
  obtain ⟨n, hn⟩ : ∃ n, L.length = n := ⟨_, rfl⟩
  obtain ⟨n2, hn2⟩ : ∃ n, M.length = n := ⟨_, rfl⟩
  have HN := Lib.hid hn
  have HN2 := Lib.hid hn2
  rw [hn] at hm HF ⊢
  rw [hn2] at hm2 ⊢
  clear hs ht hok hok2 hn hn2
  go_enter Try.func4, Try.ntmps4
  go_wp2_with fail
  refine HF.mono ?_
  clear HF
  rintro _ w1 ⟨b, rfl, hbd, hb1⟩
  have HB1 := Lib.hid hb1
  clear hb1
  cases b with
  | false =>
    go_wp2
    go_ret
    exact ⟨rfl, HB1.out⟩
  | true =>
    have hbd := hbd rfl
    have HBD := Lib.hid (show n + totL (L.map (·.2.2)) ≤ 10000 from by rw [sumL_tot] at hbd; have := HN.out; omega)
    have HF2 := few11_c B d M w1 ⟨HS2.out.1.later HB1.out, fun x hx => (HS2.out.2 x hx).later HB1.out⟩ HOK2.out
    rw [HN2.out] at HF2
    clear hbd
    go_wp2_with fail
    refine HF2.mono ?_
    clear HF2
    rintro _ w2 ⟨b2, rfl, hbd2, hb2⟩
    have HB2 := Lib.hid (HB1.out.trans (hb2.mono HB1.out.size))
    clear hb2
    cases b2 with
    | false =>
      go_wp2
      go_ret
      exact ⟨rfl, HB2.out⟩
    | true =>
      have hbd2 := hbd2 rfl
      have HBD2 := Lib.hid (show n2 + totL (M.map (·.2.2)) ≤ 10000 from by rw [sumL_tot] at hbd2; have := HN2.out; omega)
      clear hbd2
      have hl : n < 1000000000 := by have := HBD.out; omega
      have hl2 : n2 < 1000000000 := by have := HBD2.out; omega
      have HSO := Lib.hid (sources2_c A c L w2 ⟨HS.out.1.later HB2.out, fun x hx => (HS.out.2 x hx).later HB2.out⟩ (by rw [HN.out]; exact hl) (fun h hh => (few_bounds (L := L) (by rw [HN.out]; exact HBD.out)).2.2 h hh))
      rw [HN.out] at HSO
      go_wp2_with fail
      refine HSO.out.mono ?_
      clear HSO
      rintro _ W1 ⟨v4, v5, X, L2, rfl, hmade, hX, hL2, hb3, hlo⟩
      obtain ⟨A4, c4, rfl⟩ := own_slice hmade.own4
      obtain ⟨A5, c5, rfl⟩ := own_slice hmade.made5.own
      have hxl : X.length = n := by
        have := congrArg List.length hX
        rw [List.length_map, List.length_map, HN.out] at this
        exact this
      have hl2' : L2.length = n := by
        have := congrArg List.length hL2
        rw [List.length_map, List.length_map, HN.out] at this
        exact this
      rw [hxl, hl2'] at hmade ⊢
      have HMD := Lib.hid hmade
      have HXE := Lib.hid hX
      have HXL := Lib.hid hxl
      have HB3 := Lib.hid (HB2.out.trans (hb3.mono HB2.out.size))
      clear hmade hX hL2 hb3 hlo hxl hl2'
      have HSO2 := Lib.hid (sources2_c B d M W1 ⟨HS2.out.1.later HB3.out, fun x hx => (HS2.out.2 x hx).later HB3.out⟩ (by rw [HN2.out]; exact hl2) (fun h hh => (few_bounds (L := M) (by rw [HN2.out]; exact HBD2.out)).2.2 h hh))
      rw [HN2.out] at HSO2
      go_wp2_with fail
      refine HSO2.out.mono ?_
      clear HSO2
      rintro _ W2 ⟨u4, u5, X2, M2, rfl, hmade2, hX2, hM2, hb4, hlo2⟩
      obtain ⟨B4, d4, rfl⟩ := own_slice hmade2.own4
      obtain ⟨B5, d5, rfl⟩ := own_slice hmade2.made5.own
      have hxl2 : X2.length = n2 := by
        have := congrArg List.length hX2
        rw [List.length_map, List.length_map, HN2.out] at this
        exact this
      have hl3 : M2.length = n2 := by
        have := congrArg List.length hM2
        rw [List.length_map, List.length_map, HN2.out] at this
        exact this
      rw [hxl2, hl3] at hmade2 ⊢
      have HFAR := Lib.hid (show ∀ k, InU X k → ¬ SX X2 k from fun k hk ⟨t, ht, h⟩ => by
        have h1 := HMD.out.lt hk.sx
        rcases h with h | ⟨_, o, e⟩
        · have := hmade2.low t ht; omega
        · have := hlo2 t ht k o e; omega)
      have HB20 := Lib.hid (show totL (X.map (·.l)) + totL (X2.map (·.l)) ≤ 20000 from by
        rw [HXE.out, hX2]
        have := ris_tot L
        have := ris_tot M
        have := HBD.out
        have := HBD2.out
        omega)
      have hm42 := HMD.out.later hb4
      obtain ⟨N, hN⟩ : ∃ N, W2.heap.size = N := ⟨_, rfl⟩
      have HLT0 := Lib.hid (show Late w2 N X X2 0 X W2 from ⟨rfl, hN ▸ hm42.src, hN ▸ hmade2.src, fun _ _ => rfl, by simp [totL]⟩)
      have HR0 := Lib.hid hm42.own4
      have HR02 := Lib.hid hmade2.own4
      have HRL := Lib.hid (show ∀ k, (Value.slice A4 n c4).ownBlock = some k → k < N ∧ ¬ InU X k from fun k hk => ⟨by rw [← hN]; exact (hm42.own4.block_lt hk).2, fun h => (HMD.out.d4 k hk).1 h.sx⟩)
      have HRL2 := Lib.hid (show ∀ k, (Value.slice B4 n2 d4).ownBlock = some k → k < N ∧ ¬ InU X k from fun k hk => ⟨by rw [← hN]; exact (hmade2.own4.block_lt hk).2, fun h => by have := HMD.out.lt h.sx; have := (hmade2.own4.block_lt hk).1; omega⟩)
      have HXL2 := Lib.hid hxl2
      have HB4 := Lib.hid (HB3.out.trans (hb4.mono HB3.out.size))
      have HLOW := Lib.hid (show ∀ k, InU X k → w.heap.size ≤ k ∧ k < N from fun k hk => by
        obtain ⟨j, s, hj, e⟩ := hk
        have h1 := HMD.out.low s (List.mem_of_getElem? hj)
        have h2 := HB2.out.size
        have h3 := HMD.out.lt (k := k) ⟨s, List.mem_of_getElem? hj, .inl e⟩
        have h4 := hb4.size
        omega)
      have HSQ := Lib.hid (seqs_c A4 c4 X W2 (own_sl hm42.own4 (fun x => (okS' x).1)) (by rw [HXL.out]; exact hl))
      rw [HXL.out] at HSQ
      clear hmade2 hX2 hM2 hb4 hlo2 hxl2 hl3 hm42
      go_wp2_with fail
      refine HSQ.out.mono ?_
      clear HSQ
      rintro _ W3 ⟨vq, rfl, hq, hbq⟩
      obtain ⟨Aq, cq, rfl⟩ := own_slice hq
      rw [List.length_map, HXL.out] at hq ⊢
      rw [hN] at hq
      have hs3 := hbq.size
      have HOF := of2_c Aq cq (X.map fvS) W3 (own_sl hq (fun x => (okF x).1)) (fun _ => own_form hq) (by rw [List.length_map, HXL.out]; exact hl)
      rw [List.length_map, HXL.out] at HOF
      have HQ := Lib.hid hq
      have HBQ := Lib.hid hbq
      clear hq hbq
      go_wp2_with fail
      refine HOF.mono ?_
      clear HOF
      rintro _ W4 ⟨f, rfl, hb5, HDf, hdf, hstf, hszf, hitf⟩
      have hs4 := hb5.size
      have HKE := keys2_c Aq cq (X.map fvS) W4 (own_sl (HQ.out.below hb5) (fun x => (okF x).1)) (fun _ => own_form HQ.out) (by rw [List.length_map, HXL.out]; exact hl)
      rw [List.length_map, HXL.out] at HKE
      have HB5 := Lib.hid hb5
      have HITF := Lib.hid hitf
      have HSTF := Lib.hid hstf
      have HDF := Lib.hid hdf
      have HSZF := Lib.hid hszf
      clear hb5 hitf hstf hdf hszf
      go_wp2_with fail
      refine HKE.mono ?_
      clear HKE
      rintro _ W5 ⟨g, rfl, hb6, HDg, hdg, hstg, hszg, hitg⟩
      have hs5 := hb6.size
      have HDF5 := Lib.hid (HSTF.out.firm.later HDF.out hb6)
      have HITG := Lib.hid hitg
      have HSTG := Lib.hid hstg
      have HDG := Lib.hid hdg
      have HSZG := Lib.hid hszg
      have HQ5 := Lib.hid ((HQ.out.below HB5.out).below hb6)
      have HB25 := Lib.hid (show Below W2.heap.size W2 W5 from (HBQ.out.trans (HB5.out.mono hs3)).trans (hb6.mono (by omega)))
      have HQB := Lib.hid (show ∀ k, (Value.slice Aq n cq).ownBlock = some k → N ≤ k ∧ k < W3.heap.size from fun k hk => HQ.out.block_lt hk)
      clear hb6 hitg hstg hdg hszg HDF
      go_wp2_with fail
      go_loopw [12] (fun s12 wr => ∃ (i : Nat) (fs' : List FV), s12 = .int .i64 i ∧ i ≤ n ∧ fs'.length = n ∧ Own encF 31 1 wr N (.slice Aq n cq) fs' ∧ Upd (fun k => (Value.slice Aq n cq).ownBlock = some k) W5 wr) (fun s12 wr => n - (intOf s12).toNat)
      case atStart => exact ⟨0, X.map fvS, rfl, by omega, by rw [List.length_map, HXL.out], HQ5.out, Upd.refl _ _⟩
      case round =>
        obtain ⟨i, fs', rfl, hi, hfl, hoq, huq⟩ := hrel
        generalize wr = W6 at *
        have i0 : (0 : Int) ≤ i := by omega
        by_cases hlt : i < n
        · have i1 : (i : Int) < n := by omega
          obtain ⟨bq, hAq, _⟩ := own_some hoq (fun e => by rw [e] at hfl; simp at hfl; omega)
          subst hAq
          obtain ⟨y, hy⟩ := getElem?_of_lt (l := fs') (by rw [hfl]; exact hlt : i < fs'.length)
          obtain ⟨b6, o6, e6, _, hc6⟩ := (own_sl hoq (fun x => (okF x).1)).at hy
          injection e6 with e6
          injection e6 with e6 e7
          subst e6; subst e7
          have d0 : W6.cell? ⟨bq, i, none⟩ = some (valF y) := by have := hc6 0 _ rfl; simpa using this
          have f0 : W6.frozen? ⟨bq, i, none⟩ = false := by
            have h1 := hoq
            rw [← hfl] at h1
            exact World.ownsRow.frozenAt h1 i
          have hset := Own.set1 (f := valF) (fun _ => rfl) hoq hfl.symm i ((24, #[], #[]) : FV)
          have HSET := Lib.hid hset
          have HUN := Lib.hid (huq.trans (show Upd (fun k => (Value.slice (some ⟨bq, 0, none⟩) n cq).ownBlock = some k) W6 (W6.setCell ⟨bq, i, none⟩ (valF ((24, #[], #[]) : FV))) from Upd.setCell _ _ _ rfl))
          have HFL := Lib.hid hfl
          unfold valF at d0
          clear hc6 hy hoq huq hset hfl
          go_wp2_with fail
          go_roundw
          case rel => exact ⟨i + 1, _, by first | rfl | simp, by omega, by rw [List.length_set, HFL.out], HSET.out, HUN.out⟩
          case measure => simp [intOf]; omega
        · have e : n = i := by omega
          subst e
          clear hlt hi
          have hs6 := huq.size
          have hn2 : N ≤ W6.heap.size := by omega
          have HN6 := Lib.hid hn2
          have uN : Upd (fun k => N ≤ k) W2 W6 := (Upd.of_below HB25.out).trans (huq.mono fun k hk => (HQB.out k hk).1)
          have HLT6 := Lib.hid (HLT0.out.later uN (fun k hk => hk))
          have HR6 := Lib.hid (HR0.out.upd uN (fun k hk h => by have := (HRL.out k hk).1; omega))
          have HR62 := Lib.hid (HR02.out.upd uN (fun k hk h => by have := (HRL2.out k hk).1; omega))
          have HDF6 := Lib.hid (HSTF.out _ W5 W6 HDF5.out huq (fun k hk => .inl (HQB.out k hk).2))
          have HDG6 := Lib.hid (HSTG.out _ W5 W6 HDG.out huq (fun k hk => .inl (by have := (HQB.out k hk).2; omega)))
          have HB6 := Lib.hid (show Below w.heap.size w W6 from HB4.out.trans (uN.bel (fun k hk => by have := HB4.out.size; omega) HB4.out.size))
          clear uN huq hoq hfl HQ5 HDF5 HDG HLT0 HR0 HR02
          go_wp2_with fail
          go_loopw [13, 14] (fun s13 s14 wr => ∃ (i : Nat) (Z : List Src) (LS : List HE), s14 = .int .i64 i ∧ i ≤ n ∧ Late w2 N X X2 i Z wr ∧ MadeE wr W6.heap.size s13 LS ∧ LS.map (·.2.2) = (Z.take i).map (·.l) ∧ Own encSr 40 1 wr w2.heap.size (.slice A4 n c4) X ∧ Own encSr 40 1 wr W1.heap.size (.slice B4 n2 d4) X2 ∧ Upd (fun k => InU X k ∨ W6.heap.size ≤ k) W6 wr) (fun s13 s14 wr => n - (intOf s14).toNat)
          case atStart => exact ⟨0, X, [], rfl, by omega, HLT6.out, MadeE.nil _ _, rfl, HR6.out, HR62.out, Upd.refl _ _⟩
          case round =>
            obtain ⟨i, Z, LS, rfl, hi, hlt, hms, hlm, hr4, hr42, hu6⟩ := hrel
            obtain ⟨ALs, cLs, rfl⟩ := own_slice hms.own
            generalize wr = W7 at *
            have HLT := Lib.hid hlt
            have HM7 := Lib.hid hms
            have HLM := Lib.hid hlm
            have HR7 := Lib.hid hr4
            have HR72 := Lib.hid hr42
            have HU7 := Lib.hid hu6
            clear hlt hms hlm hr4 hr42 hu6
            have i0 : (0 : Int) ≤ i := by omega
            by_cases hlt : i < n
            · have i1 : (i : Int) < n := by omega
              obtain ⟨sx, hsx⟩ := getElem?_of_lt (l := X) (by rw [HXL.out]; exact hlt : i < X.length)
              obtain ⟨b4, o4, hA4, _, hc4⟩ := (own_sl HR7.out (fun x => (okS' x).1)).at hsx
              subst hA4
              have HSX := Lib.hid hsx
              have s4 : W7.cell? ⟨b4, o4 + i, none⟩ = some (.pointer (some ⟨sx.p, 0, none⟩)) := by have := hc4 0 _ rfl; simpa using this
              have hzs : Z[i]? = some sx := by rw [HLT.out.rest i (Nat.le_refl _)]; exact hsx
              have hblk := (HLT.out.src i sx hzs).1
              by_cases hi2 : i < n2
              · have i2 : (i : Int) < n2 := by omega
                obtain ⟨tx, htx⟩ := getElem?_of_lt (l := X2) (by rw [HXL2.out]; exact hi2 : i < X2.length)
                obtain ⟨b5, o5, hB4, _, hc5⟩ := (own_sl HR72.out (fun x => (okS' x).1)).at htx
                subst hB4
                have t4 : W7.cell? ⟨b5, o5 + i, none⟩ = some (.pointer (some ⟨tx.p, 0, none⟩)) := by have := hc5 0 _ rfl; simpa using this
                have hblk2 := (HLT.out.src2 i tx htx).1
                have t0 : W7.cell? ⟨tx.p, 0, none⟩ = some (.slice tx.A tx.l.length tx.c) := (blk_cell hblk2 0).trans rfl
                have s0 : W7.cell? ⟨sx.p, 0, none⟩ = some (.slice sx.A sx.l.length sx.c) := (blk_cell hblk 0).trans rfl
                have sf : W7.frozen? ⟨sx.p, 0, none⟩ = false := blk_frozen hblk 0
                have hin : InU X sx.p := ⟨i, sx, hsx, rfl⟩
                have u8 : Upd (fun k => k = sx.p) W7 (W7.setCell ⟨sx.p, 0, none⟩ (.slice tx.A tx.l.length tx.c)).drew := (show Upd (fun k => k = sx.p) W7 (W7.setCell ⟨sx.p, 0, none⟩ (.slice tx.A tx.l.length tx.c)) from (Upd.setCell _ _ _ rfl).mono fun k h => h.symm).trans (Upd.drew _)
                have HLT8 := Lib.hid ((HLT.out.put HMD.out.nod hsx htx HFAR.out).later (Upd.drew (S := fun _ => False) _) (fun k h => h.elim))
                have HM8 := Lib.hid (show MadeE (W7.setCell ⟨sx.p, 0, none⟩ (.slice tx.A tx.l.length tx.c)).drew W6.heap.size (.slice ALs LS.length cLs) LS from HM7.out.same (u8.same (T := fun k => W6.heap.size ≤ k ∧ k < W7.heap.size) fun k hk => ⟨hk.2, fun e => by have := (HLOW.out _ hin).2; omega⟩) (fun k hk => by
                  rcases hk with hk | ⟨h, hh, o, e⟩
                  · exact HM7.out.own.block_lt hk
                  · exact ⟨(HM7.out.far h hh k o e).1, (HM7.out.far h hh k o e).2.1⟩))
                have HR8 := Lib.hid (HR7.out.upd u8 (fun k hk e => (HRL.out k hk).2 (by rw [e]; exact hin)))
                have HR82 := Lib.hid (HR72.out.upd u8 (fun k hk e => (HRL2.out k hk).2 (by rw [e]; exact hin)))
                have HU8 := Lib.hid (HU7.out.trans (u8.mono fun k hk => .inl (by rw [hk]; exact hin)))
                have HZ := Lib.hid (show (Z.set i ⟨sx.p, tx.A, tx.c, tx.l⟩)[i]? = some (⟨sx.p, tx.A, tx.c, tx.l⟩ : Src) from List.getElem?_set_self (List.getElem?_eq_some_iff.1 hzs).1)
                have HZT := Lib.hid (show ((Z.set i ⟨sx.p, tx.A, tx.c, tx.l⟩).take i).map (·.l) = (Z.take i).map (·.l) from by
                  congr 1
                  refine List.ext_getElem? fun j => ?_
                  by_cases hj : j < i
                  · rw [List.getElem?_take_of_lt hj, List.getElem?_take_of_lt hj, List.getElem?_set_ne (by omega)]
                  · rw [List.getElem?_take_eq_none (by omega), List.getElem?_take_eq_none (by omega)])
                have HMM := Lib.hid (show Try.prog.follows .mixedOrders = true from by kernel_rfl)
                have hmx := HMM.out
                clear hc4 hc5 hsx htx hzs hblk hblk2 u8 HM7 HR7 HR72 HU7
                obtain ⟨z, hz⟩ : ∃ z : Src, (⟨sx.p, tx.A, tx.c, tx.l⟩ : Src) = z := ⟨_, rfl⟩
                obtain ⟨Z', hZ'⟩ : ∃ Z', Z.set i (⟨sx.p, tx.A, tx.c, tx.l⟩ : Src) = Z' := ⟨_, rfl⟩
                have HZP := Lib.hid (show z.p = sx.p from by rw [← hz])
                rw [hZ'] at HLT8 HZT HZ
                rw [hz] at HZ
                clear hz hZ'
                obtain ⟨tp, htp⟩ : ∃ tp, tx.p = tp := ⟨_, rfl⟩
                obtain ⟨sp, hsp⟩ : ∃ sp, sx.p = sp := ⟨_, rfl⟩
                obtain ⟨tl, htl⟩ : ∃ tl, tx.l.length = tl := ⟨_, rfl⟩
                rw [htl] at t0 HLT8 HM8 HR8 HR82 HU8
                rw [hsp] at s4 s0 sf HLT8 HM8 HR8 HR82 HU8
                rw [htp] at t4 t0
                clear htp htl
                go_wp2_with fail
                go_still_tail 13, hmx
                change wpList _ _ _ _ _ W7.drew
                go_upto_region 17 with fail
                have HLT7 := HLT8
                have HM7 := HM8
                have HR7 := HR8
                have HR72 := HR82
                have HU7 := HU8
                clear HLT8 HM8 HR8 HR82 HU8 s4 t4 t0 s0 sf
                generalize (W7.setCell ⟨sp, 0, none⟩ (.slice tx.A tl tx.c)).drew = W7 at *
                -- the source's list is copied: Late .. (i + 1) Z' W7, z in its place
                have hz1 := HLT7.out.src i z HZ.out
                have b4c : W7.cell? ⟨b4, o4 + i, none⟩ = some (.pointer (some ⟨z.p, 0, none⟩)) := by
                  obtain ⟨b6, o6, e6, _, hc6⟩ := (own_sl HR7.out (fun x => (okS' x).1)).at HSX.out
                  injection e6 with e6
                  injection e6 with e6 e7
                  subst e6; subst e7
                  have := hc6 0 _ rfl
                  rw [HZP.out]
                  simpa using this
                obtain ⟨zl, hzl⟩ : ∃ zl, z.l = zl := ⟨_, rfl⟩
                obtain ⟨nz, hnz⟩ : ∃ nz, zl.length = nz := ⟨_, rfl⟩
                have z0 : W7.cell? ⟨z.p, 0, none⟩ = some (.slice z.A nz z.c) := by have := (blk_cell hz1.1 0).trans rfl; rw [hzl, hnz] at this; exact this
                have HSZ := Lib.hid (show Sl encE 4 W7 z.A zl from by rw [← hzl]; exact hz1.2.1)
                have hnz9 : nz < 1000000 := by
                  have h1 := HLT7.out.tot
                  have h2 := totL_snoc Z' i z HZ.out
                  have h3 := HB20.out
                  have h4 : totL ((X.take (i + 1)).map (·.l)) ≤ totL (X.map (·.l)) := by rw [List.map_take]; exact totL_takeLe _ _
                  have h5 : totL ((X2.take (i + 1)).map (·.l)) ≤ totL (X2.map (·.l)) := by rw [List.map_take]; exact totL_takeLe _ _
                  rw [hzl, hnz] at h2
                  omega
                have HZL := Lib.hid hzl
                have HNZ := Lib.hid hnz
                obtain ⟨zp, hzp⟩ : ∃ zp, z.p = zp := ⟨_, rfl⟩
                obtain ⟨zA, hzA⟩ : ∃ zA, z.A = zA := ⟨_, rfl⟩
                obtain ⟨zc, hzc⟩ : ∃ zc, z.c = zc := ⟨_, rfl⟩
                rw [hzp] at b4c z0
                rw [hzA, hzc] at z0
                rw [hzA] at HSZ
                clear hz1 hzl hnz hzp hzA hzc
                have hll : LS.length = i := by
                  have := congrArg List.length HLM.out
                  rw [List.length_map, List.length_map, List.length_take, late_len HLT.out, HXL.out] at this
                  omega
                rw [hll] at HM7 ⊢
                have HLL := Lib.hid hll
                clear hll
                go_wp2_with (at_builtin; refine wpList_app rfl (.const (.slice none 0 0)) (.tmp 82) rfl uSlE infoE rfl (by decide) (by decide) okE (.slice none 0 0) [] rfl (base := W7.heap.size) ?c1 zA zc zl (by rw [HNZ.out]; rfl) ?c2 ?c3 ?c4 ?_)
                case c1 => exact Own.nil _ _ _ _ _
                case c2 => exact HSZ.out
                case c3 => have := HNZ.out; simp; omega
                try (case c4 => exact Nat.le_refl _)
                intro v27 Wd ho27 hg27 hat27
                obtain ⟨A27, c27, rfl⟩ := own_slice ho27
                try simp only [List.nil_append] at ho27
                try simp only [List.nil_append]
                have hbd : Below W7.heap.size W7 Wd := (Upd.of_grown (S := fun _ => False) hg27 (fun j hj => by cases hj)).bel (fun _ h => h.elim) (Nat.le_refl _)
                have hsd := hbd.size
                have HMD2 := Lib.hid (HM7.out.later hbd)
                have HO27 := Lib.hid ho27
                have HBD := Lib.hid hbd
                have hw67 := HU7.out.size
                clear ho27 hg27 hat27 hbd
                go_wp2_with (at_builtin; refine wpList_app rfl (.tmp 75) (.tmp 84) rfl uSlEE infoEE rfl (by decide) (by decide) okHE (.slice ALs i cLs) LS rfl (base := W6.heap.size) ?d1 (some ⟨Wd.heap.size, 0, none⟩) 1 [((A27, c27, zl) : HE)] rfl ?d2 ?d3 ?d4 ?_)
                case d1 => exact HMD2.out.own.below ((Below.refl _ _).alloc (Nat.le_refl _) _)
                case d2 => exact Sl.one okHE Wd _ _ rfl
                case d3 => have := HLL.out; simp only [this, List.length_cons, List.length_nil]; omega
                case d4 => simp; omega
                intro v5' We ho5 hg5 hat5
                have hadr := own_addr HO27.out
                have hme := (HMD2.out.later ((Below.refl Wd.heap.size Wd).alloc (Nat.le_refl _) (.cells #[.slice A27 zl.length c27] 27))).snoc (x := ((A27, c27, zl) : HE)) ((own_sl HO27.out (fun x => (okE x).1)).later ((Below.refl _ _).alloc (Nat.le_refl _) _)) (fun b o e => by
                  have h1 := hadr b o e
                  refine ⟨by omega, by simp; omega, fun e2 => ?_⟩
                  have := (HM7.out.own.block_lt e2).2
                  omega) ho5 hg5 (by
                  rcases hat5 with h | h
                  · exact .inl h
                  · exact .inr ⟨_, h, by simp⟩)
                have HME := Lib.hid hme
                have ue : Upd (fun k => W6.heap.size ≤ k) W7 We := (((Upd.of_below HBD.out).trans (Upd.alloc _ _)).trans (Upd.of_grown hg5 (fun k hk => (HM7.out.own.block_lt hk).1)))
                have HUE := Lib.hid (show Upd (fun k => InU X k ∨ W6.heap.size ≤ k) W6 We from HU7.out.trans (ue.mono fun k hk => .inr hk))
                have HLE := Lib.hid (HLT7.out.later ue (fun k hk => Nat.le_trans HN6.out hk))
                have HRE := Lib.hid (HR7.out.upd ue (fun k hk h => by have := (HRL.out k hk); omega))
                have HRE2 := Lib.hid (HR72.out.upd ue (fun k hk h => by have := (HRL2.out k hk); omega))
                have HLN := Lib.hid (show (LS ++ [((A27, c27, zl) : HE)]).map (·.2.2) = (Z'.take (i + 1)).map (·.l) from by rw [List.map_append, HLM.out, take_suc HZ.out, List.map_append, HZT.out]; simp [HZL.out])
                clear ho5 hg5 hat5 hme hadr ue
                go_wp2
                go_roundw
                case rel => exact ⟨i + 1, Z', _, by first | rfl | simp, by omega, HLE.out, HME.out, HLN.out, HRE.out, HRE2.out, HUE.out⟩
                case measure => simp [intOf]; omega
              · have HLT7 := Lib.hid (HLT.out.skip (by rw [HXL.out]; exact hlt))
                obtain ⟨z, hz⟩ : ∃ z : Src, sx = z := ⟨_, rfl⟩
                obtain ⟨Z', hZ'⟩ : ∃ Z', Z = Z' := ⟨_, rfl⟩
                have HZ := Lib.hid (show Z'[i]? = some z from by rw [← hZ', ← hz]; exact hzs)
                have HZT := Lib.hid (show (Z'.take i).map (·.l) = (Z.take i).map (·.l) from by rw [hZ'])
                have HZP := Lib.hid (show z.p = sx.p from by rw [hz])
                rw [hZ'] at HLT7
                clear hc4 hsx hzs hblk s4 hz hZ'
                go_upto_region 17 with fail
                -- the source's list is copied: Late .. (i + 1) Z' W7, z in its place
                have hz1 := HLT7.out.src i z HZ.out
                have b4c : W7.cell? ⟨b4, o4 + i, none⟩ = some (.pointer (some ⟨z.p, 0, none⟩)) := by
                  obtain ⟨b6, o6, e6, _, hc6⟩ := (own_sl HR7.out (fun x => (okS' x).1)).at HSX.out
                  injection e6 with e6
                  injection e6 with e6 e7
                  subst e6; subst e7
                  have := hc6 0 _ rfl
                  rw [HZP.out]
                  simpa using this
                obtain ⟨zl, hzl⟩ : ∃ zl, z.l = zl := ⟨_, rfl⟩
                obtain ⟨nz, hnz⟩ : ∃ nz, zl.length = nz := ⟨_, rfl⟩
                have z0 : W7.cell? ⟨z.p, 0, none⟩ = some (.slice z.A nz z.c) := by have := (blk_cell hz1.1 0).trans rfl; rw [hzl, hnz] at this; exact this
                have HSZ := Lib.hid (show Sl encE 4 W7 z.A zl from by rw [← hzl]; exact hz1.2.1)
                have hnz9 : nz < 1000000 := by
                  have h1 := HLT7.out.tot
                  have h2 := totL_snoc Z' i z HZ.out
                  have h3 := HB20.out
                  have h4 : totL ((X.take (i + 1)).map (·.l)) ≤ totL (X.map (·.l)) := by rw [List.map_take]; exact totL_takeLe _ _
                  have h5 : totL ((X2.take (i + 1)).map (·.l)) ≤ totL (X2.map (·.l)) := by rw [List.map_take]; exact totL_takeLe _ _
                  rw [hzl, hnz] at h2
                  omega
                have HZL := Lib.hid hzl
                have HNZ := Lib.hid hnz
                obtain ⟨zp, hzp⟩ : ∃ zp, z.p = zp := ⟨_, rfl⟩
                obtain ⟨zA, hzA⟩ : ∃ zA, z.A = zA := ⟨_, rfl⟩
                obtain ⟨zc, hzc⟩ : ∃ zc, z.c = zc := ⟨_, rfl⟩
                rw [hzp] at b4c z0
                rw [hzA, hzc] at z0
                rw [hzA] at HSZ
                clear hz1 hzl hnz hzp hzA hzc
                have hll : LS.length = i := by
                  have := congrArg List.length HLM.out
                  rw [List.length_map, List.length_map, List.length_take, late_len HLT.out, HXL.out] at this
                  omega
                rw [hll] at HM7 ⊢
                have HLL := Lib.hid hll
                clear hll
                go_wp2_with (at_builtin; refine wpList_app rfl (.const (.slice none 0 0)) (.tmp 82) rfl uSlE infoE rfl (by decide) (by decide) okE (.slice none 0 0) [] rfl (base := W7.heap.size) ?c1 zA zc zl (by rw [HNZ.out]; rfl) ?c2 ?c3 ?c4 ?_)
                case c1 => exact Own.nil _ _ _ _ _
                case c2 => exact HSZ.out
                case c3 => have := HNZ.out; simp; omega
                try (case c4 => exact Nat.le_refl _)
                intro v27 Wd ho27 hg27 hat27
                obtain ⟨A27, c27, rfl⟩ := own_slice ho27
                try simp only [List.nil_append] at ho27
                try simp only [List.nil_append]
                have hbd : Below W7.heap.size W7 Wd := (Upd.of_grown (S := fun _ => False) hg27 (fun j hj => by cases hj)).bel (fun _ h => h.elim) (Nat.le_refl _)
                have hsd := hbd.size
                have HMD2 := Lib.hid (HM7.out.later hbd)
                have HO27 := Lib.hid ho27
                have HBD := Lib.hid hbd
                have hw67 := HU7.out.size
                clear ho27 hg27 hat27 hbd
                go_wp2_with (at_builtin; refine wpList_app rfl (.tmp 75) (.tmp 84) rfl uSlEE infoEE rfl (by decide) (by decide) okHE (.slice ALs i cLs) LS rfl (base := W6.heap.size) ?d1 (some ⟨Wd.heap.size, 0, none⟩) 1 [((A27, c27, zl) : HE)] rfl ?d2 ?d3 ?d4 ?_)
                case d1 => exact HMD2.out.own.below ((Below.refl _ _).alloc (Nat.le_refl _) _)
                case d2 => exact Sl.one okHE Wd _ _ rfl
                case d3 => have := HLL.out; simp only [this, List.length_cons, List.length_nil]; omega
                case d4 => simp; omega
                intro v5' We ho5 hg5 hat5
                have hadr := own_addr HO27.out
                have hme := (HMD2.out.later ((Below.refl Wd.heap.size Wd).alloc (Nat.le_refl _) (.cells #[.slice A27 zl.length c27] 27))).snoc (x := ((A27, c27, zl) : HE)) ((own_sl HO27.out (fun x => (okE x).1)).later ((Below.refl _ _).alloc (Nat.le_refl _) _)) (fun b o e => by
                  have h1 := hadr b o e
                  refine ⟨by omega, by simp; omega, fun e2 => ?_⟩
                  have := (HM7.out.own.block_lt e2).2
                  omega) ho5 hg5 (by
                  rcases hat5 with h | h
                  · exact .inl h
                  · exact .inr ⟨_, h, by simp⟩)
                have HME := Lib.hid hme
                have ue : Upd (fun k => W6.heap.size ≤ k) W7 We := (((Upd.of_below HBD.out).trans (Upd.alloc _ _)).trans (Upd.of_grown hg5 (fun k hk => (HM7.out.own.block_lt hk).1)))
                have HUE := Lib.hid (show Upd (fun k => InU X k ∨ W6.heap.size ≤ k) W6 We from HU7.out.trans (ue.mono fun k hk => .inr hk))
                have HLE := Lib.hid (HLT7.out.later ue (fun k hk => Nat.le_trans HN6.out hk))
                have HRE := Lib.hid (HR7.out.upd ue (fun k hk h => by have := (HRL.out k hk); omega))
                have HRE2 := Lib.hid (HR72.out.upd ue (fun k hk h => by have := (HRL2.out k hk); omega))
                have HLN := Lib.hid (show (LS ++ [((A27, c27, zl) : HE)]).map (·.2.2) = (Z'.take (i + 1)).map (·.l) from by rw [List.map_append, HLM.out, take_suc HZ.out, List.map_append, HZT.out]; simp [HZL.out])
                clear ho5 hg5 hat5 hme hadr ue
                go_wp2
                go_roundw
                case rel => exact ⟨i + 1, Z', _, by first | rfl | simp, by omega, HLE.out, HME.out, HLN.out, HRE.out, HRE2.out, HUE.out⟩
                case measure => simp [intOf]; omega
            · have e : n = i := by omega
              subst e
              clear hlt hi
              have hzl : Z.take n = Z := List.take_of_length_le (by rw [late_len HLT.out, HXL.out]; exact Nat.le_refl _)
              rw [hzl] at HLM
              obtain ⟨ls, hls⟩ : ∃ ls, Z.map (·.l) = ls := ⟨_, rfl⟩
              rw [hls] at HLM
              have htot : totL ls ≤ 20000 := by
                have h1 := HLT.out.tot
                rw [hzl, hls] at h1
                have h4 : totL ((X.take n).map (·.l)) ≤ totL (X.map (·.l)) := by rw [List.map_take]; exact totL_takeLe _ _
                have h5 : totL ((X2.take n).map (·.l)) ≤ totL (X2.map (·.l)) := by rw [List.map_take]; exact totL_takeLe _ _
                have := HB20.out
                omega
              have HSR := Lib.hid (show ∀ m, N ≤ m → Srcs m (InU X) (fun _ => SrcsX N Z) (X.map fvS) ls from fun m hm => by
                have h1 := srcs_ex N Z (late_nod HLT.out HMD.out.nod)
                rw [late_fv HLT.out, hls] at h1
                exact h1.mono hm (fun k hk => late_in HLT.out hk))
              have hsx7 : SrcsX N Z W7 := ⟨_, HLT.out.src⟩
              have hs67 := HU7.out.size
              have hit := HITF.out W4.heap.size (InU X) (fun _ => SrcsX N Z) ls (Nat.le_refl _) (HSR.out _ (by omega)) (fun _ => (srcsX_firm N Z).mono (by omega)) (fun k hk => by have := (HLOW.out k hk).2; omega) (by omega)
              have hdf7 : HDf W7 := HSTF.out _ W6 W7 HDF6.out HU7.out (fun k hk => by
                rcases hk with hk | hk
                · exact .inl (by have := (HLOW.out k hk).2; omega)
                · exact .inr (by omega))
              have hdg7 : HDg W7 := HSTG.out _ W6 W7 HDG6.out HU7.out (fun k hk => by
                rcases hk with hk | hk
                · exact .inl (by have := (HLOW.out k hk).2; omega)
                · exact .inr (by omega))
              have hfm : Firm W4.heap.size (fun W => SrcsX N Z W ∧ HDf W ∧ W4.heap.size ≤ W.heap.size) := ((srcsX_firm N Z).mono (by omega)).and (HSTF.out.firm.and (fun W W' h u => Nat.le_trans h u.size))
              have HTK := Lib.hid (taken11_c (valF f) (-1) W4.heap.size (InU X) _ _ (mergeL ls) W7 hit hfm hfm ⟨hsx7, hdf7, by omega⟩ (by omega) (by rw [mergeL_length]; omega))
              have HDG7 := Lib.hid hdg7
              clear hit hdf7 hdg7 hfm hsx7 hzl
              have hll : LS.length = n := by
                have h1 := congrArg List.length HLM.out
                rw [List.length_map, ← hls, List.length_map, late_len HLT.out, HXL.out] at h1
                exact h1
              rw [hll] at HM7 ⊢
              have HLL := Lib.hid hll
              clear hll
              go_wp2_with fail
              refine HTK.out.mono ?_
              clear HTK
              rintro _ W8 ⟨vt, rfl, hvt, hut, hit8⟩
              rw [if_neg (by decide)] at hit8
              rw [show ∀ l : List Ent, takeN (-1) l = l from fun _ => rfl] at hvt
              obtain ⟨Ax, cx, rfl⟩ := own_slice hvt
              have hs78 := hut.size
              have hdg8 : HDg W8 := HSTG.out _ W7 W8 HDG7.out hut (fun k hk => .inl (by have := (HLOW.out k hk).2; omega))
              have hkv := HITG.out (InU X) (fun _ => SrcsX N Z) ls (HSR.out _ (by omega)) (fun _ => (srcsX_firm N Z).mono (by omega)) (fun k hk => by have := (HLOW.out k hk).2; omega) (by omega)
              have hfg : Firm W5.heap.size (fun W => SrcsX N Z W ∧ HDg W) := ((srcsX_firm N Z).mono (by omega)).and HSTG.out.firm
              have HRU := Lib.hid (runs11_c g (-1) W5.heap.size (InU X) _ _ _ W8 hkv hfg hfg ⟨hit8.1, hdg8⟩ (by omega) (Nat.lt_of_le_of_lt (groups_len _) (by rw [mergeL_length]; omega)) (fun x hx => Nat.lt_of_le_of_lt (groups_each _ x hx) (by rw [mergeL_length]; omega)))
              have HVT := Lib.hid hvt
              have HM8 := Lib.hid (show MadeE W8 W6.heap.size (.slice ALs n cLs) LS from HM7.out.same (hut.same (T := fun k => W6.heap.size ≤ k ∧ k < W7.heap.size) fun k hk => ⟨hk.2, fun e => by have := (HLOW.out _ e).2; omega⟩) (fun k hk => by
                rcases hk with hk | ⟨h, hh, o, e⟩
                · exact HM7.out.own.block_lt hk
                · exact ⟨(HM7.out.far h hh k o e).1, (HM7.out.far h hh k o e).2.1⟩))
              have HU8 := Lib.hid (HU7.out.trans (hut.mono fun k hk => .inl hk))
              clear hkv hfg hdg8 hit8 hvt hut HM7 HU7
              go_wp2_with fail
              refine HRU.out.mono ?_
              clear HRU
              rintro _ W9 ⟨vG, LG, rfl, hLG, hmG, hug, _⟩
              rw [show ∀ l : List (List Ent), takeN (-1) l = l from fun _ => rfl] at hLG
              obtain ⟨AG, cG, rfl⟩ := own_slice hmG.own
              have hs89 := hug.size
              have HM9 := Lib.hid (show MadeE W9 W6.heap.size (.slice ALs n cLs) LS from HM8.out.same (hug.same (T := fun k => W6.heap.size ≤ k ∧ k < W8.heap.size) fun k hk => ⟨hk.2, fun e => by have := (HLOW.out _ e).2; omega⟩) (fun k hk => by
                rcases hk with hk | ⟨h, hh, o, e⟩
                · exact HM8.out.own.block_lt hk
                · exact ⟨(HM8.out.far h hh k o e).1, (HM8.out.far h hh k o e).2.1⟩))
              have HV9 := Lib.hid (HVT.out.upd hug (fun k hk h => by have := (HLOW.out _ h).2; have := (HVT.out.block_lt hk).1; omega))
              have HU9 := Lib.hid (HU8.out.trans (hug.mono fun k hk => .inl hk))
              have HMG := Lib.hid hmG
              have HLG := Lib.hid hLG
              have HB9 := Lib.hid (show Below w.heap.size w W9 from HB6.out.trans (HU9.out.bel (fun k hk => by
                rcases hk with hk | hk
                · exact (HLOW.out k hk).1
                · exact Nat.le_trans HB6.out.size hk) HB6.out.size))
              have HRF := Lib.hid (fun (W : World) (hb : Below W9.heap.size W9 W) => refOf_c ALs cLs LS W (HM9.out.later hb).sl2.2 (by rw [HLM.out, HLL.out]; have := HBD.out; omega))
              have HRK := Lib.hid (fun (W : World) (hb : Below W9.heap.size W9 W) => refKeys_c ALs cLs LS W (HM9.out.later hb).sl2.2 (by rw [HLM.out, HLL.out]; have := HBD.out; omega))
              rw [HLM.out, HLL.out] at HRF HRK
              obtain ⟨mg, hmg⟩ : ∃ mg, mergeL ls = mg := ⟨_, rfl⟩
              rw [hmg] at HRF HRK HLG HV9 ⊢
              clear hug hLG hmG HM8 HU8 hmg
              go_wp2_with fail
              refine (HRF.out W9 (Below.refl _ _)).mono ?_
              rintro _ WA ⟨vr, rfl, hvr, hba⟩
              obtain ⟨Ar, cr, rfl⟩ := own_slice hvr
              have HSE := Lib.hid (sameEntries11_c Ax cx mg Ar cr mg WA (own_sl (HV9.out.below hba) (fun x => (okE x).1)) (own_sl hvr (fun x => (okE x).1)))
              rw [decide_eq_true rfl] at HSE
              have HBA := Lib.hid hba
              clear hvr hba
              go_wp2_with fail
              refine HSE.out.mono ?_
              clear HSE
              rintro _ WB ⟨rfl, hbb⟩
              have HBB := Lib.hid (HBA.out.trans (hbb.mono HBA.out.size))
              clear hbb HBA
              go_wp2_with fail
              refine (HRK.out WB HBB.out).mono ?_
              rintro _ WC ⟨vk, LK, rfl, hlk, hmk, hbc⟩
              obtain ⟨Ak, ck, rfl⟩ := own_slice hmk.own
              have HBC := Lib.hid (HBB.out.trans (hbc.mono HBB.out.size))
              have HSR2 := Lib.hid (sameRuns11_c AG cG LG Ak ck LK WC (HMG.out.later HBC.out).sl2.2 hmk.sl2.2 (by rw [HLG.out, hlk]))
              clear hlk hmk hbc HBB
              go_wp2_with fail
              refine HSR2.out.mono ?_
              rintro _ WD ⟨rfl, hbd9⟩
              have HBZ := Lib.hid ((HB9.out.trans (HBC.out.mono HB9.out.size)).trans (hbd9.mono (Nat.le_trans HB9.out.size HBC.out.size)))
              clear hbd9 HSR2
              go_wp2
              go_ret
              exact ⟨rfl, HBZ.out⟩
theorem mergeLate_w (A : Option Addr) (c : Nat) (l : List (List Ent)) (B : Option Addr) (d : Nat) (m : List (List Ent)) (w : World) (hb : ∃ L : List HE, L.map (·.2.2) = l ∧ Sl2 w A L) (hb2 : ∃ L : List HE, L.map (·.2.2) = m ∧ Sl2 w B L)
    (hok : ∀ y ∈ l, ∀ x ∈ y, x.1.size ≤ 140737488351232 ∧ x.2.2.2.size ≤ 140737488351232) (hok2 : ∀ y ∈ m, ∀ x ∈ y, x.1.size ≤ 140737488351232 ∧ x.2.2.2.size ≤ 140737488351232) :
    Calls Try.prog 4 #[.slice A l.length c, .slice B m.length d] w fun e w' => e = .returned (.bool true) ∧ Below w.heap.size w w' := by
  obtain ⟨L, rfl, hL⟩ := hb
  obtain ⟨M, rfl, hM⟩ := hb2
  rw [List.length_map, List.length_map]
  exact mergeLate_c A c L B d M w hL (fun h hh x hx => hok h.2.2 (List.mem_map_of_mem hh) x hx) hM (fun h hh x hx => hok2 h.2.2 (List.mem_map_of_mem hh) x hx)
end Go.Proofs.Ytdpijhpjicbecaa.H
