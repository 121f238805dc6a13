/- MergeParts. Conditions: sizes. (genpart.py) -/
import Derived.Test.YtdpijhpjicbecaaGNest
import Derived.Deep.DeepCutAuto
namespace Go.Proofs.Ytdpijhpjicbecaa.H
open Go Go.RowKit Go.Deep Go.Shelf Go.Proofs Go.Proofs.YtdpijhpjicbecaaW.PrintWords
set_option linter.unusedVariables false
set_option linter.unusedSimpArgs false
attribute [local go_sem] Oper.semAt_some
theorem hall2 {P : FV → List Ent → Prop} {f1 f2 : FV} {l1 l2 : List Ent} (h1 : P f1 l1) (h2 : P f2 l2) : ∀ (k : Nat) (f : FV) (l : List Ent), [f1, f2][k]? = some f → [l1, l2][k]? = some l → P f l := fun k f l hf hl => by
  match k with
  | 0 => simp at hf hl; subst hf; subst hl; exact h1
  | 1 => simp at hf hl; subst hf; subst hl; exact h2
  | k + 2 => simp at hf
theorem hall3 {P : FV → List Ent → Prop} {f1 f2 f3 : FV} {l1 l2 l3 : List Ent} (h1 : P f1 l1) (h2 : P f2 l2) (h3 : P f3 l3) : ∀ (k : Nat) (f : FV) (l : List Ent), [f1, f2, f3][k]? = some f → [l1, l2, l3][k]? = some l → P f l := fun k f l hf hl => by
  match k with
  | 0 => simp at hf hl; subst hf; subst hl; exact h1
  | 1 => simp at hf hl; subst hf; subst hl; exact h2
  | 2 => simp at hf hl; subst hf; subst hl; exact h3
  | k + 3 => simp at hf
/-- What stays while the sources are gone through. -/
structure InvP (w : World) (N0 : Nat) (X : List Src) (W : World) : Prop where
  bel : Below w.heap.size w W
  src : SrcsX N0 X W
  sz : N0 ≤ W.heap.size
theorem InvP.later {w : World} {N0 : Nat} {X : List Src} {W W' : World} (h : InvP w N0 X W) (hb : Below W.heap.size W W') : InvP w N0 X W' :=
  ⟨h.bel.trans (hb.mono h.bel.size), h.src.later h.sz hb, Nat.le_trans h.sz hb.size⟩
theorem InvP.updU {w : World} {N0 : Nat} {X : List Src} {W W' : World} (h : InvP w N0 X W) (hl : ∀ s ∈ X, w.heap.size ≤ s.p) (u : Upd (InU X) W W') (hx : SrcsX N0 X W') : InvP w N0 X W' :=
  ⟨h.bel.trans (u.bel (fun k ⟨j, s, hj, e⟩ => by rw [← e]; exact hl s (List.mem_of_getElem? hj)) h.bel.size), hx, Nat.le_trans h.sz u.size⟩
theorem own_updU {N0 base : Nat} {X : List Src} {v : Value} {l : List Ent} {W W' W0 : World} (h : Own encE 53 4 W base v l) (hx : SrcsX N0 X W0) (hb : N0 ≤ base) (u : Upd (InU X) W W') : Own encE 53 4 W' base v l :=
  h.upd u (fun k hk h2 => by have := (h.block_lt hk).1; have := hx.low k h2; omega)
set_option maxHeartbeats 6400000 in
set_option maxRecDepth 100000 in
theorem mergeParts_c (A0 : Option Addr) (c0 : Nat) (l0 : List Ent) (A1 : Option Addr) (c1 : Nat) (l1 : List Ent) (A2 : Option Addr) (c2 : Nat) (l2 : List Ent) (w : World) (hs0 : Sl encE 4 w A0 l0) (hs1 : Sl encE 4 w A1 l1) (hs2 : Sl encE 4 w A2 l2)
    (hok : ∀ h ∈ [(A0, c0, l0), (A1, c1, l1), ((A2, c2, l2) : HE)], ∀ x ∈ h.2.2, x.1.size ≤ 140737488351232 ∧ x.2.2.2.size ≤ 140737488351232) :
    Calls Try.prog 6 #[.slice A0 l0.length c0, .slice A1 l1.length c1, .slice A2 l2.length c2] w fun e w' => e = .returned (.bool true) ∧ Below w.heap.size w w' := by
  have HK := Lib.hid (known11_c w)
  have HS0 := Lib.hid hs0
  have HS1 := Lib.hid hs1
  have HS2 := Lib.hid hs2
  have HOK := Lib.hid hok
  clear hs0 hs1 hs2 hok
  go_enter Try.func6, Try.ntmps6
  go_wp2_with fail
  refine HK.out.mono ?_
  rintro _ w1 ⟨rfl, hb1⟩
  obtain ⟨w1', hw1'⟩ : ∃ Z, w1.alloc (.cells #[.slice A0 l0.length c0, .slice A1 l1.length c1, .slice A2 l2.length c2] 27) = Z := ⟨_, rfl⟩
  have hb1' : Below w1.heap.size w1 w1' := by rw [← hw1']; exact (Below.refl _ _).alloc (Nat.le_refl _) _
  have hbw := hb1.trans (hb1'.mono hb1.size)
  have HF := few11_c (some ⟨w1.heap.size, 0, none⟩) 3 [(A0, c0, l0), (A1, c1, l1), ((A2, c2, l2) : HE)] w1' ⟨by rw [← hw1']; exact Sl.of_block (fun x => (okHE x).1) (heap_alloc_new _ _) (by rfl) (by simp), fun x hx => by
    simp at hx
    rcases hx with rfl | rfl | rfl
    · exact HS0.out.later hbw
    · exact HS1.out.later hbw
    · exact HS2.out.later hbw⟩ HOK.out
  have HBW := Lib.hid hbw
  clear HK hb1 hb1' hbw
  go_wp2_with fail
  refine HF.mono ?_
  clear HF
  rintro _ Wi ⟨b, rfl, hbd, hb2⟩
  have HB := Lib.hid (HBW.out.trans (hb2.mono HBW.out.size))
  clear hb2 HBW
  cases b with
  | false =>
    go_wp2
    go_ret
    exact ⟨rfl, HB.out⟩
  | true =>
    have hbd := hbd rfl
    have HLE := Lib.hid (show l0.length + l1.length + l2.length ≤ 10000 from by rw [sumL_tot] at hbd; simp [totL] at hbd; omega)
    clear hbd
    have HST := Lib.hid (SrcSt.nil Wi w.heap.size)
    go_wp2_with fail
    refine (risen_c A0 c0 l0 Wi (HS0.out.later HB.out) (by have := HLE.out; omega)).mono ?_
    rintro _ Wa ⟨va, rfl, hva, hba⟩
    obtain ⟨Ar1, cr1, rfl⟩ := own_slice hva
    obtain ⟨r1, hr1⟩ : ∃ r, risenL l0 = r := ⟨_, rfl⟩
    rw [hr1] at hva ⊢
    have HR1 := Lib.hid hr1
    obtain ⟨Wb, hWb⟩ : ∃ Z, Wa.alloc (.cells #[.slice Ar1 r1.length cr1, .int .i64 0, .int .i64 0] 39) = Z := ⟨_, rfl⟩
    have hbb : Below Wa.heap.size Wa Wb := by rw [← hWb]; exact (Below.refl _ _).alloc (Nat.le_refl _) _
    have hbi : Below Wi.heap.size Wi Wb := hba.trans (hbb.mono hba.size)
    have hadr := own_addr hva
    have hszb : Wb.heap.size = Wa.heap.size + 1 := by rw [← hWb]; simp
    have hst := HST.out.add hbi HB.out.size ⟨Wa.heap.size, Ar1, cr1, r1⟩ (by rw [← hWb]; exact heap_alloc_new _ _) ((own_sl hva (fun x => (okE x).1)).later hbb) hba.size (fun b o e => by have := hadr b o e; refine ⟨this.1, by omega, ?_⟩; show b ≠ Wa.heap.size; omega)
    have HB2 := Lib.hid (HB.out.trans (hbi.mono HB.out.size))
    have HST2 := Lib.hid hst
    obtain ⟨p1, hp1⟩ : ∃ p, Wa.heap.size = p := ⟨_, rfl⟩
    have HPP1 := Lib.hid hp1
    have HWB1 := Lib.hid hWb
    rw [hp1] at HST2
    simp only [List.nil_append, List.cons_append] at HST2
    clear hva hba hbb hbi hadr hszb hst HB HST hr1 hp1
    have HST := HST2
    have HB := HB2
    clear HST2 HB2
    generalize Wb = Wi at *
    go_wp2_with fail
    refine (risen_c A1 c1 l1 Wi (HS1.out.later HB.out) (by have := HLE.out; omega)).mono ?_
    rintro _ Wa ⟨va, rfl, hva, hba⟩
    obtain ⟨Ar2, cr2, rfl⟩ := own_slice hva
    obtain ⟨r2, hr2⟩ : ∃ r, risenL l1 = r := ⟨_, rfl⟩
    rw [hr2] at hva ⊢
    have HR2 := Lib.hid hr2
    obtain ⟨Wb, hWb⟩ : ∃ Z, Wa.alloc (.cells #[.slice Ar2 r2.length cr2, .int .i64 0, .int .i64 0] 39) = Z := ⟨_, rfl⟩
    have hbb : Below Wa.heap.size Wa Wb := by rw [← hWb]; exact (Below.refl _ _).alloc (Nat.le_refl _) _
    have hbi : Below Wi.heap.size Wi Wb := hba.trans (hbb.mono hba.size)
    have hadr := own_addr hva
    have hszb : Wb.heap.size = Wa.heap.size + 1 := by rw [← hWb]; simp
    have hst := HST.out.add hbi HB.out.size ⟨Wa.heap.size, Ar2, cr2, r2⟩ (by rw [← hWb]; exact heap_alloc_new _ _) ((own_sl hva (fun x => (okE x).1)).later hbb) hba.size (fun b o e => by have := hadr b o e; refine ⟨this.1, by omega, ?_⟩; show b ≠ Wa.heap.size; omega)
    have HB2 := Lib.hid (HB.out.trans (hbi.mono HB.out.size))
    have HST2 := Lib.hid hst
    obtain ⟨p2, hp2⟩ : ∃ p, Wa.heap.size = p := ⟨_, rfl⟩
    have HPP2 := Lib.hid hp2
    have HWB2 := Lib.hid hWb
    rw [hp2] at HST2
    simp only [List.nil_append, List.cons_append] at HST2
    clear hva hba hbb hbi hadr hszb hst HB HST hr2 hp2
    have HST := HST2
    have HB := HB2
    clear HST2 HB2
    generalize Wb = Wi at *
    go_wp2_with fail
    refine (risen_c A2 c2 l2 Wi (HS2.out.later HB.out) (by have := HLE.out; omega)).mono ?_
    rintro _ Wa ⟨va, rfl, hva, hba⟩
    obtain ⟨Ar3, cr3, rfl⟩ := own_slice hva
    obtain ⟨r3, hr3⟩ : ∃ r, risenL l2 = r := ⟨_, rfl⟩
    rw [hr3] at hva ⊢
    have HR3 := Lib.hid hr3
    obtain ⟨Wb, hWb⟩ : ∃ Z, Wa.alloc (.cells #[.slice Ar3 r3.length cr3, .int .i64 0, .int .i64 0] 39) = Z := ⟨_, rfl⟩
    have hbb : Below Wa.heap.size Wa Wb := by rw [← hWb]; exact (Below.refl _ _).alloc (Nat.le_refl _) _
    have hbi : Below Wi.heap.size Wi Wb := hba.trans (hbb.mono hba.size)
    have hadr := own_addr hva
    have hszb : Wb.heap.size = Wa.heap.size + 1 := by rw [← hWb]; simp
    have hst := HST.out.add hbi HB.out.size ⟨Wa.heap.size, Ar3, cr3, r3⟩ (by rw [← hWb]; exact heap_alloc_new _ _) ((own_sl hva (fun x => (okE x).1)).later hbb) hba.size (fun b o e => by have := hadr b o e; refine ⟨this.1, by omega, ?_⟩; show b ≠ Wa.heap.size; omega)
    have HB2 := Lib.hid (HB.out.trans (hbi.mono HB.out.size))
    have HST2 := Lib.hid hst
    obtain ⟨p3, hp3⟩ : ∃ p, Wa.heap.size = p := ⟨_, rfl⟩
    have HPP3 := Lib.hid hp3
    have HWB3 := Lib.hid hWb
    rw [hp3] at HST2
    simp only [List.nil_append, List.cons_append] at HST2
    clear hva hba hbb hbi hadr hszb hst HB HST hr3 hp3
    have HST := HST2
    have HB := HB2
    clear HST2 HB2
    have HND := Lib.hid HST.out.nod
    have HLOW := Lib.hid HST.out.low
    have HT := Lib.hid (show r1.length + r2.length + r3.length ≤ 10000 from by
      have := risenL_len l0
      have := risenL_len l1
      have := risenL_len l2
      have := HLE.out
      rw [HR1.out] at *
      rw [HR2.out] at *
      rw [HR3.out] at *
      omega)
    have HK1 := Lib.hid (show RisenL r1 from by rw [← HR1.out]; exact risenL_ok _)
    have HK2 := Lib.hid (show RisenL r2 from by rw [← HR2.out]; exact risenL_ok _)
    have HK3 := Lib.hid (show RisenL r3 from by rw [← HR3.out]; exact risenL_ok _)
    obtain ⟨N0, hN0⟩ : ∃ N0, Wb.heap.size = N0 := ⟨_, rfl⟩
    obtain ⟨X, hX⟩ : ∃ X, [(⟨p1, Ar1, cr1, r1⟩ : Src), ⟨p2, Ar2, cr2, r2⟩, ⟨p3, Ar3, cr3, r3⟩] = X := ⟨_, rfl⟩
    have HX1 := Lib.hid (show X[0]? = some (⟨p1, Ar1, cr1, r1⟩ : Src) from by rw [← hX]; rfl)
    have HX2 := Lib.hid (show X[1]? = some (⟨p2, Ar2, cr2, r2⟩ : Src) from by rw [← hX]; rfl)
    have HX3 := Lib.hid (show X[2]? = some (⟨p3, Ar3, cr3, r3⟩ : Src) from by rw [← hX]; rfl)
    rw [hX] at HST HND HLOW
    have IV := Lib.hid (show InvP w N0 X Wb from ⟨HB.out, ⟨_, hN0 ▸ HST.out.src⟩, by omega⟩)
    clear HST HB hX hN0
    go_upto_region 6 with fail
    simp only [HPP1.out, HPP2.out, HPP3.out]
    try rw [HWB3.out]
    clear hWb HWB1 HWB2 HWB3 HPP1 HPP2 HPP3
    generalize Wb = Wi at *
    obtain ⟨Wj, hWj⟩ : ∃ Z, Wi.alloc (.cells #[(.func (.func 26) #[.pointer (some ⟨p1, 0, none⟩)] #[]), (.func (.func 26) #[.pointer (some ⟨p2, 0, none⟩)] #[]), (.func (.func 26) #[.pointer (some ⟨p3, 0, none⟩)] #[])] 31) = Z := ⟨_, rfl⟩
    have hb : Below Wi.heap.size Wi Wj := by rw [← hWj]; exact (Below.refl _ _).alloc (Nat.le_refl _) _
    have HSLJ := Lib.hid (show Sl encF 1 Wj (some ⟨Wi.heap.size, 0, none⟩) [(fvS ⟨p1, Ar1, cr1, r1⟩), (fvS ⟨p2, Ar2, cr2, r2⟩), (fvS ⟨p3, Ar3, cr3, r3⟩)] from by rw [← hWj]; exact Sl.of_block (fun x => (okF x).1) (heap_alloc_new _ _) (by rfl) (by simp))
    have T := Lib.hid (IV.out.later hb)
    clear IV
    have IV := T
    clear T
    clear hb
    go_wp2_with fail
    refine (ofNest_c N0 X (some ⟨Wi.heap.size, 0, none⟩) 3 [(fvS ⟨p1, Ar1, cr1, r1⟩), (fvS ⟨p2, Ar2, cr2, r2⟩), (fvS ⟨p3, Ar3, cr3, r3⟩)] [r1, r2, r3] Wj HSLJ.out (fun h => by cases h) rfl (hall3 (srcV N0 X HND.out HX1.out Wj IV.out.sz) (srcV N0 X HND.out HX2.out Wj IV.out.sz) (srcV N0 X HND.out HX3.out Wj IV.out.sz)) IV.out.src IV.out.sz (by have := HT.out; simp only [totL, List.map_cons, List.map_nil, List.sum_cons, List.sum_nil, mergeL_length]; omega) (by simp)).mono ?_
    rintro _ Wk ⟨gA, rfl, hb, hof⟩
    have T := Lib.hid (IV.out.later hb)
    clear IV
    have IV := T
    clear T
    have HgA := Lib.hid hof
    clear hof hb HSLJ hWj
    generalize Wk = Wi at *
    go_wp2_with fail
    refine (takenOf_c N0 X gA _ (-1) Wi HgA.out IV.out.src (by rw [mergeL_length]; have := HT.out; simp only [totL, List.map_cons, List.map_nil, List.sum_cons, List.sum_nil, mergeL_length]; omega)).mono ?_
    rintro _ Wl ⟨vt, rfl, hvt, hut, hxt⟩
    rw [show ∀ l : List Ent, takeN (-1) l = l from fun _ => rfl] at hvt
    obtain ⟨vaA, vac, rfl⟩ := own_slice hvt
    clear HgA
    have HNva := IV.out.sz
    have T := Lib.hid (IV.out.updU HLOW.out hut hxt)
    clear IV
    have IV := T
    clear T
    have va := Lib.hid (And.intro hvt HNva)
    clear hvt hut hxt HNva
    generalize Wl = Wi at *
    obtain ⟨Wj, hWj⟩ : ∃ Z, Wi.alloc (.cells #[(.func (.func 26) #[.pointer (some ⟨p1, 0, none⟩)] #[]), (.func (.func 26) #[.pointer (some ⟨p2, 0, none⟩)] #[])] 31) = Z := ⟨_, rfl⟩
    have hb : Below Wi.heap.size Wi Wj := by rw [← hWj]; exact (Below.refl _ _).alloc (Nat.le_refl _) _
    have HSLJ := Lib.hid (show Sl encF 1 Wj (some ⟨Wi.heap.size, 0, none⟩) [(fvS ⟨p1, Ar1, cr1, r1⟩), (fvS ⟨p2, Ar2, cr2, r2⟩)] from by rw [← hWj]; exact Sl.of_block (fun x => (okF x).1) (heap_alloc_new _ _) (by rfl) (by simp))
    have T := Lib.hid (show Own encE 53 4 Wj _ (.slice vaA _ vac) _ ∧ N0 ≤ _ from ⟨va.out.1.later' hb, va.out.2⟩)
    clear va
    have va := T
    clear T
    have T := Lib.hid (IV.out.later hb)
    clear IV
    have IV := T
    clear T
    clear hb
    go_wp2_with fail
    refine (ofNest_c N0 X (some ⟨Wi.heap.size, 0, none⟩) 2 [(fvS ⟨p1, Ar1, cr1, r1⟩), (fvS ⟨p2, Ar2, cr2, r2⟩)] [r1, r2] Wj HSLJ.out (fun h => by cases h) rfl (hall2 (srcV N0 X HND.out HX1.out Wj IV.out.sz) (srcV N0 X HND.out HX2.out Wj IV.out.sz)) IV.out.src IV.out.sz (by have := HT.out; simp only [totL, List.map_cons, List.map_nil, List.sum_cons, List.sum_nil, mergeL_length]; omega) (by simp)).mono ?_
    rintro _ Wk ⟨gB, rfl, hb, hof⟩
    have T := Lib.hid (show Own encE 53 4 Wk _ (.slice vaA _ vac) _ ∧ N0 ≤ _ from ⟨va.out.1.later' hb, va.out.2⟩)
    clear va
    have va := T
    clear T
    have T := Lib.hid (IV.out.later hb)
    clear IV
    have IV := T
    clear T
    have HgB := Lib.hid hof
    clear hof hb HSLJ hWj
    generalize Wk = Wi at *
    simp only [valF]
    obtain ⟨Wj, hWj⟩ : ∃ Z, Wi.alloc (.cells #[(.func (.func gB.1) gB.2.1 gB.2.2), (.func (.func 26) #[.pointer (some ⟨p3, 0, none⟩)] #[])] 31) = Z := ⟨_, rfl⟩
    have hb : Below Wi.heap.size Wi Wj := by rw [← hWj]; exact (Below.refl _ _).alloc (Nat.le_refl _) _
    have HSLJ := Lib.hid (show Sl encF 1 Wj (some ⟨Wi.heap.size, 0, none⟩) [gB, (fvS ⟨p3, Ar3, cr3, r3⟩)] from by rw [← hWj]; exact Sl.of_block (fun x => (okF x).1) (heap_alloc_new _ _) (by rfl) (by simp))
    have T := Lib.hid (show Own encE 53 4 Wj _ (.slice vaA _ vac) _ ∧ N0 ≤ _ from ⟨va.out.1.later' hb, va.out.2⟩)
    clear va
    have va := T
    clear T
    have T := Lib.hid (show OfV N0 X gB (mergeL [r1, r2]) Wj from HgB.out.later hb)
    clear HgB
    have HgB := T
    clear T
    have T := Lib.hid (IV.out.later hb)
    clear IV
    have IV := T
    clear T
    clear hb
    go_wp2_with fail
    refine (ofNest_c N0 X (some ⟨Wi.heap.size, 0, none⟩) 2 [gB, (fvS ⟨p3, Ar3, cr3, r3⟩)] [mergeL [r1, r2], r3] Wj HSLJ.out (fun h => by cases h) rfl (hall2 HgB.out (srcV N0 X HND.out HX3.out Wj IV.out.sz)) IV.out.src IV.out.sz (by have := HT.out; simp only [totL, List.map_cons, List.map_nil, List.sum_cons, List.sum_nil, mergeL_length]; omega) (by simp)).mono ?_
    rintro _ Wk ⟨gC, rfl, hb, hof⟩
    have T := Lib.hid (show Own encE 53 4 Wk _ (.slice vaA _ vac) _ ∧ N0 ≤ _ from ⟨va.out.1.later' hb, va.out.2⟩)
    clear va
    have va := T
    clear T
    have T := Lib.hid (show OfV N0 X gB (mergeL [r1, r2]) Wk from HgB.out.later hb)
    clear HgB
    have HgB := T
    clear T
    have T := Lib.hid (IV.out.later hb)
    clear IV
    have IV := T
    clear T
    have HgC := Lib.hid hof
    clear hof hb HSLJ hWj
    generalize Wk = Wi at *
    go_wp2_with fail
    refine (takenOf_c N0 X gC _ (-1) Wi HgC.out IV.out.src (by rw [mergeL_length]; have := HT.out; simp only [totL, List.map_cons, List.map_nil, List.sum_cons, List.sum_nil, mergeL_length]; omega)).mono ?_
    rintro _ Wl ⟨vt, rfl, hvt, hut, hxt⟩
    rw [show ∀ l : List Ent, takeN (-1) l = l from fun _ => rfl] at hvt
    obtain ⟨vbA, vbc, rfl⟩ := own_slice hvt
    clear HgC
    have HNvb := IV.out.sz
    have T := Lib.hid (show Own encE 53 4 Wl _ (.slice vaA _ vac) _ ∧ N0 ≤ _ from ⟨own_updU va.out.1 IV.out.src va.out.2 hut, va.out.2⟩)
    clear va
    have va := T
    clear T
    have T := Lib.hid (show OfV N0 X gB (mergeL [r1, r2]) Wl from HgB.out.updU hut)
    clear HgB
    have HgB := T
    clear T
    have T := Lib.hid (IV.out.updU HLOW.out hut hxt)
    clear IV
    have IV := T
    clear T
    have vb := Lib.hid (And.intro hvt HNvb)
    clear hvt hut hxt HNvb
    generalize Wl = Wi at *
    clear HgB
    obtain ⟨Wj, hWj⟩ : ∃ Z, Wi.alloc (.cells #[(.func (.func 26) #[.pointer (some ⟨p2, 0, none⟩)] #[]), (.func (.func 26) #[.pointer (some ⟨p3, 0, none⟩)] #[])] 31) = Z := ⟨_, rfl⟩
    have hb : Below Wi.heap.size Wi Wj := by rw [← hWj]; exact (Below.refl _ _).alloc (Nat.le_refl _) _
    have HSLJ := Lib.hid (show Sl encF 1 Wj (some ⟨Wi.heap.size, 0, none⟩) [(fvS ⟨p2, Ar2, cr2, r2⟩), (fvS ⟨p3, Ar3, cr3, r3⟩)] from by rw [← hWj]; exact Sl.of_block (fun x => (okF x).1) (heap_alloc_new _ _) (by rfl) (by simp))
    have T := Lib.hid (show Own encE 53 4 Wj _ (.slice vaA _ vac) _ ∧ N0 ≤ _ from ⟨va.out.1.later' hb, va.out.2⟩)
    clear va
    have va := T
    clear T
    have T := Lib.hid (show Own encE 53 4 Wj _ (.slice vbA _ vbc) _ ∧ N0 ≤ _ from ⟨vb.out.1.later' hb, vb.out.2⟩)
    clear vb
    have vb := T
    clear T
    have T := Lib.hid (IV.out.later hb)
    clear IV
    have IV := T
    clear T
    clear hb
    go_wp2_with fail
    refine (ofNest_c N0 X (some ⟨Wi.heap.size, 0, none⟩) 2 [(fvS ⟨p2, Ar2, cr2, r2⟩), (fvS ⟨p3, Ar3, cr3, r3⟩)] [r2, r3] Wj HSLJ.out (fun h => by cases h) rfl (hall2 (srcV N0 X HND.out HX2.out Wj IV.out.sz) (srcV N0 X HND.out HX3.out Wj IV.out.sz)) IV.out.src IV.out.sz (by have := HT.out; simp only [totL, List.map_cons, List.map_nil, List.sum_cons, List.sum_nil, mergeL_length]; omega) (by simp)).mono ?_
    rintro _ Wk ⟨gD, rfl, hb, hof⟩
    have T := Lib.hid (show Own encE 53 4 Wk _ (.slice vaA _ vac) _ ∧ N0 ≤ _ from ⟨va.out.1.later' hb, va.out.2⟩)
    clear va
    have va := T
    clear T
    have T := Lib.hid (show Own encE 53 4 Wk _ (.slice vbA _ vbc) _ ∧ N0 ≤ _ from ⟨vb.out.1.later' hb, vb.out.2⟩)
    clear vb
    have vb := T
    clear T
    have T := Lib.hid (IV.out.later hb)
    clear IV
    have IV := T
    clear T
    have HgD := Lib.hid hof
    clear hof hb HSLJ hWj
    generalize Wk = Wi at *
    simp only [valF]
    obtain ⟨Wj, hWj⟩ : ∃ Z, Wi.alloc (.cells #[(.func (.func 26) #[.pointer (some ⟨p1, 0, none⟩)] #[]), (.func (.func gD.1) gD.2.1 gD.2.2)] 31) = Z := ⟨_, rfl⟩
    have hb : Below Wi.heap.size Wi Wj := by rw [← hWj]; exact (Below.refl _ _).alloc (Nat.le_refl _) _
    have HSLJ := Lib.hid (show Sl encF 1 Wj (some ⟨Wi.heap.size, 0, none⟩) [(fvS ⟨p1, Ar1, cr1, r1⟩), gD] from by rw [← hWj]; exact Sl.of_block (fun x => (okF x).1) (heap_alloc_new _ _) (by rfl) (by simp))
    have T := Lib.hid (show Own encE 53 4 Wj _ (.slice vaA _ vac) _ ∧ N0 ≤ _ from ⟨va.out.1.later' hb, va.out.2⟩)
    clear va
    have va := T
    clear T
    have T := Lib.hid (show Own encE 53 4 Wj _ (.slice vbA _ vbc) _ ∧ N0 ≤ _ from ⟨vb.out.1.later' hb, vb.out.2⟩)
    clear vb
    have vb := T
    clear T
    have T := Lib.hid (show OfV N0 X gD (mergeL [r2, r3]) Wj from HgD.out.later hb)
    clear HgD
    have HgD := T
    clear T
    have T := Lib.hid (IV.out.later hb)
    clear IV
    have IV := T
    clear T
    clear hb
    go_wp2_with fail
    refine (ofNest_c N0 X (some ⟨Wi.heap.size, 0, none⟩) 2 [(fvS ⟨p1, Ar1, cr1, r1⟩), gD] [r1, mergeL [r2, r3]] Wj HSLJ.out (fun h => by cases h) rfl (hall2 (srcV N0 X HND.out HX1.out Wj IV.out.sz) HgD.out) IV.out.src IV.out.sz (by have := HT.out; simp only [totL, List.map_cons, List.map_nil, List.sum_cons, List.sum_nil, mergeL_length]; omega) (by simp)).mono ?_
    rintro _ Wk ⟨gE, rfl, hb, hof⟩
    have T := Lib.hid (show Own encE 53 4 Wk _ (.slice vaA _ vac) _ ∧ N0 ≤ _ from ⟨va.out.1.later' hb, va.out.2⟩)
    clear va
    have va := T
    clear T
    have T := Lib.hid (show Own encE 53 4 Wk _ (.slice vbA _ vbc) _ ∧ N0 ≤ _ from ⟨vb.out.1.later' hb, vb.out.2⟩)
    clear vb
    have vb := T
    clear T
    have T := Lib.hid (show OfV N0 X gD (mergeL [r2, r3]) Wk from HgD.out.later hb)
    clear HgD
    have HgD := T
    clear T
    have T := Lib.hid (IV.out.later hb)
    clear IV
    have IV := T
    clear T
    have HgE := Lib.hid hof
    clear hof hb HSLJ hWj
    generalize Wk = Wi at *
    go_wp2_with fail
    refine (takenOf_c N0 X gE _ (-1) Wi HgE.out IV.out.src (by rw [mergeL_length]; have := HT.out; simp only [totL, List.map_cons, List.map_nil, List.sum_cons, List.sum_nil, mergeL_length]; omega)).mono ?_
    rintro _ Wl ⟨vt, rfl, hvt, hut, hxt⟩
    rw [show ∀ l : List Ent, takeN (-1) l = l from fun _ => rfl] at hvt
    obtain ⟨vcA, vcc, rfl⟩ := own_slice hvt
    clear HgE
    have HNvc := IV.out.sz
    have T := Lib.hid (show Own encE 53 4 Wl _ (.slice vaA _ vac) _ ∧ N0 ≤ _ from ⟨own_updU va.out.1 IV.out.src va.out.2 hut, va.out.2⟩)
    clear va
    have va := T
    clear T
    have T := Lib.hid (show Own encE 53 4 Wl _ (.slice vbA _ vbc) _ ∧ N0 ≤ _ from ⟨own_updU vb.out.1 IV.out.src vb.out.2 hut, vb.out.2⟩)
    clear vb
    have vb := T
    clear T
    have T := Lib.hid (show OfV N0 X gD (mergeL [r2, r3]) Wl from HgD.out.updU hut)
    clear HgD
    have HgD := T
    clear T
    have T := Lib.hid (IV.out.updU HLOW.out hut hxt)
    clear IV
    have IV := T
    clear T
    have vc := Lib.hid (And.intro hvt HNvc)
    clear hvt hut hxt HNvc
    generalize Wl = Wi at *
    have e1 := mergeL_left HK1.out HK2.out HK3.out
    have e2 := mergeL_right HK1.out HK2.out HK3.out
    obtain ⟨mm, hmm⟩ : ∃ mm, mergeL [r1, r2, r3] = mm := ⟨_, rfl⟩
    rw [e1, hmm] at vb
    rw [e2, hmm] at vc
    rw [hmm] at va
    rw [e1, e2, hmm]
    have HSE1 := Lib.hid (fun (W : World) (hb : Below Wi.heap.size Wi W) => sameEntries11_c vaA vac mm vbA vbc mm W (own_sl (va.out.1.later' hb) (fun x => (okE x).1)) (own_sl (vb.out.1.later' hb) (fun x => (okE x).1)))
    have HSE2 := Lib.hid (fun (W : World) (hb : Below Wi.heap.size Wi W) => sameEntries11_c vaA vac mm vcA vcc mm W (own_sl (va.out.1.later' hb) (fun x => (okE x).1)) (own_sl (vc.out.1.later' hb) (fun x => (okE x).1)))
    simp only [decide_true] at HSE1 HSE2
    clear va vb vc e1 e2 hmm
    go_wp2_with fail
    refine (HSE1.out Wi (Below.refl _ _)).mono ?_
    rintro _ W7 ⟨rfl, hb7⟩
    have HS2 := HSE2.out W7 hb7
    have HB7 := Lib.hid (IV.out.later hb7)
    clear hb7
    go_wp2_with fail
    refine HS2.mono ?_
    rintro _ W8 ⟨rfl, hb8⟩
    have HB8 := Lib.hid (HB7.out.later hb8).bel
    clear hb8 HS2
    go_wp2
    go_ret
    exact ⟨rfl, HB8.out⟩
theorem mergeParts_w (A0 : Option Addr) (c0 : Nat) (l0 : List Ent) (A1 : Option Addr) (c1 : Nat) (l1 : List Ent) (A2 : Option Addr) (c2 : Nat) (l2 : List Ent) (w : World) (hs0 : Sl encE 4 w A0 l0) (hs1 : Sl encE 4 w A1 l1) (hs2 : Sl encE 4 w A2 l2)
    (h0 : ∀ x ∈ l0, QEntry x) (h1 : ∀ x ∈ l1, QEntry x) (h2 : ∀ x ∈ l2, QEntry x) :
    Calls Try.prog 6 #[.slice A0 l0.length c0, .slice A1 l1.length c1, .slice A2 l2.length c2] w fun e w' => e = .returned (.bool true) ∧ Below w.heap.size w w' :=
  mergeParts_c A0 c0 l0 A1 c1 l1 A2 c2 l2 w hs0 hs1 hs2 (fun h hh x hx => by
    simp at hh
    rcases hh with rfl | rfl | rfl
    · exact ⟨(h0 x hx).1, (h0 x hx).2.2.2⟩
    · exact ⟨(h1 x hx).1, (h1 x hx).2.2.2⟩
    · exact ⟨(h2 x hx).1, (h2 x hx).2.2.2⟩)
end Go.Proofs.Ytdpijhpjicbecaa.H
