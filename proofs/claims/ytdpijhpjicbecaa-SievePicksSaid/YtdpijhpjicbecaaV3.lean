/- The sieve: the program's Pick. Conditions: sizes; what the function that tells of below answers. -/
import Derived.Test.YtdpijhpjicbecaaV2
namespace Go.Proofs.Ytdpijhpjicbecaa.H
open Go Go.RowKit Go.Deep Go.Shelf Go.Proofs Go.Proofs.YtdpijhpjicbecaaW.PrintWords
set_option linter.unusedVariables false
set_option linter.unusedSimpArgs false
attribute [local go_sem] Oper.semAt_some
/-- A function value that tells of a key, from the world w on. -/
def Tells (f : FV) (b : ByteArray → Bool) (K : ByteArray → Prop) (w : World) : Prop :=
  ∀ (key : ByteArray) (W : World), K key → Below w.heap.size w W → Calls Try.prog f.1 (f.2.1 ++ #[.string key] ++ f.2.2) W fun e W' => e = .returned (.bool (b key)) ∧ Below W.heap.size W W'
theorem newE_self (x : Ent) : newE x x = x := by unfold newE; split <;> rfl
theorem best_fold {l : List Ent} {x : Ent} (h : l[0]? = some x) : bestL l = some (l.foldl newE x) := by
  cases l with
  | nil => cases h
  | cons y r =>
    injection h with h
    subst h
    simp only [bestL, List.foldl_cons, newE_self]
theorem newE_or (p e : Ent) : newE p e = p ∨ newE p e = e := by unfold newE; split <;> simp
theorem fold_mem : ∀ (l : List Ent) (x : Ent), l.foldl newE x = x ∨ l.foldl newE x ∈ l
  | [], x => .inl rfl
  | y :: l, x => by
    rcases fold_mem l (newE x y) with h | h
    · simp only [List.foldl_cons, h]
      rcases newE_or x y with h2 | h2
      · exact .inl h2
      · exact .inr (by rw [h2]; simp)
    · exact .inr (List.mem_cons_of_mem _ h)
theorem best_mem {l : List Ent} {e : Ent} (h : bestL l = some e) : e ∈ l := by
  cases l with
  | nil => cases h
  | cons x r =>
    injection h with h
    rcases fold_mem r x with h2 | h2
    · rw [← h, h2]; simp
    · rw [← h]; exact List.mem_cons_of_mem _ h2
set_option maxHeartbeats 12800000 in
set_option maxRecDepth 100000 in
theorem pick_c (A : Option Addr) (c : Nat) (l : List Ent) (f : FV) (b : ByteArray → Bool) (K : ByteArray → Prop) (w : World) (hs : Sl encE 4 w A l) (hl : ∀ e ∈ l, K e.1)
    (hen : ∀ args w, (callFunc f.1 args).run Try.prog w = .ok (.enter f.1 args) w) (hb : Tells f b K w) :
    Calls Try.prog 32 #[.slice A l.length c, valF f] w fun e w' => e = .returned (pickV (pickL b l)) ∧ Below w.heap.size w w' := by
  have hm := hs.1
  have HS := Lib.hid hs
  have HT := Lib.hid hb
  have HLK := Lib.hid hl
  obtain ⟨gf, fa, lb⟩ := f
  rw [show valF (gf, fa, lb) = .func (.func gf) fa lb from rfl]
  obtain ⟨n, hn⟩ : ∃ n, l.length = n := ⟨_, rfl⟩
  rw [hn] at hm ⊢
  have HN := Lib.hid hn
  clear hs hb hn hl
  dsimp only at hen
  go_enter Try.func32, Try.ntmps32
  by_cases h0 : n = 0
  · have HP := Lib.hid (show pickL b l = none from by rw [List.length_eq_zero_iff.1 (HN.out.trans h0)]; rfl)
    subst h0
    have HR := Lib.hid (heap_alloc_new w (.cells #[.string ⟨#[]⟩, .int .u64 0, .bool false, .string ⟨#[]⟩] 53))
    have HB := Lib.hid ((Below.refl w.heap.size w).alloc (Nat.le_refl _) (.cells #[.string ⟨#[]⟩, .int .u64 0, .bool false, .string ⟨#[]⟩] 53))
    go_wp2_with fail
    refine bodyPost_ret (res_cell_tmp rfl _ _ w.heap.size zeroE _ rfl rfl HR.out) rfl ?_
    exact ⟨by rw [HP.out]; rfl, HB.out⟩
  · obtain ⟨x, hx⟩ := getElem?_of_lt (l := l) (i := 0) (by rw [HN.out]; omega)
    have HX := Lib.hid hx
    have HBF := Lib.hid (best_fold hx)
    obtain ⟨b1, o1, rfl, _, hc1⟩ := HS.out.at hx
    have y0 : w.cell? ⟨b1, o1, none⟩ = some (.string x.1) := by have := hc1 0 _ rfl; simpa using this
    have y1 : w.cell? ⟨b1, o1 + 1, none⟩ = some (.int .u64 x.2.1) := by have := hc1 1 _ rfl; simpa using this
    have y2 : w.cell? ⟨b1, o1 + 2, none⟩ = some (.bool x.2.2.1) := by have := hc1 2 _ rfl; simpa using this
    have y3 : w.cell? ⟨b1, o1 + 3, none⟩ = some (.string x.2.2.2) := by have := hc1 3 _ rfl; simpa using this
    clear hc1 hx
    have j1 : (0 : Int) < n := by omega
    have j2 : ¬ (n : Int) = 0 := by omega
    have j3 : ((n : Int) == 0) = false := by rw [beq_eq_false_iff_ne]; omega
    go_upto_region 3 with fail
    have e0 := cell_later ((Below.refl w.heap.size w).alloc (Nat.le_refl _) (.cells #[.string ⟨#[]⟩, .int .u64 0, .bool false, .string ⟨#[]⟩] 53)) y0
    have e1 := cell_later ((Below.refl w.heap.size w).alloc (Nat.le_refl _) (.cells #[.string ⟨#[]⟩, .int .u64 0, .bool false, .string ⟨#[]⟩] 53)) y1
    have e2 := cell_later ((Below.refl w.heap.size w).alloc (Nat.le_refl _) (.cells #[.string ⟨#[]⟩, .int .u64 0, .bool false, .string ⟨#[]⟩] 53)) y2
    have e3 := cell_later ((Below.refl w.heap.size w).alloc (Nat.le_refl _) (.cells #[.string ⟨#[]⟩, .int .u64 0, .bool false, .string ⟨#[]⟩] 53)) y3
    go_wp2_with fail
    obtain ⟨W3, hW3⟩ : ∃ Z, (w.alloc (.cells #[.string ⟨#[]⟩, .int .u64 0, .bool false, .string ⟨#[]⟩] 53)).alloc (.cells #[.string x.1, .int .u64 x.2.1, .bool x.2.2.1, .string x.2.2.2] 53) = Z := ⟨_, rfl⟩
    have k1 : W3.heap[w.heap.size]? = some (.cells #[.string ⟨#[]⟩, .int .u64 0, .bool false, .string ⟨#[]⟩] 53 (0, 0)) := by rw [← hW3]; exact blk_alloc (heap_alloc_new _ _) _
    have k2 : W3.heap[w.heap.size + 1]? = some (.cells (encE x).toArray 53 (0, 0)) := by rw [← hW3]; simpa [encE] using heap_alloc_new (w.alloc (.cells #[.string ⟨#[]⟩, .int .u64 0, .bool false, .string ⟨#[]⟩] 53)) (.cells #[.string x.1, .int .u64 x.2.1, .bool x.2.2.1, .string x.2.2.2] 53)
    have hb3 : Below w.heap.size w W3 := by rw [← hW3]; exact ((Below.refl _ _).alloc (Nat.le_refl _) _).alloc (by simp) _
    rw [hW3]
    clear hW3 e0 e1 e2 e3 y0 y1 y2 y3
    go_loopw [18] (fun s18 wr => ∃ (k : Nat) (p : Ent), s18 = .int .i64 k ∧ k ≤ n ∧ Below w.heap.size w wr ∧ w.heap.size + 1 < wr.heap.size ∧ wr.heap[w.heap.size]? = some (.cells #[.string ⟨#[]⟩, .int .u64 0, .bool false, .string ⟨#[]⟩] 53 (0, 0)) ∧ wr.heap[w.heap.size + 1]? = some (.cells (encE p).toArray 53 (0, 0)) ∧ (l.take k).foldl newE x = p) (fun s18 wr => n - (intOf s18).toNat)
    case atStart => exact ⟨0, x, rfl, by omega, hb3, blk_lt k2, k1, k2, rfl⟩
    case round =>
      obtain ⟨k, p, rfl, hk, hb4, hsz, hk1, hk2, hfp⟩ := hrel
      generalize wr = W4 at *
      have HB4 := Lib.hid hb4
      have HK1 := Lib.hid hk1
      have HK2 := Lib.hid hk2
      have HFP := Lib.hid hfp
      have HSZ := Lib.hid hsz
      have i0 : (0 : Int) ≤ k := by omega
      obtain ⟨d0, d1, d2, d3, f0, f1, f2, f3⟩ := four (v0 := .string p.1) (v1 := .int .u64 p.2.1) (v2 := .bool p.2.2.1) (v3 := .string p.2.2.2) hk2
      clear hb4 hk1 hk2 hfp hsz k1 k2 hb3
      by_cases hlt : k < n
      · have i1 : (k : Int) < n := by omega
        obtain ⟨y, hy⟩ := getElem?_of_lt (l := l) (by rw [HN.out]; exact hlt : k < l.length)
        have HY := Lib.hid hy
        have hA := (HS.out.later HB4.out).at hy
        obtain ⟨b2, o2, hA2, _, hc2⟩ := hA
        injection hA2 with hA2
        injection hA2 with hA2 hA3
        subst hA2
        subst hA3
        have HYC := Lib.hid (show ∀ i v, (encE y)[i]? = some v → W4.cell? ⟨b1, o1 + k * 4 + i, none⟩ = some v from hc2)
        have z0 : W4.cell? ⟨b1, o1 + k * 4, none⟩ = some (.string y.1) := hc2 0 _ rfl
        have z1 : W4.cell? ⟨b1, o1 + k * 4 + 1, none⟩ = some (.int .u64 y.2.1) := hc2 1 _ rfl
        have z2 : W4.cell? ⟨b1, o1 + k * 4 + 2, none⟩ = some (.bool y.2.2.1) := hc2 2 _ rfl
        have z3 : W4.cell? ⟨b1, o1 + k * 4 + 3, none⟩ = some (.string y.2.2.2) := hc2 3 _ rfl
        have hst : (l.take (k + 1)).foldl newE x = newE p y := by rw [take_suc HY.out, List.foldl_append, HFP.out]; rfl
        have HST := Lib.hid hst
        clear hc2 hy hst
        obtain ⟨W5, hW5⟩ : ∃ Z, W4.alloc (.cells #[.string y.1, .int .u64 y.2.1, .bool y.2.2.1, .string y.2.2.2] 53) = Z := ⟨_, rfl⟩
        have hb5 : Below W4.heap.size W4 W5 := by rw [← hW5]; exact (Below.refl _ _).alloc (Nat.le_refl _) _
        have hk5 := blk_below HK2.out hb5
        have HK5 := Lib.hid (blk_below HK1.out hb5)
        have hky : W5.heap[W4.heap.size]? = some (.cells #[.string y.1, .int .u64 y.2.1, .bool y.2.2.1, .string y.2.2.2] 53 (0, 0)) := by rw [← hW5]; exact heap_alloc_new _ _
        have HB5 := Lib.hid hb5
        have HKP := Lib.hid hk5
        go_upto_region 7 with fail
        try rw [hW5]
        obtain ⟨q0, q1, q2, q3, r0, r1, r2, r3⟩ := four (v0 := .string p.1) (v1 := .int .u64 p.2.1) (v2 := .bool p.2.2.1) (v3 := .string p.2.2.2) hk5
        obtain ⟨t0, t1, t2, t3, _, _, _, _⟩ := four hky
        clear hk5 hky hb5 hW5 d0 d1 d2 d3 f0 f1 f2 f3 z0 z1 z2 z3
        by_cases hg : p.2.1 < y.2.1
        · have HNE := Lib.hid (show newE p y = y from by simp [newE, hg])
          go_wp2_with fail
          go_roundw
          case rel => exact ⟨k + 1, y, by first | rfl | simp, by omega, (HB4.out.trans (HB5.out.mono HB4.out.size)).trans ((upd_put4 W5 (w.heap.size + 1) y).bel (fun k hk => by omega) (by have := HB4.out.size; have := HB5.out.size; omega)), by have := HSZ.out; have := HB5.out.size; have := (upd_put4 W5 (w.heap.size + 1) y).size; exact Nat.lt_of_lt_of_le (by omega) this, (upd_put4 W5 (w.heap.size + 1) y).heap HK5.out (by omega), put4_row HKP.out y, by rw [HST.out, HNE.out]⟩
          case measure => simp [intOf]; omega
        · have HNE := Lib.hid (show newE p y = p from by simp [newE, hg])
          go_wp2_with fail
          go_roundw
          case rel => exact ⟨k + 1, p, by first | rfl | simp, by omega, HB4.out.trans (HB5.out.mono HB4.out.size), by have := HSZ.out; have := HB5.out.size; omega, HK5.out, HKP.out, by rw [HST.out, HNE.out]⟩
          case measure => simp [intOf]; omega
      · have hkn : n = k := by omega
        subst hkn
        have HPB := Lib.hid (show bestL l = some p from by rw [HBF.out, ← HFP.out, ← HN.out, List.take_length])
        clear HBF HFP
        obtain ⟨pk, ps, pd, pv⟩ := p
        dsimp only at d0 d1 d2 d3
        cases pd with
        | false =>
          have HP := Lib.hid (show pickL b l = some (pk, ps, false, pv) from by simp [pickL, HPB.out])
          obtain ⟨t0, t1, t2, t3, s0, s1, s2, s3⟩ := four HK1.out
          have HR := Lib.hid (put4_row HK1.out (pk, ps, false, pv))
          have HBE := Lib.hid (HB4.out.trans ((upd_put4 W4 w.heap.size (pk, ps, false, pv)).bel (fun k hk => by omega) HB4.out.size))
          go_wp2_with fail
          refine bodyPost_ret (res_cell_tmp rfl _ _ w.heap.size (pk, ps, false, pv) _ rfl rfl HR.out) rfl ?_
          exact ⟨by rw [HP.out]; rfl, HBE.out⟩
        | true =>
          have HC := Lib.hid (HT.out pk W4 (HLK.out _ (best_mem HPB.out)) HB4.out)
          dsimp only at HC
          cases hf : b pk with
          | false =>
            have HP := Lib.hid (show pickL b l = none from by simp [pickL, HPB.out, hf])
            rw [hf] at HC
            go_upto_region 11 with (go_at_fn gf; refine HC.out.mono ?_; rintro _ W5 ⟨rfl, hb5⟩)
            have HB5 := Lib.hid (HB4.out.trans (hb5.mono HB4.out.size))
            have hk5 := blk_below HK1.out hb5
            obtain ⟨t0, t1, t2, t3, s0, s1, s2, s3⟩ := four hk5
            have HR := Lib.hid (put4_row hk5 zeroE)
            have HBE := Lib.hid (HB5.out.trans ((upd_put4 W5 w.heap.size zeroE).bel (fun k hk => by omega) HB5.out.size))
            clear hk5 hb5
            go_wp2_with fail
            refine bodyPost_ret (res_cell_tmp rfl _ _ w.heap.size zeroE _ rfl rfl HR.out) rfl ?_
            exact ⟨by rw [HP.out]; rfl, HBE.out⟩
          | true =>
            have HP := Lib.hid (show pickL b l = some (pk, ps, true, pv) from by simp [pickL, HPB.out, hf])
            rw [hf] at HC
            go_upto_region 12 with (go_at_fn gf; refine HC.out.mono ?_; rintro _ W5 ⟨rfl, hb5⟩)
            have HB5 := Lib.hid (HB4.out.trans (hb5.mono HB4.out.size))
            have hk5 := blk_below HK1.out hb5
            have hkp := blk_below HK2.out hb5
            obtain ⟨q0, q1, q2, q3, _, _, _, _⟩ := four (v0 := .string pk) (v1 := .int .u64 ps) (v2 := .bool true) (v3 := .string pv) hkp
            obtain ⟨t0, t1, t2, t3, s0, s1, s2, s3⟩ := four hk5
            have HR := Lib.hid (put4_row hk5 (pk, ps, true, pv))
            have HBE := Lib.hid (HB5.out.trans ((upd_put4 W5 w.heap.size (pk, ps, true, pv)).bel (fun k hk => by omega) HB5.out.size))
            clear hk5 hb5 hkp
            go_wp2_with fail
            refine bodyPost_ret (res_cell_tmp rfl _ _ w.heap.size (pk, ps, true, pv) _ rfl rfl HR.out) rfl ?_
            exact ⟨by rw [HP.out]; rfl, HBE.out⟩
end Go.Proofs.Ytdpijhpjicbecaa.H
