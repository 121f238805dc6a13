/- The document's memtable (screeref6.Table): New, Freeze, Frozen, All, Get, Weight, Last. Conditions: sizes. -/
import Derived.Test.YtjbbobhjomhnmaaMf1
import Derived.Test.YtjbbobhjomhnmaaPr1
namespace Go.Proofs.Ytjbbobhjomhnmaa.H
open Go Go.RowKit Go.Deep Go.Shelf Go.Proofs Go.Proofs.YtjbbobhjomhnmaaW.PrintWords
set_option linter.unusedVariables false
set_option linter.unusedSimpArgs false
abbrev SortL (L : List EH) : Prop := L.Pairwise (fun x y => ltE x.1 y.1)
/-- A list that rises, cut where an entry would stand. -/
theorem pure_split {L : List EH} (hs : SortL L) (e : Ent) :
    ∃ P Q : List EH, L = P ++ Q ∧ (∀ x ∈ allE P, ltE x e) ∧ (∀ x ∈ allE Q, ¬ ltE x e) ∧ hasL L e = stands (allE Q) e ∧ ∀ n, insL L (e, n) = P ++ (e, n) :: Q := by
  obtain ⟨l, rfl, ho⟩ : ∃ l : List Nd, ehs l = L ∧ Sorted l := ⟨L.map (fun x => ⟨0, x.1, x.2⟩), by simp [ehs, Function.comp_def], by unfold Sorted; rw [List.pairwise_map]; exact hs⟩
  obtain ⟨pre, post, rfl, h1, h2⟩ := split_at l ho e
  have hE : ∀ q : List Nd, allE (ehs q) = q.map (·.e) := fun q => ehs_fst q
  refine ⟨ehs pre, ehs post, by simp [ehs], fun x hx => ?_, fun x hx => ?_, ?_, fun n => ?_⟩
  · rw [hE] at hx
    obtain ⟨y, hy, rfl⟩ := List.mem_map.1 hx
    exact h1 y hy
  · rw [hE] at hx
    obtain ⟨y, hy, rfl⟩ := List.mem_map.1 hx
    exact h2 y hy
  · have hb : ∀ y : Ent, samE y e ↔ (y.1 = e.1 ∧ y.2.1 = e.2.1) := fun y => by unfold samE; rw [bytes_inj]
    rw [Bool.eq_iff_iff, hasL_ehs]
    cases post with
    | nil =>
      refine ⟨fun ⟨x, hx, hs2⟩ => ?_, fun h => by cases h⟩
      rw [List.append_nil] at hx
      exact (ltE_irrefl (samE_lt_l hs2 (h1 x hx))).elim
    | cons y c =>
      rw [show stands (allE (ehs (y :: c))) e = decide (y.e.1 = e.1 ∧ y.e.2.1 = e.2.1) from rfl, decide_eq_true_iff, ← hb]
      refine ⟨fun ⟨x, hx, hs2⟩ => ?_, fun h => ⟨y, by simp, h⟩⟩
      rcases List.mem_append.1 hx with hx | hx
      · exact (ltE_irrefl (samE_lt_l hs2 (h1 x hx))).elim
      · by_cases hy : cmpEE y.e e ≠ 0
        · exact (ltE_irrefl (samE_lt_r hs2 (post_gt ho h2 (fun y' c' e' => by injection e' with e1 e2; rw [← e1]; exact hy) x hx))).elim
        · exact (eqE_iff _ _).1 (by simpa using hy)
  · rw [insL_split h1 h2]
    first | done | rfl | simp [ehs]
theorem putS_sorted {draws : List Int} {L : List EH} (hs : SortL L) (e : Ent) : SortL (putS draws L e) := by
  unfold putS
  split
  · exact hs
  · exact insL_sorted hs ‹_›
/-- The document's memtable at m, its list at r, its blocks R. -/
structure RTab (w : World) (m r : Nat) (R : Nat → Prop) (es : List Ent) (fz : Bool) : Prop where
  row : w.heap[m]? = some (.cells #[.pointer (some ⟨r, 0, none⟩), .bool fz] 142 (0, 0))
  rf : ∃ hs, hs.length = es.length ∧ RefIs w r R es hs [] es.length
  rm : ¬ R m
section
variable {w w' : World} {m r : Nat} {R T : Nat → Prop} {es : List Ent} {fz : Bool}
theorem RTab.upd (h : RTab w m r R es fz) (hu : Upd T w w') (hT : ∀ k, (R k ∨ k = m) → ¬ T k) : RTab w' m r R es fz := by
  obtain ⟨hs, h1, h2⟩ := h.rf
  exact ⟨hu.heap h.row (hT m (.inr rfl)), ⟨hs, h1, h2.upd hu (fun k hk => hT k (.inl hk))⟩, h.rm⟩
theorem RTab.later (h : RTab w m r R es fz) (hb : Below w.heap.size w w') : RTab w' m r R es fz :=
  h.upd (T := fun _ => False) (Upd.of_below hb) fun _ _ h => h
theorem RTab.lt (h : RTab w m r R es fz) : ∀ k, (R k ∨ k = m) → k < w.heap.size := fun k hk => by
  obtain ⟨hs, h1, h2⟩ := h.rf
  rcases hk with hk | hk
  · exact h2.lt k hk
  · rw [hk]; exact blk_lt h.row
theorem RTab.c0 (h : RTab w m r R es fz) : w.cell? ⟨m, 0, none⟩ = some (.pointer (some ⟨r, 0, none⟩)) := (blk_cell h.row 0).trans rfl
theorem RTab.c1 (h : RTab w m r R es fz) : w.cell? ⟨m, 1, none⟩ = some (.bool fz) := (blk_cell h.row 1).trans rfl
end
set_option maxHeartbeats 1600000 in
set_option maxRecDepth 100000 in
theorem refNew6_c (w : World) : Calls Try.prog 47 #[] w fun e w' => ∃ m r R, e = .returned (.pointer (some ⟨m, 0, none⟩)) ∧ RTab w' m r R [] false ∧ (∀ k, R k → w.heap.size ≤ k) ∧ w.heap.size ≤ m ∧ Below w.heap.size w w' := by
  have HN := Lib.hid (refNew_c none 0 [] w (Sl.nil _ _ _ _) (by decide))
  go_enter Try.func47, Try.ntmps47
  go_wp2_with fail
  refine HN.out.mono ?_
  rintro e w2 ⟨r, R, rfl, hr, hR, hb⟩
  have HS := Lib.hid hR
  have HRF := Lib.hid hr
  have HB := Lib.hid hb
  clear hR hr hb
  go_wp2
  go_ret
  exact ⟨w2.heap.size, r, R, rfl, ⟨heap_alloc_new _ _, ⟨[], rfl, HRF.out.later ((Below.refl _ _).alloc (Nat.le_refl _) _)⟩, fun h => Nat.lt_irrefl _ (HRF.out.lt _ h)⟩, HS.out, HB.out.size, HB.out.alloc HB.out.size _⟩
section
variable {w : World} {m r : Nat} {R : Nat → Prop} {es : List Ent} {fz : Bool}
theorem refFreeze6_c (h : RTab w m r R es fz) : Calls Try.prog 103 #[.pointer (some ⟨m, 0, none⟩)] w fun e w' => (∃ v, e = .returned v) ∧ Upd (fun k => k = m) w w' ∧ RTab w' m r R es true := by
  have c1 := h.c1
  have f1 := blk_frozen h.row 1
  have HR := Lib.hid h
  clear h
  go_enter Try.func103, Try.ntmps103
  go_wp2
  go_end0
  obtain ⟨hs, h1, h2⟩ := HR.out.rf
  exact ⟨⟨_, rfl⟩, Upd.setCell _ _ _ rfl, ⟨(blk_set HR.out.row 1 (.bool true)).trans rfl, ⟨hs, h1, h2.upd (Upd.setCell (S := fun k => k = m) w 1 (.bool true) rfl) (fun k hk e => HR.out.rm (by rw [← e]; exact hk))⟩, HR.out.rm⟩⟩
theorem refFrozen6_c (h : RTab w m r R es fz) : Calls Try.prog 104 #[.pointer (some ⟨m, 0, none⟩)] w fun e w' => e = .returned (.bool fz) ∧ w = w' := by
  have c1 := h.c1
  clear h
  go_enter Try.func104, Try.ntmps104
  go_wp2
  go_ret
  exact ⟨rfl, rfl⟩
theorem not_ahead0 {x : Ent} (hq : x.2.1 ≤ 18446744073709551615) : ¬ ltE x (⟨#[]⟩, 18446744073709551615, false, ⟨#[]⟩) := fun h => by
  rcases (ltE_iff _ _).1 h with h | h
  · rw [show (⟨#[]⟩ : ByteArray).toList = [] by rw [ByteArray.toList_eq]] at h
    cases hl : x.1.toList with
    | nil => rw [hl] at h; exact absurd h (by decide)
    | cons a c => rw [hl] at h; exact absurd h (by simp [Op.bytesLess])
  · have := h.2
    simp only at this
    omega
theorem notAhead0 {es : List Ent} (hq : ∀ x ∈ es, x.2.1 ≤ 18446744073709551615) : notAhead ⟨#[]⟩ 18446744073709551615 es = es := by
  unfold notAhead
  exact List.filter_eq_self.2 (fun x hx => by simpa using not_ahead0 (hq x hx))
set_option maxHeartbeats 1600000 in
set_option maxRecDepth 100000 in
theorem refAll6_c (h : RTab w m r R es fz) (hq : ∀ x ∈ es, x.2.1 ≤ 18446744073709551615) (hl : es.length ≤ 1000000) :
    Calls Try.prog 100 #[.pointer (some ⟨m, 0, none⟩)] w fun e w' => ∃ v, e = .returned v ∧ Own encE 53 4 w' w.heap.size v es ∧ Below w.heap.size w w' := by
  have c0 := h.c0
  obtain ⟨hs, h1, h2⟩ := h.rf
  have HF := Lib.hid (refFrom_c (P := []) (Q := es) h2 ⟨#[]⟩ 18446744073709551615 (fun x hx => by cases hx) (fun x hx => not_ahead0 (hq x hx)) (by simp; omega))
  clear h h1 h2
  go_enter Try.func100, Try.ntmps100
  go_wp2_with fail
  refine HF.out.mono ?_
  rintro e w' ⟨v, rfl, ho, hb⟩
  have HO := Lib.hid ho
  have HB := Lib.hid hb
  clear ho hb
  go_wp2
  go_ret
  exact ⟨v, rfl, HO.out, HB.out⟩
end
def sumW : List Ent → Int
  | [] => 0
  | e :: l => wtE e + sumW l
theorem sumW_append (p q : List Ent) : sumW (p ++ q) = sumW p + sumW q := by
  induction p with
  | nil => simp [sumW]
  | cons e p ih => rw [List.cons_append, sumW, sumW, ih]; omega
def maxQ : List Ent → Int
  | [] => 0
  | e :: l => mxU (maxQ l) e.2.1
theorem maxQ_put (p q : List Ent) (e : Ent) : maxQ (p ++ e :: q) = mxU (maxQ (p ++ q)) e.2.1 := by
  induction p with
  | nil => rfl
  | cons x p ih =>
    rw [List.cons_append, List.cons_append, maxQ, maxQ, ih]
    unfold mxU
    repeat' split
    all_goals omega
theorem maxQ_snoc (p : List Ent) (e : Ent) : maxQ (p ++ [e]) = mxU (maxQ p) e.2.1 := by rw [maxQ_put, List.append_nil]
abbrev Small (e : Ent) : Prop := e.1.size ≤ 64 ∧ e.2.2.2.size ≤ 512 ∧ 0 ≤ e.2.1 ∧ e.2.1 ≤ 18446744073709551615
theorem wtE_bound {e : Ent} (h : Small e) : 0 ≤ wtE e ∧ wtE e ≤ 1088 := by
  obtain ⟨h1, h2, _, _⟩ := h
  unfold wtE wt
  split <;> omega
theorem sumW_bound {l : List Ent} (h : ∀ e ∈ l, Small e) : 0 ≤ sumW l ∧ sumW l ≤ 1088 * (l.length : Int) := by
  induction l with
  | nil => simp [sumW]
  | cons e l ih =>
    have h1 := wtE_bound (h e (by simp))
    have h2 := ih (fun x hx => h x (by simp [hx]))
    rw [sumW, List.length_cons]
    push_cast
    omega
theorem take_snoc {l : List Ent} {j : Nat} {e : Ent} (h : l[j]? = some e) : l.take (j + 1) = l.take j ++ [e] := by
  rw [List.take_add_one, h]; rfl
section
variable {w : World} {m r : Nat} {R : Nat → Prop} {es : List Ent} {fz : Bool}
set_option maxHeartbeats 3200000 in
set_option maxRecDepth 100000 in
theorem refWeightT6_c (h : RTab w m r R es fz) (hq : ∀ x ∈ es, Small x) (hl : es.length ≤ 1000000) :
    Calls Try.prog 101 #[.pointer (some ⟨m, 0, none⟩)] w fun e w' => e = .returned (.int .i64 (sumW es)) ∧ Below w.heap.size w w' := by
  have HA := Lib.hid (refAll6_c h (fun x hx => (hq x hx).2.2.2) hl)
  have HQ := Lib.hid hq
  obtain ⟨n, hn⟩ : ∃ n, es.length = n := ⟨_, rfl⟩
  have HN := Lib.hid hn
  rw [hn] at hl
  clear h hq hn
  go_enter Try.func101, Try.ntmps101
  go_wp2_with fail
  refine HA.out.mono ?_
  rintro _ w1 ⟨v, rfl, ho, hb⟩
  obtain ⟨A, c, rfl⟩ := own_slice ho
  obtain ⟨_, _, ev, _, hs, _⟩ := ho.slice (fun _ => rfl)
  injection ev with e1 e2 e3
  rw [← e1] at hs
  rw [HN.out]
  have HS := Lib.hid hs
  have HB := Lib.hid hb
  clear ho hb hs e1 e2 e3
  go_wp2_with fail
  go_loopw [3, 5] (fun s3 s5 wr => ∃ j : Nat, s3 = .int .i64 (sumW (es.take j)) ∧ s5 = .int .i64 (j : Int) ∧ j ≤ n ∧ Below w1.heap.size w1 wr) (fun s3 s5 wr => n - (intOf s5).toNat)
  case atStart => exact ⟨0, rfl, rfl, by omega, Below.refl _ _⟩
  case round =>
    obtain ⟨j, rfl, rfl, hj, hbw⟩ := hrel
    have HBW := Lib.hid hbw
    clear hbw
    have i1 : (0 : Int) ≤ j := by omega
    by_cases hlt : j < n
    · have i2 : (j : Int) < n := by omega
      obtain ⟨x, hx⟩ := getElem?_of_lt (l := es) (by rw [HN.out]; exact hlt : j < es.length)
      have hsx := HQ.out x (List.mem_of_getElem? hx)
      have hwx := wtE_bound hsx
      have hsj := sumW_bound (l := es.take j) (fun e he => HQ.out e (List.mem_of_mem_take he))
      rw [List.length_take, HN.out, Nat.min_eq_left (by omega)] at hsj
      have HSN := Lib.hid (show sumW (es.take (j + 1)) = sumW (es.take j) + wtE x by rw [take_snoc hx, sumW_append]; simp [sumW])
      have HW := Lib.hid (fun W => refWeight6_c x.1 x.2.1 x.2.2.1 x.2.2.2 (by omega) (by omega) W)
      obtain ⟨b, o, hA, hbl, hc⟩ := (HS.out.later HBW.out).at hx
      subst hA
      have c0 : wr.cell? ⟨b, o + j * 4, none⟩ = some (.string x.1) := hc 0 _ rfl
      have c1 : wr.cell? ⟨b, o + j * 4 + 1, none⟩ = some (.int .u64 x.2.1) := hc 1 _ rfl
      have c2 : wr.cell? ⟨b, o + j * 4 + 2, none⟩ = some (.bool x.2.2.1) := hc 2 _ rfl
      have c3 : wr.cell? ⟨b, o + j * 4 + 3, none⟩ = some (.string x.2.2.2) := hc 3 _ rfl
      obtain ⟨sj, hsj2⟩ : ∃ s, sumW (es.take j) = s := ⟨_, rfl⟩
      obtain ⟨wx, hwx2⟩ : ∃ s, wt x.1 x.2.2.1 x.2.2.2 = s := ⟨_, rfl⟩
      rw [show wtE x = wt x.1 x.2.2.1 x.2.2.2 from rfl] at hwx HSN
      rw [hwx2] at hwx HSN HW
      rw [hsj2] at hsj HSN ⊢
      clear hc hsx hx hbl hsj2 hwx2
      go_wp2_with fail
      refine (HW.out _).mono ?_
      rintro _ w2 ⟨rfl, hb2⟩
      have HB2 := Lib.hid (HBW.out.trans (hb2.mono HBW.out.size))
      clear hb2
      go_wp2
      go_roundw
      case rel => exact ⟨j + 1, by rw [HSN.out], by first | rfl | simp, by omega, HB2.out⟩
      case measure => simp [intOf]; omega
    · have hjn : n = j := by omega
      clear hlt hj
      subst hjn
      go_wp2
      go_ret
      exact ⟨by rw [List.take_of_length_le (by rw [HN.out]; exact Nat.le_refl _)]; rfl, HB.out.trans (HBW.out.mono HB.out.size)⟩
set_option maxHeartbeats 3200000 in
set_option maxRecDepth 100000 in
theorem refLastT6_c (h : RTab w m r R es fz) (hq : ∀ x ∈ es, Small x) (hl : es.length ≤ 1000000) :
    Calls Try.prog 102 #[.pointer (some ⟨m, 0, none⟩)] w fun e w' => e = .returned (.int .u64 (maxQ es)) ∧ Below w.heap.size w w' := by
  have HA := Lib.hid (refAll6_c h (fun x hx => (hq x hx).2.2.2) hl)
  obtain ⟨n, hn⟩ : ∃ n, es.length = n := ⟨_, rfl⟩
  have HN := Lib.hid hn
  rw [hn] at hl
  clear h hq hn
  go_enter Try.func102, Try.ntmps102
  go_wp2_with fail
  refine HA.out.mono ?_
  rintro _ w1 ⟨v, rfl, ho, hb⟩
  obtain ⟨A, c, rfl⟩ := own_slice ho
  obtain ⟨_, _, ev, _, hs, _⟩ := ho.slice (fun _ => rfl)
  injection ev with e1 e2 e3
  rw [← e1] at hs
  rw [HN.out]
  have HS := Lib.hid hs
  have HB := Lib.hid hb
  clear ho hb hs e1 e2 e3
  go_wp2_with fail
  go_loopw [3, 5] (fun s3 s5 wr => ∃ j : Nat, s3 = .int .u64 (maxQ (es.take j)) ∧ s5 = .int .i64 (j : Int) ∧ j ≤ n ∧ Below w1.heap.size w1 wr) (fun s3 s5 wr => n - (intOf s5).toNat)
  case atStart => exact ⟨0, rfl, rfl, by omega, Below.refl _ _⟩
  case round =>
    obtain ⟨j, rfl, rfl, hj, hbw⟩ := hrel
    have HBW := Lib.hid hbw
    clear hbw
    have i1 : (0 : Int) ≤ j := by omega
    by_cases hlt : j < n
    · have i2 : (j : Int) < n := by omega
      obtain ⟨x, hx⟩ := getElem?_of_lt (l := es) (by rw [HN.out]; exact hlt : j < es.length)
      have HSN := Lib.hid (show maxQ (es.take (j + 1)) = mxU (maxQ (es.take j)) x.2.1 by rw [take_snoc hx, maxQ_snoc])
      obtain ⟨b, o, hA, hbl, hc⟩ := (HS.out.later HBW.out).at hx
      subst hA
      have c1 : wr.cell? ⟨b, o + j * 4 + 1, none⟩ = some (.int .u64 x.2.1) := hc 1 _ rfl
      obtain ⟨sj, hsj2⟩ : ∃ s, maxQ (es.take j) = s := ⟨_, rfl⟩
      rw [hsj2] at HSN ⊢
      clear hc hx hbl hsj2
      by_cases hgt : sj < x.2.1
      · go_wp2
        go_roundw
        case rel => exact ⟨j + 1, by rw [HSN.out, mxU, if_pos hgt], by first | rfl | simp, by omega, HBW.out⟩
        case measure => simp [intOf]; omega
      · go_wp2
        go_roundw
        case rel => exact ⟨j + 1, by rw [HSN.out, mxU, if_neg hgt], by first | rfl | simp, by omega, HBW.out⟩
        case measure => simp [intOf]; omega
    · have hjn : n = j := by omega
      clear hlt hj
      subst hjn
      go_wp2
      go_ret
      exact ⟨by rw [List.take_of_length_le (by rw [HN.out]; exact Nat.le_refl _)]; rfl, HB.out.trans (HBW.out.mono HB.out.size)⟩
end
end Go.Proofs.Ytjbbobhjomhnmaa.H
