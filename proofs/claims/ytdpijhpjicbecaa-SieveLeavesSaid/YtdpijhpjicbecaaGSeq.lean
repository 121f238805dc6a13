/- screelaw11's ahead, risen, seqs. Conditions: sizes. (genseq.py) -/
import Derived.Test.YtdpijhpjicbecaaGLs
import Derived.Test.YtdpijhpjicbecaaGSt
import Derived.Test.YtdpijhpjicbecaaGSrc
import Derived.StillTailTactics
import Derived.Deep.DeepCutAuto
namespace Go.Proofs.Ytdpijhpjicbecaa.H
open Go Go.RowKit Go.Deep Go.Shelf Go.Proofs Go.Proofs.YtdpijhpjicbecaaW.PrintWords
set_option linter.unusedVariables false
set_option linter.unusedSimpArgs false
attribute [local go_sem] Oper.semAt_some
set_option maxHeartbeats 1600000 in
set_option maxRecDepth 100000 in
theorem ahead11_c (x y : Ent) (w : World) : Calls Try.prog 27 #[.agg (encE x).toArray, .agg (encE y).toArray] w fun e w' => e = .returned (.bool (decide (ltE x y))) ∧ Below w.heap.size w w' := by
  have hb : Below w.heap.size w ((w.alloc (.cells #[.string x.1, .int .u64 x.2.1, .bool x.2.2.1, .string x.2.2.2] 53)).alloc (.cells #[.string y.1, .int .u64 y.2.1, .bool y.2.2.1, .string y.2.2.2] 53)) := ((Below.refl _ _).alloc (Nat.le_refl _) _).alloc (by simp) _
  have HB := Lib.hid hb
  clear hb
  unfold encE
  go_enter Try.func27, Try.ntmps27
  go_wp2
  all_goals go_ret
  · rename_i h1
    rw [decide_eq_true ((ltE_iff x y).2 (.inl h1))]
    exact ⟨rfl, HB.out⟩
  · rename_i h1 h2
    have : decide (ltE x y) = decide (y.2.1 < x.2.1) := decide_eq_decide.2 ⟨fun h => by
      rcases (ltE_iff x y).1 h with h | h
      · exact absurd h h1
      · exact h.2, fun h => (ltE_iff x y).2 (.inr ⟨h2, h⟩)⟩
    rw [this]
    exact ⟨rfl, HB.out⟩
  · rename_i h1 h2
    rw [decide_eq_false (fun h => by
      rcases (ltE_iff x y).1 h with h | h
      · exact h1 h
      · exact h2 h.1)]
    exact ⟨rfl, HB.out⟩
/-- What rises of a list: those that stand ahead of the one that came last are left out. -/
def risS (out : List Ent) (e : Ent) : List Ent := match out.getLast? with
  | none => [e]
  | some p => if ltE e p then out else out ++ [e]
def risenL (l : List Ent) : List Ent := l.foldl risS []
theorem risS_nil (e : Ent) : risS [] e = [] ++ [e] := rfl
theorem risS_yes {q : List Ent} {p e : Ent} (h : ltE e p) : risS (q ++ [p]) e = q ++ [p] := by simp [risS, h]
theorem risS_no {q : List Ent} {p e : Ent} (h : ¬ ltE e p) : risS (q ++ [p]) e = q ++ [p] ++ [e] := by simp [risS, h]
theorem risS_len (q : List Ent) (e : Ent) : (risS q e).length ≤ q.length + 1 := by
  unfold risS
  split
  · simp
  · split <;> simp
theorem risFold_len (l : List Ent) : ∀ q : List Ent, (l.foldl risS q).length ≤ q.length + l.length := by
  induction l with
  | nil => intro q; simp
  | cons e l ih => intro q; have := ih (risS q e); have := risS_len q e; simp only [List.foldl_cons, List.length_cons]; omega
theorem risenL_len (l : List Ent) : (risenL l).length ≤ l.length := by have := risFold_len l []; simpa [risenL] using this
theorem risS_ok {q : List Ent} (h : RisenL q) (e : Ent) : RisenL (risS q e) := by
  unfold risS
  cases hq : q.getLast? with
  | none => exact List.pairwise_singleton _ _
  | some p =>
    simp only
    split
    · exact h
    · rename_i hn
      refine List.pairwise_append.2 ⟨h, List.pairwise_singleton _ _, fun x hx y hy => ?_⟩
      have hy : y = e := List.mem_singleton.1 hy
      subst hy
      obtain ⟨r, rfl⟩ : ∃ r, q = r ++ [p] := by
        obtain ⟨r, hr⟩ := List.getLast?_eq_some_iff.1 hq
        exact ⟨r, hr⟩
      rcases List.mem_append.1 hx with hx | hx
      · exact leE_trans ((List.pairwise_append.1 h).2.2 x hx p (by simp)) hn
      · rw [List.mem_singleton.1 hx]; exact hn
theorem risenL_ok (l : List Ent) : RisenL (risenL l) := by
  have : ∀ (l q : List Ent), RisenL q → RisenL (l.foldl risS q) := by
    intro l
    induction l with
    | nil => intro q h; exact h
    | cons e l ih => intro q h; exact ih _ (risS_ok h e)
  exact this l [] List.Pairwise.nil
set_option maxHeartbeats 3200000 in
set_option maxRecDepth 100000 in
theorem risen_c (A : Option Addr) (c : Nat) (l : List Ent) (w : World) (hs : Sl encE 4 w A l) (hl : l.length < 1000000000) :
    Calls Try.prog 28 #[.slice A l.length c] w fun e w' => ∃ v, e = .returned v ∧ Own encE 53 4 w' w.heap.size v (risenL l) ∧ Below w.heap.size w w' := by
  have hm := hs.1
  have HS := Lib.hid hs
  obtain ⟨n, hn⟩ : ∃ n, l.length = n := ⟨_, rfl⟩
  rw [hn] at hm hl ⊢
  have HN := Lib.hid hn
  clear hs hn
  go_enter Try.func28, Try.ntmps28
  go_wp2_with fail
  go_loopw [3, 4] (fun s3 s4 wr => ∃ (k : Nat) (q : List Ent), s4 = .int .i64 k ∧ k ≤ n ∧ Own encE 53 4 wr w.heap.size s3 q ∧ (l.take k).foldl risS [] = q ∧ Below w.heap.size w wr) (fun s3 s4 wr => n - (intOf s4).toNat)
  case atStart => exact ⟨0, [], rfl, by omega, Own.nil _ _ _ _ _, rfl, Below.refl _ _⟩
  case round =>
    obtain ⟨k, q, rfl, hk, ho, hq, hb⟩ := hrel
    generalize wr = W5 at *
    obtain ⟨A1, c1, rfl⟩ := own_slice ho
    have hql : q.length ≤ k := by
      have := risFold_len (l.take k) []
      rw [hq] at this
      simp at this
      omega
    have i1 : (0 : Int) ≤ k := by omega
    have HO := Lib.hid ho
    have HRQ := Lib.hid hq
    have HB := Lib.hid hb
    have HQL := Lib.hid hql
    clear ho hq hb hql
    by_cases hlt : k < n
    · have i2 : (k : Int) < n := by omega
      obtain ⟨x, hx⟩ := getElem?_of_lt (l := l) (by rw [HN.out]; exact hlt : k < l.length)
      obtain ⟨b1, o1, hA1, hb1, hc1⟩ := (HS.out.later HB.out).at hx
      subst hA1
      have HX := Lib.hid hx
      have y0 : W5.cell? ⟨b1, o1 + k * 4, none⟩ = some (.string x.1) := hc1 0 _ rfl
      have y1 : W5.cell? ⟨b1, o1 + k * 4 + 1, none⟩ = some (.int .u64 x.2.1) := hc1 1 _ rfl
      have y2 : W5.cell? ⟨b1, o1 + k * 4 + 2, none⟩ = some (.bool x.2.2.1) := hc1 2 _ rfl
      have y3 : W5.cell? ⟨b1, o1 + k * 4 + 3, none⟩ = some (.string x.2.2.2) := hc1 3 _ rfl
      clear hc1 hb1
      obtain ⟨n1, hn1⟩ : ∃ n1, q.length = n1 := ⟨_, rfl⟩
      rw [hn1] at HO ⊢
      by_cases h0 : n1 = 0
      · have hq0 : q = [] := List.length_eq_zero_iff.1 (by omega)
        have HRS := Lib.hid (show risS q x = q ++ [x] from by rw [hq0]; exact risS_nil x)
        have e0 : ((n1 : Int) == 0) = true := by simp [h0]
        have e1 : (n1 : Int) = 0 := by omega
        have HNQ := Lib.hid hn1
        have HZ := Lib.hid h0
        rw [h0] at HO ⊢
        clear hn1 h0 hq0 e0 e1
        go_wp2_with fail
        go_quiet (fail)
        obtain ⟨W6, hW6⟩ : ∃ Z, W5.drewN nq = Z := ⟨_, rfl⟩
        have HO6 := Lib.hid (show Own encE 53 4 W6 w.heap.size (.slice A1 0 c1) q from by rw [← hW6]; exact HO.out.upd (Upd.drewN (S := fun _ => False) _ _) (fun _ _ h => h))
        have HB6 := Lib.hid (show Below w.heap.size w W6 from by rw [← hW6]; exact HB.out.trans ((Upd.drewN (S := fun _ => False) _ _).bel (fun _ h => h.elim) HB.out.size))
        have z0 : W6.cell? ⟨b1, o1 + k * 4, none⟩ = some (.string x.1) := by rw [← hW6]; exact y0
        have z1 : W6.cell? ⟨b1, o1 + k * 4 + 1, none⟩ = some (.int .u64 x.2.1) := by rw [← hW6]; exact y1
        have z2 : W6.cell? ⟨b1, o1 + k * 4 + 2, none⟩ = some (.bool x.2.2.1) := by rw [← hW6]; exact y2
        have z3 : W6.cell? ⟨b1, o1 + k * 4 + 3, none⟩ = some (.string x.2.2.2) := by rw [← hW6]; exact y3
        rw [hW6]
        clear hW6 y0 y1 y2 y3 HO
        go_wp2_with (at_builtin; refine wpList_app rfl (.tmp 28) (.tmp 33) rfl uSlE infoE rfl (by decide) (by decide) okE (.slice A1 0 c1) q rfl (base := w.heap.size) ?c1 (some ⟨W6.heap.size, 0, none⟩) 1 [x] rfl ?c2 ?c3 ?c4 ?_)
        case c1 => exact HO6.out.below ((Below.refl _ _).alloc (Nat.le_refl _) _)
        case c2 => exact Sl.one okE W6 x 53 (cs := #[.string x.1, .int .u64 x.2.1, .bool x.2.2.1, .string x.2.2.2]) rfl
        case c3 => have := HQL.out; simp; omega
        case c4 => have := HB6.out.size; simp; omega
        intro v1 w1 ho1 hg1 hat1
        obtain ⟨A2, k2, rfl⟩ := own_slice ho1
        have HBN := Lib.hid ((HB6.out.alloc HB6.out.size (.cells #[.string x.1, .int .u64 x.2.1, .bool x.2.2.1, .string x.2.2.2] 53)).grown hg1 (by have := HB6.out.size; simp; omega) (fun k hk => (HO6.out.block_lt hk).1))
        have HON := Lib.hid ho1
        clear ho1 hg1 hat1
        go_wp2
        go_roundw
        case rel => exact ⟨k + 1, q ++ [x], by first | rfl | simp, by omega, HON.out, by rw [take_suc HX.out, List.foldl_append, HRQ.out]; exact HRS.out, HBN.out⟩
        case measure => simp [intOf]; omega
      · obtain ⟨n2, rfl⟩ : ∃ n2, n1 = n2 + 1 := ⟨n1 - 1, by omega⟩
        obtain ⟨q0, p, hqp⟩ : ∃ q0 p, q = q0 ++ [p] := by
          rcases List.eq_nil_or_concat q with h | ⟨q0, p, h⟩
          · rw [h] at hn1; simp at hn1
          · exact ⟨q0, p, by simpa using h⟩
        have hq2 : q[n2]? = some p := by
          rw [hqp]
          rw [hqp] at hn1
          simp at hn1
          rw [List.getElem?_append_right (by omega)]
          have : n2 - q0.length = 0 := by omega
          rw [this]; rfl
        obtain ⟨b3, o3, hA3, hb3, hc3⟩ := (own_sl HO.out (fun x => (okE x).1)).at hq2
        subst hA3
        have p0 : W5.cell? ⟨b3, o3 + n2 * 4, none⟩ = some (.string p.1) := hc3 0 _ rfl
        have p1 : W5.cell? ⟨b3, o3 + n2 * 4 + 1, none⟩ = some (.int .u64 p.2.1) := hc3 1 _ rfl
        have p2 : W5.cell? ⟨b3, o3 + n2 * 4 + 2, none⟩ = some (.bool p.2.2.1) := hc3 2 _ rfl
        have p3 : W5.cell? ⟨b3, o3 + n2 * 4 + 3, none⟩ = some (.string p.2.2.2) := hc3 3 _ rfl
        have HNQ := Lib.hid hn1
        have HQP := Lib.hid hqp
        have HAH := Lib.hid (ahead11_c x p W5.drew)
        have j1 : (0 : Int) ≤ n2 := by omega
        have j2 : (n2 : Int) < ((n2 : Int) + 1) := by omega
        have j3 : (((n2 : Int) + 1) == 0) = false := by rw [beq_eq_false_iff_ne]; omega
        have j4 : ¬ ((n2 : Int) + 1) = 0 := by omega
        have j5 : (n2 : Int) + 1 - 1 = (n2 : Int) := by omega
        have j6 : n2 < 1000000000 := by have := HQL.out; omega
        have jw : IntKind.i64.wrap (n2 : Int) = (n2 : Int) := by rw [IntKind.wrap_i64]; omega
        have hmx : Try.prog.follows .mixedOrders = true := by kernel_rfl
        clear hc3 hb3 hq2 hqp hn1 h0
        by_cases hap : ltE x p
        · rw [decide_eq_true hap] at HAH
          have HRS := Lib.hid (show risS q x = q from by rw [HQP.out]; exact risS_yes hap)
          clear hap
          go_wp2_with fail
          go_still_tail 14, hmx
          change wpList _ _ _ _ _ W5.drew
          go_wp2_with (go_at_call 27; refine HAH.out.mono ?_; rintro e W6 ⟨rfl, hb6⟩)
          go_roundw
          case rel => exact ⟨k + 1, q, by first | rfl | simp, by omega, HO.out.below (((Below.refl _ _).drew).trans hb6), by rw [take_suc HX.out, List.foldl_append, HRQ.out]; exact HRS.out, HB.out.trans ((((Below.refl _ _).drew).trans hb6).mono HB.out.size)⟩
          case measure => simp [intOf]; omega
        · rw [decide_eq_false hap] at HAH
          have HRS := Lib.hid (show risS q x = q ++ [x] from by rw [HQP.out]; exact risS_no hap)
          clear hap
          go_wp2_with fail
          go_still_tail 14, hmx
          change wpList _ _ _ _ _ W5.drew
          go_upto_region 6 with (go_at_call 27; refine HAH.out.mono ?_; rintro e W6 ⟨rfl, hb6⟩; have hb56 : Below W5.heap.size W5 W6 := ((Below.refl _ _).drew).trans hb6; have z0 := cell_later hb56 y0; have z1 := cell_later hb56 y1; have z2 := cell_later hb56 y2; have z3 := cell_later hb56 y3; have HO6 := Lib.hid (HO.out.below hb56); have HB6 := Lib.hid (HB.out.trans (hb56.mono HB.out.size)); clear hb6 hb56 y0 y1 y2 y3 p0 p1 p2 p3 HO)
          go_wp2_with (at_builtin; refine wpList_app rfl (.tmp 28) (.tmp 33) rfl uSlE infoE rfl (by decide) (by decide) okE (.slice (some ⟨b3, o3, none⟩) (n2 + 1) c1) q rfl (base := w.heap.size) ?c1 (some ⟨W6.heap.size, 0, none⟩) 1 [x] rfl ?c2 ?c3 ?c4 ?_)
          case c1 => exact HO6.out.below ((Below.refl _ _).alloc (Nat.le_refl _) _)
          case c2 => exact Sl.one okE W6 x 53 (cs := #[.string x.1, .int .u64 x.2.1, .bool x.2.2.1, .string x.2.2.2]) rfl
          case c3 => have := HQL.out; simp; omega
          case c4 => have := HB6.out.size; simp; omega
          intro v1 w1 ho1 hg1 hat1
          obtain ⟨A2, k2, rfl⟩ := own_slice ho1
          have HBN := Lib.hid ((HB6.out.alloc HB6.out.size (.cells #[.string x.1, .int .u64 x.2.1, .bool x.2.2.1, .string x.2.2.2] 53)).grown hg1 (by have := HB6.out.size; simp; omega) (fun k hk => (HO6.out.block_lt hk).1))
          have HON := Lib.hid ho1
          clear ho1 hg1 hat1
          go_wp2
          go_roundw
          case rel => exact ⟨k + 1, q ++ [x], by first | rfl | simp, by omega, HON.out, by rw [take_suc HX.out, List.foldl_append, HRQ.out]; exact HRS.out, HBN.out⟩
          case measure => simp [intOf]; omega
    · have hkn : k = n := by omega
      subst hkn
      have HE := Lib.hid (show risenL l = q from by
        have := HRQ.out
        rw [List.take_of_length_le (by rw [HN.out]; exact Nat.le_refl _)] at this
        exact this)
      go_wp2
      go_ret
      rw [HE.out]
      exact ⟨_, rfl, HO.out, HB.out⟩
end Go.Proofs.Ytdpijhpjicbecaa.H
