/- The law's pair of lists (screelaw5): walks, now, holds (printed by genpr1.py). Conditions: sizes. -/
import Derived.Test.YtjbbobhjomhnmaaRoom2
namespace Go.Proofs.Ytjbbobhjomhnmaa.H
open Go Go.RowKit Go.Deep Go.Shelf Go.Proofs Go.Proofs.YtjbbobhjomhnmaaW.PrintWords
set_option linter.unusedVariables false
set_option linter.unusedSimpArgs false
/-- The program's list and the reference's. -/
structure PairIs (w : World) (g r : Nat) (S R : Nat → Prop) (draws : List Int) (L : List EH) : Prop where
  sk : SkL w g S draws L
  rf : RefIs w r R (allE L) (allH L) draws L.length
  far : ∀ k, S k → ¬ R k
theorem PairIs.upd {w w' : World} {g r : Nat} {S R T : Nat → Prop} {draws : List Int} {L : List EH} (h : PairIs w g r S R draws L) (hu : Upd T w w') (hS : ∀ k, S k ∨ R k → ¬ T k) : PairIs w' g r S R draws L :=
  ⟨h.sk.upd hu (fun k hk => hS k (.inl hk)), h.rf.upd hu (fun k hk => hS k (.inr hk)), h.far⟩
theorem PairIs.later {w w' : World} {g r : Nat} {S R : Nat → Prop} {draws : List Int} {L : List EH} (h : PairIs w g r S R draws L) (hb : Below w.heap.size w w') : PairIs w' g r S R draws L :=
  ⟨h.sk.later hb, h.rf.later hb, h.far⟩
theorem allE_append (P Q : List EH) : allE (P ++ Q) = allE P ++ allE Q := by unfold allE; exact List.map_append
theorem allH_append (P Q : List EH) : allH (P ++ Q) = allH P ++ allH Q := by unfold allH; exact List.map_append
theorem allE_len (L : List EH) : (allE L).length = L.length := by unfold allE; exact List.length_map ..
theorem allH_len (L : List EH) : (allH L).length = L.length := by unfold allH; exact List.length_map ..
/-- The list, cut where an entry would stand. -/
theorem sk_split {w : World} {g : Nat} {S : Nat → Prop} {draws : List Int} {L : List EH} (h : SkL w g S draws L) (e : Ent) :
    ∃ P Q : List EH, L = P ++ Q ∧ (∀ x ∈ allE P, ltE x e) ∧ (∀ x ∈ allE Q, ¬ ltE x e) ∧ hasL L e = stands (allE Q) e ∧ ∀ n, insL L (e, n) = P ++ (e, n) :: Q := by
  obtain ⟨l, hs, rfl, hlt⟩ := h
  obtain ⟨pre, post, rfl, h1, h2⟩ := split_at l hs.order e
  have hE : ∀ q : List Nd, allE (ehs q) = q.map (·.e) := fun q => ehs_fst q
  refine ⟨ehs pre, ehs post, by simp [ehs], fun x hx => ?_, fun x hx => ?_, ?_, fun n => ?_⟩
  · rw [hE] at hx
    obtain ⟨y, hy, rfl⟩ := List.mem_map.1 hx
    exact h1 y hy
  · rw [hE] at hx
    obtain ⟨y, hy, rfl⟩ := List.mem_map.1 hx
    exact h2 y hy
  · have hb : ∀ y : Ent, samE y e ↔ (y.1 = e.1 ∧ y.2.1 = e.2.1) := fun y => by unfold samE; rw [bytes_inj]
    rw [Bool.eq_iff_iff, hasL_ehs]
    cases post with
    | nil =>
      refine ⟨fun ⟨x, hx, hs2⟩ => ?_, fun h => by cases h⟩
      rw [List.append_nil] at hx
      exact (ltE_irrefl (samE_lt_l hs2 (h1 x hx))).elim
    | cons y c =>
      rw [show stands (allE (ehs (y :: c))) e = decide (y.e.1 = e.1 ∧ y.e.2.1 = e.2.1) from rfl, decide_eq_true_iff, ← hb]
      refine ⟨fun ⟨x, hx, hs2⟩ => ?_, fun h => ⟨y, by simp, h⟩⟩
      rcases List.mem_append.1 hx with hx | hx
      · exact (ltE_irrefl (samE_lt_l hs2 (h1 x hx))).elim
      · by_cases hy : cmpEE y.e e ≠ 0
        · exact (ltE_irrefl (samE_lt_r hs2 (post_gt hs.order h2 (fun y' c' e' => by injection e' with e1 e2; rw [← e1]; exact hy) x hx))).elim
        · exact (eqE_iff _ _).1 (by simpa using hy)
  · rw [insL_split h1 h2]
    first | done | rfl | simp [ehs]
theorem notAhead_split {P Q : List EH} {k : ByteArray} {q : Int} (h1 : ∀ x ∈ allE P, ltE x (k, q, false, ⟨#[]⟩)) (h2 : ∀ x ∈ allE Q, ¬ ltE x (k, q, false, ⟨#[]⟩)) : notAhead k q (allE (P ++ Q)) = allE Q := by
  unfold notAhead
  rw [allE_append, List.filter_append, List.filter_eq_nil_iff.2 (fun x hx => by simpa using h1 x hx), List.nil_append, List.filter_eq_self.2 (fun x hx => by simpa using h2 x hx)]
/-- The reference's From, by what the program's gives. -/
theorem pairFrom_c {w : World} {g r : Nat} {S R : Nat → Prop} {draws : List Int} {L : List EH} (h : PairIs w g r S R draws L) (hl : L.length < 2932031007319) (k : ByteArray) (q : Int) :
    Calls Try.prog 82 #[.pointer (some ⟨r, 0, none⟩), .string k, .int .u64 q] w fun e w' => ∃ v, e = .returned v ∧ Own encE 53 4 w' w.heap.size v (notAhead k q (allE L)) ∧ Below w.heap.size w w' := by
  obtain ⟨P, Q, rfl, h1, h2, _, _⟩ := sk_split h.sk (k, q, false, ⟨#[]⟩)
  have hr := h.rf
  rw [allE_append] at hr
  rw [notAhead_split h1 h2]
  exact refFrom_c hr k q h1 h2 (by rw [← allE_append, allE_len]; omega)
theorem notAhead_len (k : ByteArray) (q : Int) (L : List EH) : (notAhead k q (allE L)).length ≤ L.length := by
  unfold notAhead
  have := List.length_filter_le (fun e => !decide (ltE e (k, q, false, ⟨#[]⟩))) (allE L)
  rw [allE_len] at this
  exact this
def leF (a b : List (Bool × Option Addr)) : Prop := ∀ p ∈ a, p ∈ b
theorem leF_refl (a : List (Bool × Option Addr)) : leF a a := fun _ h => h
theorem leF_trans (a b c : List (Bool × Option Addr)) (h : leF a b) (k : leF b c) : leF a c := fun p hp => k p (h p hp)
/-- What was there lies as it did; the slices that were answered on the way. -/
def FactR (w : World) (es : List Ent) (hs : List Int) (s : List (Bool × Option Addr)) (W : World) : Prop := Below w.heap.size w W ∧ ∀ p ∈ s, if p.1 = true then Sl encI 1 W p.2 hs else Sl encE 4 W p.2 es
theorem FactR.later {w : World} {es : List Ent} {hs : List Int} {s : List (Bool × Option Addr)} {W W' : World} (h : FactR w es hs s W) (hb : Below W.heap.size W W') : FactR w es hs s W' := by
  refine ⟨h.1.trans (hb.mono h.1.size), fun p hp => ?_⟩
  have := h.2 p hp
  split
  · rename_i hc; rw [if_pos hc] at this; exact this.later hb
  · rename_i hc; rw [if_neg hc] at this; exact this.later hb
theorem fact_E {w : World} {es : List Ent} {hs : List Int} {s : List (Bool × Option Addr)} {W : World} {f : FuncId} {args : Array Value} (hW : FactR w es hs s W) (hc : Calls Try.prog f args W fun e W' => ∃ v, e = .returned v ∧ Own encE 53 4 W' W.heap.size v es ∧ Below W.heap.size W W') :
    Calls Try.prog f args W fun e W' => ∃ v, e = .returned v ∧ ∃ s', (∃ A c, v = .slice A es.length c ∧ s' = (false, A) :: s) ∧ FactR w es hs s' W' := by
  refine hc.mono fun e W' ⟨v, he, ho, hb⟩ => ?_
  obtain ⟨A, c, rfl⟩ := own_slice ho
  obtain ⟨_, _, ev, _, hs8, _⟩ := ho.slice (fun _ => rfl)
  injection ev with e1 e2 e3
  rw [← e1] at hs8
  have hW' := hW.later hb
  refine ⟨_, he, _, ⟨A, c, rfl, rfl⟩, hW'.1, fun p hp => ?_⟩
  rcases List.mem_cons.1 hp with rfl | hp
  · exact hs8
  · exact hW'.2 p hp
theorem fact_I {w : World} {es : List Ent} {hs : List Int} {s : List (Bool × Option Addr)} {W : World} {f : FuncId} {args : Array Value} (hW : FactR w es hs s W) (hc : Calls Try.prog f args W fun e W' => ∃ v, e = .returned v ∧ Own encI 3 1 W' W.heap.size v hs ∧ Below W.heap.size W W') :
    Calls Try.prog f args W fun e W' => ∃ v, e = .returned v ∧ ∃ s', (∃ A c, v = .slice A hs.length c ∧ s' = (true, A) :: s) ∧ FactR w es hs s' W' := by
  refine hc.mono fun e W' ⟨v, he, ho, hb⟩ => ?_
  obtain ⟨A, c, rfl⟩ := own_slice ho
  obtain ⟨_, _, ev, _, hs8, _⟩ := ho.slice (fun x => (okI x).1)
  injection ev with e1 e2 e3
  rw [← e1] at hs8
  have hW' := hW.later hb
  refine ⟨_, he, _, ⟨A, c, rfl, rfl⟩, hW'.1, fun p hp => ?_⟩
  rcases List.mem_cons.1 hp with rfl | hp
  · exact hs8
  · exact hW'.2 p hp
theorem same_E {w : World} {es : List Ent} {hs : List Int} {s s' : List (Bool × Option Addr)} {W : World} {A B : Option Addr} {c d : Nat} (hle : leF s s') (hW : FactR w es hs s' W) (hA : Sl encE 4 w A es) (hB : (false, B) ∈ s) :
    Calls Try.prog 28 #[.slice A es.length c, .slice B es.length d] W fun e W' => e = .returned (.bool true) ∧ FactR w es hs s' W' := by
  have h := sameEntries_c A c es B d es W (hA.later hW.1) (hW.2 _ (hle _ hB))
  rw [decide_eq_true rfl] at h
  exact h.mono fun e W' ⟨he, hb⟩ => ⟨he, hW.later hb⟩
theorem same_I {w : World} {es : List Ent} {hs : List Int} {s s' : List (Bool × Option Addr)} {W : World} {A B : Option Addr} {c d : Nat} (hle : leF s s') (hW : FactR w es hs s' W) (hA : (true, A) ∈ s) (hB : (true, B) ∈ s) :
    Calls Try.prog 77 #[.slice A hs.length c, .slice B hs.length d] W fun e W' => e = .returned (.bool true) ∧ FactR w es hs s' W' := by
  have h := sameInts_c A c hs B d hs W (hW.2 _ (hle _ hA)) (hW.2 _ (hle _ hB))
  rw [decide_eq_true rfl] at h
  exact h.mono fun e W' ⟨he, hb⟩ => ⟨he, hW.later hb⟩
theorem ldPl (b j g : Nat) (W : World) (h : W.cell? ⟨b, j, none⟩ = some (.pointer (some ⟨g, 0, none⟩))) : (Instr.loadAt 43 (.pointer (some ⟨b, j, none⟩))).run Try.prog W = .ok (.pointer (some ⟨g, 0, none⟩)) W := by
  go_simp
theorem ldPr (b j g : Nat) (W : World) (h : W.cell? ⟨b, j, none⟩ = some (.pointer (some ⟨g, 0, none⟩))) : (Instr.loadAt 45 (.pointer (some ⟨b, j, none⟩))).run Try.prog W = .ok (.pointer (some ⟨g, 0, none⟩)) W := by
  go_simp
set_option maxHeartbeats 6400000 in
set_option maxRecDepth 100000 in
theorem walks5_c {w : World} {g r : Nat} {S R : Nat → Prop} {draws : List Int} {L : List EH} (h : PairIs w g r S R draws L) (hl : L.length < 2932031007319) (kd : Int) (sc : Bool) (e : Ent) (n : Int) :
    Calls Try.prog 75 #[.agg #[.pointer (some ⟨g, 0, none⟩), .pointer (some ⟨r, 0, none⟩)], .agg #[.int .i64 kd, .bool sc, .string e.1, .int .u64 e.2.1, .bool e.2.2.1, .string e.2.2.2, .int .i64 n]] w fun en w' => en = .returned (.bool true) ∧ Below w.heap.size w w' := by
  obtain ⟨w2, hw2⟩ : ∃ Z, (w.alloc (.cells #[.pointer (some ⟨g, 0, none⟩), .pointer (some ⟨r, 0, none⟩)] 48)).alloc (.cells #[.int .i64 kd, .bool sc, .string e.1, .int .u64 e.2.1, .bool e.2.2.1, .string e.2.2.2, .int .i64 n] 55) = Z := ⟨_, rfl⟩
  have hb2 : Below w.heap.size w w2 := by rw [← hw2]; exact ((Below.refl _ _).alloc (Nat.le_refl _) _).alloc (by simp) _
  have q1 : w2.heap[w.heap.size]? = some (.cells #[.pointer (some ⟨g, 0, none⟩), .pointer (some ⟨r, 0, none⟩)] 48 (0, 0)) := by rw [← hw2]; exact blk_alloc (heap_alloc_new _ _) _
  have q2 : w2.heap[w.heap.size + 1]? = some (.cells #[.int .i64 kd, .bool sc, .string e.1, .int .u64 e.2.1, .bool e.2.2.1, .string e.2.2.2, .int .i64 n] 55 (0, 0)) := by rw [← hw2]; simpa using heap_alloc_new (w.alloc (.cells #[.pointer (some ⟨g, 0, none⟩), .pointer (some ⟨r, 0, none⟩)] 48)) (.cells #[.int .i64 kd, .bool sc, .string e.1, .int .u64 e.2.1, .bool e.2.2.1, .string e.2.2.2, .int .i64 n] 55)
  have a1 : w2.cell? ⟨w.heap.size, 1, none⟩ = some (.pointer (some ⟨r, 0, none⟩)) := (blk_cell q1 1).trans rfl
  have b2 : w2.cell? ⟨w.heap.size + 1, 2, none⟩ = some (.string e.1) := (blk_cell q2 2).trans rfl
  have b3 : w2.cell? ⟨w.heap.size + 1, 3, none⟩ = some (.int .u64 e.2.1) := (blk_cell q2 3).trans rfl
  have HF := Lib.hid (pairFrom_c (h.later hb2) hl e.1 e.2.1)
  have HG := Lib.hid (fun W (hW : Below w2.heap.size w2 W) => from_L g S draws L e.1 e.2.1 W W (h.sk.later (hb2.trans (hW.mono hb2.size))) (Below.refl _ _))
  have hql := notAhead_len e.1 e.2.1 L
  obtain ⟨Q, hQ⟩ : ∃ Q, notAhead e.1 e.2.1 (allE L) = Q := ⟨_, rfl⟩
  rw [hQ] at HF HG hql
  have HQL := Lib.hid (show Q.length < 2932031007319 by omega)
  have Q1 := Lib.hid q1
  have Q2 := Lib.hid q2
  have HB2 := Lib.hid hb2
  obtain ⟨qn, hqn⟩ : ∃ n, Q.length = n := ⟨_, rfl⟩
  have HQN := Lib.hid hqn
  clear h hl hb2 q1 q2 hql hQ hqn
  go_enter Try.func75, Try.ntmps75
  go_wp2_with fail
  refine HF.out.mono ?_
  rintro _ w3 ⟨v5, rfl, ho, hb3⟩
  obtain ⟨A5, c5, hv5, hlc, hs5, _⟩ := ho.slice (fun _ => rfl)
  subst hv5
  rw [HQN.out] at hlc ⊢
  have HS5 := Lib.hid hs5
  have HB23 := Lib.hid hb3
  have a0 : w3.cell? ⟨w.heap.size, 0, none⟩ = some (.pointer (some ⟨g, 0, none⟩)) := (blk_cell (blk_below Q1.out hb3) 0).trans rfl
  have b2' : w3.cell? ⟨w.heap.size + 1, 2, none⟩ = some (.string e.1) := cell_later hb3 b2
  have b3' : w3.cell? ⟨w.heap.size + 1, 3, none⟩ = some (.int .u64 e.2.1) := cell_later hb3 b3
  clear ho hs5 hb3 hw2 a1 b2 b3
  go_wp2_with fail
  refine (HG.out w3 HB23.out).mono ?_
  rintro _ w4 ⟨f, rfl, hit, hb4⟩
  have HIT := Lib.hid hit
  have HN0 := Lib.hid hb4.size
  have HB4 := Lib.hid (HB2.out.trans ((HB23.out.trans (hb4.mono HB23.out.size)).mono HB2.out.size))
  have N4 := Lib.hid (show w4.cell? ⟨w.heap.size + 1, 6, none⟩ = some (.int .i64 n) from (blk_cell (blk_below Q2.out (HB23.out.trans (hb4.mono HB23.out.size))) 6).trans rfl)
  have n0 := N4.out
  have HS4 := Lib.hid (HS5.out.later hb4)
  clear hit hb4 a0 b2' b3' HF HG
  by_cases hn0 : n < 0
  · have HTK := Lib.hid (show takeN n Q = Q from takeN_all (.inl hn0))
    have HSW := Lib.hid HS4.out
    have HWN := Lib.hid HQN.out
    have i8 : ¬ (0 : Int) ≤ n := by omega
    clear n0
    have n0 := N4.out
    go_wp2_with fail
    go_loopw [7] (fun s7 wr => ∃ i : Nat, s7 = .int .i64 (i : Int) ∧ i ≤ 3 ∧ Below w4.heap.size w4 wr) (fun s7 wr => 3 - (intOf s7).toNat)
    case atStart => exact ⟨0, rfl, by omega, Below.refl _ _⟩
    case round =>
      obtain ⟨i, rfl, hi, hb⟩ := hrel
      have HBW := Lib.hid hb
      have n0 : wr.cell? ⟨w.heap.size + 1, 6, none⟩ = some (.int .i64 n) := cell_later hb N4.out
      clear hb
      by_cases hi3 : i < 3
      · have i1 : (i : Int) < 3 := by omega
        have HT := Lib.hid (taken_c f n _ Q wr (HIT.out.later HBW.out) (Nat.le_trans HN0.out HBW.out.size) HQL.out)
        rw [HTK.out] at HT
        go_wp2_with fail
        refine HT.out.mono ?_
        rintro _ w5 ⟨v8, rfl, ho, hb5⟩
        clear HT
        obtain ⟨A8, c8, rfl⟩ := own_slice ho
        obtain ⟨_, _, ev, _, hs8, _⟩ := ho.slice (fun _ => rfl)
        injection ev with e1 e2 e3
        rw [← e1] at hs8
        have hse := sameEntries_c A8 c8 Q A5 c5 Q w5 hs8 ((HSW.out.later HBW.out).later hb5)
        rw [decide_eq_true rfl] at hse
        rw [HWN.out] at hse ⊢
        have HSE := Lib.hid hse
        have HB5 := Lib.hid (HBW.out.trans (hb5.mono HBW.out.size))
        clear ho hs8 e1 e2 e3 hse hb5 n0
        go_wp2_with fail
        refine HSE.out.mono ?_
        rintro _ w6 ⟨rfl, hb6⟩
        have HB6 := Lib.hid (HB5.out.trans (hb6.mono HB5.out.size))
        clear hb6
        go_wp2
        go_roundw
        case rel => exact ⟨i + 1, by first | rfl | simp, by omega, HB6.out⟩
        case measure => simp [intOf]; omega
      · have i1 : ¬ (i : Int) < 3 := by omega
        go_wp2
        go_ret
        exact ⟨rfl, HB4.out.trans (HBW.out.mono HB4.out.size)⟩
  · obtain ⟨p, hp⟩ : ∃ p : Nat, n = p := ⟨n.toNat, by omega⟩
    subst hp
    have i7 : (0 : Int) ≤ (p : Int) := by omega
    by_cases hpm : p < qn
    · have i8 : (p : Int) < qn := by omega
      have i9 : (p : Int) ≤ c5 := by omega
      obtain ⟨wl, hwl⟩ : ∃ x, Q.take p = x := ⟨_, rfl⟩
      have HTK := Lib.hid (show takeN (p : Int) Q = wl by unfold takeN; rw [if_neg (by omega), ← hwl]; rfl)
      have HSW := Lib.hid (show Sl encE 4 w4 A5 wl by rw [← hwl]; exact HS4.out.take_ p)
      have HWN := Lib.hid (show wl.length = p by rw [← hwl, List.length_take, HQN.out]; omega)
      clear hwl
      go_wp2_with fail
      go_loopw [7] (fun s7 wr => ∃ i : Nat, s7 = .int .i64 (i : Int) ∧ i ≤ 3 ∧ Below w4.heap.size w4 wr) (fun s7 wr => 3 - (intOf s7).toNat)
      case atStart => exact ⟨0, rfl, by omega, Below.refl _ _⟩
      case round =>
        obtain ⟨i, rfl, hi, hb⟩ := hrel
        have HBW := Lib.hid hb
        have n0 : wr.cell? ⟨w.heap.size + 1, 6, none⟩ = some (.int .i64 (p : Int)) := cell_later hb N4.out
        clear hb
        by_cases hi3 : i < 3
        · have i1 : (i : Int) < 3 := by omega
          have HT := Lib.hid (taken_c f (p : Int) _ Q wr (HIT.out.later HBW.out) (Nat.le_trans HN0.out HBW.out.size) HQL.out)
          rw [HTK.out] at HT
          go_wp2_with fail
          refine HT.out.mono ?_
          rintro _ w5 ⟨v8, rfl, ho, hb5⟩
          clear HT
          obtain ⟨A8, c8, rfl⟩ := own_slice ho
          obtain ⟨_, _, ev, _, hs8, _⟩ := ho.slice (fun _ => rfl)
          injection ev with e1 e2 e3
          rw [← e1] at hs8
          have hse := sameEntries_c A8 c8 wl A5 c5 wl w5 hs8 ((HSW.out.later HBW.out).later hb5)
          rw [decide_eq_true rfl] at hse
          rw [HWN.out] at hse ⊢
          have HSE := Lib.hid hse
          have HB5 := Lib.hid (HBW.out.trans (hb5.mono HBW.out.size))
          clear ho hs8 e1 e2 e3 hse hb5 n0
          go_wp2_with fail
          refine HSE.out.mono ?_
          rintro _ w6 ⟨rfl, hb6⟩
          have HB6 := Lib.hid (HB5.out.trans (hb6.mono HB5.out.size))
          clear hb6
          go_wp2
          go_roundw
          case rel => exact ⟨i + 1, by first | rfl | simp, by omega, HB6.out⟩
          case measure => simp [intOf]; omega
        · have i1 : ¬ (i : Int) < 3 := by omega
          go_wp2
          go_ret
          exact ⟨rfl, HB4.out.trans (HBW.out.mono HB4.out.size)⟩
    · have HTK := Lib.hid (show takeN (p : Int) Q = Q by unfold takeN; rw [if_neg (by omega)]; exact List.take_of_length_le (by rw [HQN.out]; omega))
      have HSW := Lib.hid HS4.out
      have HWN := Lib.hid HQN.out
      have i8 : ¬ (p : Int) < qn := by omega
      go_wp2_with fail
      go_loopw [7] (fun s7 wr => ∃ i : Nat, s7 = .int .i64 (i : Int) ∧ i ≤ 3 ∧ Below w4.heap.size w4 wr) (fun s7 wr => 3 - (intOf s7).toNat)
      case atStart => exact ⟨0, rfl, by omega, Below.refl _ _⟩
      case round =>
        obtain ⟨i, rfl, hi, hb⟩ := hrel
        have HBW := Lib.hid hb
        have n0 : wr.cell? ⟨w.heap.size + 1, 6, none⟩ = some (.int .i64 (p : Int)) := cell_later hb N4.out
        clear hb
        by_cases hi3 : i < 3
        · have i1 : (i : Int) < 3 := by omega
          have HT := Lib.hid (taken_c f (p : Int) _ Q wr (HIT.out.later HBW.out) (Nat.le_trans HN0.out HBW.out.size) HQL.out)
          rw [HTK.out] at HT
          go_wp2_with fail
          refine HT.out.mono ?_
          rintro _ w5 ⟨v8, rfl, ho, hb5⟩
          clear HT
          obtain ⟨A8, c8, rfl⟩ := own_slice ho
          obtain ⟨_, _, ev, _, hs8, _⟩ := ho.slice (fun _ => rfl)
          injection ev with e1 e2 e3
          rw [← e1] at hs8
          have hse := sameEntries_c A8 c8 Q A5 c5 Q w5 hs8 ((HSW.out.later HBW.out).later hb5)
          rw [decide_eq_true rfl] at hse
          rw [HWN.out] at hse ⊢
          have HSE := Lib.hid hse
          have HB5 := Lib.hid (HBW.out.trans (hb5.mono HBW.out.size))
          clear ho hs8 e1 e2 e3 hse hb5 n0
          go_wp2_with fail
          refine HSE.out.mono ?_
          rintro _ w6 ⟨rfl, hb6⟩
          have HB6 := Lib.hid (HB5.out.trans (hb6.mono HB5.out.size))
          clear hb6
          go_wp2
          go_roundw
          case rel => exact ⟨i + 1, by first | rfl | simp, by omega, HB6.out⟩
          case measure => simp [intOf]; omega
        · have i1 : ¬ (i : Int) < 3 := by omega
          go_wp2
          go_ret
          exact ⟨rfl, HB4.out.trans (HBW.out.mono HB4.out.size)⟩
end Go.Proofs.Ytjbbobhjomhnmaa.H
