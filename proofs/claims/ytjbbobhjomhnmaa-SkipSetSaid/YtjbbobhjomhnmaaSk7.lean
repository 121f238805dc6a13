/- skip.node: nodes, and the iterator it hands back. No conditions. -/
import Derived.Test.YtjbbobhjomhnmaaSk6
import Derived.Test.YtjbbobhjomhnmaaSeqT
namespace Go.Proofs.Ytjbbobhjomhnmaa.H
open Go Go.RowKit Go.Deep Go.Shelf Go.Proofs Go.Proofs.YtjbbobhjomhnmaaW.PrintWords
set_option linter.unusedVariables false
set_option linter.unusedSimpArgs false
attribute [local go_sem] Oper.semAt_some
/-- Behind b stand xs, at height 0. -/
def ChainAt (n₀ : Nat) (W : World) : Nat → List Nd → Prop
  | b, [] => b < n₀ ∧ W.cell? ⟨b, 5, none⟩ = some (.pointer none)
  | b, x :: xs => b < n₀ ∧ W.cell? ⟨b, 5, none⟩ = some (.pointer (some ⟨x.b, 0, none⟩)) ∧ ChainAt n₀ W x.b xs
theorem ChainAt.below {n₀ : Nat} {A B : World} (h : Below n₀ A B) : ∀ {b : Nat} {xs : List Nd}, ChainAt n₀ A b xs → ChainAt n₀ B b xs
  | b, [], ⟨hb, hc⟩ => ⟨hb, (h.cell (p := ⟨b, 5, none⟩) hb).trans hc⟩
  | b, x :: xs, ⟨hb, hc, hr⟩ => ⟨hb, (h.cell (p := ⟨b, 5, none⟩) hb).trans hc, ChainAt.below h hr⟩
theorem ChainAt.len {n₀ : Nat} {W : World} : ∀ {b : Nat} {xs ys : List Nd}, ChainAt n₀ W b xs → ChainAt n₀ W b ys → xs.length = ys.length
  | _, [], [], _, _ => rfl
  | _, [], _ :: _, ⟨_, h⟩, ⟨_, k, _⟩ => by rw [h] at k; cases k
  | _, _ :: _, [], ⟨_, h, _⟩, ⟨_, k⟩ => by rw [h] at k; cases k
  | _, x :: xs, y :: ys, ⟨_, h, h2⟩, ⟨_, k, k2⟩ => by
    rw [h] at k
    have e : x.b = y.b := by simpa using k
    rw [← e] at k2
    simp [ChainAt.len h2 k2]
def hdV : List Nd → Value
  | [] => .pointer none
  | x :: _ => .pointer (some ⟨x.b, 0, none⟩)
theorem ChainAt.cell {n₀ : Nat} {W : World} : ∀ {b : Nat} {xs : List Nd}, ChainAt n₀ W b xs → b < n₀ ∧ W.cell? ⟨b, 5, none⟩ = some (hdV xs)
  | _, [], h => h
  | _, _ :: _, h => ⟨h.1, h.2.1⟩
def RestAt (n₀ : Nat) (W : World) : List Nd → Prop
  | [] => True
  | x :: xs => ChainAt n₀ W x.b xs
theorem ChainAt.rest {n₀ : Nat} {W : World} : ∀ {b : Nat} {xs : List Nd}, ChainAt n₀ W b xs → RestAt n₀ W xs
  | _, [], _ => trivial
  | _, _ :: _, h => h.2.2
theorem RestAt.below {n₀ : Nat} {A B : World} (h : Below n₀ A B) : ∀ {xs : List Nd}, RestAt n₀ A xs → RestAt n₀ B xs
  | [], _ => trivial
  | _ :: _, hr => ChainAt.below h hr
theorem RestAt.len {n₀ : Nat} {W : World} : ∀ {xs ys : List Nd}, hdV xs = hdV ys → RestAt n₀ W xs → RestAt n₀ W ys → xs.length = ys.length
  | [], [], _, _, _ => rfl
  | [], _ :: _, h, _, _ => by simp [hdV] at h
  | _ :: _, [], h, _, _ => by simp [hdV] at h
  | x :: xs, y :: ys, h, h1, h2 => by
    have e : x.b = y.b := by simpa [hdV] using h
    have h2 : ChainAt n₀ W y.b ys := h2
    rw [← e] at h2
    simp [ChainAt.len h1 h2]
open Classical in
noncomputable def nodesLeft (n₀ : Nat) (W : World) (v : Value) : Nat := if h : ∃ xs, v = hdV xs ∧ RestAt n₀ W xs then (Classical.choose h).length else 0
theorem nodesLeft_eq {n₀ : Nat} {W : World} {xs : List Nd} (h : RestAt n₀ W xs) : nodesLeft n₀ W (hdV xs) = xs.length := by
  have hex : ∃ ys, hdV xs = hdV ys ∧ RestAt n₀ W ys := ⟨xs, rfl, h⟩
  unfold nodesLeft
  rw [dif_pos hex]
  obtain ⟨e, hl⟩ := Classical.choose_spec hex
  exact (RestAt.len e h hl).symm
theorem nil_or_last {α : Type} (l : List α) : l = [] ∨ ∃ a x, l = a ++ [x] := by
  rcases List.eq_nil_or_concat l with h | ⟨a, x, h⟩
  · exact .inl h
  · exact .inr ⟨a, x, by simpa using h⟩
theorem NodesAt.chain {w : World} {g : Nat} {l : List Nd} (hN : NodesAt w g l) : ∀ (post pre : List Nd), l = pre ++ post → ChainAt w.heap.size w (atB g (pre.getLast?)) post
  | [], pre, hl => by
    have hc : w.cell? ⟨atB g pre.getLast?, 5, none⟩ = some (.pointer none) := by
      rcases nil_or_last pre with rfl | ⟨a, x, rfl⟩
      · have := hN.head 0 (by omega)
        rw [hl] at this
        exact this
      · have := (hN.node a x [] (by rw [hl]; simp)).2.2.2
        have h2 := this.2 0 (by omega)
        rw [List.getLast?_concat]
        exact h2
    exact ⟨World.block_lt_of_cell? w _ hc, hc⟩
  | x :: post, pre, hl => by
    have hx := (hN.node pre x post hl).2.2.2
    have hn : nxt 0 (x :: post) = some x := by
      unfold nxt
      rw [List.find?_cons_of_pos (by simpa using (by omega : 0 < x.high))]
    have hc : w.cell? ⟨atB g pre.getLast?, 5, none⟩ = some (.pointer (some ⟨x.b, 0, none⟩)) := by
      rcases nil_or_last pre with rfl | ⟨a, y, rfl⟩
      · have := hN.head 0 (by omega)
        rw [hl, List.nil_append, hn] at this
        exact this
      · have := (hN.node a y (x :: post) (by rw [hl]; simp)).2.2.2
        have h2 := this.2 0 (by omega)
        rw [hn] at h2
        rw [List.getLast?_concat]
        exact h2
    refine ⟨World.block_lt_of_cell? w _ hc, hc, ?_⟩
    have := NodesAt.chain hN post (pre ++ [x]) (by rw [hl]; simp)
    rwa [List.getLast?_concat] at this
theorem prv_zero {pre : List Nd} (h : ∀ x ∈ pre, 1 ≤ x.high) : prv 0 pre = pre.getLast? := by
  unfold prv
  rw [List.filter_eq_self.2 (fun x hx => by simpa using (by have := h x hx; omega : 0 < x.high))]
set_option maxHeartbeats 1000000 in
theorem nodes_c (F : Fence) (n : Nat) (hF : F.fn 81) (hro : F.round = none) (p : Option Addr) (w : World) :
    CallsIn F n Try.prog 81 #[.pointer p] w fun e w' => e = .returned (.func (.func 108) #[] #[.pointer (some ⟨w.heap.size, 0, none⟩)]) ∧ w' = w.alloc (.cells #[.pointer p] 116) := by
  refine callsIn_of_wp Try.func81 rfl hF ?_ hro
  simp only [Try.ntmps81, List.size_toArray, List.length_cons, List.length_nil, Nat.reduceAdd, Nat.reduceSub, Array.replicate_succ, Array.replicate_zero, List.push_toArray, List.append_toArray, List.nil_append, List.cons_append]
  gi_wp2
  go_ret
  exact ⟨rfl, rfl⟩
theorem Upd.bel {S : Nat → Prop} {w w' : World} {n : Nat} (u : Upd S w w') (hS : ∀ k, S k → n ≤ k) (hn : n ≤ w.heap.size) : Below n w w' :=
  ⟨u.os, u.tape, u.output, u.size, fun k hk => u.block k (Nat.lt_of_lt_of_le hk hn) (fun s => by have := hS k s; omega)⟩
set_option maxRecDepth 100000 in
set_option maxHeartbeats 1000000 in
theorem nodes_it (Bn n₀ b0 : Nat) (xs : List Nd) (W : World) (hn₀ : n₀ ≤ W.heap.size) (hBn : W.cell? ⟨Bn, 0, none⟩ = some (.pointer (some ⟨b0, 0, none⟩))) (hL : ChainAt n₀ W b0 xs) :
    IterT Try.prog 108 #[.pointer (some ⟨Bn, 0, none⟩)] (fun x : Nd => #[Value.pointer (some ⟨x.b, 0, none⟩)]) n₀ xs W := by
  intro fn cap J Jx T hJ hJx hT h0 hY
  have hc0 := hL.cell.2
  obtain ⟨v0, hv0⟩ : ∃ v, hdV xs = v := ⟨_, rfl⟩
  rw [hv0] at hc0
  have HY := Lib.hid hY
  clear hY
  refine (callsIn_wide (n := 8)).1 ?_
  refine callsIn_of_wp Try.func108 rfl trivial ?_ rfl
  simp only [Try.ntmps108, List.size_toArray, List.length_cons, List.length_nil, Nat.reduceAdd, Nat.reduceSub, Array.replicate_succ, Array.replicate_zero, List.push_toArray, List.append_toArray, List.nil_append, List.cons_append]
  gi_wp2
  gi_loopw [3] (fun p wr => ∃ (pre rest : List Nd) (T1 : Nat → Prop), p = hdV rest ∧ xs = pre ++ rest ∧ RestAt n₀ wr rest ∧ J pre T1 wr ∧ Grow T T1 W ∧ Upd T W wr)
    (fun p wr => nodesLeft n₀ wr p)
  case atStart =>
    exact ⟨[], xs, T, hv0.symm, rfl, hL.rest, h0, Grow.refl _ _, Upd.refl _ _⟩
  case round =>
    obtain ⟨pre, rest, T1, rfl, hx, hl, hJs, hg1, hu1⟩ := hrel
    have hge1 := hg1.ge hT hn₀
    have hnr : n₀ ≤ wr.heap.size := Nat.le_trans hn₀ hu1.size
    cases rest with
    | nil =>
      rw [show hdV ([] : List Nd) = .pointer none from rfl]
      gi_wp2
      go_end0
      exact ⟨⟨_, rfl⟩, T1, hg1, hu1, .inl (by rw [hx, List.append_nil]; exact hJs)⟩
    | cons x rest =>
      have hl' := hl
      have hcall := (HY.out pre x T1 wr hJs hg1 hu1 ⟨rest, by rw [hx]; simp⟩).mono fun e W1 h => h.bool
      have main : ∀ (W3 : World) (T3 : Nat → Prop), Grow T1 T3 wr → Upd T1 wr W3 → (∃ q, W3.cell? ⟨x.b, 5, none⟩ = some q ∧ q = hdV rest) ∧ RestAt n₀ W3 rest ∧ Grow T T3 W ∧ Upd T W W3 ∧ nodesLeft n₀ W3 (hdV rest) < nodesLeft n₀ wr (.pointer (some ⟨x.b, 0, none⟩)) := fun W3 T3 hg3 hu3 => by
        have hb3 : Below n₀ wr W3 := hu3.bel hge1 hnr
        have hl3 : ChainAt n₀ W3 x.b rest := ChainAt.below hb3 hl
        have e1 := nodesLeft_eq (n₀ := n₀) (W := W3) (xs := rest) hl3.rest
        have e2 : nodesLeft n₀ wr (.pointer (some ⟨x.b, 0, none⟩)) = (x :: rest).length := nodesLeft_eq (xs := x :: rest) hl'
        refine ⟨⟨_, hl3.cell.2, rfl⟩, hl3.rest, hg1.trans hg3 hu1.size, hu1.grow hu3 hg1, ?_⟩
        rw [e1, e2]
        simp
      have HM := Lib.hid main
      clear main
      rw [show hdV (x :: rest) = .pointer (some ⟨x.b, 0, none⟩) from rfl]
      rcases hcall with ⟨l2, rfl, rfl, fn, tmps, assign, body, hy, hR⟩ | ⟨f, rfl, henter, hC⟩
      · have HC := Lib.hid hR
        clear hR
        gi_wp2
        refine (RoundIn.wide HC.out).mono ?_
        rintro e W3 ⟨b, T3, rfl, hg3, hu3, hb3, hx3⟩
        obtain ⟨⟨q, hq3, hqe⟩, hr3, hgT, huT, hm3⟩ := HM.out W3 T3 hg3 hu3
        cases b with
        | true =>
          gi_wp2
          go_roundw
          case rel => exact ⟨pre ++ [x], rest, T3, (by first | rfl | exact hqe), by simp [hx], hr3, (by first | exact hb3 rfl | exact hb3 trivial), hgT, huT⟩
          case measure => first | exact hm3 | (rw [hqe]; exact hm3)
        | false =>
          gi_wp2
          refine bodyPost_ret (results_none rfl _ _ _) rfl ?_
          exact ⟨⟨_, rfl⟩, T3, hgT, huT, .inr ⟨pre ++ [x], ⟨rest, by simp [hx]⟩, (by first | exact hx3 rfl | exact hx3 trivial)⟩⟩
      · have HC := Lib.hid hC
        clear hC
        gi_wp2_with (first | (refine ⟨trivial, ?_⟩; gi_at_fn f; refine (callsIn_wide.2 HC.out).mono ?_; rintro e W3 ⟨b, T3, rfl, hg3, hu3, hb3, hx3⟩; obtain ⟨⟨q, hq3, hqe⟩, hr3, hgT, huT, hm3⟩ := HM.out W3 T3 hg3 hu3; cases b))
        · refine bodyPost_ret (results_none rfl _ _ _) rfl ?_
          exact ⟨⟨_, rfl⟩, T3, hgT, huT, .inr ⟨pre ++ [x], ⟨rest, by simp [hx]⟩, (by first | exact hx3 rfl | exact hx3 trivial)⟩⟩
        · go_roundw
          case rel => exact ⟨pre ++ [x], rest, T3, (by first | rfl | exact hqe), by simp [hx], hr3, (by first | exact hb3 rfl | exact hb3 trivial), hgT, huT⟩
          case measure => first | exact hm3 | (rw [hqe]; exact hm3)
end Go.Proofs.Ytjbbobhjomhnmaa.H
