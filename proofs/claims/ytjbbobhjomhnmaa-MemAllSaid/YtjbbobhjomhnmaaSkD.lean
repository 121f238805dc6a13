/- skip.node: nodes, and the iterator it hands back. No conditions. | skip.List.From; what taken's function does. Conditions: sizes. | skip.List.From's iterator, whatever it is handed. No conditions. | taken: what an iterator gives, at most n entries. Conditions: sizes. | skip.List.From as a value; Seek. Conditions: sizes. -/
import Derived.Test.YtjbbobhjomhnmaaSk6
import Derived.Test.YtjbbobhjomhnmaaSkC
import Derived.BigRegion
namespace Go.Proofs.Ytjbbobhjomhnmaa.H
open Go Go.RowKit Go.Deep Go.Shelf Go.Proofs Go.Proofs.YtjbbobhjomhnmaaW.PrintWords
set_option linter.unusedVariables false
set_option linter.unusedSimpArgs false
attribute [local go_sem] Oper.semAt_some
/-- Behind b stand xs, at height 0. -/
def ChainAt (n₀ : Nat) (W : World) : Nat → List Nd → Prop
  | b, [] => b < n₀ ∧ W.cell? ⟨b, 5, none⟩ = some (.pointer none)
  | b, x :: xs => b < n₀ ∧ W.cell? ⟨b, 5, none⟩ = some (.pointer (some ⟨x.b, 0, none⟩)) ∧ ChainAt n₀ W x.b xs
theorem ChainAt.below {n₀ : Nat} {A B : World} (h : Below n₀ A B) : ∀ {b : Nat} {xs : List Nd}, ChainAt n₀ A b xs → ChainAt n₀ B b xs
  | b, [], ⟨hb, hc⟩ => ⟨hb, (h.cell (p := ⟨b, 5, none⟩) hb).trans hc⟩
  | b, x :: xs, ⟨hb, hc, hr⟩ => ⟨hb, (h.cell (p := ⟨b, 5, none⟩) hb).trans hc, ChainAt.below h hr⟩
theorem ChainAt.len {n₀ : Nat} {W : World} : ∀ {b : Nat} {xs ys : List Nd}, ChainAt n₀ W b xs → ChainAt n₀ W b ys → xs.length = ys.length
  | _, [], [], _, _ => rfl
  | _, [], _ :: _, ⟨_, h⟩, ⟨_, k, _⟩ => by rw [h] at k; cases k
  | _, _ :: _, [], ⟨_, h, _⟩, ⟨_, k⟩ => by rw [h] at k; cases k
  | _, x :: xs, y :: ys, ⟨_, h, h2⟩, ⟨_, k, k2⟩ => by
    rw [h] at k
    have e : x.b = y.b := by simpa using k
    rw [← e] at k2
    simp [ChainAt.len h2 k2]
def hdV : List Nd → Value
  | [] => .pointer none
  | x :: _ => .pointer (some ⟨x.b, 0, none⟩)
theorem ChainAt.cell {n₀ : Nat} {W : World} : ∀ {b : Nat} {xs : List Nd}, ChainAt n₀ W b xs → b < n₀ ∧ W.cell? ⟨b, 5, none⟩ = some (hdV xs)
  | _, [], h => h
  | _, _ :: _, h => ⟨h.1, h.2.1⟩
def RestAt (n₀ : Nat) (W : World) : List Nd → Prop
  | [] => True
  | x :: xs => ChainAt n₀ W x.b xs
theorem ChainAt.rest {n₀ : Nat} {W : World} : ∀ {b : Nat} {xs : List Nd}, ChainAt n₀ W b xs → RestAt n₀ W xs
  | _, [], _ => trivial
  | _, _ :: _, h => h.2.2
theorem RestAt.below {n₀ : Nat} {A B : World} (h : Below n₀ A B) : ∀ {xs : List Nd}, RestAt n₀ A xs → RestAt n₀ B xs
  | [], _ => trivial
  | _ :: _, hr => ChainAt.below h hr
theorem RestAt.len {n₀ : Nat} {W : World} : ∀ {xs ys : List Nd}, hdV xs = hdV ys → RestAt n₀ W xs → RestAt n₀ W ys → xs.length = ys.length
  | [], [], _, _, _ => rfl
  | [], _ :: _, h, _, _ => by simp [hdV] at h
  | _ :: _, [], h, _, _ => by simp [hdV] at h
  | x :: xs, y :: ys, h, h1, h2 => by
    have e : x.b = y.b := by simpa [hdV] using h
    have h2 : ChainAt n₀ W y.b ys := h2
    rw [← e] at h2
    simp [ChainAt.len h1 h2]
open Classical in
noncomputable def nodesLeft (n₀ : Nat) (W : World) (v : Value) : Nat := if h : ∃ xs, v = hdV xs ∧ RestAt n₀ W xs then (Classical.choose h).length else 0
theorem nodesLeft_eq {n₀ : Nat} {W : World} {xs : List Nd} (h : RestAt n₀ W xs) : nodesLeft n₀ W (hdV xs) = xs.length := by
  have hex : ∃ ys, hdV xs = hdV ys ∧ RestAt n₀ W ys := ⟨xs, rfl, h⟩
  unfold nodesLeft
  rw [dif_pos hex]
  obtain ⟨e, hl⟩ := Classical.choose_spec hex
  exact (RestAt.len e h hl).symm
theorem nil_or_last {α : Type} (l : List α) : l = [] ∨ ∃ a x, l = a ++ [x] := by
  rcases List.eq_nil_or_concat l with h | ⟨a, x, h⟩
  · exact .inl h
  · exact .inr ⟨a, x, by simpa using h⟩
theorem NodesAt.chain {w : World} {g : Nat} {l : List Nd} (hN : NodesAt w g l) : ∀ (post pre : List Nd), l = pre ++ post → ChainAt w.heap.size w (atB g (pre.getLast?)) post
  | [], pre, hl => by
    have hc : w.cell? ⟨atB g pre.getLast?, 5, none⟩ = some (.pointer none) := by
      rcases nil_or_last pre with rfl | ⟨a, x, rfl⟩
      · have := hN.head 0 (by omega)
        rw [hl] at this
        exact this
      · have := (hN.node a x [] (by rw [hl]; simp)).2.2.2
        have h2 := this.2 0 (by omega)
        rw [List.getLast?_concat]
        exact h2
    exact ⟨World.block_lt_of_cell? w _ hc, hc⟩
  | x :: post, pre, hl => by
    have hx := (hN.node pre x post hl).2.2.2
    have hn : nxt 0 (x :: post) = some x := by
      unfold nxt
      rw [List.find?_cons_of_pos (by simpa using (by omega : 0 < x.high))]
    have hc : w.cell? ⟨atB g pre.getLast?, 5, none⟩ = some (.pointer (some ⟨x.b, 0, none⟩)) := by
      rcases nil_or_last pre with rfl | ⟨a, y, rfl⟩
      · have := hN.head 0 (by omega)
        rw [hl, List.nil_append, hn] at this
        exact this
      · have := (hN.node a y (x :: post) (by rw [hl]; simp)).2.2.2
        have h2 := this.2 0 (by omega)
        rw [hn] at h2
        rw [List.getLast?_concat]
        exact h2
    refine ⟨World.block_lt_of_cell? w _ hc, hc, ?_⟩
    have := NodesAt.chain hN post (pre ++ [x]) (by rw [hl]; simp)
    rwa [List.getLast?_concat] at this
theorem prv_zero {pre : List Nd} (h : ∀ x ∈ pre, 1 ≤ x.high) : prv 0 pre = pre.getLast? := by
  unfold prv
  rw [List.filter_eq_self.2 (fun x hx => by simpa using (by have := h x hx; omega : 0 < x.high))]
set_option maxHeartbeats 1000000 in
theorem nodes_c (F : Fence) (n : Nat) (hF : F.fn 81) (hro : F.round = none) (p : Option Addr) (w : World) :
    CallsIn F n Try.prog 81 #[.pointer p] w fun e w' => e = .returned (.func (.func 108) #[] #[.pointer (some ⟨w.heap.size, 0, none⟩)]) ∧ w' = w.alloc (.cells #[.pointer p] 116) := by
  refine callsIn_of_wp Try.func81 rfl hF ?_ hro
  simp only [Try.ntmps81, List.size_toArray, List.length_cons, List.length_nil, Nat.reduceAdd, Nat.reduceSub, Array.replicate_succ, Array.replicate_zero, List.push_toArray, List.append_toArray, List.nil_append, List.cons_append]
  gi_wp2
  go_ret
  exact ⟨rfl, rfl⟩
theorem Upd.bel {S : Nat → Prop} {w w' : World} {n : Nat} (u : Upd S w w') (hS : ∀ k, S k → n ≤ k) (hn : n ≤ w.heap.size) : Below n w w' :=
  ⟨u.os, u.tape, u.output, u.size, fun k hk => u.block k (Nat.lt_of_lt_of_le hk hn) (fun s => by have := hS k s; omega)⟩
set_option maxRecDepth 100000 in
set_option maxHeartbeats 1000000 in
theorem nodes_it (Bn n₀ b0 : Nat) (xs : List Nd) (W : World) (hn₀ : n₀ ≤ W.heap.size) (hBn : W.cell? ⟨Bn, 0, none⟩ = some (.pointer (some ⟨b0, 0, none⟩))) (hL : ChainAt n₀ W b0 xs) :
    IterT Try.prog 108 #[.pointer (some ⟨Bn, 0, none⟩)] (fun x : Nd => #[Value.pointer (some ⟨x.b, 0, none⟩)]) n₀ xs W := by
  intro fn cap J Jx T hJ hJx hT h0 hY
  have hc0 := hL.cell.2
  obtain ⟨v0, hv0⟩ : ∃ v, hdV xs = v := ⟨_, rfl⟩
  rw [hv0] at hc0
  have HY := Lib.hid hY
  clear hY
  refine (callsIn_wide (n := 8)).1 ?_
  refine callsIn_of_wp Try.func108 rfl trivial ?_ rfl
  simp only [Try.ntmps108, List.size_toArray, List.length_cons, List.length_nil, Nat.reduceAdd, Nat.reduceSub, Array.replicate_succ, Array.replicate_zero, List.push_toArray, List.append_toArray, List.nil_append, List.cons_append]
  gi_wp2
  gi_loopw [3] (fun p wr => ∃ (pre rest : List Nd) (T1 : Nat → Prop), p = hdV rest ∧ xs = pre ++ rest ∧ RestAt n₀ wr rest ∧ J pre T1 wr ∧ Grow T T1 W ∧ Upd T W wr)
    (fun p wr => nodesLeft n₀ wr p)
  case atStart =>
    exact ⟨[], xs, T, hv0.symm, rfl, hL.rest, h0, Grow.refl _ _, Upd.refl _ _⟩
  case round =>
    obtain ⟨pre, rest, T1, rfl, hx, hl, hJs, hg1, hu1⟩ := hrel
    have hge1 := hg1.ge hT hn₀
    have hnr : n₀ ≤ wr.heap.size := Nat.le_trans hn₀ hu1.size
    cases rest with
    | nil =>
      rw [show hdV ([] : List Nd) = .pointer none from rfl]
      gi_wp2
      go_end0
      exact ⟨⟨_, rfl⟩, T1, hg1, hu1, .inl (by rw [hx, List.append_nil]; exact hJs)⟩
    | cons x rest =>
      have hl' := hl
      have hcall := (HY.out pre x T1 wr hJs hg1 hu1 ⟨rest, by rw [hx]; simp⟩).mono fun e W1 h => h.bool
      have main : ∀ (W3 : World) (T3 : Nat → Prop), Grow T1 T3 wr → Upd T1 wr W3 → (∃ q, W3.cell? ⟨x.b, 5, none⟩ = some q ∧ q = hdV rest) ∧ RestAt n₀ W3 rest ∧ Grow T T3 W ∧ Upd T W W3 ∧ nodesLeft n₀ W3 (hdV rest) < nodesLeft n₀ wr (.pointer (some ⟨x.b, 0, none⟩)) := fun W3 T3 hg3 hu3 => by
        have hb3 : Below n₀ wr W3 := hu3.bel hge1 hnr
        have hl3 : ChainAt n₀ W3 x.b rest := ChainAt.below hb3 hl
        have e1 := nodesLeft_eq (n₀ := n₀) (W := W3) (xs := rest) hl3.rest
        have e2 : nodesLeft n₀ wr (.pointer (some ⟨x.b, 0, none⟩)) = (x :: rest).length := nodesLeft_eq (xs := x :: rest) hl'
        refine ⟨⟨_, hl3.cell.2, rfl⟩, hl3.rest, hg1.trans hg3 hu1.size, hu1.grow hu3 hg1, ?_⟩
        rw [e1, e2]
        simp
      have HM := Lib.hid main
      clear main
      rw [show hdV (x :: rest) = .pointer (some ⟨x.b, 0, none⟩) from rfl]
      rcases hcall with ⟨l2, rfl, rfl, fn, tmps, assign, body, hy, hR⟩ | ⟨f, rfl, henter, hC⟩
      · have HC := Lib.hid hR
        clear hR
        gi_wp2
        refine (RoundIn.wide HC.out).mono ?_
        rintro e W3 ⟨b, T3, rfl, hg3, hu3, hb3, hx3⟩
        obtain ⟨⟨q, hq3, hqe⟩, hr3, hgT, huT, hm3⟩ := HM.out W3 T3 hg3 hu3
        cases b with
        | true =>
          gi_wp2
          go_roundw
          case rel => exact ⟨pre ++ [x], rest, T3, (by first | rfl | exact hqe), by simp [hx], hr3, (by first | exact hb3 rfl | exact hb3 trivial), hgT, huT⟩
          case measure => first | exact hm3 | (rw [hqe]; exact hm3)
        | false =>
          gi_wp2
          refine bodyPost_ret (results_none rfl _ _ _) rfl ?_
          exact ⟨⟨_, rfl⟩, T3, hgT, huT, .inr ⟨pre ++ [x], ⟨rest, by simp [hx]⟩, (by first | exact hx3 rfl | exact hx3 trivial)⟩⟩
      · have HC := Lib.hid hC
        clear hC
        gi_wp2_with (first | (refine ⟨trivial, ?_⟩; gi_at_fn f; refine (callsIn_wide.2 HC.out).mono ?_; rintro e W3 ⟨b, T3, rfl, hg3, hu3, hb3, hx3⟩; obtain ⟨⟨q, hq3, hqe⟩, hr3, hgT, huT, hm3⟩ := HM.out W3 T3 hg3 hu3; cases b))
        · refine bodyPost_ret (results_none rfl _ _ _) rfl ?_
          exact ⟨⟨_, rfl⟩, T3, hgT, huT, .inr ⟨pre ++ [x], ⟨rest, by simp [hx]⟩, (by first | exact hx3 rfl | exact hx3 trivial)⟩⟩
        · go_roundw
          case rel => exact ⟨pre ++ [x], rest, T3, (by first | rfl | exact hqe), by simp [hx], hr3, (by first | exact hb3 rfl | exact hb3 trivial), hgT, huT⟩
          case measure => first | exact hm3 | (rw [hqe]; exact hm3)
end Go.Proofs.Ytjbbobhjomhnmaa.H
namespace Go.Proofs.Ytjbbobhjomhnmaa.H
open Go Go.RowKit Go.Deep Go.Shelf Go.Proofs Go.Proofs.YtjbbobhjomhnmaaW.PrintWords
set_option linter.unusedVariables false
set_option linter.unusedSimpArgs false
theorem infoE : (Try.prog.info? 53).map (fun i => (i.zero, i.size, i.bytes)) = some (some (.agg #[.string ⟨#[]⟩, .int .u64 0, .bool false, .string ⟨#[]⟩]), 4, 48) := by kernel_rfl
theorem uSlE : Try.prog.underlying 64 = some (.slice 53) := Try.underlying64
theorem okE : EncOk encE 4 := fun x => ⟨rfl, by simp [encE, Value.oneCell']⟩
set_option maxHeartbeats 1000000 in
theorem from_c (g : Value) (k : ByteArray) (q : Int) (w : World) (p : Option Addr) : Calls Try.prog 17 #[.pointer p, .string k, .int .u64 q] w fun e w' =>
    e = .returned (.func (.func 79) #[] #[.pointer (some ⟨w.heap.size, 0, none⟩), .pointer (some ⟨w.heap.size + 1, 0, none⟩), .pointer (some ⟨w.heap.size + 1 + 1, 0, none⟩)]) ∧
      w' = ((w.alloc (.cells #[.pointer p] 43)).alloc (.cells #[.string k] 9)).alloc (.cells #[.int .u64 q] 51) := by
  go_enter Try.func17, Try.ntmps17
  go_wp2
  go_ret
  exact ⟨rfl, rfl⟩
/-- The variables of taken's function: what came, whether it has ended; T: their blocks. -/
structure TakAt (n₀ bE bW bO bN : Nat) (n : Int) (ended : Bool) (pre : List Ent) (T : Nat → Prop) (W : World) : Prop where
  e : W.heap[bE]? = some (.cells #[.bool ended] 4 (0, 0))
  w : W.heap[bW]? = some (.cells #[.bool true] 4 (0, 0))
  o : ∃ v, W.heap[bO]? = some (.cells #[v] 64 (0, 0)) ∧ Own encE 53 4 W n₀ v pre ∧ (∀ k, v.ownBlock = some k → k ≠ bE ∧ k ≠ bW ∧ k ≠ bO ∧ k ≠ bN) ∧ ∀ k, T k ↔ k = bE ∨ k = bW ∨ k = bO ∨ k = bN ∨ v.ownBlock = some k
  n : W.heap[bN]? = some (.cells #[.int .i64 n] 3 (0, 0))
  far : bE ≠ bW ∧ bE ≠ bO ∧ bE ≠ bN ∧ bW ≠ bO ∧ bW ≠ bN ∧ bO ≠ bN
  up : n₀ ≤ bE ∧ n₀ ≤ bW ∧ n₀ ≤ bO ∧ n₀ ≤ bN
theorem tak_foot (n₀ bE bW bO bN : Nat) (n : Int) (ended : Bool) : Foot (TakAt n₀ bE bW bO bN n ended) := by
  refine ⟨fun {s T W k} h hk => ?_, fun {s T W W'} h hs => ?_⟩
  · obtain ⟨v, ho, hown, hv, hf⟩ := h.o
    rcases (hf k).1 hk with rfl | rfl | rfl | rfl | hk
    · exact blk_lt h.e
    · exact blk_lt h.w
    · exact blk_lt ho
    · exact blk_lt h.n
    · exact (hown.block_lt hk).2
  · obtain ⟨v, ho, hown, hv, hf⟩ := h.o
    exact ⟨(hs.block _ ((hf _).2 (.inl rfl))).trans h.e, (hs.block _ ((hf _).2 (.inr (.inl rfl)))).trans h.w, ⟨v, (hs.block _ ((hf _).2 (.inr (.inr (.inl rfl))))).trans ho, hown.move (fun k hk _ => hs.block k ((hf k).2 (.inr (.inr (.inr (.inr hk)))))), hv, hf⟩,
      (hs.block _ ((hf _).2 (.inr (.inr (.inr (.inl rfl)))))).trans h.n, h.far, h.up⟩
theorem TakAt.ge {n₀ bE bW bO bN : Nat} {n : Int} {ended : Bool} {pre : List Ent} {T : Nat → Prop} {W : World} (h : TakAt n₀ bE bW bO bN n ended pre T W) : ∀ k, T k → n₀ ≤ k := fun k hk => by
  obtain ⟨v, ho, hown, hv, hf⟩ := h.o
  obtain ⟨u1, u2, u3, u4⟩ := h.up
  rcases (hf k).1 hk with rfl | rfl | rfl | rfl | hk
  · exact u1
  · exact u2
  · exact u3
  · exact u4
  · exact (hown.block_lt hk).1
set_option maxHeartbeats 1600000 in
set_option maxRecDepth 100000 in
theorem taken1_c (n₀ bE bW bO bN : Nat) (n : Int) (pre : List Ent) (e : Ent) (T : Nat → Prop) (w : World) (h : TakAt n₀ bE bW bO bN n false pre T w) (hl : pre.length < 2932031007319) :
    Calls Try.prog 83 #[.agg (encE e).toArray, .pointer (some ⟨bE, 0, none⟩), .pointer (some ⟨bW, 0, none⟩), .pointer (some ⟨bO, 0, none⟩), .pointer (some ⟨bN, 0, none⟩)] w fun en w' =>
      en = .returned (.bool (!decide ((pre.length : Int) + 1 = n))) ∧ ∃ T', Grow T T' w ∧ Upd T w w' ∧ TakAt n₀ bE bW bO bN n (decide ((pre.length : Int) + 1 = n)) (pre ++ [e]) T' w' := by
  obtain ⟨v, ho, hown, hv, hft⟩ := h.o
  have hn : n₀ ≤ w.heap.size := Nat.le_trans h.up.1 (Nat.le_of_lt (blk_lt h.e))
  obtain ⟨A, c, rfl⟩ := own_slice hown
  have hb0 : Below n₀ w (w.alloc (.cells #[.string e.1, .int .u64 e.2.1, .bool e.2.2.1, .string e.2.2.2] 53)) := (Below.refl _ _).alloc hn _
  have e1 := blk_alloc h.e (.cells #[.string e.1, .int .u64 e.2.1, .bool e.2.2.1, .string e.2.2.2] 53)
  have e3 := blk_alloc ho (.cells #[.string e.1, .int .u64 e.2.1, .bool e.2.2.1, .string e.2.2.2] 53)
  have c1 := (blk_cell e1 0).trans (show _ = some (Value.bool false) from rfl)
  have c2 := (blk_cell e3 0).trans (show _ = some (Value.slice A pre.length c) from rfl)
  have hb1 := boxEnt (e := e) (heap_alloc_new w (.cells #[.string e.1, .int .u64 e.2.1, .bool e.2.2.1, .string e.2.2.2] 53))
  have x0 := hb1 0 _ rfl
  have x1 := hb1 1 _ rfl
  have x2 := hb1 2 _ rfl
  have x3 := hb1 3 _ rfl
  have HT := Lib.hid h
  have HO := Lib.hid ho
  have HV := Lib.hid hv
  have HFT := Lib.hid hft
  have HOWN := Lib.hid hown
  have HB0 := Lib.hid hb0
  clear h ho hown hv hft e1 e3 hb1 hb0
  unfold encE
  go_enter Try.func83, Try.ntmps83
  go_wp2_with (at_builtin; refine wpList_app rfl (.tmp 8) (.tmp 10) rfl uSlE infoE rfl (by decide) (by decide) okE (.slice A pre.length c) pre rfl (base := n₀) ?c1 (some ⟨w.heap.size + 1, 0, none⟩) 1 [e] rfl ?c2 ?c3 ?c4 ?_)
  case c1 => exact (HOWN.out.below ((Below.refl _ _).alloc (Nat.le_refl _) _)).below ((Below.refl _ _).alloc (Nat.le_refl _) _)
  case c2 => have := Sl.one okE (w.alloc (.cells #[.string e.1, .int .u64 e.2.1, .bool e.2.2.1, .string e.2.2.2] 53)) e 53 (cs := #[.string e.1, .int .u64 e.2.1, .bool e.2.2.1, .string e.2.2.2]) rfl; simpa using this
  case c3 => simp; omega
  case c4 => simp; omega
  intro v1 w1 ho1 hg1 hat1
  obtain ⟨A1, k1, rfl⟩ := own_slice ho1
  simp only [List.length_append, List.length_cons, List.length_nil, Nat.zero_add] at ho1 hat1 ⊢
  have hv := HV.out
  have hT := HT.out
  have r1 := blk_grown (blk_alloc (blk_alloc hT.e _) _) hg1 (by intro e1; exact (hv _ e1.symm).1 rfl)
  have r2 := blk_grown (blk_alloc (blk_alloc hT.w _) _) hg1 (by intro e1; exact (hv _ e1.symm).2.1 rfl)
  have r3 := blk_grown (blk_alloc (blk_alloc HO.out _) _) hg1 (by intro e1; exact (hv _ e1.symm).2.2.1 rfl)
  have r4 := blk_grown (blk_alloc (blk_alloc hT.n _) _) hg1 (by intro e1; exact (hv _ e1.symm).2.2.2 rfl)
  have hlt1 := blk_lt hT.e
  have hlt2 := blk_lt hT.w
  have hlt3 := blk_lt HO.out
  have hlt4 := blk_lt hT.n
  have hv1 : ∀ k, (Value.slice A1 (pre.length + 1) k1).ownBlock = some k → k ≠ bE ∧ k ≠ bW ∧ k ≠ bO ∧ k ≠ bN := by
    intro k hk
    rcases hat1 with h | h
    · exact hv k (by rw [← h]; exact hk)
    · rw [h] at hk
      injection hk with hk
      try simp at hk
      exact ⟨by omega, by omega, by omega, by omega⟩
  obtain ⟨fEW, fEO, fEN, fWO, fWN, fON⟩ := hT.far
  obtain ⟨uE, uW, uO, uN⟩ := hT.up
  have hb1 : Below n₀ w w1 := (HB0.out.alloc (Nat.le_trans hn HB0.out.size) _).grown hg1 (by simp; omega) (fun k hk => (HOWN.out.block_lt hk).1)
  have f3 : w1.frozen? ⟨bO, 0, none⟩ = false := blk_frozen r3 0
  have d3 : w1.cell? ⟨bO, 0, none⟩ = some (.slice A pre.length c) := (blk_cell r3 0).trans rfl
  have s1 := blk_far (p := ⟨bO, 0, none⟩) r1 fEO (.slice A1 (pre.length + 1) k1)
  have s2 := blk_far (p := ⟨bO, 0, none⟩) r2 fWO (.slice A1 (pre.length + 1) k1)
  have s3 := blk_set r3 0 (.slice A1 (pre.length + 1) k1)
  have s4 := blk_far (p := ⟨bO, 0, none⟩) r4 fON.symm (.slice A1 (pre.length + 1) k1)
  have hb2 : Below n₀ w (w1.setCell ⟨bO, 0, none⟩ (.slice A1 (pre.length + 1) k1)) := hb1.setCell (p := ⟨bO, 0, none⟩) uO _
  have ho2 : Own encE 53 4 (w1.setCell ⟨bO, 0, none⟩ (.slice A1 (pre.length + 1) k1)) n₀ (.slice A1 (pre.length + 1) k1) (pre ++ [e]) := ho1.upd (Upd.setCell (S := fun k => k = bO) w1 0 _ rfl) (fun k hk => (hv1 k hk).2.2.1)
  have g1 : (w1.setCell ⟨bO, 0, none⟩ (.slice A1 (pre.length + 1) k1)).cell? ⟨bE, 0, none⟩ = some (.bool false) := (blk_cell s1 0).trans rfl
  have g2 : (w1.setCell ⟨bO, 0, none⟩ (.slice A1 (pre.length + 1) k1)).frozen? ⟨bE, 0, none⟩ = false := blk_frozen s1 0
  have g3 : (w1.setCell ⟨bO, 0, none⟩ (.slice A1 (pre.length + 1) k1)).cell? ⟨bO, 0, none⟩ = some (.slice A1 (pre.length + 1) k1) := (blk_cell s3 0).trans rfl
  have g4 : (w1.setCell ⟨bO, 0, none⟩ (.slice A1 (pre.length + 1) k1)).cell? ⟨bN, 0, none⟩ = some (.int .i64 n) := (blk_cell s4 0).trans rfl
  have hft := HFT.out
  have hku : Upd T w w1 := ((Upd.alloc w _).trans (Upd.alloc _ _)).trans (Upd.of_grown hg1 (fun k hk => (hft k).2 (.inr (.inr (.inr (.inr hk))))))
  have hTO : T bO := (hft _).2 (.inr (.inr (.inl rfl)))
  have hTE : T bE := (hft _).2 (.inl rfl)
  have hgr : Grow T (fun k => k = bE ∨ k = bW ∨ k = bO ∨ k = bN ∨ (Value.slice A1 (pre.length + 1) k1).ownBlock = some k) w := fun k hk => by
    rcases hk with h | h | h | h | h
    · exact .inl ((hft _).2 (.inl h))
    · exact .inl ((hft _).2 (.inr (.inl h)))
    · exact .inl ((hft _).2 (.inr (.inr (.inl h))))
    · exact .inl ((hft _).2 (.inr (.inr (.inr (.inl h)))))
    · rcases hat1 with h2 | h2
      · exact .inl ((hft _).2 (.inr (.inr (.inr (.inr (by rw [← h2]; exact h))))))
      · rw [h2] at h
        injection h with h
        try simp at h
        exact .inr (by omega)
  have HFIN := Lib.hid (show ∀ b, ∃ T', Grow T T' w ∧ Upd T w ((w1.setCell ⟨bO, 0, none⟩ (.slice A1 (pre.length + 1) k1)).setCell ⟨bE, 0, none⟩ (.bool b)) ∧ TakAt n₀ bE bW bO bN n b (pre ++ [e]) T' ((w1.setCell ⟨bO, 0, none⟩ (.slice A1 (pre.length + 1) k1)).setCell ⟨bE, 0, none⟩ (.bool b)) from fun b =>
    ⟨_, hgr, (hku.trans (Upd.setCell _ _ _ hTO)).trans (Upd.setCell _ _ _ hTE), ⟨blk_set s1 0 _, blk_far s2 fEW.symm _, ⟨_, blk_far s3 fEO.symm _, ho2.upd (Upd.setCell (S := fun k => k = bE) _ 0 _ rfl) (fun k hk => (hv1 k hk).1), hv1, fun _ => Iff.rfl⟩, blk_far s4 fEN.symm _, hT.far, hT.up⟩⟩)
  clear hft hku hTO hTE hgr HFT
  clear s1 s2 s3 s4 r1 r2 r3 r4 hv hT hlt1 hlt2 hlt3 hlt4 hv1 fEW fEO fEN fWO fWN fON uE uW uO uN hb1 hb2 ho2 ho1 hg1 hat1 c1 c2 x0 x1 x2 x3 HT HO HV HOWN HB0
  have n1 : pre.length + 1 < 2932031007320 := by omega
  obtain ⟨m, hm⟩ : ∃ m, pre.length + 1 = m := ⟨_, rfl⟩
  have hcast : ((pre.length : Int) + 1) = (m : Int) := by omega
  have HCAST := Lib.hid hcast
  have HM := Lib.hid hm
  simp only [hm] at *
  clear hl hcast
  go_wp2
  go_ret
  have hbe : ((m : Int) == n) = decide ((m : Int) = n) := Bool.eq_iff_iff.2 (by simp)
  rw [HCAST.out, hbe]
  exact ⟨rfl, HFIN.out _⟩
end Go.Proofs.Ytjbbobhjomhnmaa.H
namespace Go.Proofs.Ytjbbobhjomhnmaa.H
open Go Go.RowKit Go.Deep Go.Shelf Go.Proofs Go.Proofs.YtjbbobhjomhnmaaW.PrintWords
set_option linter.unusedVariables false
set_option linter.unusedSimpArgs false
attribute [local go_sem] Oper.semAt_some
/-- What J says, and of the block b that o lies there. -/
def WithBox {β : Type} (b : Nat) (o : Obj) (J : β → (Nat → Prop) → World → Prop) (s : β) (S : Nat → Prop) (W : World) : Prop :=
  ∃ T, (∀ k, S k ↔ T k ∨ k = b) ∧ ¬ T b ∧ J s T W ∧ W.heap[b]? = some o
theorem withBox_foot {β : Type} {b : Nat} {o : Obj} {J : β → (Nat → Prop) → World → Prop} (h : Foot J) : Foot (WithBox b o J) := by
  refine ⟨fun {s S W k} h1 hk => ?_, fun {s S W W'} h1 hs => ?_⟩
  · obtain ⟨T, hS, hn, hj, hb⟩ := h1
    rcases (hS k).1 hk with hk | rfl
    · exact h.lt hj hk
    · exact blk_lt hb
  · obtain ⟨T, hS, hn, hj, hb⟩ := h1
    exact ⟨T, hS, hn, h.move hj (hs.mono fun k hk => (hS k).2 (.inl hk)), (hs.block b ((hS b).2 (.inr rfl))).trans hb⟩
theorem foot_map {α β : Type} {J : α → (Nat → Prop) → World → Prop} (h : Foot J) (f : β → α) : Foot (fun s => J (f s)) := ⟨fun h1 hk => h.lt h1 hk, fun h1 hs => h.move h1 hs⟩
theorem foot_and {β : Type} {J : β → (Nat → Prop) → World → Prop} (h : Foot J) (p : β → Prop) : Foot (fun s T W => J s T W ∧ p s) := ⟨fun h1 hk => h.lt h1.1 hk, fun h1 hs => ⟨h.move h1.1 hs, h1.2⟩⟩
theorem foot_act {α β : Type} {I : α → (Nat → Prop) → World → Prop} (h : Foot I) (p : α) (X : β) : Foot (fun (a : β) S W => I p S W ∧ a = X) := ⟨fun h1 hk => h.lt h1.1 hk, fun h1 hs => ⟨h.move h1.1 hs, h1.2⟩⟩
/-- A node that lies in w. -/
def Lies (w : World) (x : Nd) : Prop := x.b < w.heap.size ∧ ∀ i v, (encE x.e)[i]? = some v → w.cell? ⟨x.b, i, none⟩ = some v
theorem NodesAt.lies {w : World} {g : Nat} {l : List Nd} (hN : NodesAt w g l) : ∀ x ∈ l, Lies w x := fun x hx => by
  obtain ⟨a, c, rfl⟩ := List.append_of_mem hx
  obtain ⟨h1, _⟩ := hN.node a x c rfl
  exact ⟨World.block_lt_of_cell? w ⟨x.b, 0, none⟩ (h1 0 _ rfl), h1⟩
theorem prefix_mem {α : Type} {p : List α} {x : α} {l : List α} (h : p ++ [x] <+: l) : x ∈ l := h.subset (by simp)
set_option maxHeartbeats 3200000 in
set_option maxRecDepth 100000 in
theorem from1_it (w0 W : World) (g : Nat) (pre post : List Nd) (k : ByteArray) (q : Int) (hb : Below w0.heap.size w0 W) (hN : NodesAt w0 g (pre ++ post)) (h1 : ∀ x ∈ pre, ltE x.e (k, q, false, ⟨#[]⟩)) (h2 : ∀ x ∈ post, ¬ ltE x.e (k, q, false, ⟨#[]⟩))
    (B1 B2 B3 : Nat) (c1 : W.cell? ⟨B1, 0, none⟩ = some (.pointer (some ⟨g, 0, none⟩))) (c2 : W.cell? ⟨B2, 0, none⟩ = some (.string k)) (c3 : W.cell? ⟨B3, 0, none⟩ = some (.int .u64 q)) :
    IterT Try.prog 79 #[.pointer (some ⟨B1, 0, none⟩), .pointer (some ⟨B2, 0, none⟩), .pointer (some ⟨B3, 0, none⟩)] (fun e : Ent => #[.agg (encE e).toArray]) w0.heap.size (post.map (·.e)) W := by
  intro fn cap J Jx T hJ hJx hT h0 hY
  obtain ⟨clo, hclo⟩ : ∃ clo, clo = Obj.cells #[.func fn #[] cap] 72 := ⟨_, rfl⟩
  have hba : Below w0.heap.size W (W.alloc clo) := (Below.refl _ _).alloc hb.size _
  have hNa : NodesAt (W.alloc clo) g (pre ++ post) := hN.later (hb.trans hba)
  have HA := Lib.hid (ahead_c g pre post (k, q, false, ⟨#[]⟩) (W.alloc clo) hNa h1 h2)
  have d1 : (W.alloc clo).cell? ⟨B1, 0, none⟩ = some (.pointer (some ⟨g, 0, none⟩)) := cell_later ((Below.refl _ _).alloc (Nat.le_refl _) _) c1
  have d2 : (W.alloc clo).cell? ⟨B2, 0, none⟩ = some (.string k) := cell_later ((Below.refl _ _).alloc (Nat.le_refl _) _) c2
  have d3 : (W.alloc clo).cell? ⟨B3, 0, none⟩ = some (.int .u64 q) := cell_later ((Below.refl _ _).alloc (Nat.le_refl _) _) c3
  have HBA := Lib.hid hba
  have HN := Lib.hid hN
  have HB := Lib.hid hb
  have HY := Lib.hid hY
  have HJ := Lib.hid hJ
  have HJX := Lib.hid hJx
  have H0 := Lib.hid h0
  have HT := Lib.hid hT
  have HR := Lib.hid (heap_alloc_new W clo)
  rw [hclo] at d1 d2 d3
  clear h1 h2 hba hNa hN hb c1 c2 c3 hY hJ hJx h0 hT
  have hidx : ∀ W : World, (Instr.index 117 (.agg #[atV g (prv 0 pre), atV g (prv 1 pre), atV g (prv 2 pre), atV g (prv 3 pre), atV g (prv 4 pre), atV g (prv 5 pre), atV g (prv 6 pre), atV g (prv 7 pre), atV g (prv 8 pre), atV g (prv 9 pre), atV g (prv 10 pre), atV g (prv 11 pre)]) (.int .i64 0)).run Try.prog W = .ok (.pointer (some ⟨atB g (prv 0 pre), 0, none⟩)) W := fun W => by first | kernel_rfl | (unfold atV; go_simp)
  refine (callsIn_wide (n := 8)).1 ?_
  refine callsIn_of_wp_marks Try.func79 rfl trivial ?_ rfl
  simp only [Try.ntmps79, List.size_toArray, List.length_cons, List.length_nil, Nat.reduceAdd, Nat.reduceSub, Array.replicate_succ, Array.replicate_zero, List.push_toArray, List.append_toArray, List.nil_append, List.cons_append]
  gi_wp2_with (first
    | (refine ⟨trivial, ?_⟩; gi_at_call 80; refine (callsIn_wide.2 (hclo ▸ HA.out)).mono ?_; rintro e w2 ⟨rfl, hb2⟩; rw [show (pathC fun i => atV g (prv i pre)) = #[atV g (prv 0 pre), atV g (prv 1 pre), atV g (prv 2 pre), atV g (prv 3 pre), atV g (prv 4 pre), atV g (prv 5 pre), atV g (prv 6 pre), atV g (prv 7 pre), atV g (prv 8 pre), atV g (prv 9 pre), atV g (prv 10 pre), atV g (prv 11 pre)] from rfl])
    | (refine ⟨trivial, ?_⟩; gi_at_call 81; refine (nodes_c Fence.wide _ trivial rfl _ _).mono ?_; rintro e w3 ⟨rfl, rfl⟩))
  have hb2' : Below W.heap.size W w2 := ((Below.refl _ _).alloc (Nat.le_refl _) _).trans ((hclo ▸ hb2).mono (by simp))
  obtain ⟨Wb, hWb⟩ : ∃ Wb, w2.alloc (.cells #[.pointer (some ⟨atB g (prv 0 pre), 0, none⟩)] 116) = Wb := ⟨_, rfl⟩
  have hwb : Below W.heap.size W Wb := by rw [← hWb]; exact hb2'.alloc hb2'.size _
  have hrow : Wb.heap[W.heap.size]? = some clo := by
    rw [← hWb]
    exact blk_alloc (blk_below HR.out (hclo ▸ hb2)) _
  have hbox : Wb.cell? ⟨w2.heap.size, 0, none⟩ = some (.pointer (some ⟨atB g (prv 0 pre), 0, none⟩)) := by
    rw [← hWb]
    exact (blk_cell (heap_alloc_new _ _) 0).trans rfl
  have hle : w0.heap.size ≤ W.heap.size := HB.out.size
  have hleb : W.heap.size ≤ Wb.heap.size := hwb.size
  have hw0b : Below w0.heap.size w0 Wb := HB.out.trans (hwb.mono hle)
  have hch : ChainAt w0.heap.size Wb (atB g (prv 0 pre)) post := by
    have := HN.out.chain post pre rfl
    rw [← prv_zero (fun x hx => by
      obtain ⟨a, c, hac⟩ := List.append_of_mem hx
      exact (HN.out.node a x (c ++ post) (by rw [hac]; simp)).2.2.2.1)] at this
    exact this.below hw0b
  have hlies : ∀ x ∈ post, Lies w0 x := fun x hx => HN.out.lies x (List.mem_append_right _ hx)
  have hTW : ∀ k, T k → k < W.heap.size := fun k hk => HJ.out.lt H0.out hk
  rw [hWb]
  have HJ0 := Lib.hid (show J [] T Wb from HJ.out.move H0.out (Same.of_below hwb hTW))
  obtain ⟨TB, hTB⟩ : ∃ TB : Nat → Prop, TB = fun k => T k ∨ k = W.heap.size := ⟨_, rfl⟩
  have hUW : ∀ (S T1 : Nat → Prop) (W' : World), Grow TB S Wb → Upd TB Wb W' → (∀ k, S k ↔ T1 k ∨ k = W.heap.size) → Grow T T1 W ∧ Upd T W W' := fun S T1 W' hg hu hS => by
    refine ⟨fun k hk => ?_, (Upd.of_below hwb).step hu (fun k hk => ?_)⟩
    · rcases hg k ((hS k).2 (.inl hk)) with h | h
      · rw [hTB] at h
        rcases h with h | rfl
        · exact .inl h
        · exact .inr (Nat.le_refl _)
      · exact .inr (by omega)
    · rw [hTB] at hk
      rcases hk with h | rfl
      · exact .inl h
      · exact .inr (Nat.le_refl _)
  refine rangeT (gf := 108) (lb := #[.pointer (some ⟨w2.heap.size, 0, none⟩)]) rfl (enters_of Try.func108 (by kernel_rfl) rfl) (n₀ := w0.heap.size) (l := post)
    (fun W3 hb3 => nodes_it w2.heap.size w0.heap.size (atB g (prv 0 pre)) post W3 (Nat.le_trans hle (Nat.le_trans hleb hb3.size)) (cell_later hb3 hbox) (hch.below (hb3.mono (Nat.le_trans hle hleb)))) (fun _ => rfl)
    (WithBox W.heap.size clo (fun p => J (p.map (·.e))))
    (fun c => fun p S W' => WithBox W.heap.size clo (fun p => Jx (p.map (·.e))) p S W' ∧ c = .ret)
    (fun p x a' S W' => WithBox W.heap.size clo (fun p => J (p.map (·.e))) p S W' ∧ a' = { tmps := #[.func fn #[] cap, .pointer (some ⟨B1, 0, none⟩), .pointer (some ⟨B2, 0, none⟩), .pointer (some ⟨B3, 0, none⟩), .pointer (some ⟨W.heap.size, 0, none⟩), .pointer (some ⟨x.b, 0, none⟩), .pointer (some ⟨g, 0, none⟩), .string k, .int .u64 q, .agg #[.string k, .int .u64 q, .bool false, .string ⟨#[]⟩], .agg #[atV g (prv 0 pre), atV g (prv 1 pre), atV g (prv 2 pre), atV g (prv 3 pre), atV g (prv 4 pre), atV g (prv 5 pre), atV g (prv 6 pre), atV g (prv 7 pre), atV g (prv 8 pre), atV g (prv 9 pre), atV g (prv 10 pre), atV g (prv 11 pre)], .pointer (some ⟨atB g (prv 0 pre), 0, none⟩), .func (.func 108) #[] #[.pointer (some ⟨w2.heap.size, 0, none⟩)], .pointer (some ⟨x.b, 0, none⟩), undef, undef, undef, undef, undef, undef, undef], defers := [] })
    (withBox_foot (foot_map HJ.out (fun p : List Nd => p.map (·.e)))) (fun c => foot_and (withBox_foot (foot_map HJX.out (fun p : List Nd => p.map (·.e)))) (fun _ => c = .ret))
    (fun p x => foot_act (withBox_foot (foot_map HJ.out (fun p : List Nd => p.map (·.e)))) p _)
    TB (fun k hk => by rw [hTB] at hk; rcases hk with h | rfl; exact HT.out k h; exact hle) (Nat.le_trans hle hleb)
    ⟨T, fun k => by rw [hTB], fun h => Nat.lt_irrefl _ (hTW _ h), HJ0.out, hrow⟩ ?assign ?body ?done ?stop
  case assign =>
    intro lp p x T1 W' K hi _ _ hp hK
    gi_wp2
    exact hK _ _ _ (Grow.refl _ _) (Upd.refl _ _) ⟨hi, rfl⟩
  case body =>
    rintro lp p x a' S W' ⟨⟨T1, hS, hnb, hj, hR⟩, rfl⟩ hg0 hu0 hp
    obtain ⟨hgT, huT⟩ := hUW S T1 W' hg0 hu0 hS
    have hBW : Below w0.heap.size w0 W' := HB.out.trans (huT.bel HT.out hle)
    have hcx : ∀ i v, (encE x.e)[i]? = some v → W'.cell? ⟨x.b, i, none⟩ = some v := fun i v hv => (hBW.cell (p := ⟨x.b, i, none⟩) (hlies x (prefix_mem hp)).1).trans ((hlies x (prefix_mem hp)).2 i v hv)
    have x0 := hcx 0 _ rfl
    have x1 := hcx 1 _ rfl
    have x2 := hcx 2 _ rfl
    have x3 := hcx 3 _ rfl
    have hjd : J (p.map (·.e)) T1 W'.drew := HJ.out.move hj (Same.drew _)
    have hcall := (HY.out (p.map (·.e)) x.e T1 W'.drew hjd hgT (huT.trans (Upd.drew _)) (by have := hp.map (·.e); simpa using this)).mono fun e W1 h => h.bool
    have y0 : W'.cell? ⟨W.heap.size, 0, none⟩ = some (.func fn #[] cap) := by
      rw [hclo] at hR
      exact (blk_cell hR 0).trans rfl
    have hRlt : W.heap.size < W'.heap.size := blk_lt hR
    have HS := Lib.hid hS
    have HNB := Lib.hid hnb
    have HRR := Lib.hid hR
    have HF := Lib.hid (show ∀ (T3 : Nat → Prop) (W3 : World), Grow T1 T3 W'.drew → Upd T1 W'.drew W3 → ∃ S3, Grow S S3 W' ∧ Upd S W' W3 ∧ (∀ k, S3 k ↔ T3 k ∨ k = W.heap.size) ∧ ¬ T3 W.heap.size ∧ W3.heap[W.heap.size]? = some clo from fun T3 W3 hg3 hu3 => by
      have hu3' : Upd T1 W' W3 := (Upd.drew W').trans hu3
      refine ⟨fun k => T3 k ∨ k = W.heap.size, fun k hk => ?_, hu3'.mono (fun k hk => (hS k).2 (.inl hk)), fun _ => Iff.rfl, hg3.not hnb hRlt, hu3'.heap hR hnb⟩
      rcases hk with hk | rfl
      · rcases hg3 k hk with h | h
        · exact .inl ((hS k).2 (.inl h))
        · exact .inr h
      · exact .inl ((hS _).2 (.inr rfl)))
    obtain ⟨f0, f1⟩ : (∀ e W3, (∃ b T', e = Ending.returned (.bool b) ∧ Grow T1 T' W'.drew ∧ Upd T1 W'.drew W3 ∧ (b = true → J (p.map (·.e) ++ [x.e]) T' W3) ∧ (b = false → Jx (p.map (·.e) ++ [x.e]) T' W3)) → ∃ b, e = Ending.returned (.bool b) ∧ (b = true → ∃ S', Grow S S' W' ∧ Upd S W' W3 ∧ WithBox W.heap.size clo (fun p => J (p.map (·.e))) (p ++ [x]) S' W3) ∧ (b = false → ∃ S', Grow S S' W' ∧ Upd S W' W3 ∧ WithBox W.heap.size clo (fun p => Jx (p.map (·.e))) (p ++ [x]) S' W3)) ∧ True := by
      refine ⟨fun e W3 h => ?_, trivial⟩
      obtain ⟨b, T', rfl, hg3, hu3, hq1, hq2⟩ := h
      obtain ⟨S3, a1, a2, a3, a4, a5⟩ := HF.out T' W3 hg3 hu3
      exact ⟨b, rfl, (fun hb => ⟨S3, a1, a2, T', a3, a4, by simpa using hq1 hb, a5⟩), (fun hb => ⟨S3, a1, a2, T', a3, a4, by simpa using hq2 hb, a5⟩)⟩
    have hcall := hcall.mono f0
    have hmx : Try.prog.follows .mixedOrders = true := by kernel_rfl
    clear f0 f1 hS hnb hj hR hjd hcx hBW hgT huT hg0 hu0 hUW hlies hch hw0b hbox hrow hwb hb2' d1 d2 d3 hidx hTB
    rcases hcall with ⟨l2, rfl, rfl, fn, tmps, assign, body, hy, hC⟩ | ⟨f, rfl, henter, hC⟩
    · have HC := Lib.hid (RoundIn.wide (m := 8 - 1 - 1 - 1) hC)
      clear hC
      dsimp only [encE] at hy
      gi_wp2
      gi_region_with_o (first | (refine ⟨(fun h => by cases h), ?_⟩; refine (RoundIn.inR HC.out).mono ?_; rintro e W3 ⟨b, rfl, hq1, hq2⟩) | (refine (RoundIn.inR HC.out).mono ?_; rintro e W3 ⟨b, rfl, hq1, hq2⟩))
      all_goals cases b
      all_goals gi_wp2
      all_goals (try subst hclo)
      all_goals first | exact hq1 rfl | exact hq1 trivial | exact Exists.imp (fun S' h => ⟨h.1, h.2.1, h.2.2, rfl⟩) (hq2 rfl) | exact Exists.imp (fun S' h => ⟨h.1, h.2.1, h.2.2, rfl⟩) (hq2 trivial)
    · have HC := Lib.hid hC
      clear hC
      gi_wp2
      gi_region_with_o (first | (refine ⟨trivial, ?_⟩; gi_at_fn f; refine (CallsIn.inRound lp (callsIn_wide.2 HC.out)).mono ?_; rintro e W3 ⟨b, rfl, hq1, hq2⟩) | (gi_at_fn f; refine (CallsIn.inRound lp (callsIn_wide.2 HC.out)).mono ?_; rintro e W3 ⟨b, rfl, hq1, hq2⟩))
      all_goals cases b
      all_goals gi_wp2
      all_goals (try subst hclo)
      all_goals first | exact hq1 rfl | exact hq1 trivial | exact Exists.imp (fun S' h => ⟨h.1, h.2.1, h.2.2, rfl⟩) (hq2 rfl) | exact Exists.imp (fun S' h => ⟨h.1, h.2.1, h.2.2, rfl⟩) (hq2 trivial)
  case done =>
    rintro D S W' hD hnD hg hu ⟨T1, hS, hnb, hj, hR⟩ hK
    obtain ⟨hgT, huT⟩ := hUW S T1 W' hg hu hS
    gi_wp2
    refine ⟨by simp, .inl ⟨_, _, rfl, run_takeDeferred hK, ?_⟩⟩
    have n1 : ¬ T1 D := fun h => hnD ((hS D).2 (.inl h))
    refine ⟨_, results_none rfl _ _ _, ⟨_, rfl⟩, T1, hgT, huT.step (upd_putObj (S := fun k => k = D) _ _ rfl) (fun k hk => .inr (by omega)), .inl (HJ.out.move hj (same_putObj _ _ n1))⟩
  case stop =>
    rintro D c p S W' hD hnD hg hu hp ⟨⟨T1, hS, hnb, hj, hR⟩, rfl⟩ hK
    obtain ⟨hgT, huT⟩ := hUW S T1 W' hg hu hS
    gi_wp2
    refine ⟨by simp, .inl ⟨_, _, rfl, run_takeDeferred hK, ?_⟩⟩
    have n1 : ¬ T1 D := fun h => hnD ((hS D).2 (.inl h))
    refine ⟨_, results_none rfl _ _ _, ⟨_, rfl⟩, T1, hgT, huT.step (upd_putObj (S := fun k => k = D) _ _ rfl) (fun k hk => .inr (by omega)), .inr ⟨_, hp.map _, HJX.out.move hj (same_putObj _ _ n1)⟩⟩
end Go.Proofs.Ytjbbobhjomhnmaa.H
namespace Go.Proofs.Ytjbbobhjomhnmaa.H
open Go Go.RowKit Go.Deep Go.Shelf Go.Proofs Go.Proofs.YtjbbobhjomhnmaaW.PrintWords
set_option linter.unusedVariables false
set_option linter.unusedSimpArgs false
/-- What an iterator gives under a limit. -/
def takeN {α : Type} (n : Int) (l : List α) : List α := if n < 0 then l else l.take n.toNat
theorem takeN_all {α : Type} {n : Int} {l : List α} (h : n < 0 ∨ (l.length : Int) < n) : takeN n l = l := by
  unfold takeN
  split
  · rfl
  · rw [List.take_of_length_le (by omega)]
theorem takeN_stop {α : Type} {n : Int} {l p : List α} (h : (p.length : Int) = n) (hp : p <+: l) : takeN n l = p := by
  unfold takeN
  rw [if_neg (by omega), ← h, Int.toNat_natCast]
  exact (List.prefix_iff_eq_take.1 hp).symm
/-- An iterator as a value, at w and wherever w has but grown. -/
def IterV {α : Type} (P : Program) (f : Value) (encs : α → Array Value) (n₀ : Nat) (l : List α) (w : World) : Prop :=
  ∃ gf lb, f = .func (.func gf) #[] lb ∧ (∀ args w, (callFunc gf args).run P w = .ok (.enter gf args) w) ∧ ∀ W, Below w.heap.size w W → IterT P gf lb encs n₀ l W
theorem IterV.later {α : Type} {P : Program} {f : Value} {encs : α → Array Value} {n₀ : Nat} {l : List α} {w w' : World} (h : IterV P f encs n₀ l w) (hb : Below w.heap.size w w') : IterV P f encs n₀ l w' := by
  obtain ⟨gf, lb, h1, h2, h3⟩ := h
  exact ⟨gf, lb, h1, h2, fun W hW => h3 W (hb.trans (hW.mono hb.size))⟩
abbrev encA (e : Ent) : Array Value := #[.agg (encE e).toArray]
theorem tak_start (w0 w : World) (n : Int) (b : Nat) (hb : w0.heap.size ≤ b)
    (h1 : w.heap[b]? = some (.cells #[.int .i64 n] 3 (0, 0))) (h2 : w.heap[b + 1]? = some (.cells #[.slice none 0 0] 64 (0, 0))) (h3 : w.heap[b + 1 + 1]? = some (.cells #[.bool true] 4 (0, 0))) (h4 : w.heap[b + 1 + 1 + 1]? = some (.cells #[.bool false] 4 (0, 0))) :
    TakAt w0.heap.size (b + 1 + 1 + 1) (b + 1 + 1) (b + 1) b n false [] (fun k => k = b + 1 + 1 + 1 ∨ k = b + 1 + 1 ∨ k = b + 1 ∨ k = b ∨ (Value.slice none 0 0).ownBlock = some k) w :=
  ⟨h4, h3, ⟨_, h2, Own.nil _ _ _ _ _, (fun k hk => by cases hk), fun _ => Iff.rfl⟩, h1, by omega, by omega⟩
set_option maxHeartbeats 1600000 in
set_option maxRecDepth 100000 in
theorem taken_c (f : Value) (n : Int) (n₀ : Nat) (l : List Ent) (w : World) (hf : IterV Try.prog f encA n₀ l w) (hn₀ : n₀ ≤ w.heap.size) (hl : l.length < 2932031007319) :
    Calls Try.prog 23 #[f, .int .i64 n] w fun e w' => ∃ v, e = .returned (.tuple #[v, .bool true]) ∧ Own encE 53 4 w' w.heap.size v (takeN n l) ∧ Below w.heap.size w w' := by
  obtain ⟨gf, lb, rfl, henter, hit⟩ := hf
  have HIT := Lib.hid hit
  clear hit
  have hnil : ∀ w : World, (binOp .eql 58 (.func (.func gf) #[] lb) .nilFunc).run Try.prog w = .ok (.bool false) w := fun _ => rfl
  by_cases hn : n = 0
  · subst hn
    go_enter Try.func23, Try.ntmps23
    go_wp2
    go_ret2
    exact ⟨_, rfl, by simpa [takeN] using Own.nil _ _ _ _ _, ((Below.refl _ _).alloc (Nat.le_refl _) _).alloc (by simp) _⟩
  · go_enter Try.func23, Try.ntmps23
    go_wp2_with fail
    go_at_fn gf
    obtain ⟨W4, hW4⟩ : ∃ W4, (((w.alloc (.cells #[.int .i64 n] 3)).alloc (.cells #[.slice none 0 0] 64)).alloc (.cells #[.bool true] 4)).alloc (.cells #[.bool false] 4) = W4 := ⟨_, rfl⟩
    have k1 : W4.heap[w.heap.size]? = some (.cells #[.int .i64 n] 3 (0, 0)) := by rw [← hW4]; exact blk_alloc (blk_alloc (blk_alloc (heap_alloc_new _ _) _) _) _
    have k2 : W4.heap[w.heap.size + 1]? = some (.cells #[.slice none 0 0] 64 (0, 0)) := by rw [← hW4]; exact blk_alloc (blk_alloc (by simpa using heap_alloc_new (w.alloc (.cells #[.int .i64 n] 3)) (.cells #[.slice none 0 0] 64)) _) _
    have k3 : W4.heap[w.heap.size + 1 + 1]? = some (.cells #[.bool true] 4 (0, 0)) := by rw [← hW4]; exact blk_alloc (by simpa using heap_alloc_new ((w.alloc (.cells #[.int .i64 n] 3)).alloc (.cells #[.slice none 0 0] 64)) (.cells #[.bool true] 4)) _
    have k4 : W4.heap[w.heap.size + 1 + 1 + 1]? = some (.cells #[.bool false] 4 (0, 0)) := by rw [← hW4]; simpa using heap_alloc_new (((w.alloc (.cells #[.int .i64 n] 3)).alloc (.cells #[.slice none 0 0] 64)).alloc (.cells #[.bool true] 4)) (.cells #[.bool false] 4)
    have hb4 : Below w.heap.size w W4 := by rw [← hW4]; exact ((((Below.refl _ _).alloc (Nat.le_refl _) _).alloc (by simp) _).alloc (by simp; omega) _).alloc (by simp; omega) _
    rw [hW4]
    have H0 := tak_start w W4 n w.heap.size (Nat.le_refl _) k1 k2 k3 k4
    have hcall := HIT.out W4 hb4 (.func 83) #[.pointer (some ⟨w.heap.size + 1 + 1 + 1, 0, none⟩), .pointer (some ⟨w.heap.size + 1 + 1, 0, none⟩), .pointer (some ⟨w.heap.size + 1, 0, none⟩), .pointer (some ⟨w.heap.size, 0, none⟩)]
      (fun p T W => TakAt w.heap.size (w.heap.size + 1 + 1 + 1) (w.heap.size + 1 + 1) (w.heap.size + 1) w.heap.size n false p T W ∧ (n < 0 ∨ (p.length : Int) < n))
      (fun p T W => TakAt w.heap.size (w.heap.size + 1 + 1 + 1) (w.heap.size + 1 + 1) (w.heap.size + 1) w.heap.size n true p T W ∧ (p.length : Int) = n) _
      (foot_and (tak_foot _ _ _ _ _ _ _) (fun p => n < 0 ∨ (p.length : Int) < n)) (foot_and (tak_foot _ _ _ _ _ _ _) (fun p => (p.length : Int) = n)) (fun k hk => Nat.le_trans hn₀ (H0.ge k hk)) ⟨H0, by simp; omega⟩
      (fun p x T1 W1 hj hg hu hp => by
        obtain ⟨hj, hlim⟩ := hj
        have hpl : p.length < 2932031007319 := by have := hp.length_le; simp at this; omega
        refine .inr ⟨_, rfl, enters_of Try.func83 (by kernel_rfl) rfl, (taken1_c _ _ _ _ _ n p x T1 W1 hj hpl).mono ?_⟩
        rintro e W2 ⟨rfl, T2, hg2, hu2, ht2⟩
        refine ⟨T2, hg2, hu2, ?_⟩
        by_cases hend : (p.length : Int) + 1 = n
        · rw [decide_eq_true hend] at ht2 ⊢
          exact .inr ⟨rfl, ht2, by simpa using hend⟩
        · rw [decide_eq_false hend] at ht2 ⊢
          exact .inl ⟨rfl, ht2, by simp; omega⟩)
    refine hcall.mono ?_
    clear hcall H0 k1 k2 k3 k4
    rintro e W5 ⟨⟨v5, rfl⟩, T5, hg5, hu5, hres⟩
    obtain ⟨p, ended, ht5, hp⟩ : ∃ p ended, TakAt w.heap.size (w.heap.size + 1 + 1 + 1) (w.heap.size + 1 + 1) (w.heap.size + 1) w.heap.size n ended p T5 W5 ∧ takeN n l = p := by
      rcases hres with ⟨h1, h2⟩ | ⟨p, hp, h1, h2⟩
      · exact ⟨l, false, h1, takeN_all h2⟩
      · exact ⟨p, true, h1, takeN_stop h2 hp⟩
    subst hp
    obtain ⟨v, ho, hown, hv, hf⟩ := ht5.o
    have hb5 : Below w.heap.size W4 W5 := hu5.bel (fun k hk => by rcases hk with h | h | h | h | h; omega; omega; omega; omega; cases h) hb4.size
    have q1 : W5.cell? ⟨w.heap.size + 1, 0, none⟩ = some v := (blk_cell ho 0).trans rfl
    have q2 : W5.cell? ⟨w.heap.size + 1 + 1, 0, none⟩ = some (.bool true) := (blk_cell ht5.w 0).trans rfl
    obtain ⟨A, c, rfl⟩ := own_slice hown
    have HB := Lib.hid (hb4.trans hb5)
    have HO := Lib.hid hown
    clear ht5 ho hown hv hf hres hb5 hu5 hg5 hb4 HIT
    obtain ⟨m, hm⟩ : ∃ m, (takeN n l).length = m := ⟨_, rfl⟩
    rw [hm] at q1 HO
    go_wp2_with fail
    go_region
    go_wp2
    go_ret2
    exact ⟨_, rfl, HO.out, HB.out.trans ((Upd.drew (S := fun _ => False) _).bel (fun _ h => h.elim) HB.out.size)⟩
end Go.Proofs.Ytjbbobhjomhnmaa.H
namespace Go.Proofs.Ytjbbobhjomhnmaa.H
open Go Go.RowKit Go.Deep Go.Shelf Go.Proofs Go.Proofs.YtjbbobhjomhnmaaW.PrintWords
set_option linter.unusedVariables false
set_option linter.unusedSimpArgs false
attribute [local go_sem] Oper.semAt_some
/-- What isn't ahead of a key and a number. -/
def notAhead (k : ByteArray) (q : Int) (l : List Ent) : List Ent := l.filter (fun e => !decide (ltE e (k, q, false, ⟨#[]⟩)))
theorem notAhead_post {k : ByteArray} {q : Int} {pre post : List Nd} (h1 : ∀ x ∈ pre, ltE x.e (k, q, false, ⟨#[]⟩)) (h2 : ∀ x ∈ post, ¬ ltE x.e (k, q, false, ⟨#[]⟩)) : notAhead k q ((pre ++ post).map (·.e)) = post.map (·.e) := by
  unfold notAhead
  rw [List.map_append, List.filter_append]
  rw [List.filter_eq_nil_iff.2 (fun e he => by
    obtain ⟨x, hx, rfl⟩ := List.mem_map.1 he
    simpa using h1 x hx), List.filter_eq_self.2 (fun e he => by
    obtain ⟨x, hx, rfl⟩ := List.mem_map.1 he
    simpa using h2 x hx), List.nil_append]
theorem from_v (g : Nat) (S : Nat → Prop) (l : List Nd) (draws : List Int) (k : ByteArray) (q : Int) (w0 w : World) (h : SkIs w0 g S l draws) (hb0 : Below w0.heap.size w0 w) :
    Calls Try.prog 17 #[.pointer (some ⟨g, 0, none⟩), .string k, .int .u64 q] w fun e w' => ∃ f, e = .returned f ∧ IterV Try.prog f encA w0.heap.size (notAhead k q (l.map (·.e))) w' ∧ Below w.heap.size w w' := by
  obtain ⟨pre, post, rfl, h1, h2⟩ := split_at l h.order (k, q, false, ⟨#[]⟩)
  refine (from_c (.pointer (some ⟨g, 0, none⟩)) k q w (some ⟨g, 0, none⟩)).mono ?_
  rintro e w' ⟨rfl, rfl⟩
  have hb : Below w.heap.size w (((w.alloc (.cells #[.pointer (some ⟨g, 0, none⟩)] 43)).alloc (.cells #[.string k] 9)).alloc (.cells #[.int .u64 q] 51)) := (((Below.refl _ _).alloc (Nat.le_refl _) _).alloc (by simp) _).alloc (by simp; omega) _
  refine ⟨_, rfl, ⟨_, _, rfl, enters_of Try.func79 (by kernel_rfl) rfl, fun W hW => ?_⟩, hb⟩
  rw [notAhead_post h1 h2]
  refine from1_it w0 W g pre post k q (hb0.trans ((hb.trans (hW.mono hb.size)).mono hb0.size)) h.nodes h1 h2 _ _ _ (cell_later hW ?_) (cell_later hW ?_) (cell_later hW ?_)
  · exact (blk_cell (blk_alloc (blk_alloc (heap_alloc_new _ _) _) _) 0).trans rfl
  · exact (blk_cell (blk_alloc (by simpa using heap_alloc_new (w.alloc (.cells #[.pointer (some ⟨g, 0, none⟩)] 43)) (.cells #[.string k] 9)) _) 0).trans rfl
  · exact (blk_cell (by simpa using heap_alloc_new ((w.alloc (.cells #[.pointer (some ⟨g, 0, none⟩)] 43)).alloc (.cells #[.string k] 9)) (.cells #[.int .u64 q] 51)) 0).trans rfl
def zeroE : Ent := (⟨#[]⟩, 0, false, ⟨#[]⟩)
/-- The blocks of an entry and of a truth. -/
structure Two (b6 b7 : Nat) (x : Ent × Bool) (T : Nat → Prop) (W : World) : Prop where
  e : W.heap[b6]? = some (.cells (encE x.1).toArray 53 (0, 0))
  b : W.heap[b7]? = some (.cells #[.bool x.2] 4 (0, 0))
  foot : ∀ k, T k ↔ k = b6 ∨ k = b7
theorem two_foot (b6 b7 : Nat) : Foot (Two b6 b7) := by
  refine ⟨fun {s T W k} h hk => ?_, fun {s T W W'} h hs => ⟨(hs.block _ ((h.foot _).2 (.inl rfl))).trans h.e, (hs.block _ ((h.foot _).2 (.inr rfl))).trans h.b, h.foot⟩⟩
  rcases (h.foot k).1 hk with rfl | rfl
  · exact blk_lt h.e
  · exact blk_lt h.b
theorem store4 {W : World} {b : Nat} {v0 v1 v2 v3 : Value} {t : TypeId} (h : W.heap[b]? = some (.cells #[v0, v1, v2, v3] t (0, 0))) (e : Ent) : (storeCells ⟨b, 0, none⟩ (encE e)).run Try.prog W = .ok () (W.setRow b (encE e).toArray) := by
  have := run_storeCells_at (P := Try.prog) b 0 t (encE e) 0 _ W h (by simp [encE]) (okE e).2
  rw [this]
  congr 2
theorem upd_setRow {S : Nat → Prop} (W : World) {g : Nat} (cs : Array Value) (hg : S g) : Upd S W (W.setRow g cs) :=
  ⟨rfl, rfl, rfl, by simp, fun k hk hne => setRow_other W g k cs (by rintro rfl; exact hne hg)⟩
theorem same_setRow {T : Nat → Prop} (W : World) {g : Nat} (cs : Array Value) (hg : ¬ T g) : Same T W (W.setRow g cs) :=
  ⟨rfl, rfl, rfl, by simp, fun k hk => setRow_other W g k cs (by rintro rfl; exact hg hk)⟩
theorem same_alloc {T : Nat → Prop} (W : World) (o : Obj) (h : ∀ k, T k → k < W.heap.size) : Same T W (W.alloc o) := Same.of_below ((Below.refl _ _).alloc (Nat.le_refl _) _) h
theorem cells4 {W : World} {b : Nat} {v0 v1 v2 v3 : Value} {t : TypeId} (h : W.heap[b]? = some (.cells #[v0, v1, v2, v3] t (0, 0))) :
    (W.cell? ⟨b, 0, none⟩ = some v0 ∧ W.cell? ⟨b, 1, none⟩ = some v1 ∧ W.cell? ⟨b, 2, none⟩ = some v2 ∧ W.cell? ⟨b, 3, none⟩ = some v3) ∧ W.frozen? ⟨b, 0, none⟩ = false ∧ W.frozen? ⟨b, 1, none⟩ = false ∧ W.frozen? ⟨b, 2, none⟩ = false ∧ W.frozen? ⟨b, 3, none⟩ = false :=
  ⟨⟨(blk_cell h 0).trans rfl, (blk_cell h 1).trans rfl, (blk_cell h 2).trans rfl, (blk_cell h 3).trans rfl⟩, blk_frozen h 0, blk_frozen h 1, blk_frozen h 2, blk_frozen h 3⟩
theorem put4_heap {W : World} {b : Nat} {v0 v1 v2 v3 u0 u1 u2 u3 : Value} {t : TypeId} (h : W.heap[b]? = some (.cells #[v0, v1, v2, v3] t (0, 0))) :
    ((((W.setCell ⟨b, 0, none⟩ u0).setCell ⟨b, 1, none⟩ u1).setCell ⟨b, 2, none⟩ u2).setCell ⟨b, 3, none⟩ u3).heap[b]? = some (.cells #[u0, u1, u2, u3] t (0, 0)) := blk_set (blk_set (blk_set (blk_set h 0 u0) 1 u1) 2 u2) 3 u3
theorem put4_upd {S : Nat → Prop} (W : World) {b : Nat} (u0 u1 u2 u3 : Value) (h : S b) : Upd S W ((((W.setCell ⟨b, 0, none⟩ u0).setCell ⟨b, 1, none⟩ u1).setCell ⟨b, 2, none⟩ u2).setCell ⟨b, 3, none⟩ u3) :=
  ((Upd.setCell _ _ _ h).trans (Upd.setCell _ _ _ h)).trans (Upd.setCell _ _ _ h) |>.trans (Upd.setCell _ _ _ h)
theorem results_eb {fn : Func} {p q : Tmp} (h : fn.results = #[.cell p 53, .cell q 4]) (tmps : Array Value) (W : World) (b6 b7 : Nat) (e : Ent) (b : Bool) (h6 : tmps.getD p undef = .pointer (some ⟨b6, 0, none⟩)) (h7 : tmps.getD q undef = .pointer (some ⟨b7, 0, none⟩))
    (r6 : W.heap[b6]? = some (.cells (encE e).toArray 53 (0, 0))) (r7 : W.heap[b7]? = some (.cells #[.bool b] 4 (0, 0))) : (results fn tmps).run Try.prog W = .ok (.tuple #[.agg (encE e).toArray, .bool b]) W := by
  obtain ⟨⟨x0, x1, x2, x3⟩, _⟩ := cells4 (t := 53) (show W.heap[b6]? = some (.cells #[.string e.1, .int .u64 e.2.1, .bool e.2.2.1, .string e.2.2.2] 53 (0, 0)) from r6)
  have x7 : W.cell? ⟨b7, 0, none⟩ = some (.bool b) := (blk_cell r7 0).trans rfl
  have h6' : tmps[p]?.getD undef = .pointer (some ⟨b6, 0, none⟩) := by simpa using h6
  have h7' : tmps[q]?.getD undef = .pointer (some ⟨b7, 0, none⟩) := by simpa using h7
  clear r6 r7
  unfold encE
  simp [results, h, h6', h7', asAddr]
  go_simp
set_option maxHeartbeats 1600000 in
set_option maxRecDepth 100000 in
theorem seek_c (g : Nat) (S : Nat → Prop) (l : List Nd) (draws : List Int) (k : ByteArray) (q : Int) (w : World) (h : SkIs w g S l draws) :
    Calls Try.prog 29 #[.pointer (some ⟨g, 0, none⟩), .string k, .int .u64 q] w fun e w' =>
      e = .returned (.tuple #[.agg (encE ((notAhead k q (l.map (·.e))).headD zeroE)).toArray, .bool (!(notAhead k q (l.map (·.e))).isEmpty)]) ∧ Below w.heap.size w w' := by
  obtain ⟨w2, hw2⟩ : ∃ w2, (w.alloc (.cells #[.string ⟨#[]⟩, .int .u64 0, .bool false, .string ⟨#[]⟩] 53)).alloc (.cells #[.bool false] 4) = w2 := ⟨_, rfl⟩
  have hb2 : Below w.heap.size w w2 := by rw [← hw2]; exact ((Below.refl _ _).alloc (Nat.le_refl _) _).alloc (by simp) _
  have hsz2 : w2.heap.size = w.heap.size + 1 + 1 := by rw [← hw2]; simp
  have r6 : w2.heap[w.heap.size]? = some (.cells #[.string ⟨#[]⟩, .int .u64 0, .bool false, .string ⟨#[]⟩] 53 (0, 0)) := by rw [← hw2]; exact blk_alloc (heap_alloc_new _ _) _
  have r7 : w2.heap[w.heap.size + 1]? = some (.cells #[.bool false] 4 (0, 0)) := by rw [← hw2]; simpa using heap_alloc_new (w.alloc (.cells #[.string ⟨#[]⟩, .int .u64 0, .bool false, .string ⟨#[]⟩] 53)) (.cells #[.bool false] 4)
  have HF := Lib.hid (from_v g S l draws k q w w2 h hb2)
  obtain ⟨ys, hys⟩ : ∃ ys, notAhead k q (l.map (·.e)) = ys := ⟨_, rfl⟩
  rw [hys] at HF ⊢
  refine (callsIn_wide (n := 8)).1 ?_
  refine callsIn_of_wp_marks Try.func29 rfl trivial ?_ rfl
  simp only [Try.ntmps29, List.size_toArray, List.length_cons, List.length_nil, Nat.reduceAdd, Nat.reduceSub, Array.replicate_succ, Array.replicate_zero, List.push_toArray, List.append_toArray, List.nil_append, List.cons_append]
  gi_wp2_with (first | (refine ⟨trivial, ?_⟩; gi_at_call 17; refine (callsIn_wide.2 HF.out).mono ?_; rintro e w3 ⟨f, rfl, hv, hb3⟩))
  obtain ⟨gf, lb, rfl, henter, hit⟩ := hv
  have hle : w.heap.size ≤ w2.heap.size := hb2.size
  have hle3 : w2.heap.size ≤ w3.heap.size := hb3.size
  have t0 : Two w.heap.size (w.heap.size + 1) (zeroE, false) (fun k => k = w.heap.size ∨ k = w.heap.size + 1) w3 := ⟨blk_below r6 hb3, blk_below r7 hb3, fun _ => Iff.rfl⟩
  refine rangeT (gf := gf) (lb := lb) rfl henter (encs := encA) (n₀ := w.heap.size) (l := ys) hit (fun _ => rfl)
    (fun p T W => Two w.heap.size (w.heap.size + 1) (zeroE, false) T W ∧ p = [])
    (fun c p T W => Two w.heap.size (w.heap.size + 1) (p.headD zeroE, true) T W ∧ (p.length = 1 ∧ c = .ret))
    (fun p x a' T W => (∃ b8 T0, w.heap.size + 1 < b8 ∧ b8 < W.heap.size ∧ W.heap[b8]? = some (.cells (encE x).toArray 53 (0, 0)) ∧ Two w.heap.size (w.heap.size + 1) (zeroE, false) T0 W ∧ (∀ k, T k ↔ T0 k ∨ k = b8) ∧ a' = { tmps := #[.pointer (some ⟨g, 0, none⟩), .string k, .int .u64 q, undef, undef, undef, .pointer (some ⟨w.heap.size, 0, none⟩), .pointer (some ⟨w.heap.size + 1, 0, none⟩), .pointer (some ⟨b8, 0, none⟩), .pointer (some ⟨g, 0, none⟩), .string k, .int .u64 q, .func (.func gf) #[] lb, .agg (encE x).toArray, undef, undef], defers := [] }) ∧ p = [])
    (foot_and (two_foot _ _ |> fun h => ⟨fun {s T W k} h1 hk => h.lt h1 hk, fun {s T W W'} h1 hs => h.move h1 hs⟩) (fun p => p = []))
    (fun c => foot_and (foot_map (two_foot w.heap.size (w.heap.size + 1)) (fun p : List Ent => (p.headD zeroE, true))) (fun p => p.length = 1 ∧ c = .ret))
    (fun p x => ⟨fun {s T W k} h1 hk => by
        obtain ⟨⟨b8, T0, q1, q2, q3, q4, q5, q6⟩, _⟩ := h1
        rcases (q5 k).1 hk with h | rfl
        · exact (two_foot _ _).lt q4 h
        · exact q2,
      fun {s T W W'} h1 hs => by
        obtain ⟨⟨b8, T0, q1, q2, q3, q4, q5, q6⟩, q7⟩ := h1
        exact ⟨⟨b8, T0, q1, Nat.lt_of_lt_of_le q2 hs.size, (hs.block b8 ((q5 _).2 (.inr rfl))).trans q3, (two_foot _ _).move q4 (hs.mono fun k hk => (q5 k).2 (.inl hk)), q5, q6⟩, q7⟩⟩)
    _ (fun k hk => by rcases hk with rfl | rfl <;> omega) (Nat.le_trans hle hle3) ⟨t0, rfl⟩ ?assign ?body ?done ?stop
  case assign =>
    rintro lp p x T1 W K ⟨ht, rfl⟩ hg hu hp hK
    have hWs : w3.heap.size ≤ W.heap.size := hu.size
    have r8 := heap_alloc_new W (.cells #[.string ⟨#[]⟩, .int .u64 0, .bool false, .string ⟨#[]⟩] 53)
    have hst := store4 r8 x
    have r9 := setRow_heap _ _ _ (encE x).toArray _ _ r8
    have hlt := fun k hk => (two_foot _ _).lt (k := k) ht hk
    dsimp only [encA]
    gi_wp2
    refine hK _ (fun k => T1 k ∨ k = W.heap.size) _ (fun k hk => by rcases hk with h | rfl; exact .inl h; exact .inr (Nat.le_refl _)) ?_ ⟨⟨W.heap.size, T1, by omega, blk_lt r9, r9, ?_, fun _ => Iff.rfl, rfl⟩, trivial⟩
    · exact (Upd.alloc _ _).step (upd_setRow (S := fun k => k = W.heap.size) _ _ rfl) (fun k hk => .inr (by omega))
    · exact ((two_foot _ _).move ht (same_alloc _ _ hlt)) |> fun h => (two_foot _ _).move h (same_setRow _ _ (fun h2 => Nat.lt_irrefl _ (hlt _ h2)))
  case body =>
    rintro lp p x a' T W ⟨⟨b8, T0, q1, q2, q3, q4, q5, rfl⟩, rfl⟩ hg hu hp
    have e6 := q4.e
    have e7 := q4.b
    have u := boxEnt q3
    have x0 := u 0 _ rfl
    have x1 := u 1 _ rfl
    have x2 := u 2 _ rfl
    have x3 := u 3 _ rfl
    obtain ⟨⟨y0, y1, y2, y3⟩, g0, g1, g2, g3⟩ := cells4 (t := 53) (show W.heap[w.heap.size]? = some (.cells #[.string ⟨#[]⟩, .int .u64 0, .bool false, .string ⟨#[]⟩] 53 (0, 0)) from e6)
    have y7 : W.cell? ⟨w.heap.size + 1, 0, none⟩ = some (.bool false) := (blk_cell e7 0).trans rfl
    have g7 : W.frozen? ⟨w.heap.size + 1, 0, none⟩ = false := blk_frozen e7 0
    have hft := q4.foot
    gi_wp2
    have hne : w.heap.size + 1 ≠ w.heap.size := by omega
    have hT6 : T w.heap.size := (q5 _).2 (.inl ((hft _).2 (.inl rfl)))
    have hT7 : T (w.heap.size + 1) := (q5 _).2 (.inl ((hft _).2 (.inr rfl)))
    exact ⟨T0, fun k hk => .inl ((q5 k).2 (.inl hk)), (put4_upd _ _ _ _ _ hT6).trans (Upd.setCell _ _ _ hT7), ⟨blk_far (put4_heap e6) (p := ⟨w.heap.size + 1, 0, none⟩) hne.symm _, blk_set (blk_far (blk_far (blk_far (blk_far e7 hne _) hne _) hne _) hne _) 0 (.bool true), hft⟩, rfl, rfl⟩
  case done =>
    rintro D T W hD hnD hg hu ⟨ht, hp⟩ hK
    have e6 := ht.e
    have e7 := ht.b
    obtain ⟨⟨y0, y1, y2, y3⟩, g0, g1, g2, g3⟩ := cells4 (t := 53) (show W.heap[w.heap.size]? = some (.cells #[.string ⟨#[]⟩, .int .u64 0, .bool false, .string ⟨#[]⟩] 53 (0, 0)) from e6)
    have y7 : W.cell? ⟨w.heap.size + 1, 0, none⟩ = some (.bool false) := (blk_cell e7 0).trans rfl
    have g7 : W.frozen? ⟨w.heap.size + 1, 0, none⟩ = false := blk_frozen e7 0
    have hft := ht.foot
    gi_wp2
    have hne : w.heap.size + 1 ≠ w.heap.size := by omega
    have hT6 : T w.heap.size := (hft _).2 (.inl rfl)
    have hT7 : T (w.heap.size + 1) := (hft _).2 (.inr rfl)
    have hU := (put4_upd (S := T) W (.string ⟨#[]⟩) (.int .u64 0) (.bool false) (.string ⟨#[]⟩) hT6).trans (Upd.setCell _ 0 (.bool false) hT7)
    refine ⟨by simp, .inl ⟨_, _, rfl, run_takeDeferred (hU.heap hK hnD), ?_⟩⟩
    have ht2 : Two w.heap.size (w.heap.size + 1) (zeroE, false) T _ := ⟨blk_far (put4_heap e6) (p := ⟨w.heap.size + 1, 0, none⟩) hne.symm _, blk_set (blk_far (blk_far (blk_far (blk_far e7 hne _) hne _) hne _) hne _) 0 (.bool false), hft⟩
    have hs := (two_foot _ _).move ht2 (same_putObj _ (.deferred none) hnD)
    refine ⟨_, results_eb rfl _ _ w.heap.size (w.heap.size + 1) _ _ rfl rfl hs.e hs.b, ?_, ?_⟩
    · rfl
    · exact (hb2.trans (hb3.mono hle)).trans (((hu.grow hU hg).step (upd_putObj (S := fun k => k = D) _ _ rfl) (fun k hk => .inr (by omega))).bel (fun k hk => by rcases hk with rfl | rfl <;> omega) (by omega))
  case stop =>
    rintro D c p T W hD hnD hg hu hp ⟨ht, hl1, rfl⟩ hK
    have e6 := ht.e
    have e7 := ht.b
    gi_wp2
    refine ⟨by simp, .inl ⟨_, _, rfl, run_takeDeferred hK, ?_⟩⟩
    have hs := (two_foot _ _).move ht (same_putObj W (.deferred none) hnD)
    refine ⟨_, results_eb rfl _ _ w.heap.size (w.heap.size + 1) _ _ rfl rfl hs.e hs.b, ?_, ?_⟩
    · obtain ⟨t, rfl⟩ := hp
      match p, hl1 with
      | [x], _ => rfl
    · exact (hb2.trans (hb3.mono hle)).trans ((hu.step (upd_putObj (S := fun k => k = D) _ _ rfl) (fun k hk => .inr (by omega))).bel (fun k hk => by rcases hk with rfl | rfl <;> omega) (by omega))
end Go.Proofs.Ytjbbobhjomhnmaa.H
