/- skip.List.From as a value; Seek. Conditions: sizes. -/
import Derived.Test.YtjbbobhjomhnmaaSk10
namespace Go.Proofs.Ytjbbobhjomhnmaa.H
open Go Go.RowKit Go.Deep Go.Shelf Go.Proofs Go.Proofs.YtjbbobhjomhnmaaW.PrintWords
set_option linter.unusedVariables false
set_option linter.unusedSimpArgs false
attribute [local go_sem] Oper.semAt_some
/-- What isn't ahead of a key and a number. -/
def notAhead (k : ByteArray) (q : Int) (l : List Ent) : List Ent := l.filter (fun e => !decide (ltE e (k, q, false, ⟨#[]⟩)))
theorem notAhead_post {k : ByteArray} {q : Int} {pre post : List Nd} (h1 : ∀ x ∈ pre, ltE x.e (k, q, false, ⟨#[]⟩)) (h2 : ∀ x ∈ post, ¬ ltE x.e (k, q, false, ⟨#[]⟩)) : notAhead k q ((pre ++ post).map (·.e)) = post.map (·.e) := by
  unfold notAhead
  rw [List.map_append, List.filter_append]
  rw [List.filter_eq_nil_iff.2 (fun e he => by
    obtain ⟨x, hx, rfl⟩ := List.mem_map.1 he
    simpa using h1 x hx), List.filter_eq_self.2 (fun e he => by
    obtain ⟨x, hx, rfl⟩ := List.mem_map.1 he
    simpa using h2 x hx), List.nil_append]
theorem from_v (g : Nat) (S : Nat → Prop) (l : List Nd) (draws : List Int) (k : ByteArray) (q : Int) (w0 w : World) (h : SkIs w0 g S l draws) (hb0 : Below w0.heap.size w0 w) :
    Calls Try.prog 17 #[.pointer (some ⟨g, 0, none⟩), .string k, .int .u64 q] w fun e w' => ∃ f, e = .returned f ∧ IterV Try.prog f encA w0.heap.size (notAhead k q (l.map (·.e))) w' ∧ Below w.heap.size w w' := by
  obtain ⟨pre, post, rfl, h1, h2⟩ := split_at l h.order (k, q, false, ⟨#[]⟩)
  refine (from_c (.pointer (some ⟨g, 0, none⟩)) k q w (some ⟨g, 0, none⟩)).mono ?_
  rintro e w' ⟨rfl, rfl⟩
  have hb : Below w.heap.size w (((w.alloc (.cells #[.pointer (some ⟨g, 0, none⟩)] 43)).alloc (.cells #[.string k] 9)).alloc (.cells #[.int .u64 q] 51)) := (((Below.refl _ _).alloc (Nat.le_refl _) _).alloc (by simp) _).alloc (by simp; omega) _
  refine ⟨_, rfl, ⟨_, _, rfl, enters_of Try.func79 (by kernel_rfl) rfl, fun W hW => ?_⟩, hb⟩
  rw [notAhead_post h1 h2]
  refine from1_it w0 W g pre post k q (hb0.trans ((hb.trans (hW.mono hb.size)).mono hb0.size)) h.nodes h1 h2 _ _ _ (cell_later hW ?_) (cell_later hW ?_) (cell_later hW ?_)
  · exact (blk_cell (blk_alloc (blk_alloc (heap_alloc_new _ _) _) _) 0).trans rfl
  · exact (blk_cell (blk_alloc (by simpa using heap_alloc_new (w.alloc (.cells #[.pointer (some ⟨g, 0, none⟩)] 43)) (.cells #[.string k] 9)) _) 0).trans rfl
  · exact (blk_cell (by simpa using heap_alloc_new ((w.alloc (.cells #[.pointer (some ⟨g, 0, none⟩)] 43)).alloc (.cells #[.string k] 9)) (.cells #[.int .u64 q] 51)) 0).trans rfl
def zeroE : Ent := (⟨#[]⟩, 0, false, ⟨#[]⟩)
/-- The blocks of an entry and of a truth. -/
structure Two (b6 b7 : Nat) (x : Ent × Bool) (T : Nat → Prop) (W : World) : Prop where
  e : W.heap[b6]? = some (.cells (encE x.1).toArray 53 (0, 0))
  b : W.heap[b7]? = some (.cells #[.bool x.2] 4 (0, 0))
  foot : ∀ k, T k ↔ k = b6 ∨ k = b7
theorem two_foot (b6 b7 : Nat) : Foot (Two b6 b7) := by
  refine ⟨fun {s T W k} h hk => ?_, fun {s T W W'} h hs => ⟨(hs.block _ ((h.foot _).2 (.inl rfl))).trans h.e, (hs.block _ ((h.foot _).2 (.inr rfl))).trans h.b, h.foot⟩⟩
  rcases (h.foot k).1 hk with rfl | rfl
  · exact blk_lt h.e
  · exact blk_lt h.b
theorem store4 {W : World} {b : Nat} {v0 v1 v2 v3 : Value} {t : TypeId} (h : W.heap[b]? = some (.cells #[v0, v1, v2, v3] t (0, 0))) (e : Ent) : (storeCells ⟨b, 0, none⟩ (encE e)).run Try.prog W = .ok () (W.setRow b (encE e).toArray) := by
  have := run_storeCells_at (P := Try.prog) b 0 t (encE e) 0 _ W h (by simp [encE]) (okE e).2
  rw [this]
  congr 2
theorem upd_setRow {S : Nat → Prop} (W : World) {g : Nat} (cs : Array Value) (hg : S g) : Upd S W (W.setRow g cs) :=
  ⟨rfl, rfl, rfl, by simp, fun k hk hne => setRow_other W g k cs (by rintro rfl; exact hne hg)⟩
theorem same_setRow {T : Nat → Prop} (W : World) {g : Nat} (cs : Array Value) (hg : ¬ T g) : Same T W (W.setRow g cs) :=
  ⟨rfl, rfl, rfl, by simp, fun k hk => setRow_other W g k cs (by rintro rfl; exact hg hk)⟩
theorem same_alloc {T : Nat → Prop} (W : World) (o : Obj) (h : ∀ k, T k → k < W.heap.size) : Same T W (W.alloc o) := Same.of_below ((Below.refl _ _).alloc (Nat.le_refl _) _) h
theorem cells4 {W : World} {b : Nat} {v0 v1 v2 v3 : Value} {t : TypeId} (h : W.heap[b]? = some (.cells #[v0, v1, v2, v3] t (0, 0))) :
    (W.cell? ⟨b, 0, none⟩ = some v0 ∧ W.cell? ⟨b, 1, none⟩ = some v1 ∧ W.cell? ⟨b, 2, none⟩ = some v2 ∧ W.cell? ⟨b, 3, none⟩ = some v3) ∧ W.frozen? ⟨b, 0, none⟩ = false ∧ W.frozen? ⟨b, 1, none⟩ = false ∧ W.frozen? ⟨b, 2, none⟩ = false ∧ W.frozen? ⟨b, 3, none⟩ = false :=
  ⟨⟨(blk_cell h 0).trans rfl, (blk_cell h 1).trans rfl, (blk_cell h 2).trans rfl, (blk_cell h 3).trans rfl⟩, blk_frozen h 0, blk_frozen h 1, blk_frozen h 2, blk_frozen h 3⟩
theorem put4_heap {W : World} {b : Nat} {v0 v1 v2 v3 u0 u1 u2 u3 : Value} {t : TypeId} (h : W.heap[b]? = some (.cells #[v0, v1, v2, v3] t (0, 0))) :
    ((((W.setCell ⟨b, 0, none⟩ u0).setCell ⟨b, 1, none⟩ u1).setCell ⟨b, 2, none⟩ u2).setCell ⟨b, 3, none⟩ u3).heap[b]? = some (.cells #[u0, u1, u2, u3] t (0, 0)) := blk_set (blk_set (blk_set (blk_set h 0 u0) 1 u1) 2 u2) 3 u3
theorem put4_upd {S : Nat → Prop} (W : World) {b : Nat} (u0 u1 u2 u3 : Value) (h : S b) : Upd S W ((((W.setCell ⟨b, 0, none⟩ u0).setCell ⟨b, 1, none⟩ u1).setCell ⟨b, 2, none⟩ u2).setCell ⟨b, 3, none⟩ u3) :=
  ((Upd.setCell _ _ _ h).trans (Upd.setCell _ _ _ h)).trans (Upd.setCell _ _ _ h) |>.trans (Upd.setCell _ _ _ h)
theorem results_eb {fn : Func} {p q : Tmp} (h : fn.results = #[.cell p 53, .cell q 4]) (tmps : Array Value) (W : World) (b6 b7 : Nat) (e : Ent) (b : Bool) (h6 : tmps.getD p undef = .pointer (some ⟨b6, 0, none⟩)) (h7 : tmps.getD q undef = .pointer (some ⟨b7, 0, none⟩))
    (r6 : W.heap[b6]? = some (.cells (encE e).toArray 53 (0, 0))) (r7 : W.heap[b7]? = some (.cells #[.bool b] 4 (0, 0))) : (results fn tmps).run Try.prog W = .ok (.tuple #[.agg (encE e).toArray, .bool b]) W := by
  obtain ⟨⟨x0, x1, x2, x3⟩, _⟩ := cells4 (t := 53) (show W.heap[b6]? = some (.cells #[.string e.1, .int .u64 e.2.1, .bool e.2.2.1, .string e.2.2.2] 53 (0, 0)) from r6)
  have x7 : W.cell? ⟨b7, 0, none⟩ = some (.bool b) := (blk_cell r7 0).trans rfl
  have h6' : tmps[p]?.getD undef = .pointer (some ⟨b6, 0, none⟩) := by simpa using h6
  have h7' : tmps[q]?.getD undef = .pointer (some ⟨b7, 0, none⟩) := by simpa using h7
  clear r6 r7
  unfold encE
  simp [results, h, h6', h7', asAddr]
  go_simp
set_option maxHeartbeats 1600000 in
set_option maxRecDepth 100000 in
theorem seek_c (g : Nat) (S : Nat → Prop) (l : List Nd) (draws : List Int) (k : ByteArray) (q : Int) (w : World) (h : SkIs w g S l draws) :
    Calls Try.prog 29 #[.pointer (some ⟨g, 0, none⟩), .string k, .int .u64 q] w fun e w' =>
      e = .returned (.tuple #[.agg (encE ((notAhead k q (l.map (·.e))).headD zeroE)).toArray, .bool (!(notAhead k q (l.map (·.e))).isEmpty)]) ∧ Below w.heap.size w w' := by
  obtain ⟨w2, hw2⟩ : ∃ w2, (w.alloc (.cells #[.string ⟨#[]⟩, .int .u64 0, .bool false, .string ⟨#[]⟩] 53)).alloc (.cells #[.bool false] 4) = w2 := ⟨_, rfl⟩
  have hb2 : Below w.heap.size w w2 := by rw [← hw2]; exact ((Below.refl _ _).alloc (Nat.le_refl _) _).alloc (by simp) _
  have hsz2 : w2.heap.size = w.heap.size + 1 + 1 := by rw [← hw2]; simp
  have r6 : w2.heap[w.heap.size]? = some (.cells #[.string ⟨#[]⟩, .int .u64 0, .bool false, .string ⟨#[]⟩] 53 (0, 0)) := by rw [← hw2]; exact blk_alloc (heap_alloc_new _ _) _
  have r7 : w2.heap[w.heap.size + 1]? = some (.cells #[.bool false] 4 (0, 0)) := by rw [← hw2]; simpa using heap_alloc_new (w.alloc (.cells #[.string ⟨#[]⟩, .int .u64 0, .bool false, .string ⟨#[]⟩] 53)) (.cells #[.bool false] 4)
  have HF := Lib.hid (from_v g S l draws k q w w2 h hb2)
  obtain ⟨ys, hys⟩ : ∃ ys, notAhead k q (l.map (·.e)) = ys := ⟨_, rfl⟩
  rw [hys] at HF ⊢
  refine (callsIn_wide (n := 8)).1 ?_
  refine callsIn_of_wp_marks Try.func29 rfl trivial ?_ rfl
  simp only [Try.ntmps29, List.size_toArray, List.length_cons, List.length_nil, Nat.reduceAdd, Nat.reduceSub, Array.replicate_succ, Array.replicate_zero, List.push_toArray, List.append_toArray, List.nil_append, List.cons_append]
  gi_wp2_with (first | (refine ⟨trivial, ?_⟩; gi_at_call 17; refine (callsIn_wide.2 HF.out).mono ?_; rintro e w3 ⟨f, rfl, hv, hb3⟩))
  obtain ⟨gf, lb, rfl, henter, hit⟩ := hv
  have hle : w.heap.size ≤ w2.heap.size := hb2.size
  have hle3 : w2.heap.size ≤ w3.heap.size := hb3.size
  have t0 : Two w.heap.size (w.heap.size + 1) (zeroE, false) (fun k => k = w.heap.size ∨ k = w.heap.size + 1) w3 := ⟨blk_below r6 hb3, blk_below r7 hb3, fun _ => Iff.rfl⟩
  refine rangeT (gf := gf) (lb := lb) rfl henter (encs := encA) (n₀ := w.heap.size) (l := ys) hit (fun _ => rfl)
    (fun p T W => Two w.heap.size (w.heap.size + 1) (zeroE, false) T W ∧ p = [])
    (fun c p T W => Two w.heap.size (w.heap.size + 1) (p.headD zeroE, true) T W ∧ (p.length = 1 ∧ c = .ret))
    (fun p x a' T W => (∃ b8 T0, w.heap.size + 1 < b8 ∧ b8 < W.heap.size ∧ W.heap[b8]? = some (.cells (encE x).toArray 53 (0, 0)) ∧ Two w.heap.size (w.heap.size + 1) (zeroE, false) T0 W ∧ (∀ k, T k ↔ T0 k ∨ k = b8) ∧ a' = { tmps := #[.pointer (some ⟨g, 0, none⟩), .string k, .int .u64 q, undef, undef, undef, .pointer (some ⟨w.heap.size, 0, none⟩), .pointer (some ⟨w.heap.size + 1, 0, none⟩), .pointer (some ⟨b8, 0, none⟩), .pointer (some ⟨g, 0, none⟩), .string k, .int .u64 q, .func (.func gf) #[] lb, .agg (encE x).toArray, undef, undef], defers := [] }) ∧ p = [])
    (foot_and (two_foot _ _ |> fun h => ⟨fun {s T W k} h1 hk => h.lt h1 hk, fun {s T W W'} h1 hs => h.move h1 hs⟩) (fun p => p = []))
    (fun c => foot_and (foot_map (two_foot w.heap.size (w.heap.size + 1)) (fun p : List Ent => (p.headD zeroE, true))) (fun p => p.length = 1 ∧ c = .ret))
    (fun p x => ⟨fun {s T W k} h1 hk => by
        obtain ⟨⟨b8, T0, q1, q2, q3, q4, q5, q6⟩, _⟩ := h1
        rcases (q5 k).1 hk with h | rfl
        · exact (two_foot _ _).lt q4 h
        · exact q2,
      fun {s T W W'} h1 hs => by
        obtain ⟨⟨b8, T0, q1, q2, q3, q4, q5, q6⟩, q7⟩ := h1
        exact ⟨⟨b8, T0, q1, Nat.lt_of_lt_of_le q2 hs.size, (hs.block b8 ((q5 _).2 (.inr rfl))).trans q3, (two_foot _ _).move q4 (hs.mono fun k hk => (q5 k).2 (.inl hk)), q5, q6⟩, q7⟩⟩)
    _ (fun k hk => by rcases hk with rfl | rfl <;> omega) (Nat.le_trans hle hle3) ⟨t0, rfl⟩ ?assign ?body ?done ?stop
  case assign =>
    rintro lp p x T1 W K ⟨ht, rfl⟩ hg hu hp hK
    have hWs : w3.heap.size ≤ W.heap.size := hu.size
    have r8 := heap_alloc_new W (.cells #[.string ⟨#[]⟩, .int .u64 0, .bool false, .string ⟨#[]⟩] 53)
    have hst := store4 r8 x
    have r9 := setRow_heap _ _ _ (encE x).toArray _ _ r8
    have hlt := fun k hk => (two_foot _ _).lt (k := k) ht hk
    dsimp only [encA]
    gi_wp2
    refine hK _ (fun k => T1 k ∨ k = W.heap.size) _ (fun k hk => by rcases hk with h | rfl; exact .inl h; exact .inr (Nat.le_refl _)) ?_ ⟨⟨W.heap.size, T1, by omega, blk_lt r9, r9, ?_, fun _ => Iff.rfl, rfl⟩, trivial⟩
    · exact (Upd.alloc _ _).step (upd_setRow (S := fun k => k = W.heap.size) _ _ rfl) (fun k hk => .inr (by omega))
    · exact ((two_foot _ _).move ht (same_alloc _ _ hlt)) |> fun h => (two_foot _ _).move h (same_setRow _ _ (fun h2 => Nat.lt_irrefl _ (hlt _ h2)))
  case body =>
    rintro lp p x a' T W ⟨⟨b8, T0, q1, q2, q3, q4, q5, rfl⟩, rfl⟩ hg hu hp
    have e6 := q4.e
    have e7 := q4.b
    have u := boxEnt q3
    have x0 := u 0 _ rfl
    have x1 := u 1 _ rfl
    have x2 := u 2 _ rfl
    have x3 := u 3 _ rfl
    obtain ⟨⟨y0, y1, y2, y3⟩, g0, g1, g2, g3⟩ := cells4 (t := 53) (show W.heap[w.heap.size]? = some (.cells #[.string ⟨#[]⟩, .int .u64 0, .bool false, .string ⟨#[]⟩] 53 (0, 0)) from e6)
    have y7 : W.cell? ⟨w.heap.size + 1, 0, none⟩ = some (.bool false) := (blk_cell e7 0).trans rfl
    have g7 : W.frozen? ⟨w.heap.size + 1, 0, none⟩ = false := blk_frozen e7 0
    have hft := q4.foot
    gi_wp2
    have hne : w.heap.size + 1 ≠ w.heap.size := by omega
    have hT6 : T w.heap.size := (q5 _).2 (.inl ((hft _).2 (.inl rfl)))
    have hT7 : T (w.heap.size + 1) := (q5 _).2 (.inl ((hft _).2 (.inr rfl)))
    exact ⟨T0, fun k hk => .inl ((q5 k).2 (.inl hk)), (put4_upd _ _ _ _ _ hT6).trans (Upd.setCell _ _ _ hT7), ⟨blk_far (put4_heap e6) (p := ⟨w.heap.size + 1, 0, none⟩) hne.symm _, blk_set (blk_far (blk_far (blk_far (blk_far e7 hne _) hne _) hne _) hne _) 0 (.bool true), hft⟩, rfl, rfl⟩
  case done =>
    rintro D T W hD hnD hg hu ⟨ht, hp⟩ hK
    have e6 := ht.e
    have e7 := ht.b
    obtain ⟨⟨y0, y1, y2, y3⟩, g0, g1, g2, g3⟩ := cells4 (t := 53) (show W.heap[w.heap.size]? = some (.cells #[.string ⟨#[]⟩, .int .u64 0, .bool false, .string ⟨#[]⟩] 53 (0, 0)) from e6)
    have y7 : W.cell? ⟨w.heap.size + 1, 0, none⟩ = some (.bool false) := (blk_cell e7 0).trans rfl
    have g7 : W.frozen? ⟨w.heap.size + 1, 0, none⟩ = false := blk_frozen e7 0
    have hft := ht.foot
    gi_wp2
    have hne : w.heap.size + 1 ≠ w.heap.size := by omega
    have hT6 : T w.heap.size := (hft _).2 (.inl rfl)
    have hT7 : T (w.heap.size + 1) := (hft _).2 (.inr rfl)
    have hU := (put4_upd (S := T) W (.string ⟨#[]⟩) (.int .u64 0) (.bool false) (.string ⟨#[]⟩) hT6).trans (Upd.setCell _ 0 (.bool false) hT7)
    refine ⟨by simp, .inl ⟨_, _, rfl, run_takeDeferred (hU.heap hK hnD), ?_⟩⟩
    have ht2 : Two w.heap.size (w.heap.size + 1) (zeroE, false) T _ := ⟨blk_far (put4_heap e6) (p := ⟨w.heap.size + 1, 0, none⟩) hne.symm _, blk_set (blk_far (blk_far (blk_far (blk_far e7 hne _) hne _) hne _) hne _) 0 (.bool false), hft⟩
    have hs := (two_foot _ _).move ht2 (same_putObj _ (.deferred none) hnD)
    refine ⟨_, results_eb rfl _ _ w.heap.size (w.heap.size + 1) _ _ rfl rfl hs.e hs.b, ?_, ?_⟩
    · rfl
    · exact (hb2.trans (hb3.mono hle)).trans (((hu.grow hU hg).step (upd_putObj (S := fun k => k = D) _ _ rfl) (fun k hk => .inr (by omega))).bel (fun k hk => by rcases hk with rfl | rfl <;> omega) (by omega))
  case stop =>
    rintro D c p T W hD hnD hg hu hp ⟨ht, hl1, rfl⟩ hK
    have e6 := ht.e
    have e7 := ht.b
    gi_wp2
    refine ⟨by simp, .inl ⟨_, _, rfl, run_takeDeferred hK, ?_⟩⟩
    have hs := (two_foot _ _).move ht (same_putObj W (.deferred none) hnD)
    refine ⟨_, results_eb rfl _ _ w.heap.size (w.heap.size + 1) _ _ rfl rfl hs.e hs.b, ?_, ?_⟩
    · obtain ⟨t, rfl⟩ := hp
      match p, hl1 with
      | [x], _ => rfl
    · exact (hb2.trans (hb3.mono hle)).trans ((hu.step (upd_putObj (S := fun k => k = D) _ _ rfl) (fun k hk => .inr (by omega))).bel (fun k hk => by rcases hk with rfl | rfl <;> omega) (by omega))
end Go.Proofs.Ytjbbobhjomhnmaa.H
