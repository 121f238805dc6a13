/- taken, over an iterator that writes on its way; sameEntries. Conditions: sizes. (gentak.py) -/
import Derived.Test.YtdpijhpjicbecaaGKey
namespace Go.Proofs.Ytdpijhpjicbecaa.H
open Go Go.RowKit Go.Deep Go.Shelf Go.Proofs Go.Proofs.YtdpijhpjicbecaaW.PrintWords
set_option linter.unusedVariables false
set_option linter.unusedSimpArgs false
attribute [local go_sem] Oper.semAt_some
theorem bytes_iff {a b : ByteArray} : a.toList = b.toList ↔ a = b := by
  rw [ByteArray.toList_eq, ByteArray.toList_eq]
  exact ⟨fun h => ByteArray.ext (Array.ext' h), fun h => by rw [h]⟩
theorem ent_eq (x y : Ent) : x = y ↔ x.1.toList = y.1.toList ∧ x.2.1 = y.2.1 ∧ x.2.2.1 = y.2.2.1 ∧ x.2.2.2.toList = y.2.2.2.toList := by
  rw [bytes_iff, bytes_iff]
  obtain ⟨a, b, c, d⟩ := x
  obtain ⟨a', b', c', d'⟩ := y
  simp
/-- Two entries, compared. -/
theorem neE_run (x y : Ent) (W : World) : (binOp .neq 53 (.agg #[.string x.1, .int .u64 x.2.1, .bool x.2.2.1, .string x.2.2.2]) (.agg #[.string y.1, .int .u64 y.2.1, .bool y.2.2.1, .string y.2.2.2])).run Try.prog W = .ok (.bool (!decide (x = y))) W := by
  have hd : (x = y) = _ := propext (ent_eq x y)
  simp only [hd]
  go_simp
  (repeat' split) <;> simp_all
theorem eqE_run (x y : Ent) (W : World) : (binOp .eql 53 (.agg #[.string x.1, .int .u64 x.2.1, .bool x.2.2.1, .string x.2.2.2]) (.agg #[.string y.1, .int .u64 y.2.1, .bool y.2.2.1, .string y.2.2.2])).run Try.prog W = .ok (.bool (decide (x = y))) W := by
  have hd : (x = y) = _ := propext (ent_eq x y)
  simp only [hd]
  go_simp
  (repeat' split) <;> simp_all
theorem take_same {α : Type} {l m : List α} {k : Nat} (h : l.take k = m.take k) {x : α} (hx : l[k]? = some x) (hy : m[k]? = some x) : l.take (k + 1) = m.take (k + 1) := by
  rw [List.take_add_one, List.take_add_one, h, hx, hy]
/-- The variables of taken's function: what came, whether it has ended; T: their blocks. -/
structure TakAt (n₀ bE bW bO bN : Nat) (n : Int) (ended : Bool) (pre : List Ent) (T : Nat → Prop) (W : World) : Prop where
  e : W.heap[bE]? = some (.cells #[.bool ended] 4 (0, 0))
  w : W.heap[bW]? = some (.cells #[.bool true] 4 (0, 0))
  o : ∃ v, W.heap[bO]? = some (.cells #[v] 27 (0, 0)) ∧ Own encE 53 4 W n₀ v pre ∧ (∀ k, v.ownBlock = some k → k ≠ bE ∧ k ≠ bW ∧ k ≠ bO ∧ k ≠ bN) ∧ ∀ k, T k ↔ k = bE ∨ k = bW ∨ k = bO ∨ k = bN ∨ v.ownBlock = some k
  n : W.heap[bN]? = some (.cells #[.int .i64 n] 3 (0, 0))
  far : bE ≠ bW ∧ bE ≠ bO ∧ bE ≠ bN ∧ bW ≠ bO ∧ bW ≠ bN ∧ bO ≠ bN
  up : n₀ ≤ bE ∧ n₀ ≤ bW ∧ n₀ ≤ bO ∧ n₀ ≤ bN
theorem tak_foot (n₀ bE bW bO bN : Nat) (n : Int) (ended : Bool) : Foot (TakAt n₀ bE bW bO bN n ended) := by
  refine ⟨fun {s T W k} h hk => ?_, fun {s T W W'} h hs => ?_⟩
  · obtain ⟨v, ho, hown, hv, hf⟩ := h.o
    rcases (hf k).1 hk with rfl | rfl | rfl | rfl | hk
    · exact blk_lt h.e
    · exact blk_lt h.w
    · exact blk_lt ho
    · exact blk_lt h.n
    · exact (hown.block_lt hk).2
  · obtain ⟨v, ho, hown, hv, hf⟩ := h.o
    exact ⟨(hs.block _ ((hf _).2 (.inl rfl))).trans h.e, (hs.block _ ((hf _).2 (.inr (.inl rfl)))).trans h.w, ⟨v, (hs.block _ ((hf _).2 (.inr (.inr (.inl rfl))))).trans ho, hown.move (fun k hk _ => hs.block k ((hf k).2 (.inr (.inr (.inr (.inr hk)))))), hv, hf⟩,
      (hs.block _ ((hf _).2 (.inr (.inr (.inr (.inl rfl)))))).trans h.n, h.far, h.up⟩
theorem TakAt.ge {n₀ bE bW bO bN : Nat} {n : Int} {ended : Bool} {pre : List Ent} {T : Nat → Prop} {W : World} (h : TakAt n₀ bE bW bO bN n ended pre T W) : ∀ k, T k → n₀ ≤ k := fun k hk => by
  obtain ⟨v, ho, hown, hv, hf⟩ := h.o
  obtain ⟨u1, u2, u3, u4⟩ := h.up
  rcases (hf k).1 hk with rfl | rfl | rfl | rfl | hk
  · exact u1
  · exact u2
  · exact u3
  · exact u4
  · exact (hown.block_lt hk).1
def takeN {α : Type} (n : Int) (l : List α) : List α := if n < 0 then l else l.take n.toNat
theorem takeN_all {α : Type} {n : Int} {l : List α} (h : n < 0 ∨ (l.length : Int) < n) : takeN n l = l := by
  unfold takeN
  split
  · rfl
  · rw [List.take_of_length_le (by omega)]
theorem takeN_stop {α : Type} {n : Int} {l p : List α} (h : (p.length : Int) = n) (hp : p <+: l) : takeN n l = p := by
  unfold takeN
  rw [if_neg (by omega), ← h, Int.toNat_natCast]
  exact (List.prefix_iff_eq_take.1 hp).symm
theorem tak_start (w0 w : World) (n : Int) (b : Nat) (hb : w0.heap.size ≤ b)
    (h1 : w.heap[b]? = some (.cells #[.int .i64 n] 3 (0, 0))) (h2 : w.heap[b + 1]? = some (.cells #[.slice none 0 0] 27 (0, 0))) (h3 : w.heap[b + 1 + 1]? = some (.cells #[.bool true] 4 (0, 0))) (h4 : w.heap[b + 1 + 1 + 1]? = some (.cells #[.bool false] 4 (0, 0))) :
    TakAt w0.heap.size (b + 1 + 1 + 1) (b + 1 + 1) (b + 1) b n false [] (fun k => k = b + 1 + 1 + 1 ∨ k = b + 1 + 1 ∨ k = b + 1 ∨ k = b ∨ (Value.slice none 0 0).ownBlock = some k) w :=
  ⟨h4, h3, ⟨_, h2, Own.nil _ _ _ _ _, (fun k hk => by cases hk), fun _ => Iff.rfl⟩, h1, by omega, by omega⟩
set_option maxHeartbeats 1600000 in
set_option maxRecDepth 100000 in
theorem taken11a_c (n₀ bE bW bO bN : Nat) (n : Int) (pre : List Ent) (e : Ent) (T : Nat → Prop) (w : World) (h : TakAt n₀ bE bW bO bN n false pre T w) (hl : pre.length < 2932031007319) :
    Calls Try.prog 66 #[.agg (encE e).toArray, .pointer (some ⟨bE, 0, none⟩), .pointer (some ⟨bW, 0, none⟩), .pointer (some ⟨bO, 0, none⟩), .pointer (some ⟨bN, 0, none⟩)] w fun en w' =>
      en = .returned (.bool (!decide ((pre.length : Int) + 1 = n))) ∧ ∃ T', Grow T T' w ∧ Upd T w w' ∧ TakAt n₀ bE bW bO bN n (decide ((pre.length : Int) + 1 = n)) (pre ++ [e]) T' w' := by
  obtain ⟨v, ho, hown, hv, hft⟩ := h.o
  have hn : n₀ ≤ w.heap.size := Nat.le_trans h.up.1 (Nat.le_of_lt (blk_lt h.e))
  obtain ⟨A, c, rfl⟩ := own_slice hown
  have hb0 : Below n₀ w (w.alloc (.cells #[.string e.1, .int .u64 e.2.1, .bool e.2.2.1, .string e.2.2.2] 53)) := (Below.refl _ _).alloc hn _
  have e1 := blk_alloc h.e (.cells #[.string e.1, .int .u64 e.2.1, .bool e.2.2.1, .string e.2.2.2] 53)
  have e3 := blk_alloc ho (.cells #[.string e.1, .int .u64 e.2.1, .bool e.2.2.1, .string e.2.2.2] 53)
  have c1 := (blk_cell e1 0).trans (show _ = some (Value.bool false) from rfl)
  have c2 := (blk_cell e3 0).trans (show _ = some (Value.slice A pre.length c) from rfl)
  have hb1 := boxEnt (e := e) (heap_alloc_new w (.cells #[.string e.1, .int .u64 e.2.1, .bool e.2.2.1, .string e.2.2.2] 53))
  have x0 := hb1 0 _ rfl
  have x1 := hb1 1 _ rfl
  have x2 := hb1 2 _ rfl
  have x3 := hb1 3 _ rfl
  have HT := Lib.hid h
  have HO := Lib.hid ho
  have HV := Lib.hid hv
  have HFT := Lib.hid hft
  have HOWN := Lib.hid hown
  have HB0 := Lib.hid hb0
  clear h ho hown hv hft e1 e3 hb1 hb0
  unfold encE
  go_enter Try.func66, Try.ntmps66
  go_wp2_with (at_builtin; refine wpList_app rfl (.tmp 8) (.tmp 10) rfl uSlE infoE rfl (by decide) (by decide) okE (.slice A pre.length c) pre rfl (base := n₀) ?c1 (some ⟨w.heap.size + 1, 0, none⟩) 1 [e] rfl ?c2 ?c3 ?c4 ?_)
  case c1 => exact (HOWN.out.below ((Below.refl _ _).alloc (Nat.le_refl _) _)).below ((Below.refl _ _).alloc (Nat.le_refl _) _)
  case c2 => have := Sl.one okE (w.alloc (.cells #[.string e.1, .int .u64 e.2.1, .bool e.2.2.1, .string e.2.2.2] 53)) e 53 (cs := #[.string e.1, .int .u64 e.2.1, .bool e.2.2.1, .string e.2.2.2]) rfl; simpa using this
  case c3 => simp; omega
  case c4 => simp; omega
  intro v1 w1 ho1 hg1 hat1
  obtain ⟨A1, k1, rfl⟩ := own_slice ho1
  simp only [List.length_append, List.length_cons, List.length_nil, Nat.zero_add] at ho1 hat1 ⊢
  have hv := HV.out
  have hT := HT.out
  have r1 := blk_grown (blk_alloc (blk_alloc hT.e _) _) hg1 (by intro e1; exact (hv _ e1.symm).1 rfl)
  have r2 := blk_grown (blk_alloc (blk_alloc hT.w _) _) hg1 (by intro e1; exact (hv _ e1.symm).2.1 rfl)
  have r3 := blk_grown (blk_alloc (blk_alloc HO.out _) _) hg1 (by intro e1; exact (hv _ e1.symm).2.2.1 rfl)
  have r4 := blk_grown (blk_alloc (blk_alloc hT.n _) _) hg1 (by intro e1; exact (hv _ e1.symm).2.2.2 rfl)
  have hlt1 := blk_lt hT.e
  have hlt2 := blk_lt hT.w
  have hlt3 := blk_lt HO.out
  have hlt4 := blk_lt hT.n
  have hv1 : ∀ k, (Value.slice A1 (pre.length + 1) k1).ownBlock = some k → k ≠ bE ∧ k ≠ bW ∧ k ≠ bO ∧ k ≠ bN := by
    intro k hk
    rcases hat1 with h | h
    · exact hv k (by rw [← h]; exact hk)
    · rw [h] at hk
      injection hk with hk
      try simp at hk
      exact ⟨by omega, by omega, by omega, by omega⟩
  obtain ⟨fEW, fEO, fEN, fWO, fWN, fON⟩ := hT.far
  obtain ⟨uE, uW, uO, uN⟩ := hT.up
  have hb1 : Below n₀ w w1 := (HB0.out.alloc (Nat.le_trans hn HB0.out.size) _).grown hg1 (by simp; omega) (fun k hk => (HOWN.out.block_lt hk).1)
  have f3 : w1.frozen? ⟨bO, 0, none⟩ = false := blk_frozen r3 0
  have d3 : w1.cell? ⟨bO, 0, none⟩ = some (.slice A pre.length c) := (blk_cell r3 0).trans rfl
  have s1 := blk_far (p := ⟨bO, 0, none⟩) r1 fEO (.slice A1 (pre.length + 1) k1)
  have s2 := blk_far (p := ⟨bO, 0, none⟩) r2 fWO (.slice A1 (pre.length + 1) k1)
  have s3 := blk_set r3 0 (.slice A1 (pre.length + 1) k1)
  have s4 := blk_far (p := ⟨bO, 0, none⟩) r4 fON.symm (.slice A1 (pre.length + 1) k1)
  have hb2 : Below n₀ w (w1.setCell ⟨bO, 0, none⟩ (.slice A1 (pre.length + 1) k1)) := hb1.setCell (p := ⟨bO, 0, none⟩) uO _
  have ho2 : Own encE 53 4 (w1.setCell ⟨bO, 0, none⟩ (.slice A1 (pre.length + 1) k1)) n₀ (.slice A1 (pre.length + 1) k1) (pre ++ [e]) := ho1.upd (Upd.setCell (S := fun k => k = bO) w1 0 _ rfl) (fun k hk => (hv1 k hk).2.2.1)
  have g1 : (w1.setCell ⟨bO, 0, none⟩ (.slice A1 (pre.length + 1) k1)).cell? ⟨bE, 0, none⟩ = some (.bool false) := (blk_cell s1 0).trans rfl
  have g2 : (w1.setCell ⟨bO, 0, none⟩ (.slice A1 (pre.length + 1) k1)).frozen? ⟨bE, 0, none⟩ = false := blk_frozen s1 0
  have g3 : (w1.setCell ⟨bO, 0, none⟩ (.slice A1 (pre.length + 1) k1)).cell? ⟨bO, 0, none⟩ = some (.slice A1 (pre.length + 1) k1) := (blk_cell s3 0).trans rfl
  have g4 : (w1.setCell ⟨bO, 0, none⟩ (.slice A1 (pre.length + 1) k1)).cell? ⟨bN, 0, none⟩ = some (.int .i64 n) := (blk_cell s4 0).trans rfl
  have hft := HFT.out
  have hku : Upd T w w1 := ((Upd.alloc w _).trans (Upd.alloc _ _)).trans (Upd.of_grown hg1 (fun k hk => (hft k).2 (.inr (.inr (.inr (.inr hk))))))
  have hTO : T bO := (hft _).2 (.inr (.inr (.inl rfl)))
  have hTE : T bE := (hft _).2 (.inl rfl)
  have hgr : Grow T (fun k => k = bE ∨ k = bW ∨ k = bO ∨ k = bN ∨ (Value.slice A1 (pre.length + 1) k1).ownBlock = some k) w := fun k hk => by
    rcases hk with h | h | h | h | h
    · exact .inl ((hft _).2 (.inl h))
    · exact .inl ((hft _).2 (.inr (.inl h)))
    · exact .inl ((hft _).2 (.inr (.inr (.inl h))))
    · exact .inl ((hft _).2 (.inr (.inr (.inr (.inl h)))))
    · rcases hat1 with h2 | h2
      · exact .inl ((hft _).2 (.inr (.inr (.inr (.inr (by rw [← h2]; exact h))))))
      · rw [h2] at h
        injection h with h
        try simp at h
        exact .inr (by omega)
  have HFIN := Lib.hid (show ∀ b, ∃ T', Grow T T' w ∧ Upd T w ((w1.setCell ⟨bO, 0, none⟩ (.slice A1 (pre.length + 1) k1)).setCell ⟨bE, 0, none⟩ (.bool b)) ∧ TakAt n₀ bE bW bO bN n b (pre ++ [e]) T' ((w1.setCell ⟨bO, 0, none⟩ (.slice A1 (pre.length + 1) k1)).setCell ⟨bE, 0, none⟩ (.bool b)) from fun b =>
    ⟨_, hgr, (hku.trans (Upd.setCell _ _ _ hTO)).trans (Upd.setCell _ _ _ hTE), ⟨blk_set s1 0 _, blk_far s2 fEW.symm _, ⟨_, blk_far s3 fEO.symm _, ho2.upd (Upd.setCell (S := fun k => k = bE) _ 0 _ rfl) (fun k hk => (hv1 k hk).1), hv1, fun _ => Iff.rfl⟩, blk_far s4 fEN.symm _, hT.far, hT.up⟩⟩)
  clear hft hku hTO hTE hgr HFT
  clear s1 s2 s3 s4 r1 r2 r3 r4 hv hT hlt1 hlt2 hlt3 hlt4 hv1 fEW fEO fEN fWO fWN fON uE uW uO uN hb1 hb2 ho2 ho1 hg1 hat1 c1 c2 x0 x1 x2 x3 HT HO HV HOWN HB0
  have n1 : pre.length + 1 < 2932031007320 := by omega
  obtain ⟨m, hm⟩ : ∃ m, pre.length + 1 = m := ⟨_, rfl⟩
  have hcast : ((pre.length : Int) + 1) = (m : Int) := by omega
  have HCAST := Lib.hid hcast
  have HM := Lib.hid hm
  simp only [hm] at *
  clear hl hcast
  go_wp2
  go_ret
  have hbe : ((m : Int) == n) = decide ((m : Int) = n) := Bool.eq_iff_iff.2 (by simp)
  rw [HCAST.out, hbe]
  exact ⟨rfl, HFIN.out _⟩
set_option maxHeartbeats 1600000 in
set_option maxRecDepth 100000 in
theorem taken11_c (f : Value) (n : Int) (n₀ : Nat) (U : Nat → Prop) (I0 I1 : World → Prop) (l : List Ent) (w : World) (hf : IterUV Try.prog f encA n₀ U I0 I1 I1 l) (hI0 : Firm n₀ I0) (hI1 : Firm n₀ I1) (hi0 : I0 w) (hn₀ : n₀ ≤ w.heap.size) (hl : l.length < 2932031007319) :
    Calls Try.prog 19 #[f, .int .i64 n] w fun e w' => ∃ v, e = .returned (.tuple #[v, .bool true]) ∧ Own encE 53 4 w' w.heap.size v (takeN n l) ∧ Upd U w w' ∧ (if n = 0 then I0 w' else I1 w') := by
  obtain ⟨gf, fa, lb, rfl, henter, hit⟩ := hf
  have HIT := Lib.hid hit
  clear hit
  have hnil : ∀ w : World, (binOp .eql 31 (.func (.func gf) fa lb) .nilFunc).run Try.prog w = .ok (.bool false) w := fun _ => rfl
  by_cases hn : n = 0
  · subst hn
    go_enter Try.func19, Try.ntmps19
    go_wp2
    go_ret2
    exact ⟨_, rfl, by simpa [takeN] using Own.nil _ _ _ _ _, Upd.of_below (((Below.refl w.heap.size w).alloc (Nat.le_refl _) _).alloc (by simp) _), by simpa using hI0.later hi0 (((Below.refl _ _).alloc (Nat.le_refl _) _).alloc (by simp) _)⟩
  · go_enter Try.func19, Try.ntmps19
    go_wp2_with fail
    go_at_fn gf
    obtain ⟨W4, hW4⟩ : ∃ W4, (((w.alloc (.cells #[.int .i64 n] 3)).alloc (.cells #[.slice none 0 0] 27)).alloc (.cells #[.bool true] 4)).alloc (.cells #[.bool false] 4) = W4 := ⟨_, rfl⟩
    have k1 : W4.heap[w.heap.size]? = some (.cells #[.int .i64 n] 3 (0, 0)) := by rw [← hW4]; exact blk_alloc (blk_alloc (blk_alloc (heap_alloc_new _ _) _) _) _
    have k2 : W4.heap[w.heap.size + 1]? = some (.cells #[.slice none 0 0] 27 (0, 0)) := by rw [← hW4]; exact blk_alloc (blk_alloc (by simpa using heap_alloc_new (w.alloc (.cells #[.int .i64 n] 3)) (.cells #[.slice none 0 0] 27)) _) _
    have k3 : W4.heap[w.heap.size + 1 + 1]? = some (.cells #[.bool true] 4 (0, 0)) := by rw [← hW4]; exact blk_alloc (by simpa using heap_alloc_new ((w.alloc (.cells #[.int .i64 n] 3)).alloc (.cells #[.slice none 0 0] 27)) (.cells #[.bool true] 4)) _
    have k4 : W4.heap[w.heap.size + 1 + 1 + 1]? = some (.cells #[.bool false] 4 (0, 0)) := by rw [← hW4]; simpa using heap_alloc_new (((w.alloc (.cells #[.int .i64 n] 3)).alloc (.cells #[.slice none 0 0] 27)).alloc (.cells #[.bool true] 4)) (.cells #[.bool false] 4)
    have hb4 : Below w.heap.size w W4 := by rw [← hW4]; exact ((((Below.refl _ _).alloc (Nat.le_refl _) _).alloc (by simp) _).alloc (by simp; omega) _).alloc (by simp; omega) _
    rw [hW4]
    have H0 := tak_start w W4 n w.heap.size (Nat.le_refl _) k1 k2 k3 k4
    have hcall := HIT.out W4 (.func 66) #[.pointer (some ⟨w.heap.size + 1 + 1 + 1, 0, none⟩), .pointer (some ⟨w.heap.size + 1 + 1, 0, none⟩), .pointer (some ⟨w.heap.size + 1, 0, none⟩), .pointer (some ⟨w.heap.size, 0, none⟩)]
      (fun p T W => TakAt w.heap.size (w.heap.size + 1 + 1 + 1) (w.heap.size + 1 + 1) (w.heap.size + 1) w.heap.size n false p T W ∧ (n < 0 ∨ (p.length : Int) < n))
      (fun p T W => TakAt w.heap.size (w.heap.size + 1 + 1 + 1) (w.heap.size + 1 + 1) (w.heap.size + 1) w.heap.size n true p T W ∧ (p.length : Int) = n) _
      (foot_and (tak_foot _ _ _ _ _ _ _) (fun p => n < 0 ∨ (p.length : Int) < n)) (foot_and (tak_foot _ _ _ _ _ _ _) (fun p => (p.length : Int) = n)) (fun k hk => Nat.le_trans hn₀ (H0.ge k hk)) ⟨H0, by simp; omega⟩ (hI0.later hi0 hb4)
      (fun p x T1 W1 hj him hg hu hp => by
        obtain ⟨hj, hlim⟩ := hj
        have hpl : p.length < 2932031007319 := by have := hp.length_le; simp at this; omega
        refine .inr ⟨_, rfl, enters_of Try.func66 (by kernel_rfl) rfl, (taken11a_c _ _ _ _ _ n p x T1 W1 hj hpl).mono ?_⟩
        rintro e W2 ⟨rfl, T2, hg2, hu2, ht2⟩
        refine ⟨T2, hg2, hu2, ?_⟩
        by_cases hend : (p.length : Int) + 1 = n
        · rw [decide_eq_true hend] at ht2 ⊢
          exact .inr ⟨rfl, ht2, by simpa using hend⟩
        · rw [decide_eq_false hend] at ht2 ⊢
          exact .inl ⟨rfl, ht2, by simp; omega⟩)
    refine hcall.mono ?_
    clear hcall H0 k1 k2 k3 k4
    rintro e W5 ⟨⟨v5, rfl⟩, T5, hg5, hu5, hres⟩
    obtain ⟨p, ended, ht5, hp⟩ : ∃ p ended, TakAt w.heap.size (w.heap.size + 1 + 1 + 1) (w.heap.size + 1 + 1) (w.heap.size + 1) w.heap.size n ended p T5 W5 ∧ takeN n l = p := by
      rcases hres with ⟨⟨h1, h2⟩, _⟩ | ⟨p, hp, ⟨h1, h2⟩, _⟩
      · exact ⟨l, false, h1, takeN_all h2⟩
      · exact ⟨p, true, h1, takeN_stop h2 hp⟩
    have hi5 : I1 W5 := by
      rcases hres with ⟨_, h⟩ | ⟨_, _, _, h⟩
      · exact h
      · exact h
    subst hp
    obtain ⟨v, ho, hown, hv, hf⟩ := ht5.o
    have hu6 : Upd U w W5 := (Upd.of_below hb4).step hu5 (fun k hk => by
      rcases hk with (h | h | h | h | h) | h
      · exact .inr (by omega)
      · exact .inr (by omega)
      · exact .inr (by omega)
      · exact .inr (by omega)
      · cases h
      · exact .inl h)
    have q1 : W5.cell? ⟨w.heap.size + 1, 0, none⟩ = some v := (blk_cell ho 0).trans rfl
    have q2 : W5.cell? ⟨w.heap.size + 1 + 1, 0, none⟩ = some (.bool true) := (blk_cell ht5.w 0).trans rfl
    obtain ⟨A, c, rfl⟩ := own_slice hown
    have HB := Lib.hid hu6
    have HI5 := Lib.hid hi5
    have HO := Lib.hid hown
    clear ht5 ho hown hv hf hres hu6 hi5 hu5 hg5 hb4 HIT
    obtain ⟨m, hm⟩ : ∃ m, (takeN n l).length = m := ⟨_, rfl⟩
    rw [hm] at q1 HO
    go_wp2_with fail
    go_region
    go_wp2
    go_ret2
    exact ⟨_, rfl, HO.out, HB.out.trans (Upd.drew _), by simpa [hn] using hI1 _ _ HI5.out (Upd.drew _)⟩
set_option maxHeartbeats 1600000 in
set_option maxRecDepth 100000 in
theorem sameEntries11_c (A : Option Addr) (c : Nat) (l : List Ent) (B : Option Addr) (d : Nat) (m : List Ent) (w : World) (ha : Sl encE 4 w A l) (hb : Sl encE 4 w B m) :
    Calls Try.prog 21 #[.slice A l.length c, .slice B m.length d] w fun e w' => e = .returned (.bool (decide (l = m))) ∧ Below w.heap.size w w' := by
  have la := ha.1
  have lb := hb.1
  have HA := Lib.hid ha
  have HB := Lib.hid hb
  clear ha hb
  obtain ⟨n, hn⟩ : ∃ n, l.length = n := ⟨_, rfl⟩
  obtain ⟨n', hn'⟩ : ∃ n, m.length = n := ⟨_, rfl⟩
  rw [hn] at la ⊢
  rw [hn'] at lb ⊢
  have HN := Lib.hid hn
  have HM := Lib.hid hn'
  clear hn hn'
  go_enter Try.func21, Try.ntmps21
  by_cases hlen : n = n'
  · subst hlen
    go_wp2_with fail
    go_loopw [5] (fun s5 wr => ∃ k : Nat, s5 = .int .i64 k ∧ k ≤ n ∧ l.take k = m.take k ∧ Below w.heap.size w wr) (fun s5 wr => n - (intOf s5).toNat)
    case atStart => exact ⟨0, rfl, by omega, by simp, Below.refl _ _⟩
    case round =>
      obtain ⟨k, rfl, hk, htk, hbw⟩ := hrel
      have HT := Lib.hid htk
      have HBW := Lib.hid hbw
      clear htk hbw
      by_cases hlt : k < n
      · obtain ⟨x, hx⟩ := getElem?_of_lt (l := l) (by rw [HN.out]; exact hlt : k < l.length)
        obtain ⟨y, hy⟩ := getElem?_of_lt (l := m) (by rw [HM.out]; exact hlt : k < m.length)
        obtain ⟨b1, o1, hA1, hb1, hc1⟩ := HA.out.at hx
        obtain ⟨b2, o2, hA2, hb2, hc2⟩ := HB.out.at hy
        subst hA1
        subst hA2
        have x0 := (HBW.out.cell (p := ⟨b1, o1 + k * 4 + 0, none⟩) hb1).trans (hc1 0 _ rfl)
        have x1 := (HBW.out.cell (p := ⟨b1, o1 + k * 4 + 1, none⟩) hb1).trans (hc1 1 _ rfl)
        have x2 := (HBW.out.cell (p := ⟨b1, o1 + k * 4 + 2, none⟩) hb1).trans (hc1 2 _ rfl)
        have x3 := (HBW.out.cell (p := ⟨b1, o1 + k * 4 + 3, none⟩) hb1).trans (hc1 3 _ rfl)
        have y0 := (HBW.out.cell (p := ⟨b2, o2 + k * 4 + 0, none⟩) hb2).trans (hc2 0 _ rfl)
        have y1 := (HBW.out.cell (p := ⟨b2, o2 + k * 4 + 1, none⟩) hb2).trans (hc2 1 _ rfl)
        have y2 := (HBW.out.cell (p := ⟨b2, o2 + k * 4 + 2, none⟩) hb2).trans (hc2 2 _ rfl)
        have y3 := (HBW.out.cell (p := ⟨b2, o2 + k * 4 + 3, none⟩) hb2).trans (hc2 3 _ rfl)
        have HX := Lib.hid hx
        have HY := Lib.hid hy
        clear hc1 hc2 hx hy hb1 hb2
        have hne := neE_run x y
        simp only [Nat.add_zero] at x0 y0
        have i1 : (0 : Int) ≤ k := by omega
        have i2 : (k : Int) < n := by omega
        go_wp2_with fail
        go_region
        by_cases hxy : x = y
        · have hd : decide (x = y) = true := decide_eq_true hxy
          simp only [hd, Bool.not_true]
          go_wp2
          go_roundw
          case rel => exact ⟨k + 1, by first | rfl | simp, by omega, take_same HT.out HX.out (by rw [hxy]; exact HY.out), HBW.out.drew⟩
          case measure => simp [intOf]; omega
        · have hd : decide (x = y) = false := decide_eq_false hxy
          simp only [hd, Bool.not_false]
          go_wp2
          go_ret
          have hlm : ¬ l = m := fun e => hxy (by
            have h1 := HX.out
            have h2 := HY.out
            rw [e, h2] at h1
            injection h1 with h1
            exact h1.symm)
          rw [decide_eq_false hlm]
          exact ⟨rfl, HBW.out.drew⟩
      · have hkn : k = n := by omega
        subst hkn
        have hlm : l = m := by
          have := HT.out
          rwa [List.take_of_length_le (by rw [HN.out]; exact Nat.le_refl _), List.take_of_length_le (by rw [HM.out]; exact Nat.le_refl _)] at this
        have HD := Lib.hid (decide_eq_true hlm)
        clear hlm
        go_wp2
        go_ret
        rw [HD.out]
        exact ⟨rfl, HBW.out⟩
  · have hne : ¬ l = m := fun h => hlen (by rw [← HN.out, ← HM.out, h])
    have HNE := Lib.hid (decide_eq_false hne)
    have h1 : ¬ (n : Int) = (n' : Int) := by omega
    go_wp2
    go_ret
    rw [HNE.out]
    exact ⟨rfl, Below.refl _ _⟩
end Go.Proofs.Ytdpijhpjicbecaa.H
