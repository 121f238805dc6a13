/- skip.List.From; what taken's function does. Conditions: sizes. -/
import Derived.Test.YtjbbobhjomhnmaaSk7
namespace Go.Proofs.Ytjbbobhjomhnmaa.H
open Go Go.RowKit Go.Deep Go.Shelf Go.Proofs Go.Proofs.YtjbbobhjomhnmaaW.PrintWords
set_option linter.unusedVariables false
set_option linter.unusedSimpArgs false
theorem infoE : (Try.prog.info? 53).map (fun i => (i.zero, i.size, i.bytes)) = some (some (.agg #[.string ⟨#[]⟩, .int .u64 0, .bool false, .string ⟨#[]⟩]), 4, 48) := by kernel_rfl
theorem uSlE : Try.prog.underlying 64 = some (.slice 53) := Try.underlying64
theorem okE : EncOk encE 4 := fun x => ⟨rfl, by simp [encE, Value.oneCell']⟩
set_option maxHeartbeats 1000000 in
theorem from_c (g : Value) (k : ByteArray) (q : Int) (w : World) (p : Option Addr) : Calls Try.prog 17 #[.pointer p, .string k, .int .u64 q] w fun e w' =>
    e = .returned (.func (.func 79) #[] #[.pointer (some ⟨w.heap.size, 0, none⟩), .pointer (some ⟨w.heap.size + 1, 0, none⟩), .pointer (some ⟨w.heap.size + 1 + 1, 0, none⟩)]) ∧
      w' = ((w.alloc (.cells #[.pointer p] 43)).alloc (.cells #[.string k] 9)).alloc (.cells #[.int .u64 q] 51) := by
  go_enter Try.func17, Try.ntmps17
  go_wp2
  go_ret
  exact ⟨rfl, rfl⟩
/-- The variables of taken's function: what came, whether it has ended; T: their blocks. -/
structure TakAt (n₀ bE bW bO bN : Nat) (n : Int) (ended : Bool) (pre : List Ent) (T : Nat → Prop) (W : World) : Prop where
  e : W.heap[bE]? = some (.cells #[.bool ended] 4 (0, 0))
  w : W.heap[bW]? = some (.cells #[.bool true] 4 (0, 0))
  o : ∃ v, W.heap[bO]? = some (.cells #[v] 64 (0, 0)) ∧ Own encE 53 4 W n₀ v pre ∧ (∀ k, v.ownBlock = some k → k ≠ bE ∧ k ≠ bW ∧ k ≠ bO ∧ k ≠ bN) ∧ ∀ k, T k ↔ k = bE ∨ k = bW ∨ k = bO ∨ k = bN ∨ v.ownBlock = some k
  n : W.heap[bN]? = some (.cells #[.int .i64 n] 3 (0, 0))
  far : bE ≠ bW ∧ bE ≠ bO ∧ bE ≠ bN ∧ bW ≠ bO ∧ bW ≠ bN ∧ bO ≠ bN
  up : n₀ ≤ bE ∧ n₀ ≤ bW ∧ n₀ ≤ bO ∧ n₀ ≤ bN
theorem tak_foot (n₀ bE bW bO bN : Nat) (n : Int) (ended : Bool) : Foot (TakAt n₀ bE bW bO bN n ended) := by
  refine ⟨fun {s T W k} h hk => ?_, fun {s T W W'} h hs => ?_⟩
  · obtain ⟨v, ho, hown, hv, hf⟩ := h.o
    rcases (hf k).1 hk with rfl | rfl | rfl | rfl | hk
    · exact blk_lt h.e
    · exact blk_lt h.w
    · exact blk_lt ho
    · exact blk_lt h.n
    · exact (hown.block_lt hk).2
  · obtain ⟨v, ho, hown, hv, hf⟩ := h.o
    exact ⟨(hs.block _ ((hf _).2 (.inl rfl))).trans h.e, (hs.block _ ((hf _).2 (.inr (.inl rfl)))).trans h.w, ⟨v, (hs.block _ ((hf _).2 (.inr (.inr (.inl rfl))))).trans ho, hown.move (fun k hk _ => hs.block k ((hf k).2 (.inr (.inr (.inr (.inr hk)))))), hv, hf⟩,
      (hs.block _ ((hf _).2 (.inr (.inr (.inr (.inl rfl)))))).trans h.n, h.far, h.up⟩
theorem TakAt.ge {n₀ bE bW bO bN : Nat} {n : Int} {ended : Bool} {pre : List Ent} {T : Nat → Prop} {W : World} (h : TakAt n₀ bE bW bO bN n ended pre T W) : ∀ k, T k → n₀ ≤ k := fun k hk => by
  obtain ⟨v, ho, hown, hv, hf⟩ := h.o
  obtain ⟨u1, u2, u3, u4⟩ := h.up
  rcases (hf k).1 hk with rfl | rfl | rfl | rfl | hk
  · exact u1
  · exact u2
  · exact u3
  · exact u4
  · exact (hown.block_lt hk).1
set_option maxHeartbeats 1600000 in
set_option maxRecDepth 100000 in
theorem taken1_c (n₀ bE bW bO bN : Nat) (n : Int) (pre : List Ent) (e : Ent) (T : Nat → Prop) (w : World) (h : TakAt n₀ bE bW bO bN n false pre T w) (hl : pre.length < 2932031007319) :
    Calls Try.prog 83 #[.agg (encE e).toArray, .pointer (some ⟨bE, 0, none⟩), .pointer (some ⟨bW, 0, none⟩), .pointer (some ⟨bO, 0, none⟩), .pointer (some ⟨bN, 0, none⟩)] w fun en w' =>
      en = .returned (.bool (!decide ((pre.length : Int) + 1 = n))) ∧ ∃ T', Grow T T' w ∧ Upd T w w' ∧ TakAt n₀ bE bW bO bN n (decide ((pre.length : Int) + 1 = n)) (pre ++ [e]) T' w' := by
  obtain ⟨v, ho, hown, hv, hft⟩ := h.o
  have hn : n₀ ≤ w.heap.size := Nat.le_trans h.up.1 (Nat.le_of_lt (blk_lt h.e))
  obtain ⟨A, c, rfl⟩ := own_slice hown
  have hb0 : Below n₀ w (w.alloc (.cells #[.string e.1, .int .u64 e.2.1, .bool e.2.2.1, .string e.2.2.2] 53)) := (Below.refl _ _).alloc hn _
  have e1 := blk_alloc h.e (.cells #[.string e.1, .int .u64 e.2.1, .bool e.2.2.1, .string e.2.2.2] 53)
  have e3 := blk_alloc ho (.cells #[.string e.1, .int .u64 e.2.1, .bool e.2.2.1, .string e.2.2.2] 53)
  have c1 := (blk_cell e1 0).trans (show _ = some (Value.bool false) from rfl)
  have c2 := (blk_cell e3 0).trans (show _ = some (Value.slice A pre.length c) from rfl)
  have hb1 := boxEnt (e := e) (heap_alloc_new w (.cells #[.string e.1, .int .u64 e.2.1, .bool e.2.2.1, .string e.2.2.2] 53))
  have x0 := hb1 0 _ rfl
  have x1 := hb1 1 _ rfl
  have x2 := hb1 2 _ rfl
  have x3 := hb1 3 _ rfl
  have HT := Lib.hid h
  have HO := Lib.hid ho
  have HV := Lib.hid hv
  have HFT := Lib.hid hft
  have HOWN := Lib.hid hown
  have HB0 := Lib.hid hb0
  clear h ho hown hv hft e1 e3 hb1 hb0
  unfold encE
  go_enter Try.func83, Try.ntmps83
  go_wp2_with (at_builtin; refine wpList_app rfl (.tmp 8) (.tmp 10) rfl uSlE infoE rfl (by decide) (by decide) okE (.slice A pre.length c) pre rfl (base := n₀) ?c1 (some ⟨w.heap.size + 1, 0, none⟩) 1 [e] rfl ?c2 ?c3 ?c4 ?_)
  case c1 => exact (HOWN.out.below ((Below.refl _ _).alloc (Nat.le_refl _) _)).below ((Below.refl _ _).alloc (Nat.le_refl _) _)
  case c2 => have := Sl.one okE (w.alloc (.cells #[.string e.1, .int .u64 e.2.1, .bool e.2.2.1, .string e.2.2.2] 53)) e 53 (cs := #[.string e.1, .int .u64 e.2.1, .bool e.2.2.1, .string e.2.2.2]) rfl; simpa using this
  case c3 => simp; omega
  case c4 => simp; omega
  intro v1 w1 ho1 hg1 hat1
  obtain ⟨A1, k1, rfl⟩ := own_slice ho1
  simp only [List.length_append, List.length_cons, List.length_nil, Nat.zero_add] at ho1 hat1 ⊢
  have hv := HV.out
  have hT := HT.out
  have r1 := blk_grown (blk_alloc (blk_alloc hT.e _) _) hg1 (by intro e1; exact (hv _ e1.symm).1 rfl)
  have r2 := blk_grown (blk_alloc (blk_alloc hT.w _) _) hg1 (by intro e1; exact (hv _ e1.symm).2.1 rfl)
  have r3 := blk_grown (blk_alloc (blk_alloc HO.out _) _) hg1 (by intro e1; exact (hv _ e1.symm).2.2.1 rfl)
  have r4 := blk_grown (blk_alloc (blk_alloc hT.n _) _) hg1 (by intro e1; exact (hv _ e1.symm).2.2.2 rfl)
  have hlt1 := blk_lt hT.e
  have hlt2 := blk_lt hT.w
  have hlt3 := blk_lt HO.out
  have hlt4 := blk_lt hT.n
  have hv1 : ∀ k, (Value.slice A1 (pre.length + 1) k1).ownBlock = some k → k ≠ bE ∧ k ≠ bW ∧ k ≠ bO ∧ k ≠ bN := by
    intro k hk
    rcases hat1 with h | h
    · exact hv k (by rw [← h]; exact hk)
    · rw [h] at hk
      injection hk with hk
      try simp at hk
      exact ⟨by omega, by omega, by omega, by omega⟩
  obtain ⟨fEW, fEO, fEN, fWO, fWN, fON⟩ := hT.far
  obtain ⟨uE, uW, uO, uN⟩ := hT.up
  have hb1 : Below n₀ w w1 := (HB0.out.alloc (Nat.le_trans hn HB0.out.size) _).grown hg1 (by simp; omega) (fun k hk => (HOWN.out.block_lt hk).1)
  have f3 : w1.frozen? ⟨bO, 0, none⟩ = false := blk_frozen r3 0
  have d3 : w1.cell? ⟨bO, 0, none⟩ = some (.slice A pre.length c) := (blk_cell r3 0).trans rfl
  have s1 := blk_far (p := ⟨bO, 0, none⟩) r1 fEO (.slice A1 (pre.length + 1) k1)
  have s2 := blk_far (p := ⟨bO, 0, none⟩) r2 fWO (.slice A1 (pre.length + 1) k1)
  have s3 := blk_set r3 0 (.slice A1 (pre.length + 1) k1)
  have s4 := blk_far (p := ⟨bO, 0, none⟩) r4 fON.symm (.slice A1 (pre.length + 1) k1)
  have hb2 : Below n₀ w (w1.setCell ⟨bO, 0, none⟩ (.slice A1 (pre.length + 1) k1)) := hb1.setCell (p := ⟨bO, 0, none⟩) uO _
  have ho2 : Own encE 53 4 (w1.setCell ⟨bO, 0, none⟩ (.slice A1 (pre.length + 1) k1)) n₀ (.slice A1 (pre.length + 1) k1) (pre ++ [e]) := ho1.upd (Upd.setCell (S := fun k => k = bO) w1 0 _ rfl) (fun k hk => (hv1 k hk).2.2.1)
  have g1 : (w1.setCell ⟨bO, 0, none⟩ (.slice A1 (pre.length + 1) k1)).cell? ⟨bE, 0, none⟩ = some (.bool false) := (blk_cell s1 0).trans rfl
  have g2 : (w1.setCell ⟨bO, 0, none⟩ (.slice A1 (pre.length + 1) k1)).frozen? ⟨bE, 0, none⟩ = false := blk_frozen s1 0
  have g3 : (w1.setCell ⟨bO, 0, none⟩ (.slice A1 (pre.length + 1) k1)).cell? ⟨bO, 0, none⟩ = some (.slice A1 (pre.length + 1) k1) := (blk_cell s3 0).trans rfl
  have g4 : (w1.setCell ⟨bO, 0, none⟩ (.slice A1 (pre.length + 1) k1)).cell? ⟨bN, 0, none⟩ = some (.int .i64 n) := (blk_cell s4 0).trans rfl
  have hft := HFT.out
  have hku : Upd T w w1 := ((Upd.alloc w _).trans (Upd.alloc _ _)).trans (Upd.of_grown hg1 (fun k hk => (hft k).2 (.inr (.inr (.inr (.inr hk))))))
  have hTO : T bO := (hft _).2 (.inr (.inr (.inl rfl)))
  have hTE : T bE := (hft _).2 (.inl rfl)
  have hgr : Grow T (fun k => k = bE ∨ k = bW ∨ k = bO ∨ k = bN ∨ (Value.slice A1 (pre.length + 1) k1).ownBlock = some k) w := fun k hk => by
    rcases hk with h | h | h | h | h
    · exact .inl ((hft _).2 (.inl h))
    · exact .inl ((hft _).2 (.inr (.inl h)))
    · exact .inl ((hft _).2 (.inr (.inr (.inl h))))
    · exact .inl ((hft _).2 (.inr (.inr (.inr (.inl h)))))
    · rcases hat1 with h2 | h2
      · exact .inl ((hft _).2 (.inr (.inr (.inr (.inr (by rw [← h2]; exact h))))))
      · rw [h2] at h
        injection h with h
        try simp at h
        exact .inr (by omega)
  have HFIN := Lib.hid (show ∀ b, ∃ T', Grow T T' w ∧ Upd T w ((w1.setCell ⟨bO, 0, none⟩ (.slice A1 (pre.length + 1) k1)).setCell ⟨bE, 0, none⟩ (.bool b)) ∧ TakAt n₀ bE bW bO bN n b (pre ++ [e]) T' ((w1.setCell ⟨bO, 0, none⟩ (.slice A1 (pre.length + 1) k1)).setCell ⟨bE, 0, none⟩ (.bool b)) from fun b =>
    ⟨_, hgr, (hku.trans (Upd.setCell _ _ _ hTO)).trans (Upd.setCell _ _ _ hTE), ⟨blk_set s1 0 _, blk_far s2 fEW.symm _, ⟨_, blk_far s3 fEO.symm _, ho2.upd (Upd.setCell (S := fun k => k = bE) _ 0 _ rfl) (fun k hk => (hv1 k hk).1), hv1, fun _ => Iff.rfl⟩, blk_far s4 fEN.symm _, hT.far, hT.up⟩⟩)
  clear hft hku hTO hTE hgr HFT
  clear s1 s2 s3 s4 r1 r2 r3 r4 hv hT hlt1 hlt2 hlt3 hlt4 hv1 fEW fEO fEN fWO fWN fON uE uW uO uN hb1 hb2 ho2 ho1 hg1 hat1 c1 c2 x0 x1 x2 x3 HT HO HV HOWN HB0
  have n1 : pre.length + 1 < 2932031007320 := by omega
  obtain ⟨m, hm⟩ : ∃ m, pre.length + 1 = m := ⟨_, rfl⟩
  have hcast : ((pre.length : Int) + 1) = (m : Int) := by omega
  have HCAST := Lib.hid hcast
  have HM := Lib.hid hm
  simp only [hm] at *
  clear hl hcast
  go_wp2
  go_ret
  have hbe : ((m : Int) == n) = decide ((m : Int) = n) := Bool.eq_iff_iff.2 (by simp)
  rw [HCAST.out, hbe]
  exact ⟨rfl, HFIN.out _⟩
end Go.Proofs.Ytjbbobhjomhnmaa.H
