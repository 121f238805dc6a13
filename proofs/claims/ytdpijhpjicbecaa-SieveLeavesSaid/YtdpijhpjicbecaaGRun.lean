/- screelaw11.runs. Conditions: sizes. -/
import Derived.Test.YtdpijhpjicbecaaGLs
import Derived.Test.YtdpijhpjicbecaaGSt
namespace Go.Proofs.Ytdpijhpjicbecaa.H
open Go Go.RowKit Go.Deep Go.Shelf Go.Proofs Go.Proofs.YtdpijhpjicbecaaW.PrintWords
set_option linter.unusedVariables false
set_option linter.unusedSimpArgs false
attribute [local go_sem] Oper.semAt_some
/-- The variables of runs' function: the lists that came, whether it has ended; T: their blocks. -/
structure TakR (n₀ bE bW bO bN : Nat) (n : Int) (ended : Bool) (pre : List (List Ent)) (T : Nat → Prop) (W : World) : Prop where
  e : W.heap[bE]? = some (.cells #[.bool ended] 4 (0, 0))
  w : W.heap[bW]? = some (.cells #[.bool true] 4 (0, 0))
  o : ∃ v L, W.heap[bO]? = some (.cells #[v] 22 (0, 0)) ∧ L.map (·.2.2) = pre ∧ MadeE W n₀ v L ∧ (∀ k, (v.ownBlock = some k ∨ ∃ h ∈ L, ∃ o, h.1 = some ⟨k, o, none⟩) → k ≠ bE ∧ k ≠ bW ∧ k ≠ bO ∧ k ≠ bN) ∧ ∀ k, T k ↔ k = bE ∨ k = bW ∨ k = bO ∨ k = bN ∨ v.ownBlock = some k ∨ ∃ h ∈ L, ∃ o, h.1 = some ⟨k, o, none⟩
  n : W.heap[bN]? = some (.cells #[.int .i64 n] 3 (0, 0))
  far : bE ≠ bW ∧ bE ≠ bO ∧ bE ≠ bN ∧ bW ≠ bO ∧ bW ≠ bN ∧ bO ≠ bN
  up : n₀ ≤ bE ∧ n₀ ≤ bW ∧ n₀ ≤ bO ∧ n₀ ≤ bN
theorem MadeE.same {w w' : World} {base : Nat} {v : Value} {L : List HE} {T : Nat → Prop} (h : MadeE w base v L) (hs : Same T w w') (hT : ∀ k, (v.ownBlock = some k ∨ ∃ h ∈ L, ∃ o, h.1 = some ⟨k, o, none⟩) → T k) : MadeE w' base v L :=
  ⟨h.own.move (fun k hk _ => hs.block k (hT k (.inl hk))), fun x hx => (h.rows x hx).upd hs.upd (fun b o e h => h (hT b (.inr ⟨x, hx, o, e⟩))), fun x hx b o e => ⟨(h.far x hx b o e).1, Nat.lt_of_lt_of_le (h.far x hx b o e).2.1 hs.size, (h.far x hx b o e).2.2⟩⟩
theorem takR_foot (n₀ bE bW bO bN : Nat) (n : Int) (ended : Bool) : Foot (TakR n₀ bE bW bO bN n ended) := by
  refine ⟨fun {s T W k} h hk => ?_, fun {s T W W'} h hs => ?_⟩
  · obtain ⟨v, L, ho, hL, hmade, hv, hf⟩ := h.o
    rcases (hf k).1 hk with rfl | rfl | rfl | rfl | hk | ⟨x, hx, o, e⟩
    · exact blk_lt h.e
    · exact blk_lt h.w
    · exact blk_lt ho
    · exact blk_lt h.n
    · exact (hmade.own.block_lt hk).2
    · exact (hmade.far x hx k o e).2.1
  · obtain ⟨v, L, ho, hL, hmade, hv, hf⟩ := h.o
    exact ⟨(hs.block _ ((hf _).2 (.inl rfl))).trans h.e, (hs.block _ ((hf _).2 (.inr (.inl rfl)))).trans h.w, ⟨v, L, (hs.block _ ((hf _).2 (.inr (.inr (.inl rfl))))).trans ho, hL, hmade.same hs (fun k hk => (hf k).2 (.inr (.inr (.inr (.inr hk))))), hv, hf⟩,
      (hs.block _ ((hf _).2 (.inr (.inr (.inr (.inl rfl)))))).trans h.n, h.far, h.up⟩
theorem TakR.ge {n₀ bE bW bO bN : Nat} {n : Int} {ended : Bool} {pre : List (List Ent)} {T : Nat → Prop} {W : World} (h : TakR n₀ bE bW bO bN n ended pre T W) : ∀ k, T k → n₀ ≤ k := fun k hk => by
  obtain ⟨v, L, ho, hL, hmade, hv, hf⟩ := h.o
  obtain ⟨u1, u2, u3, u4⟩ := h.up
  rcases (hf k).1 hk with rfl | rfl | rfl | rfl | hk | ⟨x, hx, o, e⟩
  · exact u1
  · exact u2
  · exact u3
  · exact u4
  · exact (hmade.own.block_lt hk).1
  · exact (hmade.far x hx k o e).1
theorem ldSL (b j n c : Nat) (A : Option Addr) (W : World) (h : W.cell? ⟨b, j, none⟩ = some (.slice A n c)) : (Instr.loadAt 22 (.pointer (some ⟨b, j, none⟩))).run Try.prog W = .ok (.slice A n c) W := by
  go_simp
theorem MadeE.sl {w : World} {base : Nat} {A : Option Addr} {c : Nat} {L : List HE} (h : MadeE w base (.slice A L.length c) L) : Sl encHE 1 w A L := h.sl2.2.1
set_option maxHeartbeats 1600000 in
set_option maxRecDepth 100000 in
theorem runs11a_c (n₀ bE bW bO bN : Nat) (n : Int) (pre : List (List Ent)) (x : List Ent) (Al : Option Addr) (cl : Nat) (T : Nat → Prop) (w : World) (h : TakR n₀ bE bW bO bN n false pre T w) (hx : Sl encE 4 w Al x) (hl : pre.length < 1000000000) (hxl : x.length < 1000000000) :
    Calls Try.prog 67 #[.slice Al x.length cl, .pointer (some ⟨bE, 0, none⟩), .pointer (some ⟨bW, 0, none⟩), .pointer (some ⟨bO, 0, none⟩), .pointer (some ⟨bN, 0, none⟩)] w fun en w' =>
      en = .returned (.bool (!decide ((pre.length : Int) + 1 = n))) ∧ ∃ T', Grow T T' w ∧ Upd T w w' ∧ TakR n₀ bE bW bO bN n (decide ((pre.length : Int) + 1 = n)) (pre ++ [x]) T' w' := by
  obtain ⟨v, L, ho, hL, hmade, hv, hft⟩ := h.o
  have hn : n₀ ≤ w.heap.size := Nat.le_trans h.up.1 (Nat.le_of_lt (blk_lt h.e))
  obtain ⟨A, c, rfl⟩ := own_slice hmade.own
  have hlen : L.length = pre.length := by rw [← hL, List.length_map]
  have r1 : w.cell? ⟨bE, 0, none⟩ = some (.bool false) := (blk_cell h.e 0).trans rfl
  have c3 : w.cell? ⟨bO, 0, none⟩ = some (.slice A L.length c) := (blk_cell ho 0).trans rfl
  -- the copy
  obtain ⟨v10, W1, hrun1, hown1, hg1, hat1⟩ := run_app (P := Try.prog) (ty := 27) (base := w.heap.size) uSlE infoE rfl (by decide) (by decide) okE (Own.nil encE 53 4 w.drew w.heap.size) (A := Al) (c := cl) (l' := x) hx.drew (by simp; omega) (Nat.le_refl _)
  obtain ⟨A10, c10, rfl⟩ := own_slice hown1
  simp only [List.nil_append] at hown1 hrun1
  obtain ⟨m, hm⟩ : ∃ m, x.length = m := ⟨_, rfl⟩
  have u1 : Upd (fun _ => False) w.drew W1 := Upd.of_grown hg1 (fun k hk => by cases hk)
  obtain ⟨W2, hW2⟩ : ∃ Z, W1.alloc (.cells #[.slice A10 x.length c10] 27) = Z := ⟨_, rfl⟩
  have hb02 : Below w.heap.size w W2 := by
    rw [← hW2]
    exact (((Upd.drew (S := fun _ => False) w).trans u1).bel (fun _ h => h.elim) (Nat.le_refl _)).alloc (by have := u1.size; simpa using this) _
  have e3 : ∀ (s' : Nat) (Wx : World), AtW [w.drew, W1, W2] s' Wx → Wx.cell? ⟨bO, 0, none⟩ = some (.slice A L.length c) := by
    rintro s' Wx hW
    match s', hW with
    | 0, hW => cases hW; exact c3
    | 1, hW => cases hW; exact u1.cell (w := w.drew) c3 (fun h => h)
    | 2, hW => cases hW; exact cell_later hb02 c3
  have HT := Lib.hid h
  have HO := Lib.hid ho
  have HV := Lib.hid hv
  have HFT := Lib.hid hft
  have HMD := Lib.hid hmade
  have HL := Lib.hid hL
  have HLEN := Lib.hid hlen
  have HOW1 := Lib.hid hown1
  have HU1 := Lib.hid u1
  have HB02 := Lib.hid hb02
  have HR1 := Lib.hid hrun1
  have HAT1 := Lib.hid hat1
  have E3 := Lib.hid e3
  have HWE := Lib.hid hW2
  have hL9 : L.length < 1000000000 := by omega
  rw [hm] at HWE HR1 ⊢
  clear h ho hv hft hmade hL hlen hown1 u1 hb02 hrun1 hat1 e3 hg1 hW2 hx c3
  go_enter Try.func67, Try.ntmps67
  go_wp2_with fail
  refine wp_region_step (AtW [w.drew, W1, W2]) (· ≤ ·) Nat.le_refl (fun _ _ _ => Nat.le_trans) 0 [0, 0, 2, 2] [.slice A L.length c, .slice Al m cl, undef, undef] 4 (by kernel_rfl) (by kernel_rfl) rfl ?_
  simp only [List.take_succ_cons, List.take_zero, List.drop_succ_cons, List.drop_zero]
  refine schain0 ?_
  refine @schain _ _ _ _ _ _ _ _ _ _ _ _ _ _ 8 (.slice A L.length c) (by rfl) (by rfl) (by kernel_rfl) (by rfl) (by exact fun s' W2 hW => srun_ld (u := .pointer (some ⟨bO, 0, none⟩)) (by rfl) (by exact eval_base (by kernel_rfl) (by rfl)) (ldSL _ _ _ _ _ _ (E3.out _ _ hW)) hW) ?_
  refine @schain _ _ _ _ _ _ _ _ _ _ _ _ _ _ 9 (.slice Al m cl) (by rfl) (by rfl) (by kernel_rfl) (by rfl) (by exact fun s' W2 hW => srun_mv (by rfl) (by exact eval_base (by kernel_rfl) (by rfl)) hW) ?_
  refine @schainW _ _ _ _ _ _ _ _ _ _ _ _ _ _ 10 (.slice A10 m c10) 1 (by rfl) (by kernel_rfl) (by rfl) (by decide) (by exact fun W2 hW => by cases hW; exact srun_apW (by rfl) (by first | rfl | exact eval_base (by kernel_rfl) (by rfl)) (by exact eval_look (by kernel_rfl) (by kernel_rfl)) HR1.out rfl) ?_
  refine @schainW _ _ _ _ _ _ _ _ _ _ _ _ _ _ 11 (.slice (some ⟨W1.heap.size, 0, none⟩) 1 1) 2 (by rfl) (by kernel_rfl) (by rfl) (by decide) (by exact fun Wx hW => by cases hW; exact srun_bsW (W' := W2) (vs := #[(0, .slice A10 m c10)]) (by rfl) (by kernel_rfl) (by rw [← HWE.out]; go_simp) rfl) ?_
  refine snil (fun Wx hWx => ?_)
  cases hWx
  refine Eq.mpr (congrArg (fun a => wpList _ _ _ _ a W2) (show _ = (⟨#[.slice Al m cl, .pointer (some ⟨bE, 0, none⟩), .pointer (some ⟨bW, 0, none⟩), .pointer (some ⟨bO, 0, none⟩), .pointer (some ⟨bN, 0, none⟩), undef, .bool false, .bool false, .slice A L.length c, .slice Al m cl, .slice A10 m c10, .slice (some ⟨W1.heap.size, 0, none⟩) 1 1, undef, undef, undef, undef, undef, undef, undef], []⟩ : Act) by kernel_rfl)) ?_
  have hx2 : ∀ b o, A10 = some ⟨b, o, none⟩ → w.heap.size ≤ b ∧ b < W1.heap.size := own_addr HOW1.out
  have hs12 : W1.heap.size < W2.heap.size := by rw [← HWE.out]; simp
  have hsw1 : w.heap.size ≤ W1.heap.size := HU1.out.size
  have hmade2 : MadeE W2 n₀ (.slice A L.length c) L := HMD.out.later HB02.out
  have hsl2 : Sl encE 4 W2 A10 x := (own_sl HOW1.out (fun x => (okE x).1)).later (by rw [← HWE.out]; exact (Below.refl _ _).alloc (Nat.le_refl _) _)
  go_wp2_with (at_builtin; refine wpList_app rfl (.tmp 8) (.tmp 11) rfl uSlEE infoEE rfl (by decide) (by decide) okHE (.slice A L.length c) L rfl (base := n₀) ?c1 (some ⟨W1.heap.size, 0, none⟩) 1 [((A10, c10, x) : HE)] rfl ?c2 ?c3 ?c4 ?_)
  case c1 => exact hmade2.own
  case c2 => have := Sl.one okHE W1 ((A10, c10, x) : HE) 27 (cs := #[.slice A10 m c10]) (by rw [← hm]; rfl); rw [HWE.out] at this; simpa using this
  case c3 => simp; omega
  case c4 => omega
  intro v1 w1 ho1 hg1 hat1
  obtain ⟨A1, k1, rfl⟩ := own_slice ho1
  have hmade1 := hmade2.snoc (x := ((A10, c10, x) : HE)) hsl2 (fun b o e => by
    obtain ⟨h1, h2⟩ := hx2 b o e
    refine ⟨by omega, by omega, fun e2 => ?_⟩
    have := (HMD.out.own.block_lt e2).2
    omega) ho1 hg1 (by
    rcases hat1 with h | h
    · exact .inl h
    · exact .inr ⟨_, h, Nat.le_refl _⟩)
  have hv := HV.out
  have hft := HFT.out
  have hT := HT.out
  have hvk : ∀ k, (Value.slice A L.length c).ownBlock = some k → k ≠ bE ∧ k ≠ bW ∧ k ≠ bO ∧ k ≠ bN := fun k hk => hv k (.inl hk)
  have r1 := blk_grown (blk_below hT.e HB02.out) hg1 (by intro e1; exact (hvk _ e1.symm).1 rfl)
  have r2 := blk_grown (blk_below hT.w HB02.out) hg1 (by intro e1; exact (hvk _ e1.symm).2.1 rfl)
  have r3 := blk_grown (blk_below HO.out HB02.out) hg1 (by intro e1; exact (hvk _ e1.symm).2.2.1 rfl)
  have r4 := blk_grown (blk_below hT.n HB02.out) hg1 (by intro e1; exact (hvk _ e1.symm).2.2.2 rfl)
  have hlt1 := blk_lt hT.e
  have hlt2 := blk_lt hT.w
  have hlt3 := blk_lt HO.out
  have hlt4 := blk_lt hT.n
  have hsz2 := HB02.out.size
  simp only [List.length_append, List.length_cons, List.length_nil, Nat.zero_add] at ho1 hat1 hmade1 ⊢
  -- the blocks of what is there now
  have hnew : ∀ k, ((Value.slice A1 (L.length + 1) k1).ownBlock = some k ∨ ∃ h ∈ L ++ [((A10, c10, x) : HE)], ∃ o, h.1 = some ⟨k, o, none⟩) → ((Value.slice A L.length c).ownBlock = some k ∨ ∃ h ∈ L, ∃ o, h.1 = some ⟨k, o, none⟩) ∨ w.heap.size ≤ k := fun k hk => by
    rcases hk with hk | ⟨h, hh, o, e⟩
    · rcases hat1 with h | h
      · exact .inl (.inl (by rw [← h]; exact hk))
      · rw [h] at hk
        injection hk with hk
        exact .inr (by omega)
    · rcases List.mem_append.1 hh with hh | hh
      · exact .inl (.inr ⟨h, hh, o, e⟩)
      · rw [List.mem_singleton.1 hh] at e
        exact .inr (hx2 k o e).1
  have hv1 : ∀ k, ((Value.slice A1 (L.length + 1) k1).ownBlock = some k ∨ ∃ h ∈ L ++ [((A10, c10, x) : HE)], ∃ o, h.1 = some ⟨k, o, none⟩) → k ≠ bE ∧ k ≠ bW ∧ k ≠ bO ∧ k ≠ bN := fun k hk => by
    rcases hnew k hk with h | h
    · exact hv k h
    · exact ⟨by omega, by omega, by omega, by omega⟩
  obtain ⟨fEW, fEO, fEN, fWO, fWN, fON⟩ := hT.far
  obtain ⟨uE, uW, uO, uN⟩ := hT.up
  have f3 : w1.frozen? ⟨bO, 0, none⟩ = false := blk_frozen r3 0
  have d3 : w1.cell? ⟨bO, 0, none⟩ = some (.slice A L.length c) := (blk_cell r3 0).trans rfl
  have s1 := blk_far (p := ⟨bO, 0, none⟩) r1 fEO (.slice A1 (L.length + 1) k1)
  have s2 := blk_far (p := ⟨bO, 0, none⟩) r2 fWO (.slice A1 (L.length + 1) k1)
  have s3 := blk_set r3 0 (.slice A1 (L.length + 1) k1)
  have s4 := blk_far (p := ⟨bO, 0, none⟩) r4 fON.symm (.slice A1 (L.length + 1) k1)
  have hmade3 : MadeE (w1.setCell ⟨bO, 0, none⟩ (.slice A1 (L.length + 1) k1)) n₀ (.slice A1 (L.length + 1) k1) (L ++ [((A10, c10, x) : HE)]) := hmade1.same ((Upd.setCell (S := fun k => k = bO) w1 0 _ rfl).same (T := fun k => ((Value.slice A1 (L.length + 1) k1).ownBlock = some k ∨ ∃ h ∈ L ++ [((A10, c10, x) : HE)], ∃ o, h.1 = some ⟨k, o, none⟩)) (fun k hk => ⟨by
    rcases hk with hk | ⟨h, hh, o, e⟩
    · exact (hmade1.own.block_lt hk).2
    · exact (hmade1.far h hh k o e).2.1, (hv1 k hk).2.2.1⟩)) (fun k hk => hk)
  have g1 : (w1.setCell ⟨bO, 0, none⟩ (.slice A1 (L.length + 1) k1)).cell? ⟨bE, 0, none⟩ = some (.bool false) := (blk_cell s1 0).trans rfl
  have g2 : (w1.setCell ⟨bO, 0, none⟩ (.slice A1 (L.length + 1) k1)).frozen? ⟨bE, 0, none⟩ = false := blk_frozen s1 0
  have g3 : (w1.setCell ⟨bO, 0, none⟩ (.slice A1 (L.length + 1) k1)).cell? ⟨bO, 0, none⟩ = some (.slice A1 (L.length + 1) k1) := (blk_cell s3 0).trans rfl
  have g4 : (w1.setCell ⟨bO, 0, none⟩ (.slice A1 (L.length + 1) k1)).cell? ⟨bN, 0, none⟩ = some (.int .i64 n) := (blk_cell s4 0).trans rfl
  have hku : Upd T w w1 := (Upd.of_below HB02.out).trans (Upd.of_grown hg1 (fun k hk => (hft k).2 (.inr (.inr (.inr (.inr (.inl hk)))))))
  have hTO : T bO := (hft _).2 (.inr (.inr (.inl rfl)))
  have hTE : T bE := (hft _).2 (.inl rfl)
  have hgr : Grow T (fun k => k = bE ∨ k = bW ∨ k = bO ∨ k = bN ∨ (Value.slice A1 (L.length + 1) k1).ownBlock = some k ∨ ∃ h ∈ L ++ [((A10, c10, x) : HE)], ∃ o, h.1 = some ⟨k, o, none⟩) w := fun k hk => by
    rcases hk with h | h | h | h | h
    · exact .inl ((hft _).2 (.inl h))
    · exact .inl ((hft _).2 (.inr (.inl h)))
    · exact .inl ((hft _).2 (.inr (.inr (.inl h))))
    · exact .inl ((hft _).2 (.inr (.inr (.inr (.inl h)))))
    · rcases hnew k h with h | h
      · exact .inl ((hft _).2 (.inr (.inr (.inr (.inr h)))))
      · exact .inr h
  have HFIN := Lib.hid (show ∀ b, ∃ T', Grow T T' w ∧ Upd T w ((w1.setCell ⟨bO, 0, none⟩ (.slice A1 (L.length + 1) k1)).setCell ⟨bE, 0, none⟩ (.bool b)) ∧ TakR n₀ bE bW bO bN n b (pre ++ [x]) T' ((w1.setCell ⟨bO, 0, none⟩ (.slice A1 (L.length + 1) k1)).setCell ⟨bE, 0, none⟩ (.bool b)) from fun b =>
    ⟨_, hgr, (hku.trans (Upd.setCell _ _ _ hTO)).trans (Upd.setCell _ _ _ hTE), ⟨blk_set s1 0 _, blk_far s2 fEW.symm _, ⟨_, L ++ [((A10, c10, x) : HE)], blk_far s3 fEO.symm _, by rw [List.map_append, HL.out]; rfl, hmade3.same ((Upd.setCell (S := fun k => k = bE) _ 0 _ rfl).same (T := fun k => ((Value.slice A1 (L.length + 1) k1).ownBlock = some k ∨ ∃ h ∈ L ++ [((A10, c10, x) : HE)], ∃ o, h.1 = some ⟨k, o, none⟩)) (fun k hk => ⟨by
      rcases hk with hk | ⟨h, hh, o, e⟩
      · exact (hmade3.own.block_lt hk).2
      · exact (hmade3.far h hh k o e).2.1, (hv1 k hk).1⟩)) (fun k hk => hk), hv1, fun _ => Iff.rfl⟩, blk_far s4 fEN.symm _, hT.far, hT.up⟩⟩)
  have HLE := Lib.hid HLEN.out
  clear hft hku hTO hTE hgr HFT hnew
  clear s1 s2 s3 s4 r1 r2 r3 r4 hv hT hlt1 hlt2 hlt3 hlt4 hv1 fEW fEO fEN fWO fWN fON uE uW uO uN hmade1 hmade2 hmade3 ho1 hg1 hat1 HT HO HV HMD hvk hx2 hsl2 HOW1 HR1 HAT1 E3 HU1 HB02 HLEN HL
  obtain ⟨q, hq⟩ : ∃ q, L.length + 1 = q := ⟨_, rfl⟩
  have n1 : q < 2932031007320 := by omega
  have HCAST := Lib.hid (show ((pre.length : Int) + 1) = (q : Int) by have := HLE.out; omega)
  simp only [hq] at *
  go_wp2
  go_ret
  have hbe : ((q : Int) == n) = decide ((q : Int) = n) := Bool.eq_iff_iff.2 (by simp)
  rw [HCAST.out, hbe]
  exact ⟨rfl, HFIN.out _⟩
end Go.Proofs.Ytdpijhpjicbecaa.H
