/- screelaw11.rests. Conditions: sizes. (genrest.py) -/
import Derived.Test.YtdpijhpjicbecaaGGone
import Derived.Test.YtdpijhpjicbecaaGRun2
namespace Go.Proofs.Ytdpijhpjicbecaa.H
open Go Go.RowKit Go.Deep Go.Shelf Go.Proofs Go.Proofs.YtdpijhpjicbecaaW.PrintWords
set_option linter.unusedVariables false
set_option linter.unusedSimpArgs false
attribute [local go_sem] Oper.semAt_some
/-- The variables of rests' functions: i rounds, G the sums at the last. -/
structure RestAt (n₀ bL bN bK bA bG : Nat) (A : Option Addr) (c n : Nat) (m : Int) (i : Nat) (G : Int × Int) (T : Nat → Prop) (W : World) : Prop where
  l : W.heap[bL]? = some (.cells #[.slice A n c] 24 (0, 0))
  n : W.heap[bN]? = some (.cells #[.int .i64 m] 3 (0, 0))
  k : W.heap[bK]? = some (.cells #[.int .i64 i] 3 (0, 0))
  a : W.heap[bA]? = some (.cells #[.int .i64 G.1] 3 (0, 0))
  g : W.heap[bG]? = some (.cells #[.int .i64 G.2] 3 (0, 0))
  far : bL ≠ bK ∧ bL ≠ bA ∧ bL ≠ bG ∧ bN ≠ bK ∧ bN ≠ bA ∧ bN ≠ bG ∧ bK ≠ bA ∧ bK ≠ bG ∧ bA ≠ bG
  up : n₀ ≤ bL ∧ n₀ ≤ bN ∧ n₀ ≤ bK ∧ n₀ ≤ bA ∧ n₀ ≤ bG
  t : ∀ k, T k ↔ k = bL ∨ k = bN ∨ k = bK ∨ k = bA ∨ k = bG
theorem RestAt.lt {n₀ bL bN bK bA bG : Nat} {A : Option Addr} {c n : Nat} {m : Int} {i : Nat} {G : Int × Int} {T : Nat → Prop} {W : World} (h : RestAt n₀ bL bN bK bA bG A c n m i G T W) {k : Nat} (hk : T k) : k < W.heap.size := by
  rcases (h.t k).1 hk with rfl | rfl | rfl | rfl | rfl
  · exact blk_lt h.l
  · exact blk_lt h.n
  · exact blk_lt h.k
  · exact blk_lt h.a
  · exact blk_lt h.g
theorem RestAt.ge {n₀ bL bN bK bA bG : Nat} {A : Option Addr} {c n : Nat} {m : Int} {i : Nat} {G : Int × Int} {T : Nat → Prop} {W : World} (h : RestAt n₀ bL bN bK bA bG A c n m i G T W) {k : Nat} (hk : T k) : n₀ ≤ k := by
  obtain ⟨u1, u2, u3, u4, u5⟩ := h.up
  rcases (h.t k).1 hk with rfl | rfl | rfl | rfl | rfl <;> assumption
theorem RestAt.same {n₀ bL bN bK bA bG : Nat} {A : Option Addr} {c n : Nat} {m : Int} {i : Nat} {G : Int × Int} {T : Nat → Prop} {W W' : World} (h : RestAt n₀ bL bN bK bA bG A c n m i G T W) (hs : Same T W W') : RestAt n₀ bL bN bK bA bG A c n m i G T W' :=
  ⟨(hs.block _ ((h.t _).2 (.inl rfl))).trans h.l, (hs.block _ ((h.t _).2 (.inr (.inl rfl)))).trans h.n, (hs.block _ ((h.t _).2 (.inr (.inr (.inl rfl))))).trans h.k, (hs.block _ ((h.t _).2 (.inr (.inr (.inr (.inl rfl)))))).trans h.a,
    (hs.block _ ((h.t _).2 (.inr (.inr (.inr (.inr rfl)))))).trans h.g, h.far, h.up, h.t⟩
set_option maxHeartbeats 1600000 in
set_option maxRecDepth 100000 in
theorem rests1_c (n₀ bL bN bK bA bG : Nat) (A : Option Addr) (c : Nat) (m : Int) (i : Nat) (G : Int × Int) (T : Nat → Prop) (N : Nat) (X : List Src) (f : Cnt) (e : Ent) (w : World) (h : RestAt n₀ bL bN bK bA bG A c X.length m i G T w) (hs : Sl encSr 1 w A X) (hA : ∀ k, (Value.slice A X.length c).ownBlock = some k → k < N ∧ ¬ InU X k) (hx : SrcsE N X f w) (hN : N ≤ n₀) (hi : i < 1000000000) :
    Calls Try.prog 68 #[.agg (encE e).toArray, .pointer (some ⟨bK, 0, none⟩), .pointer (some ⟨bL, 0, none⟩), .pointer (some ⟨bA, 0, none⟩), .pointer (some ⟨bG, 0, none⟩), .pointer (some ⟨bN, 0, none⟩)] w fun en w' =>
      en = .returned (.bool (decide ((i : Int) + 1 < m))) ∧ Upd T w w' ∧ RestAt n₀ bL bN bK bA bG A c X.length m (i + 1) (goneN f X.length) T w' := by
  obtain ⟨W1, hW1⟩ : ∃ Z, w.alloc (.cells #[.string e.1, .int .u64 e.2.1, .bool e.2.2.1, .string e.2.2.2] 53) = Z := ⟨_, rfl⟩
  have u1' : Upd (fun _ => False) w W1 := by rw [← hW1]; exact Upd.alloc _ _
  have u1 : Upd T w W1 := u1'.mono fun k hk => hk.elim
  have H1 := h.same (u1'.same fun k hk => ⟨h.lt hk, fun e => e⟩)
  obtain ⟨f1, f2, f3, f4, f5, f6, f7, f8, f9⟩ := h.far
  have hk1 := H1.k
  have k0 : W1.cell? ⟨bK, 0, none⟩ = some (.int .i64 i) := (blk_cell hk1 0).trans rfl
  have kf : W1.frozen? ⟨bK, 0, none⟩ = false := blk_frozen hk1 0
  obtain ⟨W2, hW2⟩ : ∃ Z, W1.setCell ⟨bK, 0, none⟩ (.int .i64 ((i : Int) + 1)) = Z := ⟨_, rfl⟩
  have u2 : Upd (fun k => k = bK) W1 W2 := by rw [← hW2]; exact Upd.setCell _ _ _ rfl
  have tK : T bK := (h.t _).2 (.inr (.inr (.inl rfl)))
  have tA : T bA := (h.t _).2 (.inr (.inr (.inr (.inl rfl))))
  have tG : T bG := (h.t _).2 (.inr (.inr (.inr (.inr rfl))))
  have u12 : Upd T w W2 := u1.trans (u2.mono fun k hk => by rw [hk]; exact tK)
  have hgeT : ∀ k, T k → N ≤ k := fun k hk => Nat.le_trans hN (h.ge hk)
  have hs2 : Sl encSr 1 W2 A X := hs.upd u12 (fun b o e hk => by
    have h1 := (hA b (by rw [e]; rfl)).1
    have := hgeT b hk
    omega)
  have hx2 : SrcsE N X f W2 := hx.upd u12 hgeT
  have l2 : W2.heap[bL]? = some (.cells #[.slice A X.length c] 24 (0, 0)) := u2.heap H1.l f1
  have n2 : W2.heap[bN]? = some (.cells #[.int .i64 m] 3 (0, 0)) := u2.heap H1.n f4
  have a2 : W2.heap[bA]? = some (.cells #[.int .i64 G.1] 3 (0, 0)) := u2.heap H1.a f7.symm
  have g2 : W2.heap[bG]? = some (.cells #[.int .i64 G.2] 3 (0, 0)) := u2.heap H1.g f8.symm
  have k2 : W2.heap[bK]? = some (.cells #[.int .i64 ((i : Int) + 1)] 3 (0, 0)) := by rw [← hW2]; exact blk_set hk1 0 _
  have HG := Lib.hid (gone_c A c N X f W2 hs2 hx2)
  have l2c : W2.cell? ⟨bL, 0, none⟩ = some (.slice A X.length c) := (blk_cell l2 0).trans rfl
  have HT := Lib.hid h.t
  have HUP := Lib.hid h.up
  have HFAR := Lib.hid h.far
  have HTA := Lib.hid tA
  have HTG := Lib.hid tG
  have HU12 := Lib.hid u12
  have HL2 := Lib.hid l2
  have HN2 := Lib.hid n2
  have HA2 := Lib.hid a2
  have HG2 := Lib.hid g2
  have HK2 := Lib.hid k2
  obtain ⟨n, hn⟩ : ∃ n, X.length = n := ⟨_, rfl⟩
  rw [hn] at HG HL2 l2c ⊢
  obtain ⟨x, hxx⟩ : ∃ x, goneN f n = x := ⟨_, rfl⟩
  rw [hxx] at HG ⊢
  obtain ⟨x1, x2⟩ := x
  clear h hs hA hx u1 u1' H1 f1 f2 f3 f4 f5 f6 f7 f8 f9 hk1 u2 tK tA tG u12 hgeT hs2 hx2 l2 n2 a2 g2 k2 hn hxx
  unfold encE
  go_enter Try.func68, Try.ntmps68
  go_wp2_with fail
  refine HG.out.mono ?_
  clear HG
  rintro _ W3 ⟨rfl, hb3⟩
  obtain ⟨f1, f2, f3, f4, f5, f6, f7, f8, f9⟩ := HFAR.out
  have a3 := blk_below HA2.out hb3
  have g3 := blk_below HG2.out hb3
  have k3 := blk_below HK2.out hb3
  have n3 := blk_below HN2.out hb3
  have l3 := blk_below HL2.out hb3
  have af : W3.frozen? ⟨bA, 0, none⟩ = false := blk_frozen a3 0
  have ac : W3.cell? ⟨bA, 0, none⟩ = some (.int .i64 G.1) := (blk_cell a3 0).trans rfl
  have g4 := blk_far (p := ⟨bA, 0, none⟩) g3 f9.symm (.int .i64 x1)
  have gf : (W3.setCell ⟨bA, 0, none⟩ (.int .i64 x1)).frozen? ⟨bG, 0, none⟩ = false := blk_frozen g4 0
  have gc : (W3.setCell ⟨bA, 0, none⟩ (.int .i64 x1)).cell? ⟨bG, 0, none⟩ = some (.int .i64 G.2) := (blk_cell g4 0).trans rfl
  obtain ⟨W5, hW5⟩ : ∃ Z, (W3.setCell ⟨bA, 0, none⟩ (.int .i64 x1)).setCell ⟨bG, 0, none⟩ (.int .i64 x2) = Z := ⟨_, rfl⟩
  have k5 : W5.heap[bK]? = some (.cells #[.int .i64 ((i : Int) + 1)] 3 (0, 0)) := by rw [← hW5]; exact blk_far (p := ⟨bG, 0, none⟩) (blk_far (p := ⟨bA, 0, none⟩) k3 f7 _) f8 _
  have n5 : W5.heap[bN]? = some (.cells #[.int .i64 m] 3 (0, 0)) := by rw [← hW5]; exact blk_far (p := ⟨bG, 0, none⟩) (blk_far (p := ⟨bA, 0, none⟩) n3 f5 _) f6 _
  have l5 : W5.heap[bL]? = some (.cells #[.slice A n c] 24 (0, 0)) := by rw [← hW5]; exact blk_far (p := ⟨bG, 0, none⟩) (blk_far (p := ⟨bA, 0, none⟩) l3 f2 _) f3 _
  have a5 : W5.heap[bA]? = some (.cells #[.int .i64 x1] 3 (0, 0)) := by rw [← hW5]; exact blk_far (p := ⟨bG, 0, none⟩) (blk_set a3 0 _) f9 _
  have g5 : W5.heap[bG]? = some (.cells #[.int .i64 x2] 3 (0, 0)) := by rw [← hW5]; exact blk_set g4 0 _
  have kc5 : W5.cell? ⟨bK, 0, none⟩ = some (.int .i64 ((i : Int) + 1)) := (blk_cell k5 0).trans rfl
  have nc5 : W5.cell? ⟨bN, 0, none⟩ = some (.int .i64 m) := (blk_cell n5 0).trans rfl
  have u5 : Upd T W3 W5 := by rw [← hW5]; exact (Upd.setCell _ _ _ HTA.out).trans (Upd.setCell _ _ _ HTG.out)
  have HFIN := Lib.hid (show Upd T w W5 ∧ RestAt n₀ bL bN bK bA bG A c n m (i + 1) (x1, x2) T W5 from ⟨(HU12.out.trans (Upd.of_below hb3)).trans u5, l5, n5, by rw [k5]; rfl, a5, g5, HFAR.out, HUP.out, HT.out⟩)
  clear a3 g3 k3 n3 l3 g4 k5 n5 l5 a5 g5 u5 f1 f2 f3 f4 f5 f6 f7 f8 f9 hb3
  go_wp2
  go_ret
  exact ⟨rfl, HFIN.out⟩
set_option maxHeartbeats 1600000 in
set_option maxRecDepth 100000 in
theorem rests2_c (n₀ bL bN bK bA bG : Nat) (A : Option Addr) (c : Nat) (m : Int) (i : Nat) (G : Int × Int) (T : Nat → Prop) (N : Nat) (X : List Src) (f : Cnt) (Al : Option Addr) (nl cl : Nat) (w : World) (h : RestAt n₀ bL bN bK bA bG A c X.length m i G T w) (hs : Sl encSr 1 w A X) (hA : ∀ k, (Value.slice A X.length c).ownBlock = some k → k < N ∧ ¬ InU X k) (hx : SrcsE N X f w) (hN : N ≤ n₀) (hi : i < 1000000000) :
    Calls Try.prog 70 #[.slice Al nl cl, .pointer (some ⟨bK, 0, none⟩), .pointer (some ⟨bL, 0, none⟩), .pointer (some ⟨bA, 0, none⟩), .pointer (some ⟨bG, 0, none⟩), .pointer (some ⟨bN, 0, none⟩)] w fun en w' =>
      en = .returned (.bool (decide ((i : Int) + 1 < m))) ∧ Upd T w w' ∧ RestAt n₀ bL bN bK bA bG A c X.length m (i + 1) (goneN f X.length) T w' := by
  obtain ⟨W1, hW1⟩ : ∃ Z, w = Z := ⟨_, rfl⟩
  have u1' : Upd (fun _ => False) w W1 := by rw [← hW1]; exact Upd.refl _ _
  have u1 : Upd T w W1 := u1'.mono fun k hk => hk.elim
  have H1 := h.same (u1'.same fun k hk => ⟨h.lt hk, fun e => e⟩)
  obtain ⟨f1, f2, f3, f4, f5, f6, f7, f8, f9⟩ := h.far
  have hk1 := H1.k
  have k0 : W1.cell? ⟨bK, 0, none⟩ = some (.int .i64 i) := (blk_cell hk1 0).trans rfl
  have kf : W1.frozen? ⟨bK, 0, none⟩ = false := blk_frozen hk1 0
  obtain ⟨W2, hW2⟩ : ∃ Z, W1.setCell ⟨bK, 0, none⟩ (.int .i64 ((i : Int) + 1)) = Z := ⟨_, rfl⟩
  have u2 : Upd (fun k => k = bK) W1 W2 := by rw [← hW2]; exact Upd.setCell _ _ _ rfl
  have tK : T bK := (h.t _).2 (.inr (.inr (.inl rfl)))
  have tA : T bA := (h.t _).2 (.inr (.inr (.inr (.inl rfl))))
  have tG : T bG := (h.t _).2 (.inr (.inr (.inr (.inr rfl))))
  have u12 : Upd T w W2 := u1.trans (u2.mono fun k hk => by rw [hk]; exact tK)
  have hgeT : ∀ k, T k → N ≤ k := fun k hk => Nat.le_trans hN (h.ge hk)
  have hs2 : Sl encSr 1 W2 A X := hs.upd u12 (fun b o e hk => by
    have h1 := (hA b (by rw [e]; rfl)).1
    have := hgeT b hk
    omega)
  have hx2 : SrcsE N X f W2 := hx.upd u12 hgeT
  have l2 : W2.heap[bL]? = some (.cells #[.slice A X.length c] 24 (0, 0)) := u2.heap H1.l f1
  have n2 : W2.heap[bN]? = some (.cells #[.int .i64 m] 3 (0, 0)) := u2.heap H1.n f4
  have a2 : W2.heap[bA]? = some (.cells #[.int .i64 G.1] 3 (0, 0)) := u2.heap H1.a f7.symm
  have g2 : W2.heap[bG]? = some (.cells #[.int .i64 G.2] 3 (0, 0)) := u2.heap H1.g f8.symm
  have k2 : W2.heap[bK]? = some (.cells #[.int .i64 ((i : Int) + 1)] 3 (0, 0)) := by rw [← hW2]; exact blk_set hk1 0 _
  have HG := Lib.hid (gone_c A c N X f W2 hs2 hx2)
  have l2c : W2.cell? ⟨bL, 0, none⟩ = some (.slice A X.length c) := (blk_cell l2 0).trans rfl
  have HT := Lib.hid h.t
  have HUP := Lib.hid h.up
  have HFAR := Lib.hid h.far
  have HTA := Lib.hid tA
  have HTG := Lib.hid tG
  have HU12 := Lib.hid u12
  have HL2 := Lib.hid l2
  have HN2 := Lib.hid n2
  have HA2 := Lib.hid a2
  have HG2 := Lib.hid g2
  have HK2 := Lib.hid k2
  obtain ⟨n, hn⟩ : ∃ n, X.length = n := ⟨_, rfl⟩
  rw [hn] at HG HL2 l2c ⊢
  obtain ⟨x, hxx⟩ : ∃ x, goneN f n = x := ⟨_, rfl⟩
  rw [hxx] at HG ⊢
  obtain ⟨x1, x2⟩ := x
  clear h hs hA hx u1 u1' H1 f1 f2 f3 f4 f5 f6 f7 f8 f9 hk1 u2 tK tA tG u12 hgeT hs2 hx2 l2 n2 a2 g2 k2 hn hxx
  subst hW1
  go_enter Try.func70, Try.ntmps70
  go_wp2_with fail
  refine HG.out.mono ?_
  clear HG
  rintro _ W3 ⟨rfl, hb3⟩
  obtain ⟨f1, f2, f3, f4, f5, f6, f7, f8, f9⟩ := HFAR.out
  have a3 := blk_below HA2.out hb3
  have g3 := blk_below HG2.out hb3
  have k3 := blk_below HK2.out hb3
  have n3 := blk_below HN2.out hb3
  have l3 := blk_below HL2.out hb3
  have af : W3.frozen? ⟨bA, 0, none⟩ = false := blk_frozen a3 0
  have ac : W3.cell? ⟨bA, 0, none⟩ = some (.int .i64 G.1) := (blk_cell a3 0).trans rfl
  have g4 := blk_far (p := ⟨bA, 0, none⟩) g3 f9.symm (.int .i64 x1)
  have gf : (W3.setCell ⟨bA, 0, none⟩ (.int .i64 x1)).frozen? ⟨bG, 0, none⟩ = false := blk_frozen g4 0
  have gc : (W3.setCell ⟨bA, 0, none⟩ (.int .i64 x1)).cell? ⟨bG, 0, none⟩ = some (.int .i64 G.2) := (blk_cell g4 0).trans rfl
  obtain ⟨W5, hW5⟩ : ∃ Z, (W3.setCell ⟨bA, 0, none⟩ (.int .i64 x1)).setCell ⟨bG, 0, none⟩ (.int .i64 x2) = Z := ⟨_, rfl⟩
  have k5 : W5.heap[bK]? = some (.cells #[.int .i64 ((i : Int) + 1)] 3 (0, 0)) := by rw [← hW5]; exact blk_far (p := ⟨bG, 0, none⟩) (blk_far (p := ⟨bA, 0, none⟩) k3 f7 _) f8 _
  have n5 : W5.heap[bN]? = some (.cells #[.int .i64 m] 3 (0, 0)) := by rw [← hW5]; exact blk_far (p := ⟨bG, 0, none⟩) (blk_far (p := ⟨bA, 0, none⟩) n3 f5 _) f6 _
  have l5 : W5.heap[bL]? = some (.cells #[.slice A n c] 24 (0, 0)) := by rw [← hW5]; exact blk_far (p := ⟨bG, 0, none⟩) (blk_far (p := ⟨bA, 0, none⟩) l3 f2 _) f3 _
  have a5 : W5.heap[bA]? = some (.cells #[.int .i64 x1] 3 (0, 0)) := by rw [← hW5]; exact blk_far (p := ⟨bG, 0, none⟩) (blk_set a3 0 _) f9 _
  have g5 : W5.heap[bG]? = some (.cells #[.int .i64 x2] 3 (0, 0)) := by rw [← hW5]; exact blk_set g4 0 _
  have kc5 : W5.cell? ⟨bK, 0, none⟩ = some (.int .i64 ((i : Int) + 1)) := (blk_cell k5 0).trans rfl
  have nc5 : W5.cell? ⟨bN, 0, none⟩ = some (.int .i64 m) := (blk_cell n5 0).trans rfl
  have u5 : Upd T W3 W5 := by rw [← hW5]; exact (Upd.setCell _ _ _ HTA.out).trans (Upd.setCell _ _ _ HTG.out)
  have HFIN := Lib.hid (show Upd T w W5 ∧ RestAt n₀ bL bN bK bA bG A c n m (i + 1) (x1, x2) T W5 from ⟨(HU12.out.trans (Upd.of_below hb3)).trans u5, l5, n5, by rw [k5]; rfl, a5, g5, HFAR.out, HUP.out, HT.out⟩)
  clear a3 g3 k3 n3 l3 g4 k5 n5 l5 a5 g5 u5 f1 f2 f3 f4 f5 f6 f7 f8 f9 hb3
  go_wp2
  go_ret
  exact ⟨rfl, HFIN.out⟩
theorem restF_foot (n₀ bL bN bK bA bG : Nat) (A : Option Addr) (c n : Nat) (m : Int) {α : Type} (G : List α → Int × Int) (P : List α → Prop) : Foot (fun (p : List α) T W => RestAt n₀ bL bN bK bA bG A c n m p.length (G p) T W ∧ P p) :=
  ⟨fun {s T W k} h hk => h.1.lt hk, fun {s T W W'} h hs => ⟨h.1.same hs, h.2⟩⟩
/-- What stands behind a go-through: i rounds, left at the m-th or not at all. -/
theorem rest_done {n₀ bL bN bK bA bG : Nat} {A : Option Addr} {c n : Nat} {m : Int} {α : Type} {F G0 : Int × Int} {l : List α} {T : Nat → Prop} {W : World} {I : World → Prop}
    (h : (RestAt n₀ bL bN bK bA bG A c n m l.length (if l = [] then G0 else F) T W ∧ (l.length : Int) < m) ∧ I W ∨ ∃ p, p <+: l ∧ (RestAt n₀ bL bN bK bA bG A c n m p.length F T W ∧ (p.length : Int) = m) ∧ I W) :
    ∃ i G, RestAt n₀ bL bN bK bA bG A c n m i G T W ∧ I W ∧ (((i : Int) < m) ∨ ((i : Int) = m ∧ G = F)) := by
  rcases h with ⟨⟨h1, h2⟩, h3⟩ | ⟨p, _, ⟨h1, h2⟩, h3⟩
  · exact ⟨_, _, h1, h3, .inl h2⟩
  · exact ⟨_, _, h1, h3, .inr ⟨h2, rfl⟩⟩
set_option maxHeartbeats 3200000 in
set_option maxRecDepth 100000 in
theorem rests_c (A : Option Addr) (c : Nat) (N n₀ : Nat) (X : List Src) (F0 F1 F2 : Cnt) (f g : FV) (m : Int) (HDf HDg : World → Prop) (l : List Ent) (L : List (List Ent)) (w : World) (hs : Sl encSr 1 w A X) (hA : ∀ k, (Value.slice A X.length c).ownBlock = some k → k < N ∧ ¬ InU X k) (hx : SrcsE N X F0 w) (hN : N ≤ n₀) (hn₀ : n₀ ≤ w.heap.size) (hU : ∀ k, InU X k → k < N)
    (hm : 1 ≤ m) (hl : l.length < 1000000000) (hL : L.length < 1000000000)
    (hf : IterUV Try.prog (valF f) encA n₀ (InU X) (fun W => SrcsE N X F0 W ∧ HDf W) (fun W => SrcsE N X F1 W ∧ HDf W) (fun W => SrcsE N X F1 W ∧ HDf W) l)
    (hg : KeyV g n₀ (InU X) (fun W => SrcsE N X F1 W ∧ HDg W) (fun W => SrcsE N X F2 W ∧ HDg W) L) (hdf : HDf w) (hdg : HDg w) (hff : Firm n₀ HDf) (hgs : ∀ W W', HDg W → Upd (fun k => InU X k ∨ n₀ ≤ k) W W' → HDg W') :
    Calls Try.prog 23 #[.slice A X.length c, valF f, valF g, .int .i64 m] w fun e w' => e = .returned (.bool true) ∧ Upd (InU X) w w' := by
  obtain ⟨gf, fa, lb, hf1, henter, hit⟩ := hf
  obtain ⟨gg, ga, gb, rfl, genter, git⟩ := hg
  rw [hf1, show valF (gg, ga, gb) = .func (.func gg) ga gb from rfl]
  have HIT := Lib.hid hit
  have GIT := Lib.hid git
  have HS := Lib.hid hs
  have HA := Lib.hid hA
  have HX := Lib.hid hx
  have HDF := Lib.hid hdf
  have HDG := Lib.hid hdg
  have HFF := Lib.hid hff
  have HGS := Lib.hid hgs
  have HU := Lib.hid hU
  have HLL := Lib.hid hl
  have HLL2 := Lib.hid hL
  have HNN := Lib.hid hN
  obtain ⟨n, hn⟩ : ∃ n, X.length = n := ⟨_, rfl⟩
  rw [hn]
  have HNX := Lib.hid hn
  clear hit git hs hA hx hdf hdg hff hgs hU hl hL hN hn hf1
  go_enter Try.func23, Try.ntmps23
  go_wp2_with fail
  go_at_fn gf
  obtain ⟨W5, hW5⟩ : ∃ W5, ((((w.alloc (.cells #[.slice A n c] 24)).alloc (.cells #[.int .i64 m] 3)).alloc (.cells #[.int .i64 0] 3)).alloc (.cells #[.int .i64 0] 3)).alloc (.cells #[.int .i64 0] 3) = W5 := ⟨_, rfl⟩
  have k1 : W5.heap[w.heap.size]? = some (.cells #[.slice A n c] 24 (0, 0)) := by rw [← hW5]; exact blk_alloc (blk_alloc (blk_alloc (blk_alloc (heap_alloc_new _ _) _) _) _) _
  have k2 : W5.heap[w.heap.size + 1]? = some (.cells #[.int .i64 m] 3 (0, 0)) := by rw [← hW5]; exact blk_alloc (blk_alloc (blk_alloc (by simpa using heap_alloc_new (w.alloc (.cells #[.slice A n c] 24)) (.cells #[.int .i64 m] 3)) _) _) _
  have k3 : W5.heap[w.heap.size + 1 + 1]? = some (.cells #[.int .i64 0] 3 (0, 0)) := by rw [← hW5]; exact blk_alloc (blk_alloc (by simpa using heap_alloc_new ((w.alloc (.cells #[.slice A n c] 24)).alloc (.cells #[.int .i64 m] 3)) (.cells #[.int .i64 0] 3)) _) _
  have k4 : W5.heap[w.heap.size + 1 + 1 + 1]? = some (.cells #[.int .i64 0] 3 (0, 0)) := by rw [← hW5]; exact blk_alloc (by simpa using heap_alloc_new (((w.alloc (.cells #[.slice A n c] 24)).alloc (.cells #[.int .i64 m] 3)).alloc (.cells #[.int .i64 0] 3)) (.cells #[.int .i64 0] 3)) _
  have k5 : W5.heap[w.heap.size + 1 + 1 + 1 + 1]? = some (.cells #[.int .i64 0] 3 (0, 0)) := by rw [← hW5]; simpa using heap_alloc_new ((((w.alloc (.cells #[.slice A n c] 24)).alloc (.cells #[.int .i64 m] 3)).alloc (.cells #[.int .i64 0] 3)).alloc (.cells #[.int .i64 0] 3)) (.cells #[.int .i64 0] 3)
  have hb5 : Below w.heap.size w W5 := by rw [← hW5]; exact (((((Below.refl _ _).alloc (Nat.le_refl _) _).alloc (by simp) _).alloc (by simp; omega) _).alloc (by simp; omega) _).alloc (by simp; omega) _
  obtain ⟨T0, hT0⟩ : ∃ T : Nat → Prop, (fun k => k = w.heap.size ∨ k = w.heap.size + 1 ∨ k = w.heap.size + 1 + 1 ∨ k = w.heap.size + 1 + 1 + 1 ∨ k = w.heap.size + 1 + 1 + 1 + 1) = T := ⟨_, rfl⟩
  have htt : ∀ k, T0 k ↔ k = w.heap.size ∨ k = w.heap.size + 1 ∨ k = w.heap.size + 1 + 1 ∨ k = w.heap.size + 1 + 1 + 1 ∨ k = w.heap.size + 1 + 1 + 1 + 1 := fun k => by rw [← hT0]
  have h0 : RestAt w.heap.size w.heap.size (w.heap.size + 1) (w.heap.size + 1 + 1) (w.heap.size + 1 + 1 + 1) (w.heap.size + 1 + 1 + 1 + 1) A c n m 0 (0, 0) T0 W5 := ⟨k1, k2, k3, k4, k5, by omega, by omega, htt⟩
  have HTT := Lib.hid htt
  have HB5 := Lib.hid hb5
  have HROW := Lib.hid (show ∀ W (S : Nat → Prop), (∀ k, S k → w.heap.size ≤ k) → Upd (fun k => S k ∨ InU X k) w W → Sl encSr 1 W A X from fun W S hS u => HS.out.upd u (fun b o e hk => by
    have h1 := HA.out b (by rw [e]; rfl)
    rcases hk with hk | hk
    · have := hS b hk; have := HNN.out; omega
    · exact h1.2 hk))
  obtain ⟨S1, hS1⟩ : ∃ S, goneN F1 n = S := ⟨_, rfl⟩
  obtain ⟨S2, hS2⟩ : ∃ S, goneN F2 n = S := ⟨_, rfl⟩
  have HS1 := Lib.hid hS1
  have HS2 := Lib.hid hS2
  have hu5 : Upd (fun k => w.heap.size ≤ k) w W5 := Upd.of_below hb5
  have hcall := HIT.out W5 (.func 68) #[.pointer (some ⟨w.heap.size + 1 + 1, 0, none⟩), .pointer (some ⟨w.heap.size, 0, none⟩), .pointer (some ⟨w.heap.size + 1 + 1 + 1, 0, none⟩), .pointer (some ⟨w.heap.size + 1 + 1 + 1 + 1, 0, none⟩), .pointer (some ⟨w.heap.size + 1, 0, none⟩)]
    (fun p T W => RestAt w.heap.size w.heap.size (w.heap.size + 1) (w.heap.size + 1 + 1) (w.heap.size + 1 + 1 + 1) (w.heap.size + 1 + 1 + 1 + 1) A c n m p.length (if p = [] then (0, 0) else S1) T W ∧ (p.length : Int) < m)
    (fun p T W => RestAt w.heap.size w.heap.size (w.heap.size + 1) (w.heap.size + 1 + 1) (w.heap.size + 1 + 1 + 1) (w.heap.size + 1 + 1 + 1 + 1) A c n m p.length S1 T W ∧ (p.length : Int) = m) T0
    (restF_foot _ _ _ _ _ _ _ _ _ _ (fun p => if p = [] then (0, 0) else S1) (fun p => (p.length : Int) < m)) (restF_foot _ _ _ _ _ _ _ _ _ _ (fun p => S1) (fun p => (p.length : Int) = m)) (fun k hk => Nat.le_trans hn₀ (h0.ge hk)) ⟨by simpa using h0, by simp; omega⟩ ⟨HX.out.upd hu5 (fun k hk => by have := HNN.out; omega), HFF.out _ _ HDF.out (hu5.mono fun k hk => by omega)⟩
    (fun p x T1 W1 hj him hg hu hp => by
      obtain ⟨hj, hlim⟩ := hj
      have hpl : p.length < 1000000000 := by have h1 := hp.length_le; have h2 := HLL.out; simp only [List.length_append, List.length_cons, List.length_nil] at h1; omega
      refine .inr ⟨_, rfl, enters_of Try.func68 (by kernel_rfl) rfl, ?_⟩
      have hrow := HROW.out W1 (fun k => w.heap.size ≤ k) (fun k hk => hk) ((hu5.mono fun k hk => .inl hk).trans (hu.mono fun k hk => hk.imp (fun h => h0.ge h) id))
      have hc := rests1_c w.heap.size w.heap.size (w.heap.size + 1) (w.heap.size + 1 + 1) (w.heap.size + 1 + 1 + 1) (w.heap.size + 1 + 1 + 1 + 1) A c m p.length _ T1 N X F1 x W1 (by rw [HNX.out]; exact hj) hrow HA.out him.1 (by have := HNN.out; omega) hpl
      rw [HNX.out, HS1.out] at hc
      refine hc.mono ?_
      rintro e W2 ⟨rfl, hu2, hr2⟩
      refine ⟨T1, Grow.refl _ _, hu2, ?_⟩
      have hlen : (p ++ [x]).length = p.length + 1 := by simp
      have hne : ¬ (p ++ [x] = []) := by simp
      by_cases hend : (p.length : Int) + 1 < m
      · rw [decide_eq_true hend]
        exact .inl ⟨rfl, by rw [hlen, if_neg hne]; exact hr2, by rw [hlen]; push_cast; omega⟩
      · rw [decide_eq_false hend]
        exact .inr ⟨rfl, by rw [hlen]; exact hr2, by rw [hlen]; push_cast; omega⟩)
  rw [hW5]
  refine hcall.mono ?_
  clear hcall h0 k1 k2 k3 k4 k5
  rintro e W6 ⟨⟨v5, rfl⟩, T6, hg6, hu6, hres⟩
  obtain ⟨i, G, hr6, ⟨hx6, -⟩, hcase⟩ := rest_done (I := fun W => SrcsE N X F1 W ∧ HDf W) hres
  have hu06 : Upd (fun k => w.heap.size ≤ k ∨ InU X k) w W6 := (hu5.mono fun k hk => .inl hk).trans (hu6.mono fun k hk => hk.imp (fun h => by rcases (htt k).1 h with h | h | h | h | h <;> omega) id)
  have hdg6 : HDg W6 := HGS.out _ _ HDG.out (hu06.mono fun k hk => hk.elim (fun h => .inr (by omega)) .inl)
  have hrow6 := HROW.out W6 _ (fun k hk => hk) hu06
  have hgone := gone_c A c N X F1 W6 hrow6 hx6
  rw [HNX.out, HS1.out] at hgone
  have HGO := Lib.hid hgone
  have HU6 := Lib.hid hu06
  have HX6 := Lib.hid hx6
  have HDG6 := Lib.hid hdg6
  have HR6 := Lib.hid hr6
  have l6 : W6.cell? ⟨w.heap.size, 0, none⟩ = some (.slice A n c) := (blk_cell hr6.l 0).trans rfl
  have HC := Lib.hid hcase
  clear hgone hu06 hx6 hdg6 hr6 hcase hres hu6 hg6 hrow6 hu5 hb5 htt
  go_wp2_with fail
  refine HGO.out.mono ?_
  clear HGO
  rintro _ W7 ⟨rfl, hb7⟩
  have k7 := blk_below HR6.out.k hb7
  have n7 := blk_below HR6.out.n hb7
  have a7 := blk_below HR6.out.a hb7
  have g7 := blk_below HR6.out.g hb7
  have l7 := blk_below HR6.out.l hb7
  have kc7 : W7.cell? ⟨w.heap.size + 1 + 1, 0, none⟩ = some (.int .i64 i) := (blk_cell k7 0).trans rfl
  have nc7 : W7.cell? ⟨w.heap.size + 1, 0, none⟩ = some (.int .i64 m) := (blk_cell n7 0).trans rfl
  have ac7 : W7.cell? ⟨w.heap.size + 1 + 1 + 1, 0, none⟩ = some (.int .i64 G.1) := (blk_cell a7 0).trans rfl
  have gc7 : W7.cell? ⟨w.heap.size + 1 + 1 + 1 + 1, 0, none⟩ = some (.int .i64 G.2) := (blk_cell g7 0).trans rfl
  have kf7 : W7.frozen? ⟨w.heap.size + 1 + 1, 0, none⟩ = false := blk_frozen k7 0
  obtain ⟨W8, hW8⟩ : ∃ Z, W7.setCell ⟨w.heap.size + 1 + 1, 0, none⟩ (.int .i64 0) = Z := ⟨_, rfl⟩
  have h8 : RestAt w.heap.size w.heap.size (w.heap.size + 1) (w.heap.size + 1 + 1) (w.heap.size + 1 + 1 + 1) (w.heap.size + 1 + 1 + 1 + 1) A c n m 0 G T0 W8 := by
    rw [← hW8]
    exact ⟨blk_far (p := ⟨w.heap.size + 1 + 1, 0, none⟩) l7 (show w.heap.size ≠ w.heap.size + 1 + 1 from by omega) _, blk_far (p := ⟨w.heap.size + 1 + 1, 0, none⟩) n7 (show w.heap.size + 1 ≠ w.heap.size + 1 + 1 from by omega) _, blk_set k7 0 _,
      blk_far (p := ⟨w.heap.size + 1 + 1, 0, none⟩) a7 (show w.heap.size + 1 + 1 + 1 ≠ w.heap.size + 1 + 1 from by omega) _, blk_far (p := ⟨w.heap.size + 1 + 1, 0, none⟩) g7 (show w.heap.size + 1 + 1 + 1 + 1 ≠ w.heap.size + 1 + 1 from by omega) _, by omega, by omega, HTT.out⟩
  have u78 : Upd (fun k => w.heap.size ≤ k) W7 W8 := by rw [← hW8]; exact (Upd.setCell (S := fun k => k = w.heap.size + 1 + 1) _ _ _ rfl).mono fun k hk => by omega
  have u68 : Upd (fun k => w.heap.size ≤ k) W6 W8 := (Upd.of_below hb7).trans u78
  have HU8 := Lib.hid (HU6.out.trans (u68.mono fun k hk => .inl hk))
  have HX8 := Lib.hid (HX6.out.upd u68 (fun k hk => by have := HNN.out; omega))
  have HDG8 := Lib.hid (HGS.out _ _ HDG6.out (u68.mono fun k hk => .inr (by omega)))
  have hs8 : n₀ ≤ W8.heap.size := by have := HU8.out.size; omega
  have hcall2 := GIT.out W8 hs8 (.func 70) #[.pointer (some ⟨w.heap.size + 1 + 1, 0, none⟩), .pointer (some ⟨w.heap.size, 0, none⟩), .pointer (some ⟨w.heap.size + 1 + 1 + 1, 0, none⟩), .pointer (some ⟨w.heap.size + 1 + 1 + 1 + 1, 0, none⟩), .pointer (some ⟨w.heap.size + 1, 0, none⟩)]
    (fun p T W => RestAt w.heap.size w.heap.size (w.heap.size + 1) (w.heap.size + 1 + 1) (w.heap.size + 1 + 1 + 1) (w.heap.size + 1 + 1 + 1 + 1) A c n m p.length (if p = [] then G else S2) T W ∧ (p.length : Int) < m)
    (fun p T W => RestAt w.heap.size w.heap.size (w.heap.size + 1) (w.heap.size + 1 + 1) (w.heap.size + 1 + 1 + 1) (w.heap.size + 1 + 1 + 1 + 1) A c n m p.length S2 T W ∧ (p.length : Int) = m) T0
    (restF_foot _ _ _ _ _ _ _ _ _ _ (fun p => if p = [] then G else S2) (fun p => (p.length : Int) < m)) (restF_foot _ _ _ _ _ _ _ _ _ _ (fun p => S2) (fun p => (p.length : Int) = m)) (fun k hk => Nat.le_trans hn₀ (h8.ge hk)) ⟨by simpa using h8, by simp; omega⟩ ⟨HX8.out, HDG8.out⟩
    (fun p x T1 W1 hj him hg hu hp args Fs hE hFs => by
      obtain ⟨hj, hlim⟩ := hj
      obtain ⟨Ax, cx, rfl, _⟩ := hE
      have hpl : p.length < 1000000000 := by have h1 := hp.length_le; have h2 := HLL2.out; simp only [List.length_append, List.length_cons, List.length_nil] at h1; omega
      refine .inr ⟨_, rfl, enters_of Try.func70 (by kernel_rfl) rfl, ?_⟩
      have hrow := HROW.out W1 (fun k => w.heap.size ≤ k) (fun k hk => hk) (HU8.out.trans (hu.mono fun k hk => hk.imp (fun h => h8.ge h) id))
      have hc := rests2_c w.heap.size w.heap.size (w.heap.size + 1) (w.heap.size + 1 + 1) (w.heap.size + 1 + 1 + 1) (w.heap.size + 1 + 1 + 1 + 1) A c m p.length _ T1 N X F2 Ax x.length cx W1 (by rw [HNX.out]; exact hj) hrow HA.out him.1 (by have := HNN.out; omega) hpl
      rw [HNX.out, HS2.out] at hc
      refine hc.mono ?_
      rintro e W2 ⟨rfl, hu2, hr2⟩
      refine ⟨T1, Grow.refl _ _, hu2, ?_⟩
      have hlen : (p ++ [x]).length = p.length + 1 := by simp
      have hne : ¬ (p ++ [x] = []) := by simp
      by_cases hend : (p.length : Int) + 1 < m
      · rw [decide_eq_true hend]
        exact .inl ⟨rfl, by rw [hlen, if_neg hne]; exact hr2, by rw [hlen]; push_cast; omega⟩
      · rw [decide_eq_false hend]
        exact .inr ⟨rfl, by rw [hlen]; exact hr2, by rw [hlen]; push_cast; omega⟩)
  have HCALL2 := Lib.hid (show Calls Try.prog gg (ga ++ #[.func (.func 70) #[] #[.pointer (some ⟨w.heap.size + 1 + 1, 0, none⟩), .pointer (some ⟨w.heap.size, 0, none⟩), .pointer (some ⟨w.heap.size + 1 + 1 + 1, 0, none⟩), .pointer (some ⟨w.heap.size + 1 + 1 + 1 + 1, 0, none⟩), .pointer (some ⟨w.heap.size + 1, 0, none⟩)]] ++ gb) W8
      (fun e W9 => ∃ v i G, e = .returned v ∧ (∃ T, RestAt w.heap.size w.heap.size (w.heap.size + 1) (w.heap.size + 1 + 1) (w.heap.size + 1 + 1 + 1) (w.heap.size + 1 + 1 + 1 + 1) A c n m i G T W9) ∧ SrcsE N X F2 W9 ∧ (((i : Int) < m) ∨ ((i : Int) = m ∧ G = S2)) ∧ Upd (fun k => w.heap.size ≤ k ∨ InU X k) w W9) from by
    refine hcall2.mono ?_
    rintro e W9 ⟨⟨v, rfl⟩, T9, hg9, hu9, hres⟩
    obtain ⟨i, G, hr9, ⟨hx9, -⟩, hcase⟩ := rest_done (I := fun W => SrcsE N X F2 W ∧ HDg W) hres
    exact ⟨v, i, G, rfl, ⟨_, hr9⟩, hx9, hcase, HU8.out.trans (hu9.mono fun k hk => hk.imp (fun h => h8.ge h) id)⟩)
  clear hcall2 h8 u78 u68 hs8 k7 n7 a7 g7 l7 hb7 hT0
  obtain ⟨g1, g2⟩ := G
  obtain ⟨s1, s2⟩ := S1
  obtain ⟨ii, hii⟩ : ∃ z : Int, (i : Int) = z := ⟨_, rfl⟩
  rw [hii] at kc7 HC
  clear hii
  rcases HC.out with hlt | ⟨heq, heq2⟩
  · clear HC
    go_wp2_with fail
    refine HCALL2.out.mono ?_
    clear HCALL2
    rintro _ W9 ⟨v9, i9, G9, rfl, ⟨T9, hr9⟩, hx9, hcase9, hu9⟩
    have hrow9 := HROW.out W9 _ (fun k hk => hk) hu9
    have hgone9 := gone_c A c N X F2 W9 hrow9 hx9
    rw [HNX.out, HS2.out] at hgone9
    have HGO9 := Lib.hid hgone9
    have HU9 := Lib.hid ((Upd.refl (S := InU X) w).step hu9 (fun k hk => hk.elim .inr .inl))
    have HR9 := Lib.hid hr9
    have l9 : W9.cell? ⟨w.heap.size, 0, none⟩ = some (.slice A n c) := (blk_cell hr9.l 0).trans rfl
    have HC9 := Lib.hid hcase9
    clear hgone9 hrow9 hx9 hu9 hr9 hcase9
    go_wp2_with fail
    refine HGO9.out.mono ?_
    clear HGO9
    rintro _ WA ⟨rfl, hba⟩
    have kcA : WA.cell? ⟨w.heap.size + 1 + 1, 0, none⟩ = some (.int .i64 i9) := (blk_cell (blk_below HR9.out.k hba) 0).trans rfl
    have ncA : WA.cell? ⟨w.heap.size + 1, 0, none⟩ = some (.int .i64 m) := (blk_cell (blk_below HR9.out.n hba) 0).trans rfl
    have acA : WA.cell? ⟨w.heap.size + 1 + 1 + 1, 0, none⟩ = some (.int .i64 G9.1) := (blk_cell (blk_below HR9.out.a hba) 0).trans rfl
    have gcA : WA.cell? ⟨w.heap.size + 1 + 1 + 1 + 1, 0, none⟩ = some (.int .i64 G9.2) := (blk_cell (blk_below HR9.out.g hba) 0).trans rfl
    have HUA := Lib.hid (HU9.out.trans (Upd.of_below hba))
    obtain ⟨r1, r2⟩ := G9
    obtain ⟨t1, t2⟩ := S2
    clear hba HR9
    obtain ⟨j9, hj9⟩ : ∃ z : Int, (i9 : Int) = z := ⟨_, rfl⟩
    rw [hj9] at kcA HC9
    clear hj9
    rcases HC9.out with hlt9 | ⟨heq9, heq29⟩
    · clear HC9
      go_wp2
      go_ret
      exact ⟨rfl, HUA.out⟩
    · injection heq29 with e1 e2
      subst e1
      subst e2
      subst heq9
      clear HC9
      go_wp2
      go_ret
      exact ⟨rfl, HUA.out⟩
  · injection heq2 with e1 e2
    subst e1
    subst e2
    subst ii
    clear HC
    go_wp2_with fail
    refine HCALL2.out.mono ?_
    clear HCALL2
    rintro _ W9 ⟨v9, i9, G9, rfl, ⟨T9, hr9⟩, hx9, hcase9, hu9⟩
    have hrow9 := HROW.out W9 _ (fun k hk => hk) hu9
    have hgone9 := gone_c A c N X F2 W9 hrow9 hx9
    rw [HNX.out, HS2.out] at hgone9
    have HGO9 := Lib.hid hgone9
    have HU9 := Lib.hid ((Upd.refl (S := InU X) w).step hu9 (fun k hk => hk.elim .inr .inl))
    have HR9 := Lib.hid hr9
    have l9 : W9.cell? ⟨w.heap.size, 0, none⟩ = some (.slice A n c) := (blk_cell hr9.l 0).trans rfl
    have HC9 := Lib.hid hcase9
    clear hgone9 hrow9 hx9 hu9 hr9 hcase9
    go_wp2_with fail
    refine HGO9.out.mono ?_
    clear HGO9
    rintro _ WA ⟨rfl, hba⟩
    have kcA : WA.cell? ⟨w.heap.size + 1 + 1, 0, none⟩ = some (.int .i64 i9) := (blk_cell (blk_below HR9.out.k hba) 0).trans rfl
    have ncA : WA.cell? ⟨w.heap.size + 1, 0, none⟩ = some (.int .i64 m) := (blk_cell (blk_below HR9.out.n hba) 0).trans rfl
    have acA : WA.cell? ⟨w.heap.size + 1 + 1 + 1, 0, none⟩ = some (.int .i64 G9.1) := (blk_cell (blk_below HR9.out.a hba) 0).trans rfl
    have gcA : WA.cell? ⟨w.heap.size + 1 + 1 + 1 + 1, 0, none⟩ = some (.int .i64 G9.2) := (blk_cell (blk_below HR9.out.g hba) 0).trans rfl
    have HUA := Lib.hid (HU9.out.trans (Upd.of_below hba))
    obtain ⟨r1, r2⟩ := G9
    obtain ⟨t1, t2⟩ := S2
    clear hba HR9
    obtain ⟨j9, hj9⟩ : ∃ z : Int, (i9 : Int) = z := ⟨_, rfl⟩
    rw [hj9] at kcA HC9
    clear hj9
    rcases HC9.out with hlt9 | ⟨heq9, heq29⟩
    · clear HC9
      go_wp2
      go_ret
      exact ⟨rfl, HUA.out⟩
    · injection heq29 with e1 e2
      subst e1
      subst e2
      subst heq9
      clear HC9
      go_wp2
      go_ret
      exact ⟨rfl, HUA.out⟩
end Go.Proofs.Ytdpijhpjicbecaa.H
