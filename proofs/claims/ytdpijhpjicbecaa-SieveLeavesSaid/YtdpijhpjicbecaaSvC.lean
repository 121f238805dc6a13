/- sieve.Keep, and the document's Keep. Conditions: sizes. | The document's Keep. Conditions: sizes. | What Keep gave, held; small; known. Conditions: sizes. | SievePicks, first part: the function that tells of below, and how Below comes in. Conditions: sizes. -/
import Derived.Test.YtdpijhpjicbecaaSvB
import Derived.Test.YtdpijhpjicbecaaGRfK
namespace Go.Proofs.Ytdpijhpjicbecaa.H
open Go Go.RowKit Go.Deep Go.Shelf Go.Proofs Go.Proofs.YtdpijhpjicbecaaW.PrintWords
set_option linter.unusedVariables false
set_option linter.unusedSimpArgs false
attribute [local go_sem] Oper.semAt_some
theorem srcs_mono {n m : Nat} {U : Nat → Prop} {St : Nat → World → Prop} {fs : List FV} {ls : List (List Ent)} (h : Srcs n U St fs ls) (hn : n ≤ m) : Srcs m U St fs ls :=
  ⟨h.1, fun k f l a b => (h.2 k f l a b).mono hn (fun k h => h) (fun W h => h) (fun W h => h) (fun W h => h)⟩
set_option maxHeartbeats 1600000 in
set_option maxRecDepth 100000 in
theorem keep_c (A : Option Addr) (c : Nat) (fs : List FV) (g : FV) (w : World) (hs : Sl encF 1 w A fs) (hA : fs = [] → (A = none ∧ c = 0) ∨ ∃ b o, A = some ⟨b, o, none⟩) (hl : fs.length < 1000000000) :
    Calls Try.prog 37 #[valF g, .slice A fs.length c] w fun e w' => ∃ f : FV, e = .returned (valF f) ∧ Below w.heap.size w w' ∧ ∃ HD : World → Prop, HD w' ∧ Stays2 w.heap.size w'.heap.size HD ∧ (∀ W, HD W → w'.heap.size ≤ W.heap.size) ∧
      ∀ (U : Nat → Prop) (St : Nat → World → Prop) (ls : List (List Ent)) (b : ByteArray → Bool) (K : ByteArray → Prop) (HB : World → Prop), Srcs w.heap.size U St fs ls → (∀ k, Firm w.heap.size (St k)) → (∀ k, U k → k < w.heap.size) → totL ls < 1000000000 → TellsAt g b K w'.heap.size U HB → (∀ x ∈ groupsL (mergeL ls), ∀ e ∈ x, K e.1) →
        IterUV Try.prog (valF f) encA w'.heap.size U (fun W => St 0 W ∧ HD W ∧ HB W) (fun W => St ls.length W ∧ HD W ∧ HB W) (fun W => St ls.length W ∧ HD W ∧ HB W) (keepL b (groupsL (mergeL ls))) := by
  obtain ⟨w0, hw0⟩ : ∃ Z, w.alloc (.cells #[valF g] 61) = Z := ⟨_, rfl⟩
  have hb0 : Below w.heap.size w w0 := by rw [← hw0]; exact (Below.refl _ _).alloc (Nat.le_refl _) _
  have hr0 : w0.heap[w.heap.size]? = some (.cells #[valF g] 61 (0, 0)) := by rw [← hw0]; exact heap_alloc_new _ _
  have hz0 : w0.heap.size = w.heap.size + 1 := by rw [← hw0]; simp
  have HC := Lib.hid (keys2_c A c fs w0 (hs.later hb0) hA hl)
  obtain ⟨gf, ga, gb⟩ := g
  have HR0 := Lib.hid hr0
  have HB0 := Lib.hid hb0
  rw [show valF (gf, ga, gb) = .func (.func gf) ga gb from rfl] at hw0 ⊢
  clear hs hA hr0 hb0
  go_enter Try.func37, Try.ntmps37
  go_wp2_with fail
  try rw [hw0]
  refine HC.out.mono ?_
  rintro _ w1 ⟨f, rfl, hb1, HD, hd1, hst, _, hit⟩
  have r1 := heap_alloc_new w1 (.cells #[.nilFunc] 36)
  have f1 : (w1.alloc (.cells #[.nilFunc] 36)).frozen? ⟨w1.heap.size, 0, none⟩ = false := blk_frozen r1 0
  have d1 : (w1.alloc (.cells #[.nilFunc] 36)).cell? ⟨w1.heap.size, 0, none⟩ = some .nilFunc := (blk_cell r1 0).trans rfl
  obtain ⟨W2, hW2⟩ : ∃ Z, (w1.alloc (.cells #[.nilFunc] 36)).setCell ⟨w1.heap.size, 0, none⟩ (valF f) = Z := ⟨_, rfl⟩
  have r2 : W2.heap[w1.heap.size]? = some (.cells #[valF f] 36 (0, 0)) := by rw [← hW2]; exact blk_set r1 0 _
  have hb2 : Below w1.heap.size w1 W2 := by rw [← hW2]; exact ((Below.refl _ _).alloc (Nat.le_refl _) _).setCell (p := ⟨w1.heap.size, 0, none⟩) (Nat.le_refl _) _
  have hsz := blk_lt r2
  have hle := hb1.size
  have hb02 := HB0.out.trans ((hb1.trans (hb2.mono hle)).mono HB0.out.size)
  have HR02 := Lib.hid (show W2.heap[w.heap.size]? = some (.cells #[valF (gf, ga, gb)] 61 (0, 0)) from blk_below HR0.out (hb1.trans (hb2.mono hle)))
  have HB := Lib.hid hb02
  have HST := Lib.hid hst
  have HD2 := Lib.hid (hst.firm.later hd1 hb2)
  have HIT := Lib.hid hit
  have HR2 := Lib.hid r2
  clear hb1 hst hd1 hit hb2 r2 r1 hb02
  unfold valF at hW2
  unfold valF
  go_wp2
  go_ret
  have hbs : Stays2 w.heap.size W2.heap.size (fun W => W.heap[w1.heap.size]? = some (.cells #[valF f] 36 (0, 0))) := fun X W W' h u hX => u.heap h (fun hx => by have := hX _ hx; omega)
  have hbg : Stays2 w.heap.size W2.heap.size (fun W => W.heap[w.heap.size]? = some (.cells #[valF (gf, ga, gb)] 61 (0, 0))) := fun X W W' h u hX => u.heap h (fun hx => by have := hX _ hx; omega)
  have hbz : Stays2 w.heap.size W2.heap.size (fun W => W2.heap.size ≤ W.heap.size) := fun X W W' h u hX => Nat.le_trans h u.size
  refine ⟨(73, #[], #[.pointer (some ⟨w1.heap.size, 0, none⟩), .pointer (some ⟨w.heap.size, 0, none⟩)]), rfl, HB.out, (fun W => ((HD W ∧ W2.heap.size ≤ W.heap.size) ∧ W.heap[w1.heap.size]? = some (.cells #[valF f] 36 (0, 0))) ∧ W.heap[w.heap.size]? = some (.cells #[valF (gf, ga, gb)] 61 (0, 0))),
    ⟨⟨⟨HD2.out, Nat.le_refl _⟩, HR2.out⟩, HR02.out⟩, (((HST.out.mono (by omega) (Nat.le_of_lt hsz)).and hbz).and hbs).and hbg, fun W h => h.1.1.2, ?_⟩
  intro U St ls b K HBB hsrc hSt hU htot htl hKK
  have hUk : ∀ k, U k → k < w0.heap.size := fun k hk => by have := hU k hk; omega
  have h1 := HIT.out U St ls (srcs_mono hsrc (by omega)) (fun k => (hSt k).mono (by omega)) hUk htot
  have hfd : Firm W2.heap.size (fun W => HD W) := (HST.out.mono (Nat.le_refl _) (Nat.le_of_lt hsz)).firm
  have hKV : KeyV f W2.heap.size U (fun W => St 0 W ∧ HD W) (fun W => St ls.length W ∧ HD W) (groupsL (mergeL ls)) := by
    obtain ⟨gf, fa, lb, e, hen, hi⟩ := h1
    exact ⟨gf, fa, lb, e, hen, fun W hW => (hi W (by omega)).mono (Nat.le_of_lt hsz) (fun k h => h) (fun W h => h) (fun W h => h) (fun W h => h)⟩
  have hn1 : ∀ k, U k → k < W2.heap.size := fun k hk => by have := hU k hk; omega
  have hu1 : ¬ U w1.heap.size := fun h => by have := hU _ h; omega
  have hu0 : ¬ U w.heap.size := fun h => by have := hU _ h; omega
  have hlt0 : w.heap.size < W2.heap.size := by omega
  have hws : w.heap.size ≤ W2.heap.size := by omega
  refine ⟨_, _, _, rfl, enters_of Try.func73 (by kernel_rfl) rfl, fun W => ?_⟩
  intro fn cap J Jx T hJ hJx hT h0 hi0 hY
  obtain ⟨i1, ⟨⟨⟨i2, i3⟩, i4⟩, i5⟩, i6⟩ := hi0
  have := keep1_it W2.heap.size U (fun W => St 0 W ∧ HD W) (fun W => St ls.length W ∧ HD W) (groupsL (mergeL ls)) w1.heap.size w.heap.size f (gf, ga, gb) b K HBB hKV htl hKK (((hSt 0).mono hws).and hfd) (((hSt _).mono hws).and hfd) hn1 W i3
  have hall : ∀ W', (((St ls.length W' ∧ HD W') ∧ BoxV W2.heap.size U 36 w1.heap.size f W' ∧ BoxV W2.heap.size U 61 w.heap.size (gf, ga, gb) W' ∧ HBB W') ∧ W2.heap.size ≤ W'.heap.size) → (St ls.length W' ∧ (((HD W' ∧ W2.heap.size ≤ W'.heap.size) ∧ W'.heap[w1.heap.size]? = some (.cells #[valF f] 36 (0, 0))) ∧ W'.heap[w.heap.size]? = some (.cells #[valF (gf, ga, gb)] 61 (0, 0))) ∧ HBB W') :=
    fun W' ⟨⟨⟨a1, a2⟩, a3, a4, a5⟩, a6⟩ => ⟨a1, ⟨⟨⟨a2, a6⟩, a3.2.2⟩, a4.2.2⟩, a5⟩
  refine (this fn cap J Jx T hJ hJx hT h0 ⟨⟨i1, i2⟩, ⟨hsz, hu1, i4⟩, ⟨hlt0, hu0, i5⟩, i6⟩ (fun pre x T1 W1 a b c d e => hY pre x T1 W1 a (hall _ ⟨b, Nat.le_trans i3 d.size⟩) c d e)).mono ?_
  rintro e W' ⟨hv, T', hg, hu, hr⟩
  exact ⟨hv, T', hg, hu, hr.imp (fun h => ⟨h.1, hall _ ⟨h.2, Nat.le_trans i3 hu.size⟩⟩) (fun ⟨p, a, b, c⟩ => ⟨p, a, b, hall _ ⟨c, Nat.le_trans i3 hu.size⟩⟩)⟩
end Go.Proofs.Ytdpijhpjicbecaa.H
namespace Go.Proofs.Ytdpijhpjicbecaa.H
open Go Go.RowKit Go.Deep Go.Shelf Go.Proofs Go.Proofs.YtdpijhpjicbecaaW.PrintWords
set_option linter.unusedVariables false
set_option linter.unusedSimpArgs false
attribute [local go_sem] Oper.semAt_some
theorem srun_ex {P : Program} {S : World → Prop} {a : Act} {o : Oper} {W : World} {x : Operand} {i : Nat} {u v : Value} (ho : o.op = .extract x i) (hx : a.eval x = u) (hf : ∀ W, (Instr.extract u i).run P W = .ok v W) (hW : S W) : StepRes P S v ((execOp a.eval o).run P W) := by
  simp only [execOp, ho, hx, Sem.run_bind, Sem.run_pure, hf, Result.andThen_ok]
  exact ⟨rfl, hW⟩
theorem srun_st {P : Program} {S : World → Prop} {a : Act} {o : Oper} {W W' : World} {t : TypeId} {x y : Operand} {u v : Value} (ho : o.op = .store t x y) (hx : a.eval x = u) (hy : a.eval y = v) (hf : (Instr.storeAt t u v).run P W = .ok () W') (hW : S W') : StepRes P S undef ((execOp a.eval o).run P W) := by
  simp only [execOp, ho, hx, hy, Sem.run_bind, Sem.run_pure, hf, Result.andThen_ok]
  exact ⟨rfl, hW⟩
section
variable {σ : Type} {P : Program} {ops : Array Oper} {R : σ → World → Prop} {le : σ → σ → Prop} {kd : Nat → Nat} {V : Nat → Value} {a : Act} {l : List (Tmp × Value)} {o : Oper} {rest : List Oper} {Q : σ → Act → Prop}
/-- A writer that answers nothing. -/
theorem schainN {k : Nat} {s : σ} (s' : σ) (hk : kd k = 2) (hg : Region.wanted o (yielded ops (putL a l).tmps) = true) (hd : o.dst = none) (hle : le s s') (h : ∀ W, R s W → StepRes P (R s') undef ((execOp (putL a l).eval o).run P W)) (hr : stepList P ops R le kd V Q rest (k + 1) s' (putL a l)) :
    stepList P ops R le kd V Q (o :: rest) k s (putL a l) := by
  refine .inl ⟨hg, fun h0 => by omega, fun _ => ⟨fun x y => x = undef ∧ y = s', ⟨undef, s', rfl, rfl⟩, fun v s'' ht => ⟨ht.2 ▸ hle, ?_⟩, fun W hW => (h W hW).toT fun W' hW' => ⟨s', ⟨rfl, rfl⟩, hW'⟩⟩, fun _ h2 => absurd hk h2⟩
  obtain ⟨rfl, rfl⟩ := ht
  rw [hd]
  exact hr
end
theorem srun_alT {P : Program} {S : Value → World → Prop} {a : Act} {o : Oper} {W W' : World} {t : TypeId} {v : Value} (ho : o.op = .alloc t) (hf : (Instr.alloc t true (.tuple #[])).run P W = .ok v W') (hW : S v W') : StepResT P S ((execOp a.eval o).run P W) := by
  simp only [execOp, ho, Sem.run_bind, Sem.run_pure, hf, Result.andThen_ok]
  exact hW
/-- The box of a variable is laid somewhere on the way, and then stored to. -/
def BoxS (w : World) (o o' : Obj) (s : Nat × Nat) (W : World) : Prop := Below w.heap.size w W ∧ (s.1 = 0 ∨ (w.heap.size ≤ s.2 ∧ W.heap[s.2]? = some (if s.1 = 1 then o else o')))
def boxLe (a b : Nat × Nat) : Prop := a.1 ≤ b.1 ∧ (a.1 = 0 ∨ a.2 = b.2)
theorem boxLe_refl (a : Nat × Nat) : boxLe a a := ⟨Nat.le_refl _, .inr rfl⟩
theorem boxLe_trans (a b c : Nat × Nat) (h : boxLe a b) (k : boxLe b c) : boxLe a c := ⟨Nat.le_trans h.1 k.1, by
  rcases h.2 with h2 | h2
  · exact .inl h2
  · rcases k.2 with k2 | k2
    · exact .inl (by have := h.1; omega)
    · exact .inr (h2.trans k2)⟩
theorem BoxS.bel {w : World} {o o' : Obj} {s : Nat × Nat} {W : World} (h : BoxS w o o' s W) : Below w.heap.size w W := h.1
theorem BoxS.later {w : World} {o o' : Obj} {s : Nat × Nat} {W W' : World} (h : BoxS w o o' s W) (hb : Below W.heap.size W W') : BoxS w o o' s W' :=
  ⟨h.1.trans (hb.mono h.1.size), h.2.imp id fun ⟨h1, h2⟩ => ⟨h1, blk_below h2 hb⟩⟩
theorem store4S {W : World} {b : Nat} (h : W.heap[b]? = some (.cells #[.string ⟨#[]⟩, .int .u64 0, .bool false, .string ⟨#[]⟩] 53 (0, 0))) (e : Ent) : (Instr.storeAt 53 (.pointer (some ⟨b, 0, none⟩)) (.agg (encE e).toArray)).run Try.prog W = .ok () (W.setRow b (encE e).toArray) := by
  have hst := store4 h e
  have hl : (encE e).length = 4 := rfl
  go_simp
theorem boxS_put {w : World} {e : Ent} {bx : Nat} {W : World} (h : BoxS w (.cells #[.string ⟨#[]⟩, .int .u64 0, .bool false, .string ⟨#[]⟩] 53 (0, 0)) (.cells (encE e).toArray 53 (0, 0)) (1, bx) W) :
    (Instr.storeAt 53 (.pointer (some ⟨bx, 0, none⟩)) (.agg (encE e).toArray)).run Try.prog W = .ok () (W.setRow bx (encE e).toArray) ∧ BoxS w (.cells #[.string ⟨#[]⟩, .int .u64 0, .bool false, .string ⟨#[]⟩] 53 (0, 0)) (.cells (encE e).toArray 53 (0, 0)) (2, bx) (W.setRow bx (encE e).toArray) := by
  obtain ⟨h1, h2⟩ := h
  rcases h2 with h2 | ⟨h2, h3⟩
  · cases h2
  · exact ⟨store4S h3 e, h1.trans ((upd_setRow (S := fun k => k = bx) W (encE e).toArray rfl).bel (fun k hk => by rw [hk]; exact h2) h1.size), .inr ⟨h2, setRow_heap _ _ _ (encE e).toArray _ _ h3⟩⟩
set_option maxHeartbeats 12800000 in
set_option maxRecDepth 100000 in
theorem refKeep_c (A : Option Addr) (c : Nat) (L : List HE) (b : Bw) (w : World) (hs : Sl2 w A L) (hl : L.length + totL (L.map (·.2.2)) ≤ 1000000) (hb : b.at w) :
    Calls Try.prog 41 #[.agg b.cells, .slice A L.length c] w fun e w' => ∃ v, e = .returned v ∧ Own encE 53 4 w' w.heap.size v (keepL b.has (groupsL (mergeL (L.map (·.2.2))))) ∧ Below w.heap.size w w' := by
  obtain ⟨bA, bc, ks, bB, bd, bh, nt⟩ := b
  have HBW := Lib.hid hb
  obtain ⟨w1, hw1⟩ : ∃ Z, w.alloc (.cells #[.slice bA ks.length bc, .slice bB bh.length bd, .bool nt] 60) = Z := ⟨_, rfl⟩
  have hb1 : Below w.heap.size w w1 := by rw [← hw1]; exact (Below.refl _ _).alloc (Nat.le_refl _) _
  have hr1 : w1.heap[w.heap.size]? = some (.cells #[.slice bA ks.length bc, .slice bB bh.length bd, .bool nt] 60 (0, 0)) := by rw [← hw1]; exact heap_alloc_new _ _
  have HPK := Lib.hid (fun (PA : Option Addr) (pc : Nat) (p : List Ent) (W : World) (hb : Below w.heap.size w W) (h : Sl encE 4 W PA p) => refPick_c PA pc p ⟨bA, bc, ks, bB, bd, bh, nt⟩ W h ⟨HBW.out.1.later hb, HBW.out.2.later hb⟩)
  have HRK := Lib.hid (refKeys_c A c L w1 ⟨hs.1.later hb1, fun x hx => (hs.2 x hx).later hb1⟩ hl)
  obtain ⟨bf, hbf⟩ : ∃ f, Bw.has ⟨bA, bc, ks, bB, bd, bh, nt⟩ = f := ⟨_, rfl⟩
  rw [hbf] at HPK ⊢
  unfold Bw.cells at HPK ⊢
  dsimp only at HPK ⊢
  obtain ⟨n1, hn1⟩ : ∃ n, ks.length = n := ⟨_, rfl⟩
  obtain ⟨n2, hn2⟩ : ∃ n, bh.length = n := ⟨_, rfl⟩
  rw [hn1, hn2] at hw1 hr1 HPK ⊢
  have HR1 := Lib.hid hr1
  have HB1 := Lib.hid hb1
  obtain ⟨gl, hgl⟩ : ∃ g, groupsL (mergeL (L.map (·.2.2))) = g := ⟨_, rfl⟩
  rw [hgl] at HRK ⊢
  have HGL := Lib.hid (show gl.length ≤ 1000000 from by rw [← hgl]; exact Nat.le_trans (groups_len _) (by rw [mergeL_length]; omega))
  clear hs hb hn1 hn2 hbf hgl hr1 hb1 HBW hl
  obtain ⟨n, hn⟩ : ∃ n, L.length = n := ⟨_, rfl⟩
  rw [hn] at HRK ⊢
  clear hn
  go_enter Try.func41, Try.ntmps41
  go_wp2_with fail
  try rw [hw1]
  refine HRK.out.mono ?_
  clear HRK
  rintro _ w2 ⟨vk, LK, rfl, hlk, hmk, hb2⟩
  obtain ⟨Ak, ck, rfl⟩ := own_slice hmk.own
  have HB2 := Lib.hid (HB1.out.trans (hb2.mono HB1.out.size))
  have HR2 := Lib.hid (blk_below HR1.out hb2)
  have HSK := Lib.hid hmk.sl2.2
  obtain ⟨m, hm⟩ : ∃ m, LK.length = m := ⟨_, rfl⟩
  have HM := Lib.hid hm
  have HLK := Lib.hid hlk
  have hmm : m ≤ 1000000 := by have := congrArg List.length hlk; rw [List.length_map, hm] at this; rw [this]; exact HGL.out
  rw [hm]
  clear hb2 hmk hlk hw1 hm
  go_wp2_with fail
  go_loopw [5, 7] (fun s5 s7 wr => ∃ k : Nat, s7 = .int .i64 k ∧ k ≤ m ∧ Own encE 53 4 wr w2.heap.size s5 (keepL bf (gl.take k)) ∧ Below w2.heap.size w2 wr) (fun s5 s7 wr => m - (intOf s7).toNat)
  case atStart => exact ⟨0, rfl, by omega, by simpa [keepL] using Own.nil _ _ _ _ _, Below.refl _ _⟩
  case round =>
    obtain ⟨k, rfl, hk, ho, hbr⟩ := hrel
    obtain ⟨A1, c1, rfl⟩ := own_slice ho
    generalize wr = W5 at *
    obtain ⟨q, hq⟩ : ∃ q, keepL bf (gl.take k) = q := ⟨_, rfl⟩
    rw [hq] at ho ⊢
    have hql : q.length ≤ k := by rw [← hq]; exact Nat.le_trans (List.length_filterMap_le _ _) (by rw [List.length_take]; omega)
    have HQ := Lib.hid hq
    have HO := Lib.hid ho
    have HB5 := Lib.hid hbr
    have HBW := Lib.hid (HB2.out.trans (hbr.mono HB2.out.size))
    have i0 : (0 : Int) ≤ k := by omega
    clear ho hbr hq
    by_cases hlt : k < m
    · have i1 : (k : Int) < m := by omega
      obtain ⟨x, hx⟩ := getElem?_of_lt (l := LK) (by rw [HM.out]; exact hlt : k < LK.length)
      obtain ⟨b2, o2, hA2, _, hc2⟩ := (HSK.out.1.later HB5.out).at hx
      subst hA2
      obtain ⟨pn, hpn⟩ : ∃ q, x.2.2.length = q := ⟨_, rfl⟩
      have y0 : W5.cell? ⟨b2, o2 + k, none⟩ = some (.slice x.1 pn x.2.1) := by have := hc2 0 _ rfl; rw [hpn] at this; simpa using this
      have hgk : gl[k]? = some x.2.2 := by rw [← HLK.out, List.getElem?_map, hx]; rfl
      have HKN := Lib.hid (show keepL bf (gl.take (k + 1)) = q ++ (pickL bf x.2.2).toList from by rw [take_suc hgk, keepL_snoc, HQ.out])
      have HSX := Lib.hid ((HSK.out.2 x (List.mem_of_getElem? hx)).later HB5.out)
      have HPC := Lib.hid (show ∀ (s' : Nat × Nat) (W : World), BoxS W5 (.cells #[.string ⟨#[]⟩, .int .u64 0, .bool false, .string ⟨#[]⟩] 53 (0, 0)) (.cells (encE ((pickL bf x.2.2).getD zeroE)).toArray 53 (0, 0)) s' W → Calls Try.prog 33 #[.slice x.1 pn x.2.1, .agg #[.slice bA n1 bc, .slice bB n2 bd, .bool nt]] W (fun e W' => e = .returned (.tuple #[.agg (encE ((pickL bf x.2.2).getD zeroE)).toArray, .bool (pickL bf x.2.2).isSome]) ∧ BoxS W5 (.cells #[.string ⟨#[]⟩, .int .u64 0, .bool false, .string ⟨#[]⟩] 53 (0, 0)) (.cells (encE ((pickL bf x.2.2).getD zeroE)).toArray 53 (0, 0)) s' W') from fun s' W hW => by
        have hbl := HBW.out.trans (hW.bel.mono HBW.out.size)
        have := HPK.out x.1 x.2.1 x.2.2 W hbl (HSX.out.later hW.bel)
        rw [hpn] at this
        exact this.mono fun e W' ⟨h1, h2⟩ => ⟨h1, hW.later h2⟩)
      obtain ⟨e0, he0⟩ : ∃ e, (pickL bf x.2.2).getD zeroE = e := ⟨_, rfl⟩
      obtain ⟨ok, hok⟩ : ∃ e, (pickL bf x.2.2).isSome = e := ⟨_, rfl⟩
      rw [he0, hok] at HPC
      have HE0 := Lib.hid he0
      have HOK := Lib.hid hok
      have Y0 := Lib.hid (show ∀ (s' : Nat × Nat) (W : World), BoxS W5 (.cells #[.string ⟨#[]⟩, .int .u64 0, .bool false, .string ⟨#[]⟩] 53 (0, 0)) (.cells (encE e0).toArray 53 (0, 0)) s' W → W.cell? ⟨b2, o2 + k, none⟩ = some (.slice x.1 pn x.2.1) ∧ W.heap[w.heap.size]? = some (.cells #[.slice bA n1 bc, .slice bB n2 bd, .bool nt] 60 (0, 0)) from fun s' W hW => ⟨cell_later hW.bel y0, blk_below (blk_below HR2.out HB5.out) hW.bel⟩)
      clear hc2 hx hpn hgk he0 hok
      go_wp2_with fail
      refine wp_region_step (BoxS W5 (.cells #[.string ⟨#[]⟩, .int .u64 0, .bool false, .string ⟨#[]⟩] 53 (0, 0)) (.cells (encE e0).toArray 53 (0, 0))) boxLe boxLe_refl boxLe_trans (0, 0) [0, 0, 0, 0, 0, 0, 0, 0, 0, 2, 2] [.slice (some ⟨b2, o2, none⟩) m ck, .int .i64 (k : Int), .pointer (some ⟨b2, o2 + k, none⟩), .slice x.1 pn x.2.1, .agg #[.slice bA n1 bc, .slice bB n2 bd, .bool nt], .tuple #[.agg (encE e0).toArray, .bool ok], .tuple #[.agg (encE e0).toArray, .bool ok], .agg (encE e0).toArray, .bool ok, undef, undef] 11 (by kernel_rfl) (by kernel_rfl) ⟨(Below.refl _ _).drew, .inl rfl⟩ ?_
      simp only [List.take_succ_cons, List.take_zero, List.drop_succ_cons, List.drop_zero]
      refine schain0 ?_
      refine @schain _ _ _ _ _ _ _ _ _ _ _ _ _ _ 19 (.slice (some ⟨b2, o2, none⟩) m ck) (by rfl) (by rfl) (by kernel_rfl) (by rfl) (by exact fun s' W2 hW => srun_mv (by rfl) (by exact eval_base (by kernel_rfl) (by rfl)) hW) ?_
      refine @schain _ _ _ _ _ _ _ _ _ _ _ _ _ _ 20 (.int .i64 (k : Int)) (by rfl) (by rfl) (by kernel_rfl) (by rfl) (by exact fun s' W2 hW => srun_mv (by rfl) (by exact eval_base (by kernel_rfl) (by rfl)) hW) ?_
      refine @schain _ _ _ _ _ _ _ _ _ _ _ _ _ _ 21 (.pointer (some ⟨b2, o2 + k, none⟩)) (by rfl) (by rfl) (by kernel_rfl) (by rfl) (by exact fun s' W2 hW => srun_ia (u := .slice (some ⟨b2, o2, none⟩) m ck) (v := .int .i64 (k : Int)) (by rfl) (by exact eval_look (by kernel_rfl) (by kernel_rfl)) (by exact eval_look (by kernel_rfl) (by kernel_rfl)) (fun W => ixL _ _ _ _ _ hlt W) hW) ?_
      refine @schain _ _ _ _ _ _ _ _ _ _ _ _ _ _ 22 (.slice x.1 pn x.2.1) (by rfl) (by rfl) (by kernel_rfl) (by rfl) (by exact fun s' W2 hW => srun_ld (u := .pointer (some ⟨b2, o2 + k, none⟩)) (by rfl) (by exact eval_look (by kernel_rfl) (by kernel_rfl)) (ldSlR _ _ _ _ _ _ (Y0.out _ _ hW).1) hW) ?_
      refine @schain _ _ _ _ _ _ _ _ _ _ _ _ _ _ 23 (.agg #[.slice bA n1 bc, .slice bB n2 bd, .bool nt]) (by rfl) (by rfl) (by kernel_rfl) (by rfl) (by exact fun s' W2 hW => srun_ld (u := .pointer (some ⟨w.heap.size, 0, none⟩)) (by rfl) (by exact eval_base (by kernel_rfl) (by rfl)) (ldBw _ _ _ _ _ (Y0.out _ _ hW).2) hW) ?_
      refine @schain _ _ _ _ _ _ _ _ _ _ _ _ _ _ 24 (.tuple #[.agg (encE e0).toArray, .bool ok]) (by rfl) (by rfl) (by kernel_rfl) (by rfl) (by exact fun s' W2 hW => srun_call (vs := #[.slice x.1 pn x.2.1, .agg #[.slice bA n1 bc, .slice bB n2 bd, .bool nt]]) (by rfl) (by kernel_rfl) (enters_of Try.func33 (by kernel_rfl) (by rfl)) (HPC.out s' W2 hW)) ?_
      refine @schain _ _ _ _ _ _ _ _ _ _ _ _ _ _ 18 (.tuple #[.agg (encE e0).toArray, .bool ok]) (by rfl) (by rfl) (by kernel_rfl) (by rfl) (by exact fun s' W2 hW => srun_mv (by rfl) (by exact eval_look (by kernel_rfl) (by kernel_rfl)) hW) ?_
      refine @schain _ _ _ _ _ _ _ _ _ _ _ _ _ _ 25 (.agg (encE e0).toArray) (by rfl) (by rfl) (by kernel_rfl) (by rfl) (by exact fun s' W2 hW => srun_ex (u := .tuple #[.agg (encE e0).toArray, .bool ok]) (by rfl) (by exact eval_look (by kernel_rfl) (by kernel_rfl)) (fun W => by first | rfl | go_simp) hW) ?_
      refine @schain _ _ _ _ _ _ _ _ _ _ _ _ _ _ 26 (.bool ok) (by rfl) (by rfl) (by kernel_rfl) (by rfl) (by exact fun s' W2 hW => srun_ex (u := .tuple #[.agg (encE e0).toArray, .bool ok]) (by rfl) (by exact eval_look (by kernel_rfl) (by kernel_rfl)) (fun W => by first | rfl | go_simp) hW) ?_
      refine @schainT _ _ _ _ _ _ _ _ _ _ _ _ _ _ 8 (fun v s' => ∃ bx, v = .pointer (some ⟨bx, 0, none⟩) ∧ s' = (1, bx)) (by rfl) (by kernel_rfl) (by rfl) ⟨_, _, 0, rfl, rfl⟩ (fun _ _ h => by obtain ⟨bx, _, rfl⟩ := h; exact ⟨Nat.zero_le _, .inl rfl⟩) (by exact fun W2 hW => srun_alT (v := .pointer (some ⟨W2.heap.size, 0, none⟩)) (W' := W2.alloc (.cells #[.string ⟨#[]⟩, .int .u64 0, .bool false, .string ⟨#[]⟩] 53)) (by rfl) (by go_simp) ⟨(1, W2.heap.size), ⟨_, rfl, rfl⟩, hW.1.alloc hW.1.size _, .inr ⟨hW.1.size, heap_alloc_new _ _⟩⟩) (?_)
      rintro _ _ ⟨bx, rfl, rfl⟩
      refine @schainN _ _ _ _ _ _ _ _ _ _ _ _ _ _ (2, bx) (by rfl) (by kernel_rfl) (by rfl) ⟨Nat.le_succ 1, .inr rfl⟩ (by exact fun W2 hW => srun_st (u := .pointer (some ⟨bx, 0, none⟩)) (v := .agg (encE e0).toArray) (by rfl) (by exact eval_look (by kernel_rfl) (by kernel_rfl)) (by exact eval_look (by kernel_rfl) (by kernel_rfl)) (boxS_put hW).1 (boxS_put hW).2) ?_
      refine snil (fun W6 hW6 => ?_)
      refine Eq.mpr (congrArg (fun a => wpList _ _ _ _ a W6) (show _ = (⟨#[Value.agg #[Value.slice bA n1 bc, Value.slice bB n2 bd, Value.bool nt], Value.slice A n c, Value.pointer (some ⟨w.heap.size, 0, none⟩), undef, Value.slice none 0 0, Value.slice A1 q.length c1, Value.slice (some ⟨b2, o2, none⟩) m ck, Value.int IntKind.i64 (k : Int), Value.pointer (some ⟨bx, 0, none⟩), u9, Value.slice A n c, Value.slice (some ⟨b2, o2, none⟩) m ck, Value.int IntKind.i64 (k : Int), Value.slice (some ⟨b2, o2, none⟩) m ck, Value.int IntKind.i64 (m : Int), Value.bool true, u16, u17, Value.tuple #[Value.agg (encE e0).toArray, Value.bool ok], Value.slice (some ⟨b2, o2, none⟩) m ck, Value.int IntKind.i64 (k : Int), Value.pointer (some ⟨b2, o2 + k, none⟩), Value.slice x.fst pn x.snd.fst, Value.agg #[Value.slice bA n1 bc, Value.slice bB n2 bd, Value.bool nt], Value.tuple #[Value.agg (encE e0).toArray, Value.bool ok], Value.agg (encE e0).toArray, Value.bool ok, u27, u28, u29, u30, u31, undef], []⟩ : Act) by kernel_rfl)) ?_
      obtain ⟨hb6, hr6⟩ := hW6
      obtain ⟨hbx, hr6⟩ : W5.heap.size ≤ bx ∧ W6.heap[bx]? = some (.cells (encE e0).toArray 53 (0, 0)) := by
        rcases hr6 with h | h
        · cases h
        · exact h
      have HB6 := Lib.hid (HB5.out.trans (hb6.mono HB5.out.size))
      have HBW6 := Lib.hid (HBW.out.trans (hb6.mono HBW.out.size))
      have HO6 := Lib.hid (HO.out.below hb6)
      clear hb6 Y0 HPC y0
      cases hpk : pickL bf x.2.2 with
      | none =>
        have ho := HOK.out
        rw [hpk] at ho
        have ho : false = ok := ho
        subst ho
        have HKM := Lib.hid (show keepL bf (gl.take (k + 1)) = q from by rw [HKN.out, hpk]; simp)
        clear hpk
        go_wp2_with fail
        go_roundw
        case rel => exact ⟨k + 1, by first | rfl | simp, by omega, by rw [HKM.out]; exact HO6.out, HB6.out⟩
        case measure => simp [intOf]; omega
      | some e =>
        have ho := HOK.out
        have he := HE0.out
        rw [hpk] at ho he
        have ho : true = ok := ho
        have he : e = e0 := he
        subst ho
        subst he
        have HKM := Lib.hid (show keepL bf (gl.take (k + 1)) = q ++ [e] from by rw [HKN.out, hpk]; rfl)
        obtain ⟨x0, x1, x2, x3, _, _, _, _⟩ := four (v0 := .string e.1) (v1 := .int .u64 e.2.1) (v2 := .bool e.2.2.1) (v3 := .string e.2.2.2) hr6
        clear hpk hr6
        go_wp2_with (at_builtin; refine wpList_app rfl (.tmp 28) (.tmp 30) rfl uSlE infoE rfl (by decide) (by decide) okE (.slice A1 q.length c1) q rfl (base := w2.heap.size) ?c1 (some ⟨W6.heap.size, 0, none⟩) 1 [e] rfl ?c2 ?c3 ?c4 ?_)
        case c1 => exact HO6.out.below ((Below.refl _ _).alloc (Nat.le_refl _) _)
        case c2 => exact Sl.one okE W6 e 53 (cs := #[.string e.1, .int .u64 e.2.1, .bool e.2.2.1, .string e.2.2.2]) rfl
        case c3 => have := hql; first | omega | (simp; omega)
        case c4 => have := HB6.out.size; simp; omega
        intro v1 w1 ho1 hg1 hat1
        obtain ⟨A2, k2, rfl⟩ := own_slice ho1
        have hw56 : w2.heap.size ≤ W6.heap.size := HB6.out.size
        have HBN := Lib.hid ((HB6.out.alloc hw56 (.cells #[.string e.1, .int .u64 e.2.1, .bool e.2.2.1, .string e.2.2.2] 53)).grown hg1 (by simp; omega) (fun k hk => (HO6.out.block_lt hk).1))
        have HON := Lib.hid ho1
        clear ho1 hg1 hat1
        go_wp2
        go_roundw
        case rel => exact ⟨k + 1, by first | rfl | simp, by omega, by rw [HKM.out]; exact HON.out, HBN.out⟩
        case measure => simp [intOf]; omega
    · have hk2 : m = k := by omega
      subst hk2
      have HE := Lib.hid (show keepL bf gl = q from by rw [← HQ.out, List.take_of_length_le (by rw [← HLK.out, List.length_map, HM.out]; exact Nat.le_refl _)])
      go_wp2
      go_ret
      exact ⟨_, rfl, by rw [HE.out]; exact HO.out.weaken HB2.out.size, HBW.out⟩
end Go.Proofs.Ytdpijhpjicbecaa.H
namespace Go.Proofs.Ytdpijhpjicbecaa.H
open Go Go.RowKit Go.Deep Go.Shelf Go.Proofs Go.Proofs.YtdpijhpjicbecaaW.PrintWords
set_option linter.unusedVariables false
set_option linter.unusedSimpArgs false
attribute [local go_sem] Oper.semAt_some
/-- An iterator that writes nothing but its caller's, held. -/
def KHeld (f : FV) (l : List Ent) (W : World) : Prop := ∃ (n : Nat) (HD : World → Prop), n ≤ W.heap.size ∧ Firm n HD ∧ HD W ∧ IterUV Try.prog (valF f) encA n noU HD HD HD l
theorem KHeld.upd {f : FV} {l : List Ent} {W W' : World} {S : Nat → Prop} (h : KHeld f l W) (u : Upd S W W') (hS : ∀ k, S k → W.heap.size ≤ k) : KHeld f l W' := by
  obtain ⟨n, HD, h1, h2, h3, h4⟩ := h
  exact ⟨n, HD, Nat.le_trans h1 u.size, h2, h2 _ _ h3 (u.mono fun k hk => Nat.le_trans h1 (hS k hk)), h4⟩
theorem KHeld.later {f : FV} {l : List Ent} {W W' : World} (h : KHeld f l W) (hb : Below W.heap.size W W') : KHeld f l W' := h.upd (Upd.of_below (S := noU) hb) (fun k h => h.elim)
theorem heldGives_c (f : FV) (l : List Ent) (n : Int) (w : World) (h : KHeld f l w) (hl : l.length < 2932031007319) (hln : (l.length : Int) ≤ n) :
    Calls Try.prog 42 #[valF f, .int .i64 n] w fun e w' => ∃ v, e = .returned (.tuple #[v, .bool true]) ∧ Own encE 53 4 w' w.heap.size v l ∧ Below w.heap.size w w' := by
  obtain ⟨m, HD, h1, h2, h3, h4⟩ := h
  refine (gives_c (valF f) n m noU HD HD l w h4 h2 h2 h3 h1 hl hln).mono ?_
  rintro e w' ⟨v, h1, h2, h3, _⟩
  exact ⟨v, h1, h2, h3.bel (fun k h => h.elim) (Nat.le_refl _)⟩
theorem keepV_c (A : Option Addr) (c : Nat) (ps : List Nat) (L : List HE) (g : FV) (b : ByteArray → Bool) (K : ByteArray → Prop) (HB : World → Prop) (w : World) (hs : Sl encF 1 w A (ps.map fv1)) (hA : ps = [] → (A = none ∧ c = 0) ∨ ∃ b o, A = some ⟨b, o, none⟩) (hpl : ps.length = L.length) (hsrc : SrcsL w.heap.size ps L w)
    (hl : ps.length < 1000000000) (ht : totL (L.map (·.2.2)) < 1000000000) (hg : TellsAt g b K w.heap.size noU HB) (hb : HB w) (hK : ∀ x ∈ groupsL (mergeL (L.map (·.2.2))), ∀ e ∈ x, K e.1) :
    Calls Try.prog 37 #[valF g, .slice A ps.length c] w fun e w' => ∃ f : FV, e = .returned (valF f) ∧ Below w.heap.size w w' ∧ KHeld f (keepL b (groupsL (mergeL (L.map (·.2.2))))) w' := by
  have h := keep_c A c (ps.map fv1) g w hs (fun h => hA (by simpa using h)) (by simpa using hl)
  rw [List.length_map] at h
  refine h.mono ?_
  rintro e w' ⟨f, h1, h2, HD, h3, h4, h5, h6⟩
  refine ⟨f, h1, h2, w'.heap.size, fun W => SrcsL w.heap.size ps L W ∧ HD W ∧ HB W, Nat.le_refl _, ?_, ⟨(srcsL_firm _ _ _).later hsrc h2, h3, hg.stays _ _ hb (Upd.of_below h2)⟩, ?_⟩
  · intro W W' ⟨i1, i2, i3⟩ u
    have hsz := h2.size
    exact ⟨srcsL_firm _ _ _ _ _ i1 (u.mono fun k hk => Nat.le_trans hsz hk), h4.firm _ _ i2 u, hg.stays _ _ i3 (u.mono fun k hk => .inr (Nat.le_trans hsz hk))⟩
  · exact h6 noU (fun _ => SrcsL w.heap.size ps L) (L.map (·.2.2)) b K HB (srcs_L _ _ _ hpl) (fun _ => srcsL_firm _ _ _) (fun k h => h.elim) ht ⟨hg.enter, fun W W' h u => hg.stays W W' h (u.mono fun k hk => hk.imp id (fun h => Nat.le_trans h2.size h)), fun W h hn => hg.tells W h (Nat.le_trans h2.size hn)⟩ hK
theorem tot_take (L : List HE) (k : Nat) : totL ((L.take k).map (·.2.2)) ≤ totL (L.map (·.2.2)) := by
  have h2 : ∀ a b : List (List Ent), totL (a ++ b) = totL a + totL b := by intro a b; simp [totL]
  have h3 := h2 ((L.take k).map (·.2.2)) ((L.drop k).map (·.2.2))
  rw [← List.map_append, List.take_append_drop] at h3
  omega
set_option maxHeartbeats 1600000 in
set_option maxRecDepth 100000 in
theorem small_c (A : Option Addr) (c : Nat) (L : List HE) (w : World) (hs : Sl2 w A L) (hln : ∀ x ∈ L, x.2.2.length ≤ 140737488351232) :
    Calls Try.prog 35 #[.slice A L.length c] w fun e w' => e = .returned (.bool (decide (L.length + totL (L.map (·.2.2)) ≤ 4000))) ∧ Below w.heap.size w w' := by
  have hm := hs.1.1
  have HS := Lib.hid hs
  obtain ⟨n, hn⟩ : ∃ n, L.length = n := ⟨_, rfl⟩
  rw [hn] at hm ⊢
  have HN := Lib.hid hn
  have HLN := Lib.hid hln
  clear hs hn hln
  go_enter Try.func35, Try.ntmps35
  go_wp2_with fail
  go_loopw [3, 4] (fun s3 s4 wr => ∃ k q : Nat, s4 = .int .i64 k ∧ k ≤ n ∧ s3 = .int .i64 q ∧ q = n + totL ((L.take k).map (·.2.2)) ∧ (k = 0 ∨ n + totL ((L.take (k - 1)).map (·.2.2)) ≤ 4000) ∧ Below w.heap.size w wr) (fun s3 s4 wr => n - (intOf s4).toNat)
  case atStart => exact ⟨0, n, rfl, by omega, rfl, by simp [totL], .inl rfl, Below.refl _ _⟩
  case round =>
    obtain ⟨k, q, rfl, hk, rfl, hq, hprev, hb⟩ := hrel
    generalize wr = W5 at *
    have HB := Lib.hid hb
    have HQ := Lib.hid hq
    have HPR := Lib.hid hprev
    clear hb hq hprev
    have i0 : (0 : Int) ≤ k := by omega
    by_cases hlt : k < n
    · have i1 : (k : Int) < n := by omega
      obtain ⟨x, hx⟩ := getElem?_of_lt (l := L) (by rw [HN.out]; exact hlt : k < L.length)
      obtain ⟨b2, o2, hA2, _, hc2⟩ := (HS.out.1.later HB.out).at hx
      subst hA2
      obtain ⟨pn, hpn⟩ : ∃ q, x.2.2.length = q := ⟨_, rfl⟩
      have y0 : W5.cell? ⟨b2, o2 + k, none⟩ = some (.slice x.1 pn x.2.1) := by have := hc2 0 _ rfl; rw [hpn] at this; simpa using this
      have hpm : pn ≤ 140737488351232 := by rw [← hpn]; exact HLN.out x (List.mem_of_getElem? hx)
      have HNX := Lib.hid (show q + pn = n + totL ((L.take (k + 1)).map (·.2.2)) from by rw [take_suc hx, List.map_append, HQ.out]; simp [totL, hpn]; omega)
      clear hc2 hx hpn
      by_cases hq4 : q ≤ 4000
      · have j1 : (q : Int) ≤ 4000 := by omega
        have HQL := Lib.hid (show n + totL ((L.take (k + 1 - 1)).map (·.2.2)) ≤ 4000 from by rw [Nat.add_sub_cancel, ← HQ.out]; exact hq4)
        go_wp2_with fail
        go_roundw
        case rel => exact ⟨k + 1, q + pn, by first | rfl | simp, by omega, by first | rfl | simp, HNX.out, .inr HQL.out, HB.out⟩
        case measure => simp [intOf]; omega
      · have j1 : ¬ (q : Int) ≤ 4000 := by omega
        have HFIN := Lib.hid (show ¬ n + totL (L.map (·.2.2)) ≤ 4000 from by
          have h1 := tot_take L k
          rw [HQ.out] at hq4
          omega)
        go_wp2_with fail
        go_ret
        exact ⟨by rw [decide_eq_false HFIN.out]; rfl, HB.out⟩
    · have hk2 : n = k := by omega
      subst hk2
      have HE := Lib.hid (show q = n + totL (L.map (·.2.2)) from by rw [HQ.out, List.take_of_length_le (by rw [HN.out]; exact Nat.le_refl _)])
      go_wp2_with fail
      go_ret
      have hdd : decide ((q : Int) ≤ 4000) = decide (q ≤ 4000) := decide_eq_decide.2 (by omega)
      exact ⟨by rw [← HE.out, ← hdd]; rfl, HB.out⟩
def kdE (c : UInt8) (n : Int) : Ent := (⟨#[c]⟩, n, true, ⟨#[]⟩)
def kvE (c : UInt8) (n : Int) (v : List UInt8) : Ent := (⟨#[c]⟩, n, false, ⟨v.toArray⟩)
def ksX : List Ent := [kvE 97 3 [120], kdE 98 5]
def ksY : List Ent := [kvE 97 1 [119], kvE 98 2 [118], kdE 99 4]
def isB (key : ByteArray) : Bool := decide (key = ⟨#[98]⟩)
theorem ks_keep : keepL isB (groupsL (mergeL [ksX, ksY])) = [kvE 97 3 [120], kdE 98 5] := by
  have h : mergeL [ksX, ksY] = [kvE 97 3 [120], kvE 97 1 [119], kdE 98 5, kvE 98 2 [118], kdE 99 4] := by
    simp [mergeL, totL, ksX, ksY, mergeN, bestO, lessR, cmpEE, kvE, kdE, cmpE, cmpS, cmpN, or2, ByteArray.toList_eq, Op.bytesLess]
  rw [h]
  have h2 : groupsL [kvE 97 3 [120], kvE 97 1 [119], kdE 98 5, kvE 98 2 [118], kdE 99 4] = [[kvE 97 3 [120], kvE 97 1 [119]], [kdE 98 5, kvE 98 2 [118]], [kdE 99 4]] := by
    simp [groupsL, grpS, grpE, grpEnd, kvE, kdE]
  rw [h2]
  simp [keepL, pickL, bestL, newE, kvE, kdE, isB]
def ksRX : Array Value := #[.string ⟨#[97]⟩, .int .u64 3, .bool false, .string ⟨#[120]⟩, .string ⟨#[98]⟩, .int .u64 5, .bool true, .string ⟨#[]⟩]
def ksRY : Array Value := #[.string ⟨#[97]⟩, .int .u64 1, .bool false, .string ⟨#[119]⟩, .string ⟨#[98]⟩, .int .u64 2, .bool false, .string ⟨#[118]⟩, .string ⟨#[99]⟩, .int .u64 4, .bool true, .string ⟨#[]⟩]
theorem isB_c (key : ByteArray) (w : World) : Calls Try.prog 71 #[.string key] w fun e w' => e = .returned (.bool (isB key)) ∧ Below w.heap.size w w' := by
  go_enter Try.func71, Try.ntmps71
  by_cases h : key = ⟨#[98]⟩
  · have hk : isB key = true := decide_eq_true h
    subst h
    go_wp2
    go_ret
    exact ⟨by rw [hk]; rfl, Below.refl _ _⟩
  · have hk : isB key = false := decide_eq_false h
    have h2 : (key.toList == [98]) = false := by
      have := toList_ne h
      rw [show (⟨#[98]⟩ : ByteArray).toList = [98] from by rw [ByteArray.toList_eq]] at this
      exact this
    clear h
    go_wp2
    go_ret
    exact ⟨by rw [hk, ← h2]; rfl, Below.refl _ _⟩
theorem no_c (key : ByteArray) (w : World) : Calls Try.prog 72 #[.string key] w fun e w' => e = .returned (.bool false) ∧ Below w.heap.size w w' := by
  go_enter Try.func72, Try.ntmps72
  go_wp2
  go_ret
  exact ⟨rfl, Below.refl _ _⟩
set_option maxHeartbeats 3200000 in
set_option maxRecDepth 100000 in
theorem known12_c (w : World) : Calls Try.prog 29 #[] w fun e w' => e = .returned (.bool true) ∧ Below w.heap.size w w' := by
  obtain ⟨W1, hW1⟩ : ∃ Z, w.alloc (.cells #[.string ⟨#[97]⟩, .int .u64 3, .bool false, .string ⟨#[120]⟩, .string ⟨#[98]⟩, .int .u64 5, .bool true, .string ⟨#[]⟩] 53) = Z := ⟨_, rfl⟩
  obtain ⟨W2, hW2⟩ : ∃ Z, W1.alloc (.cells #[.string ⟨#[97]⟩, .int .u64 1, .bool false, .string ⟨#[119]⟩, .string ⟨#[98]⟩, .int .u64 2, .bool false, .string ⟨#[118]⟩, .string ⟨#[99]⟩, .int .u64 4, .bool true, .string ⟨#[]⟩] 53) = Z := ⟨_, rfl⟩
  obtain ⟨W3, hW3⟩ : ∃ Z, W2.alloc (.cells #[.slice (some ⟨w.heap.size, 0, none⟩) 2 2, .slice (some ⟨w.heap.size + 1, 0, none⟩) 3 3] 27) = Z := ⟨_, rfl⟩
  have z1 : W1.heap.size = w.heap.size + 1 := by rw [← hW1]; simp
  have z2 : W2.heap.size = w.heap.size + 1 + 1 := by rw [← hW2, World.size_alloc, z1]
  have r1 : W1.heap[w.heap.size]? = some (.cells ksRX 53 (0, 0)) := by rw [← hW1]; exact heap_alloc_new _ _
  have r2 : W2.heap[w.heap.size + 1]? = some (.cells ksRY 53 (0, 0)) := by rw [← hW2, ← z1]; exact heap_alloc_new _ _
  have r3 : W3.heap[w.heap.size + 1 + 1]? = some (.cells #[.slice (some ⟨w.heap.size, 0, none⟩) 2 2, .slice (some ⟨w.heap.size + 1, 0, none⟩) 3 3] 27 (0, 0)) := by rw [← hW3, ← z2]; exact heap_alloc_new _ _
  have b1 : Below w.heap.size w W1 := by rw [← hW1]; exact (Below.refl _ _).alloc (Nat.le_refl _) _
  have b2 : Below w.heap.size w W2 := by rw [← hW2]; exact b1.alloc b1.size _
  have b3 : Below w.heap.size w W3 := by rw [← hW3]; exact b2.alloc b2.size _
  have q1 : W3.heap[w.heap.size]? = some (.cells ksRX 53 (0, 0)) := by rw [← hW3, ← hW2]; exact blk_alloc (blk_alloc r1 _) _
  have q2 : W3.heap[w.heap.size + 1]? = some (.cells ksRY 53 (0, 0)) := by rw [← hW3]; exact blk_alloc r2 _
  have HQ2 := Lib.hid q2
  have HQ3 := Lib.hid r3
  have B3 := Lib.hid b3
  have HS := Lib.hid (sources12_c (some ⟨w.heap.size + 1 + 1, 0, none⟩) 2 [(some ⟨w.heap.size, 0, none⟩, 2, ksX), (some ⟨w.heap.size + 1, 0, none⟩, 3, ksY)] W3
    ⟨Sl.of_block (fun x => (okHE x).1) r3 (by rfl) (by simp), fun x hx => by
      simp only [List.mem_cons, List.not_mem_nil, or_false] at hx
      rcases hx with rfl | rfl
      · exact Sl.of_block (fun x => (okE x).1) q1 (by rfl) (by simp [ksX])
      · exact Sl.of_block (fun x => (okE x).1) q2 (by rfl) (by simp [ksY])⟩ (by simp))
  clear r1 r2 r3 b1 b2 b3 q1 q2
  go_enter Try.func29, Try.ntmps29
  go_wp2_with fail
  try rw [hW1]
  try rw [hW2]
  try rw [hW3]
  refine HS.out.mono ?_
  clear HS
  rintro _ w4 ⟨v, ps, rfl, hpl, hown, hsrc, _, hb4⟩
  obtain ⟨A, c, rfl⟩ := own_slice hown
  have hlen : (ps.map fv1).length = 2 := by rw [List.length_map, hpl]; rfl
  have hp2 : ps.length = 2 := hpl
  have HB4 := Lib.hid (B3.out.trans (hb4.mono B3.out.size))
  have HKP := Lib.hid (keepV_c A c ps [(some ⟨w.heap.size, 0, none⟩, 2, ksX), (some ⟨w.heap.size + 1, 0, none⟩, 3, ksY)] (71, #[], #[]) isB (fun _ => True) (fun _ => True) w4 (own_sl hown (fun x => (okF x).1)) (fun h => by rw [h] at hp2; cases hp2) hpl hsrc (by omega) (by simp [totL, ksX, ksY])
    ⟨enters_of Try.func71 (by kernel_rfl) rfl, fun _ _ _ _ => trivial, fun W _ _ key W' _ _ => isB_c key W'⟩ trivial (fun _ _ _ _ => trivial))
  rw [hp2, show valF (71, #[], #[]) = .func (.func 71) #[] #[] from rfl] at HKP
  rw [hlen]
  have HQ24 := Lib.hid (blk_below HQ2.out hb4)
  have HQ34 := Lib.hid (blk_below HQ3.out hb4)
  clear hlen hp2 hpl hown hsrc hb4 hW1 hW2 hW3 z1 z2
  go_wp2_with fail
  refine HKP.out.mono ?_
  clear HKP
  rintro _ w5 ⟨f, rfl, hb5, hheld⟩
  have HG := Lib.hid (heldGives_c f _ 9 w5 hheld (by simp only [List.map_cons, List.map_nil]; rw [ks_keep]; simp) (by simp only [List.map_cons, List.map_nil]; rw [ks_keep]; simp))
  have HB5 := Lib.hid (HB4.out.trans (hb5.mono HB4.out.size))
  have HQ25 := Lib.hid (blk_below HQ24.out hb5)
  have HQ35 := Lib.hid (blk_below HQ34.out hb5)
  clear hb5 hheld
  go_wp2_with fail
  refine HG.out.mono ?_
  clear HG
  rintro _ w6 ⟨v6, rfl, hown6, hb6⟩
  simp only [List.map_cons, List.map_nil] at hown6
  rw [ks_keep] at hown6
  obtain ⟨A6, c6, rfl⟩ := own_slice hown6
  have HB6 := Lib.hid (HB5.out.trans (hb6.mono HB5.out.size))
  have HQ26 := Lib.hid (blk_below HQ25.out hb6)
  have HQ36 := Lib.hid (blk_below HQ35.out hb6)
  obtain ⟨W7, hW7⟩ : ∃ Z, w6.alloc (.cells #[.string ⟨#[97]⟩, .int .u64 3, .bool false, .string ⟨#[120]⟩, .string ⟨#[98]⟩, .int .u64 5, .bool true, .string ⟨#[]⟩] 53) = Z := ⟨_, rfl⟩
  have b7 : Below w6.heap.size w6 W7 := by rw [← hW7]; exact (Below.refl _ _).alloc (Nat.le_refl _) _
  have HSM := Lib.hid (same12_c A6 c6 [kvE 97 3 [120], kdE 98 5] (some ⟨w6.heap.size, 0, none⟩) 2 [kvE 97 3 [120], kdE 98 5] W7 ((own_sl hown6 (fun x => (okE x).1)).later b7) (Sl.of_block (cs := ksRX) (fun x => (okE x).1) (by rw [← hW7]; exact heap_alloc_new _ _) (by rfl) (by simp)))
  rw [decide_eq_true rfl] at HSM
  rw [show [kvE 97 3 [120], kdE 98 5].length = 2 from rfl] at HSM ⊢
  have HB7 := Lib.hid (HB6.out.trans (b7.mono HB6.out.size))
  have HQ27 := Lib.hid (blk_below HQ26.out b7)
  have HQ37 := Lib.hid (blk_below HQ36.out b7)
  clear hb6 hown6 b7
  go_wp2_with fail
  try rw [hW7]
  refine HSM.out.mono ?_
  clear HSM
  rintro _ W8 ⟨rfl, hb8⟩
  have HB8 := Lib.hid (HB7.out.trans (hb8.mono HB7.out.size))
  have h28 := blk_below HQ27.out hb8
  have h38 := blk_below HQ37.out hb8
  have c38 : W8.cell? ⟨w.heap.size + 1 + 1, 1, none⟩ = some (.slice (some ⟨w.heap.size + 1, 0, none⟩) 3 3) := (blk_cell h38 1).trans rfl
  have hsl : Sl encE 4 W8 (some ⟨w.heap.size + 1, 0, none⟩) ksY := Sl.of_block (fun x => (okE x).1) h28 (by rfl) (by simp [ksY])
  have hsl2 := (hsl.drop_ 1).take_ 1
  have HPC := Lib.hid (pick_c (some ⟨w.heap.size + 1, 0 + 1 * 4, none⟩) 2 ((ksY.drop 1).take 1) (72, #[], #[]) (fun _ => false) (fun _ => True) W8 hsl2 (fun _ _ => trivial) (enters_of Try.func72 (by kernel_rfl) rfl) (fun key W _ _ => no_c key W))
  rw [show ((ksY.drop 1).take 1).length = 1 from rfl, show pickL (fun _ => false) ((ksY.drop 1).take 1) = some (kvE 98 2 [118]) from by simp [pickL, ksY, bestL, newE, kvE, kdE], pickV_some, show valF (72, #[], #[]) = .func (.func 72) #[] #[] from rfl] at HPC
  clear h28 h38 hsl hsl2 hb8 hW7
  go_wp2_with fail
  refine HPC.out.mono ?_
  clear HPC
  rintro _ W9 ⟨rfl, hb9⟩
  have HB9 := Lib.hid (HB8.out.trans (hb9.mono HB8.out.size))
  clear hb9
  unfold kvE
  go_wp2_with fail
  go_ret
  exact ⟨rfl, HB9.out.alloc HB9.out.size _⟩
end Go.Proofs.Ytdpijhpjicbecaa.H
namespace Go.Proofs.Ytdpijhpjicbecaa.H
open Go Go.RowKit Go.Deep Go.Shelf Go.Proofs Go.Proofs.YtdpijhpjicbecaaW.PrintWords
set_option linter.unusedVariables false
set_option linter.unusedSimpArgs false
attribute [local go_sem] Oper.semAt_some
/-- What is stored stands there already. -/
theorem bel_same {W : World} {b : Nat} {v : Value} {t : TypeId} (h : W.heap[b]? = some (.cells #[v] t (0, 0))) (n : Nat) : Below n W (W.setCell ⟨b, 0, none⟩ v) :=
  ⟨rfl, rfl, rfl, by simp [World.setCell], fun k _ => by
    by_cases e : k = b
    · subst e
      rw [blk_set h 0 v, h]
      rfl
    · exact Below.heap_setCell _ _ _ _ (by intro e2; exact e e2)⟩
set_option maxHeartbeats 1600000 in
set_option maxRecDepth 100000 in
theorem asks8_c (bo bl bb : Nat) (A : Option Addr) (c : Nat) (l : List Ent) (b : Bw) (x : Ent) (w : World) (ho : w.heap[bo]? = some (.cells #[.bool false] 4 (0, 0))) (hl : w.heap[bl]? = some (.cells #[.slice A l.length c] 27 (0, 0))) (hb : w.heap[bb]? = some (.cells b.cells 60 (0, 0)))
    (hs : Sl encE 4 w A l) (hbat : b.at w) (hx : l[0]? = some x) :
    Calls Try.prog 30 #[.string x.1, .pointer (some ⟨bo, 0, none⟩), .pointer (some ⟨bl, 0, none⟩), .pointer (some ⟨bb, 0, none⟩)] w fun e w' => e = .returned (.bool (b.has x.1)) ∧ Below w.heap.size w w' := by
  obtain ⟨b1, o1, rfl, _, hc1⟩ := hs.at hx
  have y0 : w.cell? ⟨b1, o1, none⟩ = some (.string x.1) := by have := hc1 0 _ rfl; simpa using this
  have hn0 : 0 < l.length := by cases l with | nil => cases hx | cons _ _ => simp
  obtain ⟨n, hn⟩ : ∃ n, l.length = n := ⟨_, rfl⟩
  have hm := hs.1
  rw [hn] at hl hn0 hm
  have i1 : (0 : Int) < n := by omega
  have i2 : ((n : Int) == 0) = false := by rw [beq_eq_false_iff_ne]; omega
  have i3 : ¬ (n : Int) = 0 := by omega
  have c0 : w.cell? ⟨bo, 0, none⟩ = some (.bool false) := (blk_cell ho 0).trans rfl
  have f0 : w.frozen? ⟨bo, 0, none⟩ = false := blk_frozen ho 0
  have cl : w.cell? ⟨bl, 0, none⟩ = some (.slice (some ⟨b1, o1, none⟩) n c) := (blk_cell hl 0).trans rfl
  obtain ⟨W1, hW1⟩ : ∃ Z, w.setCell ⟨bo, 0, none⟩ (.bool false) = Z := ⟨_, rfl⟩
  have hb1 : Below w.heap.size w W1 := by rw [← hW1]; exact bel_same ho _
  have HH := Lib.hid (has_c b x.1 W1 ⟨hbat.1.later hb1, hbat.2.later hb1⟩)
  have hb2 := blk_below hb hb1
  obtain ⟨bA, bc, ks, bB, bd, bh, nt⟩ := b
  obtain ⟨bf, hbf⟩ : ∃ f, Bw.has ⟨bA, bc, ks, bB, bd, bh, nt⟩ = f := ⟨_, rfl⟩
  rw [hbf] at HH ⊢
  unfold Bw.cells at HH hb2
  dsimp only at HH hb2
  obtain ⟨n1, hn1⟩ : ∃ n, ks.length = n := ⟨_, rfl⟩
  obtain ⟨n2, hn2⟩ : ∃ n, bh.length = n := ⟨_, rfl⟩
  rw [hn1, hn2] at HH hb2
  have e0 : W1.cell? ⟨bb, 0, none⟩ = some (.slice bA n1 bc) := (blk_cell hb2 0).trans rfl
  have e1 : W1.cell? ⟨bb, 1, none⟩ = some (.slice bB n2 bd) := (blk_cell hb2 1).trans rfl
  have e2 : W1.cell? ⟨bb, 2, none⟩ = some (.bool nt) := (blk_cell hb2 2).trans rfl
  have HB1 := Lib.hid hb1
  clear hc1 ho hl hb hs hbat hx hb2 hbf hn hn1 hn2 hb1
  go_enter Try.func30, Try.ntmps30
  go_wp2_with fail
  try rw [hW1]
  refine HH.out.mono ?_
  rintro _ W2 ⟨rfl, hb3⟩
  have HB2 := Lib.hid (HB1.out.trans (hb3.mono HB1.out.size))
  clear hb3 hW1
  go_wp2
  go_ret
  exact ⟨rfl, HB2.out⟩
abbrev kHull : Kd (ByteArray × ByteArray) := Kd.pair Kd.string Kd.string
abbrev kBelow : Kd (List ByteArray × List (ByteArray × ByteArray) × Bool) := Kd.pair (Kd.slice 9 Kd.string) (Kd.pair (Kd.slice 103 kHull) Kd.bool)
set_option maxRecDepth 100000 in
theorem rd_hull : Rd kHull Try.prog 103 (fun y => y.1.size ≤ 140737488351232 ∧ y.2.size ≤ 140737488351232) :=
  Rd.struct Try.underlying103 (by kernel_rfl) (.cons (Rd.string Try.underlying9) rfl (by kernel_rfl) (.one (Rd.string Try.underlying9) rfl (by kernel_rfl)))
set_option maxRecDepth 100000 in
theorem rd_below : Rd kBelow Try.prog 60 (fun y => (y.1.length * Try.prog.bytesOf 9 ≤ 140737488351232 ∧ ∀ x ∈ y.1, x.size ≤ 140737488351232) ∧ (y.2.1.length * Try.prog.bytesOf 103 ≤ 140737488351232 ∧ ∀ x ∈ y.2.1, x.1.size ≤ 140737488351232 ∧ x.2.size ≤ 140737488351232) ∧ True) :=
  Rd.struct Try.underlying60 (by kernel_rfl) (.cons (Rd.slice Try.underlying57 (by kernel_rfl) (Rd.string Try.underlying9)) rfl (by kernel_rfl) (.cons (Rd.slice Try.underlying58 (by kernel_rfl) rd_hull) rfl (by kernel_rfl) (.one (Rd.bool Try.underlying4) rfl (by kernel_rfl))))
theorem form_hull {w : World} {y : ByteArray × ByteArray} {c : List Value} (h : kHull.K w y c) : c = encHu y := by
  obtain ⟨c1, c2, rfl, h1, h2⟩ := h
  simp only [Kd.string, Kd.scalar] at h1 h2
  subst h1; subst h2
  rfl
theorem form_text {w : World} {y : ByteArray} {c : List Value} (h : Kd.string.K w y c) : c = encX y := by
  simp only [Kd.string, Kd.scalar] at h
  subst h
  rfl
theorem form_below {w : World} {y : List ByteArray × List (ByteArray × ByteArray) × Bool} {c : List Value} (h : kBelow.K w y c) : ∃ b : Bw, c = b.cells.toList ∧ b.at w ∧ b.ks = y.1 ∧ b.hs = y.2.1 := by
  obtain ⟨c1, c2, e, h1, c3, c4, rfl, h2, h3⟩ := h
  obtain ⟨A, k, rfl, _, ha⟩ := h1
  obtain ⟨B, d, rfl, _, hb⟩ := h2
  simp only [Kd.bool, Kd.scalar] at h3
  subst h3
  refine ⟨⟨A, k, y.1, B, d, y.2.1, y.2.2⟩, e, ⟨Sl.of_C (fun _ _ _ hk => form_text hk) rfl (fun _ => by simp [encX]) ha, Sl.of_C (fun _ _ _ hk => form_hull hk) rfl (fun _ => by simp [encHu]) hb⟩, rfl, rfl⟩
end Go.Proofs.Ytdpijhpjicbecaa.H
