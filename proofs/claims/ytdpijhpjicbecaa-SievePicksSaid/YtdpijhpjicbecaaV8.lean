/- The document's Keep. Conditions: sizes. -/
import Derived.Test.YtdpijhpjicbecaaV7
namespace Go.Proofs.Ytdpijhpjicbecaa.H
open Go Go.RowKit Go.Deep Go.Shelf Go.Proofs Go.Proofs.YtdpijhpjicbecaaW.PrintWords
set_option linter.unusedVariables false
set_option linter.unusedSimpArgs false
attribute [local go_sem] Oper.semAt_some
theorem srun_ex {P : Program} {S : World → Prop} {a : Act} {o : Oper} {W : World} {x : Operand} {i : Nat} {u v : Value} (ho : o.op = .extract x i) (hx : a.eval x = u) (hf : ∀ W, (Instr.extract u i).run P W = .ok v W) (hW : S W) : StepRes P S v ((execOp a.eval o).run P W) := by
  simp only [execOp, ho, hx, Sem.run_bind, Sem.run_pure, hf, Result.andThen_ok]
  exact ⟨rfl, hW⟩
theorem srun_st {P : Program} {S : World → Prop} {a : Act} {o : Oper} {W W' : World} {t : TypeId} {x y : Operand} {u v : Value} (ho : o.op = .store t x y) (hx : a.eval x = u) (hy : a.eval y = v) (hf : (Instr.storeAt t u v).run P W = .ok () W') (hW : S W') : StepRes P S undef ((execOp a.eval o).run P W) := by
  simp only [execOp, ho, hx, hy, Sem.run_bind, Sem.run_pure, hf, Result.andThen_ok]
  exact ⟨rfl, hW⟩
section
variable {σ : Type} {P : Program} {ops : Array Oper} {R : σ → World → Prop} {le : σ → σ → Prop} {kd : Nat → Nat} {V : Nat → Value} {a : Act} {l : List (Tmp × Value)} {o : Oper} {rest : List Oper} {Q : σ → Act → Prop}
/-- A writer that answers nothing. -/
theorem schainN {k : Nat} {s : σ} (s' : σ) (hk : kd k = 2) (hg : Region.wanted o (yielded ops (putL a l).tmps) = true) (hd : o.dst = none) (hle : le s s') (h : ∀ W, R s W → StepRes P (R s') undef ((execOp (putL a l).eval o).run P W)) (hr : stepList P ops R le kd V Q rest (k + 1) s' (putL a l)) :
    stepList P ops R le kd V Q (o :: rest) k s (putL a l) := by
  refine .inl ⟨hg, fun h0 => by omega, fun _ => ⟨fun x y => x = undef ∧ y = s', ⟨undef, s', rfl, rfl⟩, fun v s'' ht => ⟨ht.2 ▸ hle, ?_⟩, fun W hW => (h W hW).toT fun W' hW' => ⟨s', ⟨rfl, rfl⟩, hW'⟩⟩, fun _ h2 => absurd hk h2⟩
  obtain ⟨rfl, rfl⟩ := ht
  rw [hd]
  exact hr
end
theorem srun_alT {P : Program} {S : Value → World → Prop} {a : Act} {o : Oper} {W W' : World} {t : TypeId} {v : Value} (ho : o.op = .alloc t) (hf : (Instr.alloc t true (.tuple #[])).run P W = .ok v W') (hW : S v W') : StepResT P S ((execOp a.eval o).run P W) := by
  simp only [execOp, ho, Sem.run_bind, Sem.run_pure, hf, Result.andThen_ok]
  exact hW
/-- The box of a variable is laid somewhere on the way, and then stored to. -/
def BoxS (w : World) (o o' : Obj) (s : Nat × Nat) (W : World) : Prop := Below w.heap.size w W ∧ (s.1 = 0 ∨ (w.heap.size ≤ s.2 ∧ W.heap[s.2]? = some (if s.1 = 1 then o else o')))
def boxLe (a b : Nat × Nat) : Prop := a.1 ≤ b.1 ∧ (a.1 = 0 ∨ a.2 = b.2)
theorem boxLe_refl (a : Nat × Nat) : boxLe a a := ⟨Nat.le_refl _, .inr rfl⟩
theorem boxLe_trans (a b c : Nat × Nat) (h : boxLe a b) (k : boxLe b c) : boxLe a c := ⟨Nat.le_trans h.1 k.1, by
  rcases h.2 with h2 | h2
  · exact .inl h2
  · rcases k.2 with k2 | k2
    · exact .inl (by have := h.1; omega)
    · exact .inr (h2.trans k2)⟩
theorem BoxS.bel {w : World} {o o' : Obj} {s : Nat × Nat} {W : World} (h : BoxS w o o' s W) : Below w.heap.size w W := h.1
theorem BoxS.later {w : World} {o o' : Obj} {s : Nat × Nat} {W W' : World} (h : BoxS w o o' s W) (hb : Below W.heap.size W W') : BoxS w o o' s W' :=
  ⟨h.1.trans (hb.mono h.1.size), h.2.imp id fun ⟨h1, h2⟩ => ⟨h1, blk_below h2 hb⟩⟩
theorem store4S {W : World} {b : Nat} (h : W.heap[b]? = some (.cells #[.string ⟨#[]⟩, .int .u64 0, .bool false, .string ⟨#[]⟩] 53 (0, 0))) (e : Ent) : (Instr.storeAt 53 (.pointer (some ⟨b, 0, none⟩)) (.agg (encE e).toArray)).run Try.prog W = .ok () (W.setRow b (encE e).toArray) := by
  have hst := store4 h e
  have hl : (encE e).length = 4 := rfl
  go_simp
theorem boxS_put {w : World} {e : Ent} {bx : Nat} {W : World} (h : BoxS w (.cells #[.string ⟨#[]⟩, .int .u64 0, .bool false, .string ⟨#[]⟩] 53 (0, 0)) (.cells (encE e).toArray 53 (0, 0)) (1, bx) W) :
    (Instr.storeAt 53 (.pointer (some ⟨bx, 0, none⟩)) (.agg (encE e).toArray)).run Try.prog W = .ok () (W.setRow bx (encE e).toArray) ∧ BoxS w (.cells #[.string ⟨#[]⟩, .int .u64 0, .bool false, .string ⟨#[]⟩] 53 (0, 0)) (.cells (encE e).toArray 53 (0, 0)) (2, bx) (W.setRow bx (encE e).toArray) := by
  obtain ⟨h1, h2⟩ := h
  rcases h2 with h2 | ⟨h2, h3⟩
  · cases h2
  · exact ⟨store4S h3 e, h1.trans ((upd_setRow (S := fun k => k = bx) W (encE e).toArray rfl).bel (fun k hk => by rw [hk]; exact h2) h1.size), .inr ⟨h2, setRow_heap _ _ _ (encE e).toArray _ _ h3⟩⟩
set_option maxHeartbeats 12800000 in
set_option maxRecDepth 100000 in
theorem refKeep_c (A : Option Addr) (c : Nat) (L : List HE) (b : Bw) (w : World) (hs : Sl2 w A L) (hl : L.length + totL (L.map (·.2.2)) ≤ 1000000) (hb : b.at w) :
    Calls Try.prog 41 #[.agg b.cells, .slice A L.length c] w fun e w' => ∃ v, e = .returned v ∧ Own encE 53 4 w' w.heap.size v (keepL b.has (groupsL (mergeL (L.map (·.2.2))))) ∧ Below w.heap.size w w' := by
  obtain ⟨bA, bc, ks, bB, bd, bh, nt⟩ := b
  have HBW := Lib.hid hb
  obtain ⟨w1, hw1⟩ : ∃ Z, w.alloc (.cells #[.slice bA ks.length bc, .slice bB bh.length bd, .bool nt] 60) = Z := ⟨_, rfl⟩
  have hb1 : Below w.heap.size w w1 := by rw [← hw1]; exact (Below.refl _ _).alloc (Nat.le_refl _) _
  have hr1 : w1.heap[w.heap.size]? = some (.cells #[.slice bA ks.length bc, .slice bB bh.length bd, .bool nt] 60 (0, 0)) := by rw [← hw1]; exact heap_alloc_new _ _
  have HPK := Lib.hid (fun (PA : Option Addr) (pc : Nat) (p : List Ent) (W : World) (hb : Below w.heap.size w W) (h : Sl encE 4 W PA p) => refPick_c PA pc p ⟨bA, bc, ks, bB, bd, bh, nt⟩ W h ⟨HBW.out.1.later hb, HBW.out.2.later hb⟩)
  have HRK := Lib.hid (refKeys_c A c L w1 ⟨hs.1.later hb1, fun x hx => (hs.2 x hx).later hb1⟩ hl)
  obtain ⟨bf, hbf⟩ : ∃ f, Bw.has ⟨bA, bc, ks, bB, bd, bh, nt⟩ = f := ⟨_, rfl⟩
  rw [hbf] at HPK ⊢
  unfold Bw.cells at HPK ⊢
  dsimp only at HPK ⊢
  obtain ⟨n1, hn1⟩ : ∃ n, ks.length = n := ⟨_, rfl⟩
  obtain ⟨n2, hn2⟩ : ∃ n, bh.length = n := ⟨_, rfl⟩
  rw [hn1, hn2] at hw1 hr1 HPK ⊢
  have HR1 := Lib.hid hr1
  have HB1 := Lib.hid hb1
  obtain ⟨gl, hgl⟩ : ∃ g, groupsL (mergeL (L.map (·.2.2))) = g := ⟨_, rfl⟩
  rw [hgl] at HRK ⊢
  have HGL := Lib.hid (show gl.length ≤ 1000000 from by rw [← hgl]; exact Nat.le_trans (groups_len _) (by rw [mergeL_length]; omega))
  clear hs hb hn1 hn2 hbf hgl hr1 hb1 HBW hl
  obtain ⟨n, hn⟩ : ∃ n, L.length = n := ⟨_, rfl⟩
  rw [hn] at HRK ⊢
  clear hn
  go_enter Try.func41, Try.ntmps41
  go_wp2_with fail
  try rw [hw1]
  refine HRK.out.mono ?_
  clear HRK
  rintro _ w2 ⟨vk, LK, rfl, hlk, hmk, hb2⟩
  obtain ⟨Ak, ck, rfl⟩ := own_slice hmk.own
  have HB2 := Lib.hid (HB1.out.trans (hb2.mono HB1.out.size))
  have HR2 := Lib.hid (blk_below HR1.out hb2)
  have HSK := Lib.hid hmk.sl2.2
  obtain ⟨m, hm⟩ : ∃ m, LK.length = m := ⟨_, rfl⟩
  have HM := Lib.hid hm
  have HLK := Lib.hid hlk
  have hmm : m ≤ 1000000 := by have := congrArg List.length hlk; rw [List.length_map, hm] at this; rw [this]; exact HGL.out
  rw [hm]
  clear hb2 hmk hlk hw1 hm
  go_wp2_with fail
  go_loopw [5, 7] (fun s5 s7 wr => ∃ k : Nat, s7 = .int .i64 k ∧ k ≤ m ∧ Own encE 53 4 wr w2.heap.size s5 (keepL bf (gl.take k)) ∧ Below w2.heap.size w2 wr) (fun s5 s7 wr => m - (intOf s7).toNat)
  case atStart => exact ⟨0, rfl, by omega, by simpa [keepL] using Own.nil _ _ _ _ _, Below.refl _ _⟩
  case round =>
    obtain ⟨k, rfl, hk, ho, hbr⟩ := hrel
    obtain ⟨A1, c1, rfl⟩ := own_slice ho
    generalize wr = W5 at *
    obtain ⟨q, hq⟩ : ∃ q, keepL bf (gl.take k) = q := ⟨_, rfl⟩
    rw [hq] at ho ⊢
    have hql : q.length ≤ k := by rw [← hq]; exact Nat.le_trans (List.length_filterMap_le _ _) (by rw [List.length_take]; omega)
    have HQ := Lib.hid hq
    have HO := Lib.hid ho
    have HB5 := Lib.hid hbr
    have HBW := Lib.hid (HB2.out.trans (hbr.mono HB2.out.size))
    have i0 : (0 : Int) ≤ k := by omega
    clear ho hbr hq
    by_cases hlt : k < m
    · have i1 : (k : Int) < m := by omega
      obtain ⟨x, hx⟩ := getElem?_of_lt (l := LK) (by rw [HM.out]; exact hlt : k < LK.length)
      obtain ⟨b2, o2, hA2, _, hc2⟩ := (HSK.out.1.later HB5.out).at hx
      subst hA2
      obtain ⟨pn, hpn⟩ : ∃ q, x.2.2.length = q := ⟨_, rfl⟩
      have y0 : W5.cell? ⟨b2, o2 + k, none⟩ = some (.slice x.1 pn x.2.1) := by have := hc2 0 _ rfl; rw [hpn] at this; simpa using this
      have hgk : gl[k]? = some x.2.2 := by rw [← HLK.out, List.getElem?_map, hx]; rfl
      have HKN := Lib.hid (show keepL bf (gl.take (k + 1)) = q ++ (pickL bf x.2.2).toList from by rw [take_suc hgk, keepL_snoc, HQ.out])
      have HSX := Lib.hid ((HSK.out.2 x (List.mem_of_getElem? hx)).later HB5.out)
      have HPC := Lib.hid (show ∀ (s' : Nat × Nat) (W : World), BoxS W5 (.cells #[.string ⟨#[]⟩, .int .u64 0, .bool false, .string ⟨#[]⟩] 53 (0, 0)) (.cells (encE ((pickL bf x.2.2).getD zeroE)).toArray 53 (0, 0)) s' W → Calls Try.prog 33 #[.slice x.1 pn x.2.1, .agg #[.slice bA n1 bc, .slice bB n2 bd, .bool nt]] W (fun e W' => e = .returned (.tuple #[.agg (encE ((pickL bf x.2.2).getD zeroE)).toArray, .bool (pickL bf x.2.2).isSome]) ∧ BoxS W5 (.cells #[.string ⟨#[]⟩, .int .u64 0, .bool false, .string ⟨#[]⟩] 53 (0, 0)) (.cells (encE ((pickL bf x.2.2).getD zeroE)).toArray 53 (0, 0)) s' W') from fun s' W hW => by
        have hbl := HBW.out.trans (hW.bel.mono HBW.out.size)
        have := HPK.out x.1 x.2.1 x.2.2 W hbl (HSX.out.later hW.bel)
        rw [hpn] at this
        exact this.mono fun e W' ⟨h1, h2⟩ => ⟨h1, hW.later h2⟩)
      obtain ⟨e0, he0⟩ : ∃ e, (pickL bf x.2.2).getD zeroE = e := ⟨_, rfl⟩
      obtain ⟨ok, hok⟩ : ∃ e, (pickL bf x.2.2).isSome = e := ⟨_, rfl⟩
      rw [he0, hok] at HPC
      have HE0 := Lib.hid he0
      have HOK := Lib.hid hok
      have Y0 := Lib.hid (show ∀ (s' : Nat × Nat) (W : World), BoxS W5 (.cells #[.string ⟨#[]⟩, .int .u64 0, .bool false, .string ⟨#[]⟩] 53 (0, 0)) (.cells (encE e0).toArray 53 (0, 0)) s' W → W.cell? ⟨b2, o2 + k, none⟩ = some (.slice x.1 pn x.2.1) ∧ W.heap[w.heap.size]? = some (.cells #[.slice bA n1 bc, .slice bB n2 bd, .bool nt] 60 (0, 0)) from fun s' W hW => ⟨cell_later hW.bel y0, blk_below (blk_below HR2.out HB5.out) hW.bel⟩)
      clear hc2 hx hpn hgk he0 hok
      go_wp2_with fail
      refine wp_region_step (BoxS W5 (.cells #[.string ⟨#[]⟩, .int .u64 0, .bool false, .string ⟨#[]⟩] 53 (0, 0)) (.cells (encE e0).toArray 53 (0, 0))) boxLe boxLe_refl boxLe_trans (0, 0) [0, 0, 0, 0, 0, 0, 0, 0, 0, 2, 2] [.slice (some ⟨b2, o2, none⟩) m ck, .int .i64 (k : Int), .pointer (some ⟨b2, o2 + k, none⟩), .slice x.1 pn x.2.1, .agg #[.slice bA n1 bc, .slice bB n2 bd, .bool nt], .tuple #[.agg (encE e0).toArray, .bool ok], .tuple #[.agg (encE e0).toArray, .bool ok], .agg (encE e0).toArray, .bool ok, undef, undef] 11 (by kernel_rfl) (by kernel_rfl) ⟨(Below.refl _ _).drew, .inl rfl⟩ ?_
      simp only [List.take_succ_cons, List.take_zero, List.drop_succ_cons, List.drop_zero]
      refine schain0 ?_
      refine @schain _ _ _ _ _ _ _ _ _ _ _ _ _ _ 19 (.slice (some ⟨b2, o2, none⟩) m ck) (by rfl) (by rfl) (by kernel_rfl) (by rfl) (by exact fun s' W2 hW => srun_mv (by rfl) (by exact eval_base (by kernel_rfl) (by rfl)) hW) ?_
      refine @schain _ _ _ _ _ _ _ _ _ _ _ _ _ _ 20 (.int .i64 (k : Int)) (by rfl) (by rfl) (by kernel_rfl) (by rfl) (by exact fun s' W2 hW => srun_mv (by rfl) (by exact eval_base (by kernel_rfl) (by rfl)) hW) ?_
      refine @schain _ _ _ _ _ _ _ _ _ _ _ _ _ _ 21 (.pointer (some ⟨b2, o2 + k, none⟩)) (by rfl) (by rfl) (by kernel_rfl) (by rfl) (by exact fun s' W2 hW => srun_ia (u := .slice (some ⟨b2, o2, none⟩) m ck) (v := .int .i64 (k : Int)) (by rfl) (by exact eval_look (by kernel_rfl) (by kernel_rfl)) (by exact eval_look (by kernel_rfl) (by kernel_rfl)) (fun W => ixL _ _ _ _ _ hlt W) hW) ?_
      refine @schain _ _ _ _ _ _ _ _ _ _ _ _ _ _ 22 (.slice x.1 pn x.2.1) (by rfl) (by rfl) (by kernel_rfl) (by rfl) (by exact fun s' W2 hW => srun_ld (u := .pointer (some ⟨b2, o2 + k, none⟩)) (by rfl) (by exact eval_look (by kernel_rfl) (by kernel_rfl)) (ldSlR _ _ _ _ _ _ (Y0.out _ _ hW).1) hW) ?_
      refine @schain _ _ _ _ _ _ _ _ _ _ _ _ _ _ 23 (.agg #[.slice bA n1 bc, .slice bB n2 bd, .bool nt]) (by rfl) (by rfl) (by kernel_rfl) (by rfl) (by exact fun s' W2 hW => srun_ld (u := .pointer (some ⟨w.heap.size, 0, none⟩)) (by rfl) (by exact eval_base (by kernel_rfl) (by rfl)) (ldBw _ _ _ _ _ (Y0.out _ _ hW).2) hW) ?_
      refine @schain _ _ _ _ _ _ _ _ _ _ _ _ _ _ 24 (.tuple #[.agg (encE e0).toArray, .bool ok]) (by rfl) (by rfl) (by kernel_rfl) (by rfl) (by exact fun s' W2 hW => srun_call (vs := #[.slice x.1 pn x.2.1, .agg #[.slice bA n1 bc, .slice bB n2 bd, .bool nt]]) (by rfl) (by kernel_rfl) (enters_of Try.func33 (by kernel_rfl) (by rfl)) (HPC.out s' W2 hW)) ?_
      refine @schain _ _ _ _ _ _ _ _ _ _ _ _ _ _ 18 (.tuple #[.agg (encE e0).toArray, .bool ok]) (by rfl) (by rfl) (by kernel_rfl) (by rfl) (by exact fun s' W2 hW => srun_mv (by rfl) (by exact eval_look (by kernel_rfl) (by kernel_rfl)) hW) ?_
      refine @schain _ _ _ _ _ _ _ _ _ _ _ _ _ _ 25 (.agg (encE e0).toArray) (by rfl) (by rfl) (by kernel_rfl) (by rfl) (by exact fun s' W2 hW => srun_ex (u := .tuple #[.agg (encE e0).toArray, .bool ok]) (by rfl) (by exact eval_look (by kernel_rfl) (by kernel_rfl)) (fun W => by first | rfl | go_simp) hW) ?_
      refine @schain _ _ _ _ _ _ _ _ _ _ _ _ _ _ 26 (.bool ok) (by rfl) (by rfl) (by kernel_rfl) (by rfl) (by exact fun s' W2 hW => srun_ex (u := .tuple #[.agg (encE e0).toArray, .bool ok]) (by rfl) (by exact eval_look (by kernel_rfl) (by kernel_rfl)) (fun W => by first | rfl | go_simp) hW) ?_
      refine @schainT _ _ _ _ _ _ _ _ _ _ _ _ _ _ 8 (fun v s' => ∃ bx, v = .pointer (some ⟨bx, 0, none⟩) ∧ s' = (1, bx)) (by rfl) (by kernel_rfl) (by rfl) ⟨_, _, 0, rfl, rfl⟩ (fun _ _ h => by obtain ⟨bx, _, rfl⟩ := h; exact ⟨Nat.zero_le _, .inl rfl⟩) (by exact fun W2 hW => srun_alT (v := .pointer (some ⟨W2.heap.size, 0, none⟩)) (W' := W2.alloc (.cells #[.string ⟨#[]⟩, .int .u64 0, .bool false, .string ⟨#[]⟩] 53)) (by rfl) (by go_simp) ⟨(1, W2.heap.size), ⟨_, rfl, rfl⟩, hW.1.alloc hW.1.size _, .inr ⟨hW.1.size, heap_alloc_new _ _⟩⟩) (?_)
      rintro _ _ ⟨bx, rfl, rfl⟩
      refine @schainN _ _ _ _ _ _ _ _ _ _ _ _ _ _ (2, bx) (by rfl) (by kernel_rfl) (by rfl) ⟨Nat.le_succ 1, .inr rfl⟩ (by exact fun W2 hW => srun_st (u := .pointer (some ⟨bx, 0, none⟩)) (v := .agg (encE e0).toArray) (by rfl) (by exact eval_look (by kernel_rfl) (by kernel_rfl)) (by exact eval_look (by kernel_rfl) (by kernel_rfl)) (boxS_put hW).1 (boxS_put hW).2) ?_
      refine snil (fun W6 hW6 => ?_)
      refine Eq.mpr (congrArg (fun a => wpList _ _ _ _ a W6) (show _ = (⟨#[Value.agg #[Value.slice bA n1 bc, Value.slice bB n2 bd, Value.bool nt], Value.slice A n c, Value.pointer (some ⟨w.heap.size, 0, none⟩), undef, Value.slice none 0 0, Value.slice A1 q.length c1, Value.slice (some ⟨b2, o2, none⟩) m ck, Value.int IntKind.i64 (k : Int), Value.pointer (some ⟨bx, 0, none⟩), u9, Value.slice A n c, Value.slice (some ⟨b2, o2, none⟩) m ck, Value.int IntKind.i64 (k : Int), Value.slice (some ⟨b2, o2, none⟩) m ck, Value.int IntKind.i64 (m : Int), Value.bool true, u16, u17, Value.tuple #[Value.agg (encE e0).toArray, Value.bool ok], Value.slice (some ⟨b2, o2, none⟩) m ck, Value.int IntKind.i64 (k : Int), Value.pointer (some ⟨b2, o2 + k, none⟩), Value.slice x.fst pn x.snd.fst, Value.agg #[Value.slice bA n1 bc, Value.slice bB n2 bd, Value.bool nt], Value.tuple #[Value.agg (encE e0).toArray, Value.bool ok], Value.agg (encE e0).toArray, Value.bool ok, u27, u28, u29, u30, u31, undef], []⟩ : Act) by kernel_rfl)) ?_
      obtain ⟨hb6, hr6⟩ := hW6
      obtain ⟨hbx, hr6⟩ : W5.heap.size ≤ bx ∧ W6.heap[bx]? = some (.cells (encE e0).toArray 53 (0, 0)) := by
        rcases hr6 with h | h
        · cases h
        · exact h
      have HB6 := Lib.hid (HB5.out.trans (hb6.mono HB5.out.size))
      have HBW6 := Lib.hid (HBW.out.trans (hb6.mono HBW.out.size))
      have HO6 := Lib.hid (HO.out.below hb6)
      clear hb6 Y0 HPC y0
      cases hpk : pickL bf x.2.2 with
      | none =>
        have ho := HOK.out
        rw [hpk] at ho
        have ho : false = ok := ho
        subst ho
        have HKM := Lib.hid (show keepL bf (gl.take (k + 1)) = q from by rw [HKN.out, hpk]; simp)
        clear hpk
        go_wp2_with fail
        go_roundw
        case rel => exact ⟨k + 1, by first | rfl | simp, by omega, by rw [HKM.out]; exact HO6.out, HB6.out⟩
        case measure => simp [intOf]; omega
      | some e =>
        have ho := HOK.out
        have he := HE0.out
        rw [hpk] at ho he
        have ho : true = ok := ho
        have he : e = e0 := he
        subst ho
        subst he
        have HKM := Lib.hid (show keepL bf (gl.take (k + 1)) = q ++ [e] from by rw [HKN.out, hpk]; rfl)
        obtain ⟨x0, x1, x2, x3, _, _, _, _⟩ := four (v0 := .string e.1) (v1 := .int .u64 e.2.1) (v2 := .bool e.2.2.1) (v3 := .string e.2.2.2) hr6
        clear hpk hr6
        go_wp2_with (at_builtin; refine wpList_app rfl (.tmp 28) (.tmp 30) rfl uSlE infoE rfl (by decide) (by decide) okE (.slice A1 q.length c1) q rfl (base := w2.heap.size) ?c1 (some ⟨W6.heap.size, 0, none⟩) 1 [e] rfl ?c2 ?c3 ?c4 ?_)
        case c1 => exact HO6.out.below ((Below.refl _ _).alloc (Nat.le_refl _) _)
        case c2 => exact Sl.one okE W6 e 53 (cs := #[.string e.1, .int .u64 e.2.1, .bool e.2.2.1, .string e.2.2.2]) rfl
        case c3 => have := hql; first | omega | (simp; omega)
        case c4 => have := HB6.out.size; simp; omega
        intro v1 w1 ho1 hg1 hat1
        obtain ⟨A2, k2, rfl⟩ := own_slice ho1
        have hw56 : w2.heap.size ≤ W6.heap.size := HB6.out.size
        have HBN := Lib.hid ((HB6.out.alloc hw56 (.cells #[.string e.1, .int .u64 e.2.1, .bool e.2.2.1, .string e.2.2.2] 53)).grown hg1 (by simp; omega) (fun k hk => (HO6.out.block_lt hk).1))
        have HON := Lib.hid ho1
        clear ho1 hg1 hat1
        go_wp2
        go_roundw
        case rel => exact ⟨k + 1, by first | rfl | simp, by omega, by rw [HKM.out]; exact HON.out, HBN.out⟩
        case measure => simp [intOf]; omega
    · have hk2 : m = k := by omega
      subst hk2
      have HE := Lib.hid (show keepL bf gl = q from by rw [← HQ.out, List.take_of_length_le (by rw [← HLK.out, List.length_map, HM.out]; exact Nat.le_refl _)])
      go_wp2
      go_ret
      exact ⟨_, rfl, by rw [HE.out]; exact HO.out.weaken HB2.out.size, HBW.out⟩
end Go.Proofs.Ytdpijhpjicbecaa.H
