/- merge.Keys: its iterator gives what is merged key by key. Conditions: sizes. (genkey.py) -/
import Derived.Test.YtdpijhpjicbecaaGOf3
import Derived.Test.YtdpijhpjicbecaaGgS
import Derived.Test.YtdpijhpjicbecaaUIg
import Derived.BigQuiet
import Derived.Sort.CutIn
import Derived.Laws.EntriesVeiled
namespace Go.Proofs.Ytdpijhpjicbecaa.H
open Go Go.RowKit Go.Deep Go.Shelf Go.Proofs Go.Proofs.YtdpijhpjicbecaaW.PrintWords
set_option linter.unusedVariables false
set_option linter.unusedSimpArgs false
attribute [local go_sem] Oper.semAt_some
/-- A drawn region that but reads, within a round: walked once. -/
theorem wpIn_region_rndQ {lp n id : Nat} {P : Program} {Q : Exit → Act → World → Prop} {a : Act} {w : World} {l : List Oper} (hm : P.follows .mixedOrders = true) (hnd : l.all noDefer = true) (hQ : ¬ LetsOut Q) (hB : Region.lexB .any l.toArray = true)
    (h : wpQuiet P l.toArray (fun w' => ∃ n, w' = w.drewN n) (fun a' => ∀ w', (∃ n, w' = w.drewN n) → Q .normal a' w') l a) : (Code.region id l.toArray true).wpIn (Fence.wide.inRound lp) n P Q a w := by
  refine wpIn_region_rnd hm hnd hQ ?_
  simp only [Region.lexB, Bool.and_eq_true] at hB
  refine wpAny_of_quiet (C := fun w' => ∃ n, w' = w.drewN n) (Q := fun a' => ∀ w', (∃ n, w' = w.drewN n) → Q .normal a' w') (fun _ w' hw' h => h w' hw') _ _ _ _ ⟨1, rfl⟩ ?_
  have := wpAnyQ_lex (C := fun w' => ∃ n, w' = w.drewN n) (md := .any) hB.1 l 0 (Array.replicate l.toArray.size false) a (by simp) (by simpa using hB.2) h
  simpa using this
theorem Same.upd {T : Nat → Prop} {W W' : World} (h : Same T W W') : Upd (fun k => ¬ T k) W W' := ⟨h.os, h.tape, h.output, h.size, fun k _ hn => h.block k (Classical.not_not.1 hn)⟩
theorem Same.drewN (T : Nat → Prop) (w : World) (n : Nat) : Same T w (w.drewN n) := ⟨rfl, rfl, rfl, Nat.le_refl _, fun _ _ => rfl⟩
/-- A list of entries as a slice in the blocks F. -/
def encR (x : List Ent) (args : Array Value) (F : Nat → Prop) (W : World) : Prop := ∃ A c, args = #[.slice A x.length c] ∧ Sl encE 4 W A x ∧ (∀ k, F k → k < W.heap.size) ∧ ∀ b o, A = some ⟨b, o, none⟩ → F b
theorem encR_ok : EncW encR := by
  refine ⟨fun {x a F W k} h hk => ?_, fun {x a F W W'} h hs => ?_⟩
  · obtain ⟨A, c, _, _, h, _⟩ := h
    exact h k hk
  · obtain ⟨A, c, h1, h2, h3, h4⟩ := h
    exact ⟨A, c, h1, h2.upd hs.upd (fun b o e h => h (h4 b o e)), fun k hk => Nat.lt_of_lt_of_le (h3 k hk) hs.size, h4⟩
/-- The box of the iterator over all. -/
def BoxF (n₀ : Nat) (U : Nat → Prop) (b : Nat) (f : FV) (W : World) : Prop := b < n₀ ∧ ¬ U b ∧ W.heap[b]? = some (.cells #[valF f] 31 (0, 0))
theorem BoxF.upd {n₀ : Nat} {U X : Nat → Prop} {b : Nat} {f : FV} {W W' : World} (h : BoxF n₀ U b f W) (u : Upd X W W') (hX : ∀ k, X k → U k ∨ n₀ ≤ k) : BoxF n₀ U b f W' :=
  ⟨h.1, h.2.1, u.heap h.2.2 fun hx => by
    rcases hX b hx with k | k
    · exact h.2.1 k
    · have := h.1; omega⟩
/-- On the way within a round: the groups d, the group q under way, at Wc. -/
def KeyMid (J : List (List Ent) → (Nat → Prop) → World → Prop) (clo : Obj) (n b2 b3 : Nat) (d : List (List Ent)) (q : List Ent) (S' : Nat → Prop) (W' Wc : World) : Prop :=
  ∃ (T3 : Nat → Prop) (v : Value), Grow S' (fun k => T3 k ∨ k = b2 ∨ k = b3 ∨ v.ownBlock = some k) W' ∧ Upd S' W' Wc ∧ (¬ T3 b2 ∧ ¬ T3 b3 ∧ b2 ≠ b3 ∧ S' b3 ∧ ∀ k, v.ownBlock = some k → k ≠ b2 ∧ k ≠ b3 ∧ ¬ T3 k) ∧ J d T3 Wc ∧ Wc.heap[b3]? = some (.cells #[v] 27 (0, 0)) ∧
    Own encE 53 4 Wc n v q ∧ Wc.heap[b2]? = some clo ∧ q.length < 2932031007319
theorem KeyMid.drewN {J : List (List Ent) → (Nat → Prop) → World → Prop} {clo : Obj} {n b2 b3 : Nat} {d : List (List Ent)} {q : List Ent} {S' : Nat → Prop} {W' Wc : World} (h : KeyMid J clo n b2 b3 d q S' W' Wc) (hJ : Foot J) (m : Nat) : KeyMid J clo n b2 b3 d q S' W' (Wc.drewN m) := by
  obtain ⟨T3, v, mgr, mu, md, mj, mc, mo, mr2, mb⟩ := h
  exact ⟨T3, v, mgr, mu.trans (Upd.drewN _ _), md, hJ.move mj (Same.drewN _ _ _), mc, mo.upd (Upd.drewN (S := fun _ => False) _ _) (fun _ _ h => h), mr2, mb⟩
/-- What the caller of Keys' iterator has, and the iterator's own blocks. -/
structure KeyAt (J : List (List Ent) → (Nat → Prop) → World → Prop) (clo : Obj) (n b2 b3 : Nat) (p : List Ent) (S : Nat → Prop) (W : World) : Prop where
  ex : ∃ T v, (∀ k, S k ↔ T k ∨ k = b2 ∨ k = b3 ∨ v.ownBlock = some k) ∧ (¬ T b2 ∧ ¬ T b3 ∧ b2 ≠ b3 ∧ ∀ k, v.ownBlock = some k → k ≠ b2 ∧ k ≠ b3 ∧ ¬ T k) ∧ J (grpS p).1 T W ∧ W.heap[b3]? = some (.cells #[v] 27 (0, 0)) ∧ Own encE 53 4 W n v (grpS p).2
  r2 : W.heap[b2]? = some clo
theorem keyAt_foot {J : List (List Ent) → (Nat → Prop) → World → Prop} (h : Foot J) (clo : Obj) (n b2 b3 : Nat) : Foot (KeyAt J clo n b2 b3) := by
  refine ⟨fun {s S W k} h1 hk => ?_, fun {s S W W'} h1 hs => ?_⟩
  · obtain ⟨T, v, hS, _, hj, hc, ho⟩ := h1.ex
    rcases (hS k).1 hk with hk | rfl | rfl | hk
    · exact h.lt hj hk
    · exact blk_lt h1.r2
    · exact blk_lt hc
    · exact (ho.block_lt hk).2
  · obtain ⟨T, v, hS, hn, hj, hc, ho⟩ := h1.ex
    exact ⟨⟨T, v, hS, hn, h.move hj (hs.mono fun k hk => (hS k).2 (.inl hk)), (hs.block _ ((hS _).2 (.inr (.inr (.inl rfl))))).trans hc, ho.move (fun k hk _ => hs.block k ((hS k).2 (.inr (.inr (.inr hk)))))⟩, (hs.block _ ((hS _).2 (.inr (.inl rfl)))).trans h1.r2⟩
/-- The entry's box and the append's row are new; the list's box is written. -/
theorem KeyMid.app {J : List (List Ent) → (Nat → Prop) → World → Prop} {clo : Obj} {n b2 b3 c : Nat} {A : Option Addr} {d : List (List Ent)} {q p : List Ent} {x : Ent} {S' : Nat → Prop} {W' Wc w1 : World} {v1 : Value} {o : Obj} (h : KeyMid J clo n b2 b3 d q S' W' Wc) (hJ : Foot J)
    (hv : Wc.heap[b3]? = some (.cells #[.slice A q.length c] 27 (0, 0))) (hp : grpS (p ++ [x]) = (d, q ++ [x])) (ho : Own encE 53 4 w1 n v1 (q ++ [x])) (hg : (Wc.alloc o).grownBy w1 (Value.slice A q.length c).ownBlock) (hat : v1.ownBlock = (Value.slice A q.length c).ownBlock ∨ v1.ownBlock = some (Wc.heap.size + 1)) :
    w1.frozen? ⟨b3, 0, none⟩ = false ∧ w1.cell? ⟨b3, 0, none⟩ = some (.slice A q.length c) ∧ ∃ T', Grow S' T' W' ∧ Upd S' W' (w1.setCell ⟨b3, 0, none⟩ v1) ∧ KeyAt J clo n b2 b3 (p ++ [x]) T' (w1.setCell ⟨b3, 0, none⟩ v1) := by
  obtain ⟨T3, v, mgr, mu, ⟨m2, m3, m23, mS3, mv⟩, mj, mc, mo, mr2, mb⟩ := h
  have ev : v = .slice A q.length c := by rw [mc] at hv; injection hv with hv; injection hv with hv; simpa using hv
  subst ev
  have r3 := blk_grown (blk_alloc mc o) hg (fun e => (mv _ e.symm).2.1 rfl)
  have r2 := blk_grown (blk_alloc mr2 o) hg (fun e => (mv _ e.symm).1 rfl)
  have hlt3 := blk_lt mc
  have hlt2 := blk_lt mr2
  have hsz : (Wc.alloc o).heap.size = Wc.heap.size + 1 := by simp
  have hW : W'.heap.size ≤ Wc.heap.size := mu.size
  have hv1 : ∀ k, v1.ownBlock = some k → (Value.slice A q.length c).ownBlock = some k ∨ k = Wc.heap.size + 1 := fun k hk => by
    rcases hat with h | h
    · exact .inl (by rw [← h]; exact hk)
    · rw [h] at hk
      injection hk with hk
      exact .inr hk.symm
  have hltv : ∀ k, (Value.slice A q.length c).ownBlock = some k → k < Wc.heap.size := fun k hk => (mo.block_lt hk).2
  have hn3 : ∀ k, v1.ownBlock = some k → k ≠ b3 := fun k hk => by
    rcases hv1 k hk with h | h
    · exact (mv k h).2.1
    · omega
  have hn2 : ∀ k, v1.ownBlock = some k → k ≠ b2 := fun k hk => by
    rcases hv1 k hk with h | h
    · exact (mv k h).1
    · omega
  have hnT : ∀ k, v1.ownBlock = some k → ¬ T3 k := fun k hk ht => by
    rcases hv1 k hk with h | h
    · exact (mv k h).2.2 ht
    · have := hJ.lt mj ht; omega
  have u1 : Upd (fun k => (Value.slice A q.length c).ownBlock = some k) Wc w1 := (Upd.alloc Wc _).trans (Upd.of_grown hg (fun k hk => hk))
  have u2 : Upd (fun k => k = b3) w1 (w1.setCell ⟨b3, 0, none⟩ v1) := Upd.setCell _ _ _ rfl
  refine ⟨blk_frozen r3 0, (blk_cell r3 0).trans rfl, fun k => T3 k ∨ k = b2 ∨ k = b3 ∨ v1.ownBlock = some k, fun k hk => ?_, (mu.step u1 (fun k hk => mgr k (.inr (.inr (.inr hk))))).step u2 (fun k hk => .inl (by rw [hk]; exact mS3)), ⟨⟨T3, v1, fun _ => Iff.rfl, ⟨m2, m3, m23, fun k hk => ⟨hn2 k hk, hn3 k hk, hnT k hk⟩⟩, ?_, blk_set r3 0 _, ?_⟩, ?_⟩⟩
  · rcases hk with h | h | h | h
    · exact mgr k (.inl h)
    · exact mgr k (.inr (.inl h))
    · exact mgr k (.inr (.inr (.inl h)))
    · rcases hv1 k h with h | h
      · exact mgr k (.inr (.inr (.inr h)))
      · exact .inr (by omega)
  · rw [hp]
    exact hJ.move (hJ.move mj (u1.same fun k hk => ⟨hJ.lt mj hk, fun h => (mv k h).2.2 hk⟩)) (u2.same fun k hk => ⟨Nat.lt_of_lt_of_le (hJ.lt mj hk) u1.size, fun h => m3 (by rw [← h]; exact hk)⟩)
  · rw [hp]
    exact ho.upd u2 (fun k hk e => hn3 k hk e)
  · exact u2.heap r2 m23
set_option maxHeartbeats 3200000 in
set_option maxRecDepth 100000 in
theorem keys1_it (n₀ : Nat) (U : Nat → Prop) (I0 I1 : World → Prop) (L : List Ent) (ba : Nat) (f : FV) (hf : IterUV Try.prog (valF f) encA n₀ U I0 I1 I1 L) (hI0 : Firm n₀ I0) (hI1 : Firm n₀ I1) (hUn : ∀ k, U k → k < n₀) (hL : L.length < 2932031007319) (W : World) (hsz : n₀ ≤ W.heap.size) :
    IterG Try.prog 65 #[] #[.pointer (some ⟨ba, 0, none⟩)] encR n₀ U (fun W => I0 W ∧ BoxF n₀ U ba f W) (fun W => I1 W ∧ BoxF n₀ U ba f W) (fun W => I1 W ∧ BoxF n₀ U ba f W) (groupsL L) W := by
  intro fn cap J Jx T hJ hJx hT h0 hi0 hY
  obtain ⟨hi0, hbox⟩ := hi0
  obtain ⟨gf, fa, lb, e, henter, hseq⟩ := hf
  have e : valF f = .func (.func gf) fa lb := e
  obtain ⟨W2, hW2⟩ : ∃ W2, (W.alloc (.cells #[.func fn #[] cap] 99)).alloc (.cells #[.slice none 0 0] 27) = W2 := ⟨_, rfl⟩
  have hb2 : Below W.heap.size W W2 := by rw [← hW2]; exact ((Below.refl _ _).alloc (Nat.le_refl _) _).alloc (by simp) _
  have r2 : W2.heap[W.heap.size]? = some (.cells #[.func fn #[] cap] 99 (0, 0)) := by rw [← hW2]; exact blk_alloc (heap_alloc_new _ _) _
  have r3 : W2.heap[W.heap.size + 1]? = some (.cells #[.slice none 0 0] 27 (0, 0)) := by rw [← hW2]; simpa using heap_alloc_new (W.alloc (.cells #[.func fn #[] cap] 99)) (.cells #[.slice none 0 0] 27)
  have hlt : ∀ k, T k → k < W.heap.size := fun k hk => hJ.lt h0 hk
  have hst0 : KeyAt J (.cells #[.func fn #[] cap] 99 (0, 0)) W.heap.size W.heap.size (W.heap.size + 1) [] (fun k => T k ∨ k = W.heap.size ∨ k = W.heap.size + 1 ∨ (Value.slice none 0 0).ownBlock = some k) W2 :=
    ⟨⟨T, _, fun _ => Iff.rfl, ⟨fun h => by have := hlt _ h; omega, fun h => by have := hlt _ h; omega, by omega, fun k hk => by cases hk⟩, hJ.move h0 (Same.of_below hb2 hlt), r3, Own.nil _ _ _ _ _⟩, r2⟩
  have hcb : W2.cell? ⟨ba, 0, none⟩ = some (.func (.func gf) fa lb) := by
    have := (hbox.upd (Upd.of_below (S := fun _ => False) hb2) (fun k h => h.elim)).2.2
    rw [← e]
    exact (blk_cell this 0).trans rfl
  rw [← hW2] at hcb
  have HY := Lib.hid hY
  have HJ := Lib.hid hJ
  have HJX := Lib.hid hJx
  have H0 := Lib.hid h0
  have HT := Lib.hid hT
  have HB2 := Lib.hid hb2
  have HLT := Lib.hid hlt
  have HBX := Lib.hid hbox
  have HST0 := Lib.hid hst0
  have HI0 := Lib.hid ((hI0).later hi0 hb2)
  have HUN := Lib.hid hUn
  have HSZ := Lib.hid hsz
  have HLL := Lib.hid hL
  have HI1 := Lib.hid hI1
  clear hY hJx h0 hT hb2 hlt hbox hst0 hi0 hUn hsz r2 r3 hL e
  have HWE := Lib.hid hW2
  clear hW2
  refine (callsIn_wide (n := 8)).1 ?_
  refine callsIn_of_wp_marks Try.func65 rfl trivial ?_ rfl
  simp only [Try.ntmps65, List.size_toArray, List.length_cons, List.length_nil, Nat.reduceAdd, Nat.reduceSub, Array.replicate_succ, Array.replicate_zero, List.push_toArray, List.append_toArray, List.nil_append, List.cons_append]
  gi_wp2
  rw [HWE.out]
  -- what the caller has at the iterator's state
  have HUW := Lib.hid (show ∀ (S' T1 : Nat → Prop) (W' : World), Grow (fun k => T k ∨ k = W.heap.size ∨ k = W.heap.size + 1 ∨ (Value.slice none 0 0).ownBlock = some k) S' W2 → Upd (fun k => (T k ∨ k = W.heap.size ∨ k = W.heap.size + 1 ∨ (Value.slice none 0 0).ownBlock = some k) ∨ U k) W2 W' → (∀ k, T1 k → S' k) → Grow T T1 W ∧ Upd (fun k => T k ∨ U k) W W' from fun S' T1 W' hg hu hS => by
    have hle : W.heap.size ≤ W2.heap.size := HB2.out.size
    refine ⟨fun k hk => ?_, (Upd.of_below HB2.out).step hu (fun k hk => ?_)⟩
    · rcases hg k (hS k hk) with (h | h | h | h) | h
      · exact .inl h
      · exact .inr (by omega)
      · exact .inr (by omega)
      · cases h
      · exact .inr (by omega)
    · rcases hk with (h | h | h | h) | h
      · exact .inl (.inl h)
      · exact .inr (by omega)
      · exact .inr (by omega)
      · cases h
      · exact .inl (.inr h))
  have HBOX := Lib.hid (show ∀ W' : World, Upd (fun k => T k ∨ U k) W W' → BoxF n₀ U ba f W' from fun W' u => HBX.out.upd u (fun k hk => by
    rcases hk with h | h
    · exact .inr (HT.out k h)
    · exact .inl h))
  have HPRE := Lib.hid (show ∀ (p : List Ent) (x : Ent), p ++ [x] <+: L → ∀ (o : Ent) (r : List Ent), (grpS p).2 = o :: r → ¬ o.1 = x.1 → (grpS p).1 ++ [(grpS p).2] <+: groupsL L from fun p x hp o r hs hk => by
    have := grp_prefix hp
    rw [grpS_snoc, grpE_close hs hk] at this
    exact this)
  refine rangeU (gf := gf) (fa := fa) (lb := lb) rfl henter (encs := encA) (n₀ := n₀) (l := L) hseq hI0 hI1 hI1 (fun _ => rfl)
    (KeyAt J (.cells #[.func fn #[] cap] 99 (0, 0)) W.heap.size W.heap.size (W.heap.size + 1))
    (fun c p S' W' => (∃ T1 g, (∀ k, T1 k → S' k) ∧ (∀ k, S' k → k < W'.heap.size) ∧ g <+: groupsL L ∧ Jx g T1 W') ∧ c = .ret)
    (fun p x => fun a' S' W' => ∃ b7 S0, W'.heap[b7]? = some (.cells (encE x).toArray 53 (0, 0)) ∧ KeyAt J (.cells #[.func fn #[] cap] 99 (0, 0)) W.heap.size W.heap.size (W.heap.size + 1) p S0 W' ∧ (∀ k, S' k ↔ S0 k ∨ k = b7) ∧ ¬ S0 b7 ∧ a' = ({ tmps := #[.func fn #[] cap, .pointer (some ⟨ba, 0, none⟩), .pointer (some ⟨W.heap.size, 0, none⟩), .pointer (some ⟨W.heap.size + 1, 0, none⟩), .pointer (some ⟨b7, 0, none⟩), .func (.func gf) fa lb, .agg (encE x).toArray, undef, undef, undef, undef, undef, undef, undef, undef, undef, undef, undef, undef, undef, undef, undef, undef, undef, undef, undef, undef, undef, undef, undef, undef, undef, undef], defers := [] } : Act))
    (keyAt_foot HJ.out _ _ _ _)
    (fun c => ⟨fun {s S' W' k'} h hk => by
        obtain ⟨⟨T1, g, hS, hl, _, hj⟩, _⟩ := h
        exact hl k' hk,
      fun {s S' W' W''} h hs => by
        obtain ⟨⟨T1, g, hS, hl, hg, hj⟩, hc⟩ := h
        exact ⟨⟨T1, g, hS, fun k hk => Nat.lt_of_lt_of_le (hl k hk) hs.size, hg, HJX.out.move hj (hs.mono fun k' hk => hS k' hk)⟩, hc⟩⟩)
    (fun p x => foot_box (keyAt_foot HJ.out _ _ _ _) p x (fun b7 => _) _)
    _ (fun k hk => by
      have := HSZ.out
      rcases hk with h | h | h | h
      · exact HT.out k h
      · omega
      · omega
      · cases h) (Nat.le_trans HSZ.out HB2.out.size) HST0.out HI0.out ?assign ?body ?done ?stop
  case assign =>
    intro lp p x T1 W' K hi him hg hu hp hK
    have r8 := heap_alloc_new W' (.cells #[.string ⟨#[]⟩, .int .u64 0, .bool false, .string ⟨#[]⟩] 53)
    have hst := store4 r8 x
    have r9 := setRow_heap _ _ _ (encE x).toArray _ _ r8
    have hlt1 := fun k hk => (keyAt_foot HJ.out _ _ _ _).lt (k := k) hi hk
    dsimp only [encA]
    gi_wp2
    refine hK _ (fun k => T1 k ∨ k = W'.heap.size) _ (fun k hk => by rcases hk with h | rfl; exact .inl h; exact .inr (Nat.le_refl _)) ?_ ⟨W'.heap.size, T1, r9, ?_, fun _ => Iff.rfl, (fun h => Nat.lt_irrefl _ (hlt1 _ h)), rfl⟩
    · exact (Upd.alloc _ _).step (upd_setRow (S := fun k => k = W'.heap.size) _ _ rfl) (fun k hk => .inr (by omega))
    · exact ((keyAt_foot HJ.out _ _ _ _).move hi (same_alloc _ _ hlt1)) |> fun h => (keyAt_foot HJ.out _ _ _ _).move h (same_setRow _ _ (fun h2 => Nat.lt_irrefl _ (hlt1 _ h2)))
  case body =>
    rintro lp p x a' S' W' ⟨b7, S0, r7, hst, hS', hn7, rfl⟩ him hg hu hp
    obtain ⟨T1, v, hS, ⟨n2, n3, n23, nv⟩, hj, hc, ho⟩ := hst.ex
    have hr2 := hst.r2
    have HPL := Lib.hid (show (grpS p).2.length < 2932031007319 from by
      have h1 := hp.length_le
      have h2 := congrArg List.length (grpFold_flat p ([], []))
      have h3 := HLL.out
      simp at h1 h2
      show (grpS p).2.length < _
      unfold grpS
      omega)
    have hsub : ∀ k, S0 k → S' k := fun k hk => (hS' k).2 (.inl hk)
    have KM := Lib.hid (show KeyMid J (.cells #[.func fn #[] cap] 99 (0, 0)) W.heap.size W.heap.size (W.heap.size + 1) (grpS p).1 (grpS p).2 S' W' W' from
      ⟨T1, v, fun k hk => .inl (hsub k ((hS k).2 hk)), Upd.refl _ _, ⟨n2, n3, n23, hsub _ ((hS _).2 (.inr (.inr (.inl rfl)))), nv⟩, hj, hc, ho, hr2, HPL.out⟩)
    have HX7 := Lib.hid r7
    obtain ⟨A, c, rfl⟩ := own_slice ho
    have hle2 : W.heap.size ≤ W2.heap.size := HB2.out.size
    have HUW1 := Lib.hid (HUW.out S' T1 W' hg hu (fun k hk => hsub k ((hS k).2 (.inl hk))))
    have HP := Lib.hid hp
    have HI := Lib.hid him
    have c1 : W'.cell? ⟨W.heap.size + 1, 0, none⟩ = some (.slice A (grpS p).2.length c) := (blk_cell hc 0).trans rfl
    have x0 := boxEnt (e := x) r7 0 _ rfl
    have HSL := Lib.hid (own_sl ho (fun x => (okE x).1))
    have HFB := Lib.hid (own_addr ho)
    obtain ⟨d, q, hdq⟩ : ∃ d q, grpS p = (d, q) := ⟨_, _, rfl⟩
    have HDQ := Lib.hid hdq
    have HJ1 := Lib.hid hj
    have HS := Lib.hid hS
    have HS' := Lib.hid hS'
    have HN := Lib.hid (show (¬ T1 W.heap.size ∧ ¬ T1 (W.heap.size + 1)) ∧ ¬ S0 b7 from ⟨⟨n2, n3⟩, hn7⟩)
    have HNV := Lib.hid nv
    have HC3 := Lib.hid hc
    have HR2 := Lib.hid hr2
    have HOW := Lib.hid ho
    simp only [hdq] at KM HPL c1 HSL HJ1 HOW HNV HC3 HS HFB
    clear hst hS hS' n2 n3 n23 nv hj hc ho hr2 hn7 hsub hp hg hu him hdq r7
    have hJd : ∀ (n : Nat), J d T1 (W'.drewN n) := fun n => HJ.out.move HJ1.out (Same.drewN _ _ _)
    have KMD := Lib.hid (fun (n : Nat) => KM.out.drewN hJ n)
    have HXD := Lib.hid (show ∀ n : Nat, (W'.drewN n).heap[b7]? = some (.cells (encE x).toArray 53 (0, 0)) from fun n => HX7.out)
    have HID := Lib.hid (show ∀ n : Nat, I1 (W'.drewN n) from fun n => hI1 _ _ HI.out (Upd.drewN _ _))
    have HUD := Lib.hid (show ∀ n : Nat, Upd (fun k => T k ∨ U k) W (W'.drewN n) from fun n => HUW1.out.2.trans (Upd.drewN _ _))
    have HJD := Lib.hid hJd
    clear hJd
    cases q with
    | nil =>
      obtain ⟨q, hq⟩ : ∃ q : List Ent, [] = q := ⟨_, rfl⟩
      have HG := Lib.hid (show grpS (p ++ [x]) = (d, q ++ [x]) from by subst hq; rw [grpS_snoc, HDQ.out, grpE_nil rfl]; rfl)
      have HQ := Lib.hid hq
      clear hq
      rw [show ([] : List Ent).length = 0 from rfl] at c1
      gi_wp2_with fail
      refine wpIn_region_rndQ (by kernel_rfl) (by kernel_rfl) (no_letsOut fun a w h => h) (by kernel_rfl) ?_
      repeat (go_big_quiet_step (fail))
      refine wpQuiet_nil ?_
      intro _ hw'
      obtain ⟨nq, hw''⟩ := hw'
      subst hw''
      gi_upto_region 7 with fail
      have KM := Lib.hid (KMD.out nq)
      have HX7 := Lib.hid (HXD.out nq)
      have hq := HQ.out
      have HGR := HG.out
      rw [hq] at KM
      clear KMD HXD c1 x0
      generalize W'.drewN nq = Wc at *
      -- the entry comes behind what is there: KM : KeyMid .. d q, HX7 : its box
      obtain ⟨T3, vc, mgr, mu, md, mj, mc, mo, mr2, mb⟩ := KM.out
      obtain ⟨A, c, rfl⟩ := own_slice mo
      have ux := boxEnt (e := x) HX7.out
      have x0 := ux 0 _ rfl
      have x1 := ux 1 _ rfl
      have x2 := ux 2 _ rfl
      have x3 := ux 3 _ rfl
      have c1 : Wc.cell? ⟨W.heap.size + 1, 0, none⟩ = some (.slice A q.length c) := (blk_cell mc 0).trans rfl
      have hwn : W.heap.size ≤ Wc.heap.size := Nat.le_trans (Nat.le_succ _) (Nat.le_of_lt (blk_lt mc))
      have HO := Lib.hid mo
      have HMC := Lib.hid mc
      have HL := Lib.hid mb
      clear hq ux mgr mu md mj mc mo mr2 mb
      first | refine wpIn_block ?_ | skip
      refine wpIn_region_rndL (by kernel_rfl) (no_letsOut fun a w h => h) ?_
      go_wp2_with (at_builtin; refine wpList_app rfl (.tmp 23) (.tmp 25) rfl uSlE infoE rfl (by decide) (by decide) okE (.slice A q.length c) q rfl (base := W.heap.size) ?c1 (some ⟨Wc.heap.size, 0, none⟩) 1 [x] rfl ?c2 ?c3 ?c4 ?_)
      case c1 => exact HO.out.below ((Below.refl _ _).alloc (Nat.le_refl _) _)
      case c2 => exact Sl.one okE Wc x 53 (cs := #[.string x.1, .int .u64 x.2.1, .bool x.2.2.1, .string x.2.2.2]) rfl
      case c3 => have := HL.out; simp; omega
      case c4 => simp; omega
      intro v1 w1 ho1 hg1 hat1
      obtain ⟨A1, k1, rfl⟩ := own_slice ho1
      simp only [List.length_append, List.length_cons, List.length_nil, Nat.zero_add] at ho1 hat1 ⊢
      obtain ⟨f3, d3, HFIN⟩ := KM.out.app hJ HMC.out HGR ho1 hg1 hat1
      have HFIN := Lib.hid HFIN
      clear ho1 hg1 hat1
      go_wp2
      exact HFIN.out
    | cons o r =>
      obtain ⟨b1, o1, hA1, hb1, hc1⟩ := HSL.out.at (i := 0) (x := o) rfl
      subst hA1
      have y0 : W'.cell? ⟨b1, o1, none⟩ = some (.string o.1) := by have := hc1 0 _ rfl; simpa using this
      have z0 : (0 : Int) < ((r.length : Int) + 1) := by omega
      have z1 : (0 : Int) < ((o :: r).length : Int) := by first | (simp; done) | (simp; omega)
      clear hc1 hb1
      by_cases hk : o.1 = x.1
      · have hkb : (o.1.toList == x.1.toList) = true := by rw [hk]; simp
        have HGR : grpS (p ++ [x]) = (d, (o :: r) ++ [x]) := by rw [grpS_snoc, HDQ.out, grpE_open rfl hk]
        obtain ⟨q, hq⟩ : ∃ q : List Ent, o :: r = q := ⟨_, rfl⟩
        have HQ := Lib.hid hq
        have HG := Lib.hid HGR
        clear hk hq HGR
        gi_wp2_with fail
        refine wpIn_region_rndQ (by kernel_rfl) (by kernel_rfl) (no_letsOut fun a w h => h) (by kernel_rfl) ?_
        repeat (go_big_quiet_step (fail))
        refine wpQuiet_nil ?_
        intro _ hw'
        obtain ⟨nq, hw''⟩ := hw'
        subst hw''
        gi_upto_region 7 with fail
        have KM := Lib.hid (KMD.out nq)
        have HX7 := Lib.hid (HXD.out nq)
        have HGR := HG.out
        have hq := HQ.out
        rw [hq] at KM HGR
        clear KMD HXD c1 x0 y0 z0 z1 hkb
        generalize W'.drewN nq = Wc at *
        -- the entry comes behind what is there: KM : KeyMid .. d q, HX7 : its box
        obtain ⟨T3, vc, mgr, mu, md, mj, mc, mo, mr2, mb⟩ := KM.out
        obtain ⟨A, c, rfl⟩ := own_slice mo
        have ux := boxEnt (e := x) HX7.out
        have x0 := ux 0 _ rfl
        have x1 := ux 1 _ rfl
        have x2 := ux 2 _ rfl
        have x3 := ux 3 _ rfl
        have c1 : Wc.cell? ⟨W.heap.size + 1, 0, none⟩ = some (.slice A q.length c) := (blk_cell mc 0).trans rfl
        have hwn : W.heap.size ≤ Wc.heap.size := Nat.le_trans (Nat.le_succ _) (Nat.le_of_lt (blk_lt mc))
        have HO := Lib.hid mo
        have HMC := Lib.hid mc
        have HL := Lib.hid mb
        clear hq ux mgr mu md mj mc mo mr2 mb
        first | refine wpIn_block ?_ | skip
        refine wpIn_region_rndL (by kernel_rfl) (no_letsOut fun a w h => h) ?_
        go_wp2_with (at_builtin; refine wpList_app rfl (.tmp 23) (.tmp 25) rfl uSlE infoE rfl (by decide) (by decide) okE (.slice A q.length c) q rfl (base := W.heap.size) ?c1 (some ⟨Wc.heap.size, 0, none⟩) 1 [x] rfl ?c2 ?c3 ?c4 ?_)
        case c1 => exact HO.out.below ((Below.refl _ _).alloc (Nat.le_refl _) _)
        case c2 => exact Sl.one okE Wc x 53 (cs := #[.string x.1, .int .u64 x.2.1, .bool x.2.2.1, .string x.2.2.2]) rfl
        case c3 => have := HL.out; simp; omega
        case c4 => simp; omega
        intro v1 w1 ho1 hg1 hat1
        obtain ⟨A1, k1, rfl⟩ := own_slice ho1
        simp only [List.length_append, List.length_cons, List.length_nil, Nat.zero_add] at ho1 hat1 ⊢
        obtain ⟨f3, d3, HFIN⟩ := KM.out.app hJ HMC.out HGR ho1 hg1 hat1
        have HFIN := Lib.hid HFIN
        clear ho1 hg1 hat1
        go_wp2
        exact HFIN.out
      · have hkb : (o.1.toList == x.1.toList) = false := by
          rw [beq_eq_false_iff_ne]
          exact fun e => hk (bytes_inj e)
        have HGR : grpS (p ++ [x]) = (d ++ [o :: r], [] ++ [x]) := by rw [grpS_snoc, HDQ.out, grpE_close rfl hk]; rfl
        have HPX := Lib.hid (show d ++ [o :: r] <+: groupsL L from by
          have := HPRE.out p x HP.out o r (by rw [HDQ.out]) hk
          rw [HDQ.out] at this
          exact this)
        have HCALL := Lib.hid (fun (n : Nat) => (HY.out d (o :: r) T1 (W'.drewN n) (HJD.out n) ⟨HID.out n, HBOX.out _ (HUD.out n)⟩ HUW1.out.1 (HUD.out n) HPX.out #[.slice (some ⟨b1, o1, none⟩) (o :: r).length c] (fun k => k = b1)
          ⟨_, _, rfl, HSL.out, fun k hk => by rw [hk]; exact (HFB.out b1 o1 rfl).2, fun b o e => by injection e with e; injection e with e _ _; exact e.symm⟩ (fun k hk => by rw [hk]; exact ⟨(HFB.out b1 o1 rfl).1, (HNV.out b1 rfl).2.2⟩)).mono fun e W1 h => h.bool)
        have HKN := Lib.hid hk
        have HG := Lib.hid HGR
        clear hk HGR
        gi_wp2_with fail
        refine wpIn_region_rndQ (by kernel_rfl) (by kernel_rfl) (no_letsOut fun a w h => h) (by kernel_rfl) ?_
        repeat (go_big_quiet_step (fail))
        refine wpQuiet_nil ?_
        intro _ hw'
        obtain ⟨nq, hw''⟩ := hw'
        subst hw''
        have HC0 := Lib.hid (HCALL.out nq)
        have KM := Lib.hid (KMD.out nq)
        have HX7 := Lib.hid (HXD.out nq)
        have c2 : (W'.drewN nq).cell? ⟨W.heap.size, 0, none⟩ = some (.func fn #[] cap) := (blk_cell HR2.out 0).trans rfl
        have c1 : (W'.drewN nq).cell? ⟨W.heap.size + 1, 0, none⟩ = some (.slice (some ⟨b1, o1, none⟩) (r.length + 1) c) := c1
        have HUN0 := Lib.hid (Upd.drewN (S := S') W' nq)
        -- what stands behind the yield
        have HAFT := Lib.hid (show ∀ (T3 : Nat → Prop) (W5 : World), Grow T1 T3 (W'.drewN nq) → Upd T1 (W'.drewN nq) W5 → J (d ++ [o :: r]) T3 W5 → (W5.frozen? ⟨W.heap.size + 1, 0, none⟩ = false ∧ W5.cell? ⟨W.heap.size + 1, 0, none⟩ = some (.slice (some ⟨b1, o1, none⟩) (r.length + 1) c)) ∧
            KeyMid J (.cells #[.func fn #[] cap] 99 (0, 0)) W.heap.size W.heap.size (W.heap.size + 1) (d ++ [o :: r]) [] S' W' (W5.setCell ⟨W.heap.size + 1, 0, none⟩ (.slice none 0 0)) ∧ (W5.setCell ⟨W.heap.size + 1, 0, none⟩ (.slice none 0 0)).heap[b7]? = some (.cells (encE x).toArray 53 (0, 0)) from fun T3 W5 hg3 hu3 hj3 => by
          obtain ⟨⟨n2, n3⟩, hn7⟩ := HN.out
          have q3 := hu3.heap HC3.out n3
          have q2 := hu3.heap HR2.out n2
          have q7 := hu3.heap (HXD.out nq) (fun h => hn7 ((HS.out b7).2 (.inl h)))
          have m2 := hg3.not n2 (blk_lt (show (W'.drewN nq).heap[W.heap.size]? = _ from HR2.out))
          have m3 := hg3.not n3 (blk_lt (show (W'.drewN nq).heap[W.heap.size + 1]? = _ from HC3.out))
          have n73 : b7 ≠ W.heap.size + 1 := fun e => hn7 ((HS.out b7).2 (.inr (.inr (.inl e))))
          have s5 : Upd (fun k => k = W.heap.size + 1) W5 (W5.setCell ⟨W.heap.size + 1, 0, none⟩ (.slice none 0 0)) := Upd.setCell _ _ _ rfl
          have hsub : ∀ k, S0 k → S' k := fun k hk => (HS'.out k).2 (.inl hk)
          have hsT : ∀ k, T1 k → S' k := fun k hk => hsub k ((HS.out k).2 (.inl hk))
          have hS3 : S' (W.heap.size + 1) := hsub _ ((HS.out _).2 (.inr (.inr (.inl rfl))))
          refine ⟨⟨blk_frozen q3 0, (blk_cell q3 0).trans rfl⟩, ⟨T3, .slice none 0 0, fun k hk => ?_, ((Upd.drewN _ _).trans (hu3.mono hsT)).step s5 (fun k hk => .inl (by rw [hk]; exact hS3)), ⟨m2, m3, by omega, hS3, fun k hk => by cases hk⟩, ?_, blk_set q3 0 _, Own.nil _ _ _ _ _, s5.heap q2 (fun e => by omega), by simp⟩, s5.heap q7 n73⟩
          · rcases hk with h | h | h | h
            · rcases hg3 k h with h | h
              · exact .inl (hsT k h)
              · exact .inr h
            · exact .inl (hsub k ((HS.out k).2 (.inr (.inl h))))
            · exact .inl (by rw [h]; exact hS3)
            · cases h
          · exact HJ.out.move hj3 (s5.same fun k hk => ⟨HJ.out.lt hj3 hk, fun e => m3 (by rw [← e]; exact hk)⟩))
        have HLEFT := Lib.hid (show ∀ (T3 : Nat → Prop) (W5 : World), Grow T1 T3 (W'.drewN nq) → Upd T1 (W'.drewN nq) W5 → Jx (d ++ [o :: r]) T3 W5 → ∃ T', Grow S' T' W' ∧ Upd S' W' W5 ∧ (∃ T1 g, (∀ k, T1 k → T' k) ∧ (∀ k, T' k → k < W5.heap.size) ∧ g <+: groupsL L ∧ Jx g T1 W5) from fun T3 W5 hg3 hu3 hj3 => by
          have hsT : ∀ k, T1 k → S' k := fun k hk => (HS'.out k).2 (.inl ((HS.out k).2 (.inl hk)))
          refine ⟨T3, fun k hk => ?_, (Upd.drewN _ _).trans (hu3.mono hsT), T3, _, fun k hk => hk, fun k hk => HJX.out.lt hj3 hk, HPX.out, hj3⟩
          rcases hg3 k hk with h | h
          · exact .inl (hsT k h)
          · exact .inr h)
        clear KMD HXD HCALL x0 y0 z0 z1 hkb HOW HSL HFB HNV
        generalize W'.drewN nq = Wd at *
        rcases HC0.out with ⟨l2, rfl, rfl, fn', tmps', assign', body', hy', hR⟩ | ⟨f', rfl, henter', hC'⟩
        · have HC := Lib.hid (RoundIn.wide (m := 8 - 1 - 1 - 1) hR)
          have hy2 := show (Instr.yield l2 #[.slice (some ⟨b1, o1, none⟩) (r.length + 1) c]).run Try.prog Wd = _ from hy'
          clear hR HC0 hy'
          gi_wp2_with fail
          refine (RoundIn.inR HC.out).mono ?_
          rintro e' W5 ⟨b, T3, rfl, hg3, hu3, hj3, hx3⟩
          cases b with
          | false =>
            have HF := Lib.hid (HLEFT.out T3 W5 hg3 hu3 (hx3 rfl))
            clear hj3 hx3 hg3 hu3
            gi_wp2
            obtain ⟨T', a1, a2, a3⟩ := HF.out
            exact ⟨T', a1, a2, a3, rfl⟩
          | true =>
            obtain ⟨⟨f5, c5⟩, km, hx7⟩ := HAFT.out T3 W5 hg3 hu3 (hj3 rfl)
            have KM := Lib.hid km
            have HX7 := Lib.hid hx7
            obtain ⟨q, hq⟩ : ∃ q : List Ent, [] = q := ⟨_, rfl⟩
            have HG' := Lib.hid (show grpS (p ++ [x]) = (d ++ [o :: r], q ++ [x]) from by rw [← hq]; exact HG.out)
            have HQ := Lib.hid hq
            clear hq
            clear hj3 hx3 hg3 hu3 km hx7 c1 c2
            gi_upto_region 7 with fail
            have hq := HQ.out
            have HGR := HG'.out
            rw [hq] at KM
            clear f5 c5
            generalize W5.setCell ⟨W.heap.size + 1, 0, none⟩ (.slice none 0 0) = Wc at *
            -- the entry comes behind what is there: KM : KeyMid .. d q, HX7 : its box
            obtain ⟨T3, vc, mgr, mu, md, mj, mc, mo, mr2, mb⟩ := KM.out
            obtain ⟨A, c, rfl⟩ := own_slice mo
            have ux := boxEnt (e := x) HX7.out
            have x0 := ux 0 _ rfl
            have x1 := ux 1 _ rfl
            have x2 := ux 2 _ rfl
            have x3 := ux 3 _ rfl
            have c1 : Wc.cell? ⟨W.heap.size + 1, 0, none⟩ = some (.slice A q.length c) := (blk_cell mc 0).trans rfl
            have hwn : W.heap.size ≤ Wc.heap.size := Nat.le_trans (Nat.le_succ _) (Nat.le_of_lt (blk_lt mc))
            have HO := Lib.hid mo
            have HMC := Lib.hid mc
            have HL := Lib.hid mb
            clear hq ux mgr mu md mj mc mo mr2 mb
            first | refine wpIn_block ?_ | skip
            refine wpIn_region_rndL (by kernel_rfl) (no_letsOut fun a w h => h) ?_
            go_wp2_with (at_builtin; refine wpList_app rfl (.tmp 23) (.tmp 25) rfl uSlE infoE rfl (by decide) (by decide) okE (.slice A q.length c) q rfl (base := W.heap.size) ?c1 (some ⟨Wc.heap.size, 0, none⟩) 1 [x] rfl ?c2 ?c3 ?c4 ?_)
            case c1 => exact HO.out.below ((Below.refl _ _).alloc (Nat.le_refl _) _)
            case c2 => exact Sl.one okE Wc x 53 (cs := #[.string x.1, .int .u64 x.2.1, .bool x.2.2.1, .string x.2.2.2]) rfl
            case c3 => have := HL.out; simp; omega
            case c4 => simp; omega
            intro v1 w1 ho1 hg1 hat1
            obtain ⟨A1, k1, rfl⟩ := own_slice ho1
            simp only [List.length_append, List.length_cons, List.length_nil, Nat.zero_add] at ho1 hat1 ⊢
            obtain ⟨f3, d3, HFIN⟩ := KM.out.app hJ HMC.out HGR ho1 hg1 hat1
            have HFIN := Lib.hid HFIN
            clear ho1 hg1 hat1
            go_wp2
            exact HFIN.out
        · have HC := Lib.hid hC'
          clear hC' HC0
          gi_wp2_with fail
          refine ⟨trivial, ?_⟩
          refine (CallsIn.inRound lp (callsIn_wide.2 HC.out)).mono ?_
          rintro e' W5 ⟨b, T3, rfl, hg3, hu3, hj3, hx3⟩
          cases b with
          | false =>
            have HF := Lib.hid (HLEFT.out T3 W5 hg3 hu3 (hx3 rfl))
            clear hj3 hx3 hg3 hu3
            gi_wp2
            obtain ⟨T', a1, a2, a3⟩ := HF.out
            exact ⟨T', a1, a2, a3, rfl⟩
          | true =>
            obtain ⟨⟨f5, c5⟩, km, hx7⟩ := HAFT.out T3 W5 hg3 hu3 (hj3 rfl)
            have KM := Lib.hid km
            have HX7 := Lib.hid hx7
            obtain ⟨q, hq⟩ : ∃ q : List Ent, [] = q := ⟨_, rfl⟩
            have HG' := Lib.hid (show grpS (p ++ [x]) = (d ++ [o :: r], q ++ [x]) from by rw [← hq]; exact HG.out)
            have HQ := Lib.hid hq
            clear hq
            clear hj3 hx3 hg3 hu3 km hx7 c1 c2
            gi_upto_region 7 with fail
            have hq := HQ.out
            have HGR := HG'.out
            rw [hq] at KM
            clear f5 c5
            generalize W5.setCell ⟨W.heap.size + 1, 0, none⟩ (.slice none 0 0) = Wc at *
            -- the entry comes behind what is there: KM : KeyMid .. d q, HX7 : its box
            obtain ⟨T3, vc, mgr, mu, md, mj, mc, mo, mr2, mb⟩ := KM.out
            obtain ⟨A, c, rfl⟩ := own_slice mo
            have ux := boxEnt (e := x) HX7.out
            have x0 := ux 0 _ rfl
            have x1 := ux 1 _ rfl
            have x2 := ux 2 _ rfl
            have x3 := ux 3 _ rfl
            have c1 : Wc.cell? ⟨W.heap.size + 1, 0, none⟩ = some (.slice A q.length c) := (blk_cell mc 0).trans rfl
            have hwn : W.heap.size ≤ Wc.heap.size := Nat.le_trans (Nat.le_succ _) (Nat.le_of_lt (blk_lt mc))
            have HO := Lib.hid mo
            have HMC := Lib.hid mc
            have HL := Lib.hid mb
            clear hq ux mgr mu md mj mc mo mr2 mb
            first | refine wpIn_block ?_ | skip
            refine wpIn_region_rndL (by kernel_rfl) (no_letsOut fun a w h => h) ?_
            go_wp2_with (at_builtin; refine wpList_app rfl (.tmp 23) (.tmp 25) rfl uSlE infoE rfl (by decide) (by decide) okE (.slice A q.length c) q rfl (base := W.heap.size) ?c1 (some ⟨Wc.heap.size, 0, none⟩) 1 [x] rfl ?c2 ?c3 ?c4 ?_)
            case c1 => exact HO.out.below ((Below.refl _ _).alloc (Nat.le_refl _) _)
            case c2 => exact Sl.one okE Wc x 53 (cs := #[.string x.1, .int .u64 x.2.1, .bool x.2.2.1, .string x.2.2.2]) rfl
            case c3 => have := HL.out; simp; omega
            case c4 => simp; omega
            intro v1 w1 ho1 hg1 hat1
            obtain ⟨A1, k1, rfl⟩ := own_slice ho1
            simp only [List.length_append, List.length_cons, List.length_nil, Nat.zero_add] at ho1 hat1 ⊢
            obtain ⟨f3, d3, HFIN⟩ := KM.out.app hJ HMC.out HGR ho1 hg1 hat1
            have HFIN := Lib.hid HFIN
            clear ho1 hg1 hat1
            go_wp2
            exact HFIN.out
  case done =>
    intro D S' W' hD hnD hg hu hi h1 hK
    obtain ⟨T1, v, hS, ⟨n2, n3, n23, nv⟩, hj, hc, ho⟩ := hi.ex
    have hr2 := hi.r2
    have hUW1 := HUW.out S' T1 W' hg hu (fun k hk => (hS k).2 (.inl hk))
    obtain ⟨A, c, rfl⟩ := own_slice ho
    have hn0 := HSZ.out
    have hle := HB2.out.size
    have hD2 : W.heap.size + 1 < W2.heap.size := blk_lt (show W2.heap[W.heap.size + 1]? = _ from by rw [← HWE.out]; simpa using heap_alloc_new (W.alloc (.cells #[.func fn #[] cap] 99)) (.cells #[.slice none 0 0] 27))
    have hD3 : W.heap.size + 1 < D := by omega
    have nD : ¬ T1 D := fun h => hnD ((hS D).2 (.inl h))
    have c1 : W'.cell? ⟨W.heap.size + 1, 0, none⟩ = some (.slice A (grpS L).2.length c) := (blk_cell hc 0).trans rfl
    have c2 : W'.cell? ⟨W.heap.size, 0, none⟩ = some (.func fn #[] cap) := (blk_cell hr2 0).trans rfl
    have HGL := Lib.hid (show groupsL L = grpEnd (grpS L) from rfl)
    have HSL := Lib.hid (own_sl ho (fun x => (okE x).1))
    have HFB := Lib.hid (own_addr ho)
    obtain ⟨d, q, hdq⟩ : ∃ d q, grpS L = (d, q) := ⟨_, _, rfl⟩
    simp only [hdq] at c1 hj ho HSL HFB HGL
    have HFINJ := Lib.hid (show ∀ (T3 : Nat → Prop) (W5 : World), Grow T T3 W → Upd (fun k => T k ∨ U k) W W5 → ¬ T3 D → D < W5.heap.size → I1 W5 → (J (groupsL L) T3 W5 ∨ Jx (groupsL L) T3 W5) →
        ∃ T', Grow T T' W ∧ Upd (fun k => T k ∨ U k) W (W5.putObj D (.deferred none)) ∧ ((J (groupsL L) T' (W5.putObj D (.deferred none)) ∧ I1 (W5.putObj D (.deferred none)) ∧ BoxF n₀ U ba f (W5.putObj D (.deferred none))) ∨ ∃ pre, pre <+: groupsL L ∧ Jx pre T' (W5.putObj D (.deferred none)) ∧ I1 (W5.putObj D (.deferred none)) ∧ BoxF n₀ U ba f (W5.putObj D (.deferred none))) from fun T3 W5 hg3 hu3 n3 hl hi5 hjj => by
      have uD := upd_putObj (S := fun k => k = D) W5 (l := D) (.deferred none) rfl
      have hu4 := hu3.step uD (fun k hk => .inr (by omega))
      have hi6 := hI1 _ _ hi5 (uD.mono fun k hk => by show n₀ ≤ k; omega)
      refine ⟨T3, hg3, hu4, ?_⟩
      rcases hjj with h | h
      · exact .inl ⟨HJ.out.move h (same_putObj _ _ n3), hi6, HBOX.out _ hu4⟩
      · exact .inr ⟨_, List.prefix_refl _, HJX.out.move h (same_putObj _ _ n3), hi6, HBOX.out _ hu4⟩)
    have HCU := Lib.hid hUW1
    have HK := Lib.hid hK
    have HI := Lib.hid h1
    have HND := Lib.hid nD
    have HJ1 := Lib.hid hj
    have HNV := Lib.hid nv
    have hN2 := n2
    clear hS hi hg hu hUW1 hK h1 nD hj ho nv n2 n3 n23 hdq hr2 hc hle hn0
    cases q with
    | nil =>
      have HE := Lib.hid (show groupsL L = d from by rw [HGL.out]; rfl)
      rw [show ([] : List Ent).length = 0 from rfl] at c1
      have HFF := Lib.hid (HFINJ.out T1 W' HCU.out.1 HCU.out.2 HND.out (blk_lt HK.out) HI.out (.inl (by rw [HE.out]; exact HJ1.out)))
      gi_wp2
      refine ⟨by simp, .inl ⟨_, _, rfl, run_takeDeferred HK.out, ?_⟩⟩
      refine ⟨_, results_none rfl _ _ _, ⟨_, rfl⟩, HFF.out⟩
    | cons o r =>
      have HE := Lib.hid (show groupsL L = d ++ [o :: r] from by rw [HGL.out]; rfl)
      have z0 : (0 : Int) < ((r.length : Int) + 1) := by omega
      obtain ⟨b1, o1, hA1, hb1, hc1⟩ := HSL.out.at (i := 0) (x := o) rfl
      subst hA1
      have HCALL := Lib.hid ((HY.out d (o :: r) T1 W' HJ1.out ⟨HI.out, HBOX.out _ HCU.out.2⟩ HCU.out.1 HCU.out.2 (by rw [HE.out]; exact List.prefix_refl _) #[.slice (some ⟨b1, o1, none⟩) (o :: r).length c] (fun k => k = b1)
          ⟨_, _, rfl, HSL.out, fun k hk => by rw [hk]; exact (HFB.out b1 o1 rfl).2, fun b o e => by injection e with e; injection e with e _ _; exact e.symm⟩ (fun k hk => by rw [hk]; exact ⟨(HFB.out b1 o1 rfl).1, (HNV.out b1 rfl).2.2⟩)).mono fun e W1 h => h.bool)
      have HAFT := Lib.hid (show ∀ (b : Bool) (T3 : Nat → Prop) (W5 : World), Grow T1 T3 W' → Upd T1 W' W5 → (b = true → J (d ++ [o :: r]) T3 W5) → (b = false → Jx (d ++ [o :: r]) T3 W5) → W5.heap[D]? = some (.deferred (some [])) ∧ ∃ T', Grow T T' W ∧ Upd (fun k => T k ∨ U k) W (W5.putObj D (.deferred none)) ∧ ((J (groupsL L) T' (W5.putObj D (.deferred none)) ∧ I1 (W5.putObj D (.deferred none)) ∧ BoxF n₀ U ba f (W5.putObj D (.deferred none))) ∨ ∃ pre, pre <+: groupsL L ∧ Jx pre T' (W5.putObj D (.deferred none)) ∧ I1 (W5.putObj D (.deferred none)) ∧ BoxF n₀ U ba f (W5.putObj D (.deferred none))) from fun b T3 W5 hg3 hu3 hj3 hx3 => by
        have hKD := hu3.heap HK.out HND.out
        have hl0 := blk_lt HK.out
        refine ⟨hKD, HFINJ.out T3 W5 (HCU.out.1.trans hg3 HCU.out.2.size) (HCU.out.2.step hu3 (fun k hk => (HCU.out.1 k hk).imp .inl id)) (hg3.not HND.out hl0) (blk_lt hKD) (hI1 _ _ HI.out (hu3.mono fun k hk => HCU.out.1.ge HT.out HSZ.out k hk)) ?_⟩
        rw [HE.out]
        cases b with
        | true => exact .inl (hj3 rfl)
        | false => exact .inr (hx3 rfl))
      clear hc1 hb1
      rcases HCALL.out with ⟨l2, rfl, rfl, fn', tmps', assign', body', hy', hR⟩ | ⟨f', rfl, henter', hC'⟩
      · have HC := Lib.hid hR
        have hy2 := show (Instr.yield l2 #[.slice (some ⟨b1, o1, none⟩) (r.length + 1) c]).run Try.prog W' = _ from hy'
        clear hR HCALL hy'
        gi_wp2_with fail
        refine (RoundIn.wide HC.out).mono ?_
        rintro e' W5 ⟨b, T3, rfl, hg3, hu3, hj3, hx3⟩
        have HF := Lib.hid (HAFT.out b T3 W5 hg3 hu3 hj3 hx3)
        clear hj3 hx3 hg3 hu3
        gi_wp2
        refine ⟨by simp, .inl ⟨_, _, rfl, run_takeDeferred HF.out.1, ?_⟩⟩
        refine ⟨_, results_none rfl _ _ _, ⟨_, rfl⟩, HF.out.2⟩
      · have HC := Lib.hid hC'
        clear hC' HCALL
        gi_wp2_with fail
        refine ⟨trivial, ?_⟩
        refine (callsIn_wide.2 HC.out).mono ?_
        rintro e' W5 ⟨b, T3, rfl, hg3, hu3, hj3, hx3⟩
        have HF := Lib.hid (HAFT.out b T3 W5 hg3 hu3 hj3 hx3)
        clear hj3 hx3 hg3 hu3
        gi_wp2
        refine ⟨by simp, .inl ⟨_, _, rfl, run_takeDeferred HF.out.1, ?_⟩⟩
        refine ⟨_, results_none rfl _ _ _, ⟨_, rfl⟩, HF.out.2⟩
  case stop =>
    rintro D c p S' W' hD hnD hg hu hp ⟨⟨T1, g, hS, _, hgp, hj⟩, rfl⟩ hm hK
    obtain ⟨hgT, huT⟩ := HUW.out S' T1 W' hg hu hS
    have hn0 := HSZ.out
    have hle := HB2.out.size
    gi_wp2
    refine ⟨by simp, .inl ⟨_, _, rfl, run_takeDeferred hK, ?_⟩⟩
    have n1 : ¬ T1 D := fun h => hnD (hS D h)
    have uD := upd_putObj (S := fun k => k = D) W' (l := D) (.deferred none) rfl
    have hu2 := huT.step uD (fun k hk => .inr (by omega))
    refine ⟨_, results_none rfl _ _ _, ⟨_, rfl⟩, T1, hgT, hu2, .inr ⟨g, hgp, HJX.out.move hj (same_putObj _ _ n1), hI1 _ _ hm (uD.mono fun k hk => by show n₀ ≤ k; omega), HBOX.out _ hu2⟩⟩
set_option maxRecDepth 100000 in
/-- merge.Keys: an iterator over the groups. -/
theorem keys_c (n₀ : Nat) (U : Nat → Prop) (St : Nat → World → Prop) (A : Option Addr) (c : Nat) (fs : List FV) (ls : List (List Ent)) (w : World) (hs : Sl encF 1 w A fs) (hA : fs = [] → (A = none ∧ c = 0) ∨ ∃ b o, A = some ⟨b, o, none⟩) (hsrc : Srcs n₀ U St fs ls) (hn : n₀ ≤ w.heap.size)
    (hSt : ∀ k, Firm n₀ (St k)) (hU : ∀ k, U k → k < n₀) (htot : totL ls < 1000000000) (hln : ls.length < 1000000000) :
    Calls Try.prog 18 #[.slice A fs.length c] w fun e w' => ∃ f : FV, e = .returned (valF f) ∧ Below w.heap.size w w' ∧ ∃ HD : World → Prop, Firm w'.heap.size HD ∧ HD w' ∧ (∀ W W', HD W → Upd (fun k => U k ∨ w'.heap.size ≤ k) W W' → HD W') ∧
      ∃ gf fa lb, f = (gf, fa, lb) ∧ (∀ args w, (callFunc gf args).run Try.prog w = .ok (.enter gf args) w) ∧ ∀ W, w'.heap.size ≤ W.heap.size → IterG Try.prog gf fa lb encR w'.heap.size U (fun W => St 0 W ∧ HD W) (fun W => St ls.length W ∧ HD W) (fun W => St ls.length W ∧ HD W) (groupsL (mergeL ls)) W := by
  have HC := Lib.hid (of_c n₀ U St A c fs ls w hs hA hsrc hn hSt hU htot hln)
  have HST := Lib.hid hSt
  have HU := Lib.hid hU
  clear hs hA hsrc hSt hU
  go_enter Try.func18, Try.ntmps18
  go_wp2_with fail
  refine HC.out.mono ?_
  rintro _ w1 ⟨f, rfl, hb1, HD, hfd, hd1, hdu, hit⟩
  have r1 := heap_alloc_new w1 (.cells #[.nilFunc] 31)
  have f1 : (w1.alloc (.cells #[.nilFunc] 31)).frozen? ⟨w1.heap.size, 0, none⟩ = false := blk_frozen r1 0
  have d1 : (w1.alloc (.cells #[.nilFunc] 31)).cell? ⟨w1.heap.size, 0, none⟩ = some .nilFunc := (blk_cell r1 0).trans rfl
  obtain ⟨W2, hW2⟩ : ∃ Z, (w1.alloc (.cells #[.nilFunc] 31)).setCell ⟨w1.heap.size, 0, none⟩ (valF f) = Z := ⟨_, rfl⟩
  have r2 : W2.heap[w1.heap.size]? = some (.cells #[valF f] 31 (0, 0)) := by rw [← hW2]; exact blk_set r1 0 _
  have hb2 : Below w1.heap.size w1 W2 := by rw [← hW2]; exact ((Below.refl _ _).alloc (Nat.le_refl _) _).setCell (p := ⟨w1.heap.size, 0, none⟩) (Nat.le_refl _) _
  have hsz := blk_lt r2
  have hle := hb1.size
  have hbx : BoxF W2.heap.size U w1.heap.size f W2 := ⟨hsz, fun h => by have := HU.out _ h; omega, r2⟩
  have HB := Lib.hid (hb1.trans (hb2.mono hle))
  have HFD := Lib.hid hfd
  have HD2 := Lib.hid (hfd.later hd1 hb2)
  have HDU := Lib.hid hdu
  have HIT := Lib.hid hit
  have HBX := Lib.hid hbx
  clear hb1 hfd hd1 hdu hit hb2 hbx r2 r1
  unfold valF at hW2
  unfold valF
  go_wp2

  go_ret
  refine ⟨(65, #[], #[.pointer (some ⟨w1.heap.size, 0, none⟩)]), rfl, HB.out, fun W => HD W ∧ BoxF W2.heap.size U w1.heap.size f W, (HFD.out.mono (Nat.le_of_lt hsz)).and (fun W W' h u => h.upd u (fun k hk => .inr hk)), ⟨HD2.out, HBX.out⟩, fun W W' h u => ⟨HDU.out _ _ h.1 (u.mono fun k hk => hk.imp id (fun h => Nat.le_trans (Nat.le_of_lt hsz) h)), h.2.upd u (fun k hk => hk)⟩, _, _, _, rfl, enters_of Try.func65 (by kernel_rfl) rfl, fun W hW => ?_⟩
  have := keys1_it W2.heap.size U (fun W => St 0 W ∧ HD W) (fun W => St ls.length W ∧ HD W) (mergeL ls) w1.heap.size f (HIT.out.mono (Nat.le_of_lt hsz) (fun k h => h) (fun W h => h) (fun W h => h) (fun W h => h))
    (((HST.out 0).mono (by omega)).and (HFD.out.mono (Nat.le_of_lt hsz))) (((HST.out _).mono (by omega)).and (HFD.out.mono (Nat.le_of_lt hsz))) (fun k hk => by have := HU.out k hk; omega) (by rw [mergeL_length]; omega) W hW
  exact this.mono (Nat.le_refl _) (fun k h => h) (fun W h => ⟨⟨h.1, h.2.1⟩, h.2.2⟩) (fun W h => ⟨h.1.1, h.1.2, h.2⟩) (fun W h => ⟨h.1.1, h.1.2, h.2⟩)
end Go.Proofs.Ytdpijhpjicbecaa.H
