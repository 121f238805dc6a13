/- Iterators that write on their way (to blocks U, below those of their callers), and loops over them (genuit.py, out of XSeqT). No conditions. -/
import Derived.RangeFuncNested
import Derived.RangeFuncBound
import Derived.RangeFuncCalls
import Derived.RangeFuncLeaves
import Derived.Shelf.Abstract
import Derived.Shelf.RegionOpen
import Derived.WalkKit
import Derived.OwnWalkIn
import Derived.TacticsInMore
import Derived.LoopNIn
import Derived.LoopIn
import Derived.Test.YtdpijhpjicbecaaHRow
import Derived.Lib.Hide
import Derived.Shelf.AbstractIn
namespace Go.Proofs.Ytdpijhpjicbecaa.H
open Go Go.RowKit Go.Shelf Go.Proofs Go.Proofs.YtdpijhpjicbecaaW.PrintWords
set_option linter.unusedVariables false
/-- The blocks of T lie as they lay. -/
structure Same (T : Nat → Prop) (W W' : World) : Prop where
  os : W'.os = W.os
  tape : W'.tape = W.tape
  output : W'.output = W.output
  size : W.heap.size ≤ W'.heap.size
  block : ∀ k, T k → W'.heap[k]? = W.heap[k]?
theorem Same.refl (T : Nat → Prop) (W : World) : Same T W W := ⟨rfl, rfl, rfl, Nat.le_refl _, fun _ _ => rfl⟩
theorem Same.trans {T : Nat → Prop} {A B C : World} (h : Same T A B) (k : Same T B C) : Same T A C :=
  ⟨k.os.trans h.os, k.tape.trans h.tape, k.output.trans h.output, Nat.le_trans h.size k.size, fun i hi => (k.block i hi).trans (h.block i hi)⟩
theorem Same.mono {T S : Nat → Prop} {A B : World} (h : Same T A B) (hs : ∀ k, S k → T k) : Same S A B := ⟨h.os, h.tape, h.output, h.size, fun k hk => h.block k (hs k hk)⟩
theorem Upd.same {S T : Nat → Prop} {A B : World} (h : Upd S A B) (hT : ∀ k, T k → k < A.heap.size ∧ ¬ S k) : Same T A B := ⟨h.os, h.tape, h.output, h.size, fun k hk => h.block k (hT k hk).1 (hT k hk).2⟩
theorem Same.of_below {T : Nat → Prop} {A B : World} {n : Nat} (h : Below n A B) (hT : ∀ k, T k → k < n) : Same T A B := ⟨h.os, h.tape, h.output, h.size, fun k hk => h.block k (hT k hk)⟩
theorem Same.drew {T : Nat → Prop} (W : World) : Same T W W.drew := ⟨rfl, rfl, rfl, Nat.le_refl _, fun _ _ => rfl⟩
/-- J speaks of the blocks of T alone, and these lie there. -/
structure Foot {β : Type} (J : β → (Nat → Prop) → World → Prop) : Prop where
  lt : ∀ {s T W k}, J s T W → T k → k < W.heap.size
  move : ∀ {s T W W'}, J s T W → Same T W W' → J s T W'
/-- What T has grown to. -/
def Grow (T T' : Nat → Prop) (W : World) : Prop := ∀ k, T' k → T k ∨ W.heap.size ≤ k
theorem Grow.refl (T : Nat → Prop) (W : World) : Grow T T W := fun k h => .inl h
theorem Grow.trans {T T1 T2 : Nat → Prop} {W W1 : World} (h : Grow T T1 W) (k : Grow T1 T2 W1) (hs : W.heap.size ≤ W1.heap.size) : Grow T T2 W := fun i hi => by
  rcases k i hi with h1 | h1
  · exact h i h1
  · exact .inr (by omega)
theorem Grow.not {T T' : Nat → Prop} {W : World} (h : Grow T T' W) {k : Nat} (hk : ¬ T k) (hl : k < W.heap.size) : ¬ T' k := fun ht => by
  rcases h k ht with h1 | h1
  · exact hk h1
  · omega
theorem Grow.ge {T T' : Nat → Prop} {W : World} {n₀ : Nat} (h : Grow T T' W) (hT : ∀ k, T k → n₀ ≤ k) (hn : n₀ ≤ W.heap.size) : ∀ k, T' k → n₀ ≤ k := fun k hk => by
  rcases h k hk with h1 | h1
  · exact hT k h1
  · omega
theorem Upd.grow {T T' : Nat → Prop} {A B C : World} (h : Upd T A B) (k : Upd T' B C) (hg : Grow T T' A) : Upd T A C := h.step k hg
/-- A call of the function value (fn, cap). -/
def CallT (P : Program) (fn : Fn) (cap args : Array Value) (W : World) (R : Ending → World → Prop) : Prop :=
  (∃ l, fn = .yield l ∧ cap = #[] ∧ YieldAt Fence.wide 0 P l args W R) ∨
  (∃ f, fn = .func f ∧ (∀ args w, (callFunc f args).run P w = .ok (.enter f args) w) ∧ Calls P f (args ++ cap) W R)
theorem CallT.mono {P : Program} {fn : Fn} {cap args : Array Value} {W : World} {R R' : Ending → World → Prop} (h : CallT P fn cap args W R) (hR : ∀ e W', R e W' → R' e W') : CallT P fn cap args W R' := by
  rcases h with ⟨l, h1, h2, h3⟩ | ⟨f, h1, h3, h4⟩
  · exact .inl ⟨l, h1, h2, h3.mono hR⟩
  · exact .inr ⟨f, h1, h3, h4.mono hR⟩
theorem RoundIn.wide {n m : Nat} {P : Program} {l : Nat} {f : FuncId} {tmps : Array Value} {assign body : Code} {w : World} {R : Ending → World → Prop} (h : RoundIn Fence.wide n P l f tmps assign body w R) : RoundIn Fence.wide m P l f tmps assign body w R :=
  ⟨h.1, fun c cs _ => h.2 c cs (room_wide _)⟩
theorem RoundIn.inR {F : Fence} {n : Nat} {P : Program} {l l' : Nat} {f : FuncId} {tmps : Array Value} {assign body : Code} {w : World} {R : Ending → World → Prop} (h : RoundIn F n P l f tmps assign body w R) : RoundIn (F.inRound l') n P l f tmps assign body w R := h
/-- How a round ends: what the caller then has. -/
def RoundT {α : Type} (J Jx : List α → (Nat → Prop) → World → Prop) (xs : List α) (T : Nat → Prop) (W : World) (e : Ending) (W' : World) : Prop :=
  ∃ T', Grow T T' W ∧ Upd T W W' ∧ ((e = .returned (.bool true) ∧ J xs T' W') ∨ (e = .returned (.bool false) ∧ Jx xs T' W'))
theorem RoundT.bool {α : Type} {J Jx : List α → (Nat → Prop) → World → Prop} {xs : List α} {T : Nat → Prop} {W : World} {e : Ending} {W' : World} (h : RoundT J Jx xs T W e W') :
    ∃ b T', e = .returned (.bool b) ∧ Grow T T' W ∧ Upd T W W' ∧ (b = true → J xs T' W') ∧ (b = false → Jx xs T' W') := by
  obtain ⟨T', h1, h2, ⟨rfl, h3⟩ | ⟨rfl, h3⟩⟩ := h
  · exact ⟨true, T', rfl, h1, h2, (fun _ => h3), (fun h => by cases h)⟩
  · exact ⟨false, T', rfl, h1, h2, (fun h => by cases h), (fun _ => h3)⟩
/-- Held as long as but blocks from n on are written. -/
def Firm (n : Nat) (I : World → Prop) : Prop := ∀ W W', I W → Upd (fun k => n ≤ k) W W' → I W'
theorem Firm.mono {n m : Nat} {I : World → Prop} (h : Firm n I) (hn : n ≤ m) : Firm m I := fun W W' i u => h W W' i (u.mono (fun k hk => Nat.le_trans hn hk))
theorem Firm.and {n : Nat} {I K : World → Prop} (h : Firm n I) (k : Firm n K) : Firm n (fun W => I W ∧ K W) := fun W W' i u => ⟨h W W' i.1 u, k W W' i.2 u⟩
theorem Firm.later {n : Nat} {I : World → Prop} (h : Firm n I) {W W' : World} (i : I W) (hb : Below W.heap.size W W') : I W' := h W W' i (Upd.of_below hb)
/-- What the iterator gives, whatever function it is handed: l, if it isn't left; it writes to U, where I0 holds at first, Im in the rounds, I1 at last. -/
def IterU {α : Type} (P : Program) (g : Nat) (fa lb : Array Value) (encs : α → Array Value) (n₀ : Nat) (U : Nat → Prop) (I0 Im I1 : World → Prop) (l : List α) (W : World) : Prop :=
  ∀ (fn : Fn) (cap : Array Value) (J Jx : List α → (Nat → Prop) → World → Prop) (T : Nat → Prop), Foot J → Foot Jx → (∀ k, T k → n₀ ≤ k) → J [] T W → I0 W →
    (∀ pre x T1 W1, J pre T1 W1 → Im W1 → Grow T T1 W → Upd (fun k => T k ∨ U k) W W1 → pre ++ [x] <+: l → CallT P fn cap (encs x) W1 (RoundT J Jx (pre ++ [x]) T1 W1)) →
    Calls P g (fa ++ #[.func fn #[] cap] ++ lb) W fun e W' => (∃ v, e = .returned v) ∧ ∃ T', Grow T T' W ∧ Upd (fun k => T k ∨ U k) W W' ∧ ((J l T' W' ∧ I1 W') ∨ ∃ pre, pre <+: l ∧ Jx pre T' W' ∧ Im W')
/-- Such a one as a value. -/
def IterUV {α : Type} (P : Program) (f : Value) (encs : α → Array Value) (n₀ : Nat) (U : Nat → Prop) (I0 Im I1 : World → Prop) (l : List α) : Prop :=
  ∃ gf fa lb, f = .func (.func gf) fa lb ∧ (∀ args w, (callFunc gf args).run P w = .ok (.enter gf args) w) ∧ ∀ W, IterU P gf fa lb encs n₀ U I0 Im I1 l W
theorem IterU.mono {α : Type} {P : Program} {g : Nat} {fa lb : Array Value} {encs : α → Array Value} {n₀ n : Nat} {U V : Nat → Prop} {I0 Im I1 K0 Km K1 : World → Prop} {l : List α} {W : World} (h : IterU P g fa lb encs n₀ U I0 Im I1 l W) (hn : n₀ ≤ n) (hU : ∀ k, U k → V k)
    (h0 : ∀ W, K0 W → I0 W) (hm : ∀ W, Im W → Km W) (h1 : ∀ W, I1 W → K1 W) : IterU P g fa lb encs n V K0 Km K1 l W := fun fn cap J Jx T hJ hJx hT hj hi hY =>
  (h fn cap J Jx T hJ hJx (fun k hk => Nat.le_trans hn (hT k hk)) hj (h0 _ hi) (fun pre x T1 W1 a b c d e => hY pre x T1 W1 a (hm _ b) c (d.mono (fun k hk => hk.imp id (hU k))) e)).mono fun e W' ⟨hv, T', hg, hu, hr⟩ =>
    ⟨hv, T', hg, hu.mono (fun k hk => hk.imp id (hU k)), hr.imp (fun ⟨a, b⟩ => ⟨a, h1 _ b⟩) (fun ⟨p, a, b, c⟩ => ⟨p, a, b, hm _ c⟩)⟩
theorem IterUV.mono {α : Type} {P : Program} {f : Value} {encs : α → Array Value} {n₀ n : Nat} {U V : Nat → Prop} {I0 Im I1 K0 Km K1 : World → Prop} {l : List α} (h : IterUV P f encs n₀ U I0 Im I1 l) (hn : n₀ ≤ n) (hU : ∀ k, U k → V k)
    (h0 : ∀ W, K0 W → I0 W) (hm : ∀ W, Im W → Km W) (h1 : ∀ W, I1 W → K1 W) : IterUV P f encs n V K0 Km K1 l := by
  obtain ⟨gf, fa, lb, e, he, hi⟩ := h
  exact ⟨gf, fa, lb, e, he, fun W => (hi W).mono hn hU h0 hm h1⟩
/-- How the body of a round may be left. -/
def postT {α : Type} (I : List α → (Nat → Prop) → World → Prop) (Ix : Code → List α → (Nat → Prop) → World → Prop) (xs : List α) (T : Nat → Prop) (W : World) : Exit → Act → World → Prop
  | .normal, _, W' => ∃ T', Grow T T' W ∧ Upd T W W' ∧ I xs T' W'
  | .ret, _, W' => ∃ T', Grow T T' W ∧ Upd T W W' ∧ Ix .ret xs T' W'
  | .exit id, _, W' => ∃ T', Grow T T' W ∧ Upd T W W' ∧ Ix (.exit id) xs T' W'
  | .goto t, _, W' => ∃ T', Grow T T' W ∧ Upd T W W' ∧ Ix (.goto t) xs T' W'
  | .panic _, _, _ => False
  | .outgrown, _, _ => False
theorem upd_putObj {S : Nat → Prop} (W : World) {l : Nat} (o : Obj) (hl : S l) : Upd S W (W.putObj l o) := Upd.of_grown (grownBy_putObj' W l o) (fun k e => by cases e; exact hl)
theorem same_putObj {T : Nat → Prop} (W : World) {l : Nat} (o : Obj) (hl : ¬ T l) : Same T W (W.putObj l o) := by
  have h := grownBy_putObj' W l o
  exact ⟨h.os, h.tape, h.output, h.size, fun k hk => World.putObj_heap_other (by rintro rfl; exact hl hk)⟩
/-- A loop over such an iterator. -/
theorem rangeU {α : Type} {n : Nat} {P : Program} {g : Operand} {ps : Array Tmp} {assign body : Code} {Q : Exit → Act → World → Prop} {a : Act} {w : World}
    {gf : Nat} {fa lb : Array Value} (hg : a.eval g = .func (.func gf) fa lb) (eg : ∀ args w, (callFunc gf args).run P w = .ok (.enter gf args) w)
    {encs : α → Array Value} {n₀ : Nat} {U : Nat → Prop} {I0 Im I1 : World → Prop} {l : List α} (hseq : ∀ W, IterU P gf fa lb encs n₀ U I0 Im I1 l W) (hI0 : Firm n₀ I0) (hIm : Firm n₀ Im) (hI1 : Firm n₀ I1) (hps : ∀ x, (encs x).size = ps.size)
    (I : List α → (Nat → Prop) → World → Prop) (Ix : Code → List α → (Nat → Prop) → World → Prop) (IA : List α → α → Act → (Nat → Prop) → World → Prop) (hI : Foot I) (hIx : ∀ c, Foot (Ix c)) (hIA : ∀ pre x, Foot (IA pre x))
    (T : Nat → Prop) (hT : ∀ k, T k → n₀ ≤ k) (hn : n₀ ≤ w.heap.size) (h0 : I [] T w) (hi0 : I0 w)
    (hassign : ∀ (lp : Nat) (pre : List α) (x : α) (T1 : Nat → Prop) (W : World) (K : Act → World → Prop), I pre T1 W → Im W → Grow T T1 w → Upd (fun k => T k ∨ U k) w W → pre ++ [x] <+: l → (∀ a' T2 W', Grow T1 T2 W → Upd T1 W W' → IA pre x a' T2 W' → K a' W') →
      assign.wpIn (Fence.wide.inRound lp) (n - 1 - 1) P (Exit.then K (fun _ _ _ => False)) { tmps := (ps.zip (encs x)).foldl (fun t (p, v) => t.setIfInBounds p v) a.tmps, defers := [] } W)
    (hbody : ∀ (lp : Nat) (pre : List α) (x : α) (a' : Act) (T2 : Nat → Prop) (W : World), IA pre x a' T2 W → Im W → Grow T T2 w → Upd (fun k => T k ∨ U k) w W → pre ++ [x] <+: l → body.wpIn (Fence.wide.inRound lp) (n - 1 - 1) P (postT I Ix (pre ++ [x]) T2 W) a' W)
    (hdone : ∀ (D : Nat) (T' : Nat → Prop) (W : World), w.heap.size ≤ D → ¬ T' D → Grow T T' w → Upd (fun k => T k ∨ U k) w W → I l T' W → I1 W → W.heap[D]? = some (.deferred (some [])) → Q .normal { a with defers := { target := .collected D, args := #[] } :: a.defers } W)
    (hstop : ∀ (D : Nat) (c : Code) (pre : List α) (T' : Nat → Prop) (W : World), w.heap.size ≤ D → ¬ T' D → Grow T T' w → Upd (fun k => T k ∨ U k) w W → pre <+: l → Ix c pre T' W → Im W → W.heap[D]? = some (.deferred (some [])) → c.wpIn Fence.wide n P Q { a with defers := { target := .collected D, args := #[] } :: a.defers } W) :
    (Code.rangeFunc g ps assign body).wpIn Fence.wide n P Q a w := by
  refine wpIn_rangeFunc ?_
  intro fn hfn
  rw [show Fence.wide.round = none from rfl]
  obtain ⟨rec, hrec⟩ : ∃ rec : LoopState → Option Code → Loop, rec = fun st pe => { state := st, pending := pe, fn, tmps := a.tmps, params := ps, assign, body, defers := w.heap.size } := ⟨_, rfl⟩
  obtain ⟨W1, hW1⟩ : ∃ W1, (w.alloc (.deferred (some []))).alloc (.loop (rec .ready none)) = W1 := ⟨_, rfl⟩
  have hsz : W1.heap.size = w.heap.size + 1 + 1 := by rw [← hW1]; simp
  have hL1 : W1.heap[w.heap.size + 1]? = some (.loop (rec .ready none)) := by
    have := World.alloc_heap_new (w.alloc (.deferred (some []))) (.loop (rec .ready none))
    rw [World.size_alloc, hW1] at this
    exact this
  have hD1 : W1.heap[w.heap.size]? = some (.deferred (some [])) := by
    rw [← hW1]; exact (Below.heap_alloc _ _ _ (by simp)).trans (World.alloc_heap_new w _)
  have hb1 : Below w.heap.size w W1 := by
    rw [← hW1]; exact ((Below.refl _ w).alloc (Nat.le_refl _) _).alloc (by simp) _
  have hI1' : I [] T W1 := hI.move h0 (Same.of_below hb1 (fun k hk => hI.lt h0 hk))
  have hlt0 : ∀ k, T k → k < w.heap.size := fun k hk => hI.lt h0 hk
  refine ⟨w.heap.size + 1, [{ target := .collected w.heap.size, args := #[] }], W1, { target := .fn (.func gf) lb, args := fa ++ #[.func (.yield (w.heap.size + 1)) #[] #[]] }, W1, gf,
    fa ++ #[.func (.yield (w.heap.size + 1)) #[] #[]] ++ lb, W1, ?_, ?_, ?_, ?_, (fun h => by cases h), ?_⟩
  · rw [← hW1, hrec]; exact run_enterLoop_outer _ _ _ _ _
  · simp only [resolve, hg]
    simp [go_sem]
  · intro f' hf'; simp [Target.leads] at hf'; subst hf'; trivial
  · simp [invoke, go_sem, eg]
  · obtain ⟨TT, hTT⟩ : ∃ TT : (Nat → Prop) → Nat → Prop, TT = fun S k => S k ∨ k = w.heap.size ∨ k = w.heap.size + 1 := ⟨_, rfl⟩
    have tt : ∀ S k, TT S k ↔ S k ∨ k = w.heap.size ∨ k = w.heap.size + 1 := fun S k => by rw [hTT]
    have it := hseq W1 (.yield (w.heap.size + 1)) #[]
      (fun pre S W => ∃ T1, (∀ k, S k ↔ TT T1 k) ∧ ¬ T1 w.heap.size ∧ ¬ T1 (w.heap.size + 1) ∧ I pre T1 W ∧ W.heap[w.heap.size + 1]? = some (.loop (rec .ready none)) ∧ W.heap[w.heap.size]? = some (.deferred (some [])))
      (fun pre S W => ∃ T1 c, (∀ k, S k ↔ TT T1 k) ∧ ¬ T1 w.heap.size ∧ ¬ T1 (w.heap.size + 1) ∧ Ix c pre T1 W ∧ W.heap[w.heap.size + 1]? = some (.loop (rec .done (some c))) ∧ W.heap[w.heap.size]? = some (.deferred (some [])))
      (TT T)
      ⟨fun {s S W k} h hk => by
          obtain ⟨T1, hS, _, _, hi, hl, hd⟩ := h
          rcases (tt T1 k).1 ((hS k).1 hk) with h | rfl | rfl
          · exact hI.lt hi h
          · exact blk_lt hd
          · exact blk_lt hl,
        fun {s S W W'} h hs => by
          obtain ⟨T1, hS, n1, n2, hi, hl, hd⟩ := h
          exact ⟨T1, hS, n1, n2, hI.move hi (hs.mono fun k hk => (hS k).2 ((tt _ _).2 (.inl hk))), (hs.block _ ((hS _).2 ((tt _ _).2 (.inr (.inr rfl))))).trans hl, (hs.block _ ((hS _).2 ((tt _ _).2 (.inr (.inl rfl))))).trans hd⟩⟩
      ⟨fun {s S W k} h hk => by
          obtain ⟨T1, c, hS, _, _, hi, hl, hd⟩ := h
          rcases (tt T1 k).1 ((hS k).1 hk) with h | rfl | rfl
          · exact (hIx c).lt hi h
          · exact blk_lt hd
          · exact blk_lt hl,
        fun {s S W W'} h hs => by
          obtain ⟨T1, c, hS, n1, n2, hi, hl, hd⟩ := h
          exact ⟨T1, c, hS, n1, n2, (hIx c).move hi (hs.mono fun k hk => (hS k).2 ((tt _ _).2 (.inl hk))), (hs.block _ ((hS _).2 ((tt _ _).2 (.inr (.inr rfl))))).trans hl, (hs.block _ ((hS _).2 ((tt _ _).2 (.inr (.inl rfl))))).trans hd⟩⟩
      (fun k hk => by
        rcases (tt T k).1 hk with h | rfl | rfl
        · exact hT k h
        · exact hn
        · omega)
      ⟨T, fun _ => Iff.rfl, fun h => Nat.lt_irrefl _ (hlt0 _ h), fun h => by have := hlt0 _ h; omega, hI1', hL1, hD1⟩ (hI0.later hi0 hb1) ?_
    · refine callsIn_wide.2 (it.mono ?_)
      rintro e W2 ⟨⟨v, rfl⟩, S', hgS, huS, (⟨⟨T1, hS, n1, n2, hi, hl, hd⟩, hm1⟩ | ⟨pre, hSp, ⟨T1, c, hS, n1, n2, hi, hl, hd⟩, hmm⟩)⟩
      · have hg1 : Grow T T1 w := fun k hk => by
          rcases hgS k ((hS k).2 ((tt _ _).2 (.inl hk))) with h | h
          · rcases (tt T k).1 h with h | rfl | rfl
            · exact .inl h
            · exact .inr (Nat.le_refl _)
            · exact .inr (by omega)
          · exact .inr (by omega)
        have hu1 : Upd (fun k => T k ∨ U k) w W2 := (Upd.of_below hb1).step huS (fun k hk => by
          rcases hk with hk | hk
          · rcases (tt T k).1 hk with h | rfl | rfl
            · exact .inl (.inl h)
            · exact .inr (Nat.le_refl _)
            · exact .inr (by omega)
          · exact .inl (.inr hk))
        exact ⟨none, _, by have := run_endLoop (P := P) hl (by rw [hrec]; simp); rw [hrec] at this; exact this,
          hdone _ T1 _ (Nat.le_refl _) n1 hg1 (hu1.step (upd_putObj (S := fun k => k = w.heap.size + 1) _ _ rfl) (fun k hk => .inr (by omega))) (hI.move hi (same_putObj _ _ n2)) (hI1 _ _ hm1 (upd_putObj _ _ (by show n₀ ≤ _; omega))) ((World.putObj_heap_other (by omega)).trans hd)⟩
      · have hg1 : Grow T T1 w := fun k hk => by
          rcases hgS k ((hS k).2 ((tt _ _).2 (.inl hk))) with h | h
          · rcases (tt T k).1 h with h | rfl | rfl
            · exact .inl h
            · exact .inr (Nat.le_refl _)
            · exact .inr (by omega)
          · exact .inr (by omega)
        have hu1 : Upd (fun k => T k ∨ U k) w W2 := (Upd.of_below hb1).step huS (fun k hk => by
          rcases hk with hk | hk
          · rcases (tt T k).1 hk with h | rfl | rfl
            · exact .inl (.inl h)
            · exact .inr (Nat.le_refl _)
            · exact .inr (by omega)
          · exact .inl (.inr hk))
        exact ⟨some c, _, by have := run_endLoop (P := P) hl (by rw [hrec]; simp); rw [hrec] at this; exact this,
          hstop _ c pre T1 _ (Nat.le_refl _) n1 hg1 (hu1.step (upd_putObj (S := fun k => k = w.heap.size + 1) _ _ rfl) (fun k hk => .inr (by omega))) hSp ((hIx c).move hi (same_putObj _ _ n2)) (hIm _ _ hmm (upd_putObj _ _ (by show n₀ ≤ _; omega))) ((World.putObj_heap_other (by omega)).trans hd)⟩
    · rintro pre x S1 W ⟨T1, hS, n1, n2, hi, hl, hd⟩ him hgS0 huS0 hpre
      have hg1 : Grow T T1 w := fun k hk => by
        rcases hgS0 k ((hS k).2 ((tt _ _).2 (.inl hk))) with h | h
        · rcases (tt T k).1 h with h | rfl | rfl
          · exact .inl h
          · exact .inr (Nat.le_refl _)
          · exact .inr (by omega)
        · exact .inr (by omega)
      have hu1 : Upd (fun k => T k ∨ U k) w W := (Upd.of_below hb1).step huS0 (fun k hk => by
        rcases hk with hk | hk
        · rcases (tt T k).1 hk with h | rfl | rfl
          · exact .inl (.inl h)
          · exact .inr (Nat.le_refl _)
          · exact .inr (by omega)
        · exact .inl (.inr hk))
      have hlt : w.heap.size + 1 < W.heap.size := blk_lt hl
      have hy := run_yield (P := P) (args := encs x) hl (by rw [hrec]; exact hps x)
      rw [hrec] at hy
      refine .inl ⟨w.heap.size + 1, rfl, rfl, fn, _, assign, body, hy, RoundIn.wide (n := n - 1 - 1) (roundIn_of_wpIn hfn (hassign _ pre x T1 W _ hi him hg1 hu1 hpre (fun a' T2 Wa hgr hu ia => ?_)))⟩
      have hla : Wa.heap[w.heap.size + 1]? = some (.loop (rec .ready none)) := hu.heap hl n2
      have hda : Wa.heap[w.heap.size]? = some (.deferred (some [])) := hu.heap hd n1
      have m1 : ¬ T2 w.heap.size := hgr.not n1 (by omega)
      have m2 : ¬ T2 (w.heap.size + 1) := hgr.not n2 hlt
      have hlta : w.heap.size + 1 < Wa.heap.size := blk_lt hla
      refine ⟨_, run_beginRound hla (by rw [hrec]), ?_⟩
      obtain ⟨Wc, hWc⟩ : ∃ Wc, Wa.putObj (w.heap.size + 1) (.loop { rec .ready none with state := .busy }) = Wc := ⟨_, rfl⟩
      have hlc : Wc.heap[w.heap.size + 1]? = some (.loop { rec .ready none with state := .busy }) := by rw [← hWc]; exact World.putObj_heap_same hlta
      have hdc : Wc.heap[w.heap.size]? = some (.deferred (some [])) := by rw [← hWc]; exact (World.putObj_heap_other (by omega)).trans hda
      have huc : Upd (fun k => k = w.heap.size + 1) Wa Wc := by rw [← hWc]; exact upd_putObj _ _ rfl
      have hic : IA pre x a' T2 Wc := (hIA pre x).move ia (by rw [← hWc]; exact same_putObj _ _ m2)
      have hg2 : Grow T T2 w := hg1.trans hgr hu1.size
      have hu2 : Upd (fun k => T k ∨ U k) w Wc := (hu1.step hu (fun k hk => (hg1 k hk).imp .inl id)).step huc (fun k hk => .inr (by omega))
      have himc : Im Wc := hIm _ _ (hIm _ _ him (hu.mono (fun k hk => hg1.ge hT hn k hk))) (huc.mono (fun k hk => by show n₀ ≤ k; omega))
      have hszc : W.heap.size ≤ Wc.heap.size := Nat.le_trans hu.size huc.size
      rw [hWc]
      refine wpIn_mono (hbody _ pre x a' T2 Wc hic himc hg2 hu2 hpre) ?_
      have fin : ∀ (jump : Option Code) (T3 : Nat → Prop) (W3 : World), Grow T2 T3 Wc → Upd T2 Wc W3 →
          (Instr.endRound (w.heap.size + 1) jump).run P W3 = .ok (.bool jump.isNone) (W3.putObj (w.heap.size + 1) (.loop (rec (if jump.isNone then .ready else .done) jump))) ∧
          Grow S1 (TT T3) W ∧ Upd S1 W (W3.putObj (w.heap.size + 1) (.loop (rec (if jump.isNone then .ready else .done) jump))) ∧ ¬ T3 w.heap.size ∧ ¬ T3 (w.heap.size + 1) ∧
          (W3.putObj (w.heap.size + 1) (.loop (rec (if jump.isNone then .ready else .done) jump))).heap[w.heap.size + 1]? = some (.loop (rec (if jump.isNone then .ready else .done) jump)) ∧
          (W3.putObj (w.heap.size + 1) (.loop (rec (if jump.isNone then .ready else .done) jump))).heap[w.heap.size]? = some (.deferred (some [])) := fun jump T3 W3 hg3 hu3 => by
        have hl3 := hu3.heap hlc m2
        have hd3 := hu3.heap hdc m1
        have k1 : ¬ T3 w.heap.size := hg3.not m1 (blk_lt hdc)
        have k2 : ¬ T3 (w.heap.size + 1) := hg3.not m2 (blk_lt hlc)
        have sT : ∀ k, T1 k → S1 k := fun k hk => (hS k).2 ((tt _ _).2 (.inl hk))
        have sD : S1 w.heap.size := (hS _).2 ((tt _ _).2 (.inr (.inl rfl)))
        have sL : S1 (w.heap.size + 1) := (hS _).2 ((tt _ _).2 (.inr (.inr rfl)))
        have s2 : ∀ k, T2 k → S1 k ∨ W.heap.size ≤ k := fun k hk => by
          rcases hgr k hk with h | h
          · exact .inl (sT k h)
          · exact .inr h
        have hgS : Grow S1 (TT T3) W := fun k hk => by
          rcases (tt T3 k).1 hk with h | rfl | rfl
          · rcases hg3 k h with h | h
            · exact s2 k h
            · exact .inr (by omega)
          · exact .inl sD
          · exact .inl sL
        have huS : Upd S1 W W3 := (((hu.mono sT).step huc (fun k hk => .inl (by rw [hk]; exact sL))).step hu3 s2)
        have := run_endRound (P := P) jump hl3
        rw [hrec] at this ⊢
        exact ⟨this, hgS, huS.step (upd_putObj (S := fun k => k = w.heap.size + 1) _ _ rfl) (fun k hk => .inl (by rw [hk]; exact sL)), k1, k2, World.putObj_heap_same (blk_lt hl3), (World.putObj_heap_other (by omega)).trans hd3⟩
      rintro e a3 W3 hp
      cases e with
      | normal =>
        obtain ⟨T3, hg3, hu3, hi3⟩ := hp
        obtain ⟨hr, hgS, huS, k1, k2, hl5, hd5⟩ := fin none T3 W3 hg3 hu3
        exact ⟨_, _, hr, TT T3, hgS, huS, .inl ⟨rfl, T3, fun _ => Iff.rfl, k1, k2, hI.move hi3 (same_putObj _ _ k2), hl5, hd5⟩⟩
      | ret =>
        obtain ⟨T3, hg3, hu3, hi3⟩ := hp
        obtain ⟨hr, hgS, huS, k1, k2, hl5, hd5⟩ := fin (some .ret) T3 W3 hg3 hu3
        exact ⟨_, _, hr, TT T3, hgS, huS, .inr ⟨rfl, T3, .ret, fun _ => Iff.rfl, k1, k2, (hIx _).move hi3 (same_putObj _ _ k2), hl5, hd5⟩⟩
      | exit id =>
        obtain ⟨T3, hg3, hu3, hi3⟩ := hp
        obtain ⟨hr, hgS, huS, k1, k2, hl5, hd5⟩ := fin (some (.exit id)) T3 W3 hg3 hu3
        exact ⟨_, _, hr, TT T3, hgS, huS, .inr ⟨rfl, T3, .exit id, fun _ => Iff.rfl, k1, k2, (hIx _).move hi3 (same_putObj _ _ k2), hl5, hd5⟩⟩
      | goto t =>
        obtain ⟨T3, hg3, hu3, hi3⟩ := hp
        obtain ⟨hr, hgS, huS, k1, k2, hl5, hd5⟩ := fin (some (.goto t)) T3 W3 hg3 hu3
        exact ⟨_, _, hr, TT T3, hgS, huS, .inr ⟨rfl, T3, .goto t, fun _ => Iff.rfl, k1, k2, (hIx _).move hi3 (same_putObj _ _ k2), hl5, hd5⟩⟩
      | panic ch => exact hp.elim
      | outgrown => exact hp.elim
end Go.Proofs.Ytdpijhpjicbecaa.H
