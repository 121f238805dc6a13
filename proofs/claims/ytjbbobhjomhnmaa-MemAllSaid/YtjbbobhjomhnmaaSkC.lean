/- Iterators whose own bodies range over iterators: a contract whose rounds say that they turn nothing that was laid since; a loop over such a one. No conditions. | Iterators, and those who go through them, each with the blocks that are its own: a loop over an iterator. No conditions. -/
import Derived.RangeFuncNested
import Derived.RangeFuncBound
import Derived.RangeFuncCalls
import Derived.RangeFuncLeaves
import Derived.Shelf.Abstract
import Derived.Shelf.RegionOpen
import Derived.WalkKit
import Derived.OwnWalkIn
import Derived.TacticsInMore
import Derived.LoopNIn
import Derived.LoopIn
import Derived.Test.YtjbbobhjomhnmaaHRow
import Derived.Shelf.AbstractIn
namespace Go.Proofs.Ytjbbobhjomhnmaa.H
open Go Go.RowKit Go.Shelf Go.Proofs
set_option linter.unusedVariables false
/-- What an iterator gives, whatever the rounds do. -/
def SeqL {α : Type} (F : Fence) (n : Nat) (P : Program) (g : Nat) (lb : Array Value) (encs : α → Array Value) (Kp : World → World → Prop) (S Sp : List α → Prop) (N : Nat) (w : World) : Prop :=
  ∀ (l : Nat) (J Jx : List α → World → Prop) (W : World), Below w.heap.size w W → OwnFrom W.heap.size J → OwnFrom W.heap.size Jx →
    (∀ pre x W1, J pre W1 → pre.length < N → YieldAt F (n - 1) P l (encs x) W1 fun e W' =>
      KeepsFrom W.heap.size W1 W' ∧ ((e = .returned (.bool true) ∧ J (pre ++ [x]) W' ∧ Kp W1 W') ∨ (e = .returned (.bool false) ∧ Jx (pre ++ [x]) W'))) →
    J [] W →
    CallsIn F n P g (#[.func (.yield l) #[] #[]] ++ lb) W fun e W' => (∃ v, e = .returned v) ∧ ((∃ xs, S xs ∧ J xs W') ∨ (∃ pre, Sp pre ∧ Jx pre W'))
section
variable {F : Fence} {n : Nat} {P : Program}
/-- The kit's contracts are such. -/
theorem SeqL.of_K {α : Type} {g : Nat} {lb : Array Value} {encs : α → Array Value} {Kp : World → World → Prop} {S Sp : List α → Prop} {N : Nat} {w : World} (h : SeqStopsK F n P g lb encs Kp S Sp N w) : SeqL F n P g lb encs Kp S Sp N w :=
  fun l J Jx W hW hJ hJx hY h0 => h l J Jx W hW
    (fun s A B row hs hg hr => hJ s A B row hs hg fun r e => by obtain ⟨hb, o, ho, hw⟩ := hr r e; exact ⟨hb, o, ho, Obj.not_cells_of_walk hw⟩)
    (fun s A B row hs hg hr => hJx s A B row hs hg fun r e => by obtain ⟨hb, o, ho, hw⟩ := hr r e; exact ⟨hb, o, ho, Obj.not_cells_of_walk hw⟩)
    (fun pre x W1 hj hl => (hY pre x W1 hj hl).mono fun e W' hp => hp.2) h0
theorem keepsFrom_put {B l : Nat} (W : World) (o : Obj) (hl : l < B) : KeepsFrom B W (W.putObj l o) := KeepsFrom.of_grownBy (grownBy_putObj' W l o) (fun j e => by cases e; exact hl)
/-- A loop over such an iterator. -/
theorem rangeL {α : Type} {g : Operand} {ps : Array Tmp} {assign body : Code} {Q : Exit → Act → World → Prop} {a : Act} {w : World}
    (hro : F.round = none) (h1 : 1 ≤ n) {gf : Nat} {lb : Array Value} (hg : a.eval g = .func (.func gf) #[] lb) (hFg : F.fn gf) (eg : ∀ args w, (callFunc gf args).run P w = .ok (.enter gf args) w)
    {encs : α → Array Value} {Kp : World → World → Prop} {S Sp : List α → Prop} {N : Nat} {w0 : World} (hseq : SeqL F (n - 1) P gf lb encs Kp S Sp N w0)
    (hKt : ∀ {A B C : World}, Kp A B → Kp B C → Kp A C) (hKb : ∀ (W : World) (l : Nat) (o o' : Obj), w.heap.size ≤ l → W.heap[l]? = some o → o.isCells = false → o.isWalk = false → Kp W (W.putObj l o')) (hb0 : Below w0.heap.size w0 w) (hps : ∀ x, (encs x).size = ps.size)
    (I : List α → World → Prop) (Ix : Code → List α → World → Prop) (hI : OwnFrom w.heap.size I) (hIx : ∀ c, OwnFrom w.heap.size (Ix c)) (h0 : I [] w) (Ax : α → Act → World → Prop) (hAx : ∀ x a', OwnFrom w.heap.size (fun (_ : Unit) W => Ax x a' W))
    (hassign : ∀ (l : Nat) (pre : List α) (x : α) (W : World) (K : Act → World → Prop), I pre W → (∀ a' W', KeepsFrom w.heap.size W W' → Kp W W' → I pre W' → Ax x a' W' → K a' W') →
      assign.wpIn (F.inRound l) (n - 1 - 1) P (Exit.then K (fun _ _ _ => False)) { tmps := (ps.zip (encs x)).foldl (fun t (p, v) => t.setIfInBounds p v) a.tmps, defers := [] } W)
    (hbody : ∀ (l : Nat) (pre : List α) (x : α) (a' : Act) (W : World), I pre W → Ax x a' W → pre.length < N → body.wpIn (F.inRound l) (n - 1 - 1) P (ownPostG w.heap.size Kp I Ix (pre ++ [x]) W) a' W)
    (hdone : ∀ (D : Nat) (xs : List α) (W : World), w.heap.size ≤ D → S xs → I xs W → W.heap[D]? = some (.deferred (some [])) → Q .normal { a with defers := { target := .collected D, args := #[] } :: a.defers } W)
    (hstop : ∀ (D : Nat) (c : Code) (pre : List α) (W : World), w.heap.size ≤ D → Sp pre → Ix c pre W → W.heap[D]? = some (.deferred (some [])) → c.wpIn F n P Q { a with defers := { target := .collected D, args := #[] } :: a.defers } W) :
    (Code.rangeFunc g ps assign body).wpIn F n P Q a w := by
  refine wpIn_rangeFunc ?_
  intro fn hfn
  rw [hro]
  -- the loop's record at L, its block for deferred calls at D
  obtain ⟨rec, hrec⟩ : ∃ rec : LoopState → Option Code → Loop, rec = fun st pe => { state := st, pending := pe, fn, tmps := a.tmps, params := ps, assign, body, defers := w.heap.size } := ⟨_, rfl⟩
  obtain ⟨W1, hW1⟩ : ∃ W1, (w.alloc (.deferred (some []))).alloc (.loop (rec .ready none)) = W1 := ⟨_, rfl⟩
  have hsz : W1.heap.size = w.heap.size + 1 + 1 := by rw [← hW1]; simp
  have hL1 : W1.heap[w.heap.size + 1]? = some (.loop (rec .ready none)) := by
    have := World.alloc_heap_new (w.alloc (.deferred (some []))) (.loop (rec .ready none))
    rw [World.size_alloc, hW1] at this
    exact this
  have hD1 : W1.heap[w.heap.size]? = some (.deferred (some [])) := by
    rw [← hW1]; exact (Below.heap_alloc _ _ _ (by simp)).trans (World.alloc_heap_new w _)
  have hI1 : I [] W1 := by rw [← hW1]; exact hI.alloc _ (hI.alloc _ h0)
  have hb1 : Below w0.heap.size w0 W1 := by
    rw [← hW1]; exact hb0.trans ((((Below.refl _ w).alloc (Nat.le_refl _) _).alloc (by simp) _).mono hb0.size)
  have stay : ∀ {A B : World} {row : Option Nat} {k : Nat} {o : Obj}, A.grownBy B row → (∀ r, row = some r → W1.heap.size ≤ r ∧ ∃ o : Obj, A.heap[r]? = some o ∧ o.isCells = false) → k < W1.heap.size → A.heap[k]? = some o → B.heap[k]? = some o :=
    fun hg' hr hk ho => (hg'.block _ (Array.getElem?_eq_some_iff.1 ho).1 (fun e => by have := (hr _ e.symm).1; omega)).trans ho
  have up : ∀ {A : World} {row : Option Nat}, (∀ r, row = some r → W1.heap.size ≤ r ∧ ∃ o : Obj, A.heap[r]? = some o ∧ o.isCells = false) → (∀ r, row = some r → w.heap.size ≤ r ∧ ∃ o : Obj, A.heap[r]? = some o ∧ o.isCells = false) :=
    fun hr r e => ⟨by have := (hr r e).1; omega, (hr r e).2⟩
  refine ⟨w.heap.size + 1, [{ target := .collected w.heap.size, args := #[] }], W1, { target := .fn (.func gf) lb, args := #[.func (.yield (w.heap.size + 1)) #[] #[]] }, W1, gf,
    #[.func (.yield (w.heap.size + 1)) #[] #[]] ++ lb, W1, ?_, ?_, ?_, ?_, fun _ => h1, ?_⟩
  · rw [← hW1, hrec]; exact run_enterLoop_outer _ _ _ _ _
  · simp only [resolve, hg]
    simp [go_sem]
  · intro f' hf'; simp [Target.leads] at hf'; subst hf'; exact hFg
  · simp [invoke, go_sem, eg]
  · refine (hseq (w.heap.size + 1)
      (fun pre W => I pre W ∧ W.heap[w.heap.size + 1]? = some (.loop (rec .ready none)) ∧ W.heap[w.heap.size]? = some (.deferred (some [])))
      (fun pre W => ∃ c, Ix c pre W ∧ W.heap[w.heap.size + 1]? = some (.loop (rec .done (some c))) ∧ W.heap[w.heap.size]? = some (.deferred (some [])))
      W1 hb1
      (fun s A B row hs hg' hr => ⟨hI s A B row hs.1 hg' (up hr), stay hg' hr (by omega) hs.2.1, stay hg' hr (by omega) hs.2.2⟩)
      (fun s A B row hs hg' hr => by
        obtain ⟨c, hc, hl, hk⟩ := hs
        exact ⟨c, hIx c s A B row hc hg' (up hr), stay hg' hr (by omega) hl, stay hg' hr (by omega) hk⟩)
      ?_ ⟨hI1, hL1, hD1⟩).mono ?_
    · rintro pre x W ⟨hi, hl, hk⟩ hlen
      have hlt : w.heap.size + 1 < W.heap.size := (Array.getElem?_eq_some_iff.1 hl).1
      have hy := run_yield (P := P) (args := encs x) hl (by rw [hrec]; exact hps x)
      rw [hrec] at hy
      obtain ⟨Wb, hWb⟩ : ∃ Wb, W.putObj (w.heap.size + 1) (.loop { rec .ready none with state := .busy }) = Wb := ⟨_, rfl⟩
      have hl2 : Wb.heap[w.heap.size + 1]? = some (.loop { rec .ready none with state := .busy }) := by rw [← hWb]; exact World.putObj_heap_same hlt
      have hk2 : Wb.heap[w.heap.size]? = some (.deferred (some [])) := by rw [← hWb]; exact (World.putObj_heap_other (by omega)).trans hk
      have hw2 : Kp W Wb := by rw [← hWb]; exact hKb _ _ _ _ (by omega) hl rfl rfl
      have hf2 : KeepsFrom W1.heap.size W Wb := by rw [← hWb]; exact keepsFrom_put _ _ (by omega)
      have hi2 : I pre Wb := by rw [← hWb]; exact hI.putObj _ hi (by omega) hl rfl
      refine ⟨fn, _, assign, body, hy, roundIn_of_wpIn hfn (hassign _ pre x W _ hi (fun a' Wa ka kka ia axa => ?_))⟩
      -- the left sides are laid: the round is begun
      have hla : Wa.heap[w.heap.size + 1]? = some (.loop (rec .ready none)) := ka.same _ _ (by omega) hl rfl
      have hka : Wa.heap[w.heap.size]? = some (.deferred (some [])) := ka.same _ _ (Nat.le_refl _) hk rfl
      have hlta : w.heap.size + 1 < Wa.heap.size := (Array.getElem?_eq_some_iff.1 hla).1
      refine ⟨_, run_beginRound hla (by rw [hrec]), ?_⟩
      have hl4 : (Wa.putObj (w.heap.size + 1) (.loop { rec .ready none with state := .busy })).heap[w.heap.size + 1]? = some (.loop { rec .ready none with state := .busy }) := World.putObj_heap_same hlta
      have hk4 : (Wa.putObj (w.heap.size + 1) (.loop { rec .ready none with state := .busy })).heap[w.heap.size]? = some (.deferred (some [])) := (World.putObj_heap_other (by omega)).trans hka
      have hw4 : Kp W (Wa.putObj (w.heap.size + 1) (.loop { rec .ready none with state := .busy })) := hKt kka (hKb _ _ _ _ (by omega) hla rfl rfl)
      have hf4 : KeepsFrom W1.heap.size W (Wa.putObj (w.heap.size + 1) (.loop { rec .ready none with state := .busy })) := (show KeepsFrom W1.heap.size W Wa from ⟨ka.size, fun k o hB hk ho => ka.same k o (by omega) hk ho⟩).trans (keepsFrom_put _ _ (by omega))
      refine wpIn_mono (hbody _ pre x a' _ (hI.putObj _ ia (by omega) hla rfl) ((hAx x a').putObj (s := ()) _ axa (by omega) hla rfl) hlen) ?_
      have fin : ∀ (jump : Option Code) (W3 : World), KeepsFrom w.heap.size (Wa.putObj (w.heap.size + 1) (.loop { rec .ready none with state := .busy })) W3 →
          (Instr.endRound (w.heap.size + 1) jump).run P W3 = .ok (.bool jump.isNone) (W3.putObj (w.heap.size + 1) (.loop (rec (if jump.isNone then .ready else .done) jump))) ∧
          W3.heap[w.heap.size + 1]? = some (.loop { rec .ready none with state := .busy }) ∧
          (W3.putObj (w.heap.size + 1) (.loop (rec (if jump.isNone then .ready else .done) jump))).heap[w.heap.size + 1]? = some (.loop (rec (if jump.isNone then .ready else .done) jump)) ∧
          (W3.putObj (w.heap.size + 1) (.loop (rec (if jump.isNone then .ready else .done) jump))).heap[w.heap.size]? = some (.deferred (some [])) ∧
          KeepsFrom W1.heap.size W (W3.putObj (w.heap.size + 1) (.loop (rec (if jump.isNone then .ready else .done) jump))) := fun jump W3 hk3 => by
        have hl3 := hk3.same _ _ (by omega) hl4 rfl
        have hfin : KeepsFrom W1.heap.size W (W3.putObj (w.heap.size + 1) (.loop (rec (if jump.isNone then .ready else .done) jump))) :=
          (hf4.trans (show KeepsFrom W1.heap.size _ W3 from ⟨hk3.size, fun k o hB hk ho => hk3.same k o (by omega) hk ho⟩)).trans (keepsFrom_put _ _ (by omega))
        have := run_endRound (P := P) jump hl3
        rw [hrec] at this hfin ⊢
        exact ⟨this, by rw [hrec] at hl3; exact hl3, World.putObj_heap_same (Array.getElem?_eq_some_iff.1 hl3).1, (World.putObj_heap_other (by omega)).trans (hk3.same _ _ (Nat.le_refl _) hk4 rfl), hfin⟩
      rintro e a3 W3 hp
      cases e with
      | normal =>
        obtain ⟨hk3, hkp3, hi3⟩ := hp
        obtain ⟨hr, hl3, hl5, hk5, hf5⟩ := fin none W3 hk3
        exact ⟨_, _, hr, hf5, .inl ⟨rfl, ⟨hI.putObj _ hi3 (by omega) hl3 rfl, hl5, hk5⟩, hKt (hKt hw4 hkp3) (hKb _ _ _ _ (by omega) hl3 rfl rfl)⟩⟩
      | ret =>
        obtain ⟨hk3, hi3⟩ := hp
        obtain ⟨hr, hl3, hl5, hk5, hf5⟩ := fin (some .ret) W3 hk3
        exact ⟨_, _, hr, hf5, .inr ⟨rfl, .ret, (hIx _).putObj _ hi3 (by omega) hl3 rfl, hl5, hk5⟩⟩
      | exit id =>
        obtain ⟨hk3, hi3⟩ := hp
        obtain ⟨hr, hl3, hl5, hk5, hf5⟩ := fin (some (.exit id)) W3 hk3
        exact ⟨_, _, hr, hf5, .inr ⟨rfl, .exit id, (hIx _).putObj _ hi3 (by omega) hl3 rfl, hl5, hk5⟩⟩
      | goto t =>
        obtain ⟨hk3, hi3⟩ := hp
        obtain ⟨hr, hl3, hl5, hk5, hf5⟩ := fin (some (.goto t)) W3 hk3
        exact ⟨_, _, hr, hf5, .inr ⟨rfl, .goto t, (hIx _).putObj _ hi3 (by omega) hl3 rfl, hl5, hk5⟩⟩
      | panic ch => exact hp.elim
      | outgrown => exact hp.elim
    · rintro e W2 ⟨⟨v, rfl⟩, (⟨xs, hS, hi, hl, hk⟩ | ⟨pre, hSp, c, hi, hl, hk⟩)⟩
      · exact ⟨none, _, by have := run_endLoop (P := P) hl (by rw [hrec]; simp); rw [hrec] at this; exact this, hdone _ xs _ (Nat.le_refl _) hS (hI.putObj _ hi (by omega) hl rfl) ((World.putObj_heap_other (by omega)).trans hk)⟩
      · exact ⟨some c, _, by have := run_endLoop (P := P) hl (by rw [hrec]; simp); rw [hrec] at this; exact this, hstop _ c pre _ (Nat.le_refl _) hSp ((hIx c).putObj _ hi (by omega) hl rfl) ((World.putObj_heap_other (by omega)).trans hk)⟩
end
end Go.Proofs.Ytjbbobhjomhnmaa.H
namespace Go.Proofs.Ytjbbobhjomhnmaa.H
open Go Go.RowKit Go.Shelf Go.Proofs Go.Proofs.YtjbbobhjomhnmaaW.PrintWords
set_option linter.unusedVariables false
/-- The blocks of T lie as they lay. -/
structure Same (T : Nat → Prop) (W W' : World) : Prop where
  os : W'.os = W.os
  tape : W'.tape = W.tape
  output : W'.output = W.output
  size : W.heap.size ≤ W'.heap.size
  block : ∀ k, T k → W'.heap[k]? = W.heap[k]?
theorem Same.refl (T : Nat → Prop) (W : World) : Same T W W := ⟨rfl, rfl, rfl, Nat.le_refl _, fun _ _ => rfl⟩
theorem Same.trans {T : Nat → Prop} {A B C : World} (h : Same T A B) (k : Same T B C) : Same T A C :=
  ⟨k.os.trans h.os, k.tape.trans h.tape, k.output.trans h.output, Nat.le_trans h.size k.size, fun i hi => (k.block i hi).trans (h.block i hi)⟩
theorem Same.mono {T S : Nat → Prop} {A B : World} (h : Same T A B) (hs : ∀ k, S k → T k) : Same S A B := ⟨h.os, h.tape, h.output, h.size, fun k hk => h.block k (hs k hk)⟩
theorem Upd.same {S T : Nat → Prop} {A B : World} (h : Upd S A B) (hT : ∀ k, T k → k < A.heap.size ∧ ¬ S k) : Same T A B := ⟨h.os, h.tape, h.output, h.size, fun k hk => h.block k (hT k hk).1 (hT k hk).2⟩
theorem Same.of_below {T : Nat → Prop} {A B : World} {n : Nat} (h : Below n A B) (hT : ∀ k, T k → k < n) : Same T A B := ⟨h.os, h.tape, h.output, h.size, fun k hk => h.block k (hT k hk)⟩
theorem Same.drew {T : Nat → Prop} (W : World) : Same T W W.drew := ⟨rfl, rfl, rfl, Nat.le_refl _, fun _ _ => rfl⟩
/-- J speaks of the blocks of T alone, and these lie there. -/
structure Foot {β : Type} (J : β → (Nat → Prop) → World → Prop) : Prop where
  lt : ∀ {s T W k}, J s T W → T k → k < W.heap.size
  move : ∀ {s T W W'}, J s T W → Same T W W' → J s T W'
/-- What T has grown to. -/
def Grow (T T' : Nat → Prop) (W : World) : Prop := ∀ k, T' k → T k ∨ W.heap.size ≤ k
theorem Grow.refl (T : Nat → Prop) (W : World) : Grow T T W := fun k h => .inl h
theorem Grow.trans {T T1 T2 : Nat → Prop} {W W1 : World} (h : Grow T T1 W) (k : Grow T1 T2 W1) (hs : W.heap.size ≤ W1.heap.size) : Grow T T2 W := fun i hi => by
  rcases k i hi with h1 | h1
  · exact h i h1
  · exact .inr (by omega)
theorem Grow.not {T T' : Nat → Prop} {W : World} (h : Grow T T' W) {k : Nat} (hk : ¬ T k) (hl : k < W.heap.size) : ¬ T' k := fun ht => by
  rcases h k ht with h1 | h1
  · exact hk h1
  · omega
theorem Grow.ge {T T' : Nat → Prop} {W : World} {n₀ : Nat} (h : Grow T T' W) (hT : ∀ k, T k → n₀ ≤ k) (hn : n₀ ≤ W.heap.size) : ∀ k, T' k → n₀ ≤ k := fun k hk => by
  rcases h k hk with h1 | h1
  · exact hT k h1
  · omega
theorem Upd.grow {T T' : Nat → Prop} {A B C : World} (h : Upd T A B) (k : Upd T' B C) (hg : Grow T T' A) : Upd T A C := h.step k hg
/-- A call of the function value (fn, cap). -/
def CallT (P : Program) (fn : Fn) (cap args : Array Value) (W : World) (R : Ending → World → Prop) : Prop :=
  (∃ l, fn = .yield l ∧ cap = #[] ∧ YieldAt Fence.wide 0 P l args W R) ∨
  (∃ f, fn = .func f ∧ (∀ args w, (callFunc f args).run P w = .ok (.enter f args) w) ∧ Calls P f (args ++ cap) W R)
theorem CallT.mono {P : Program} {fn : Fn} {cap args : Array Value} {W : World} {R R' : Ending → World → Prop} (h : CallT P fn cap args W R) (hR : ∀ e W', R e W' → R' e W') : CallT P fn cap args W R' := by
  rcases h with ⟨l, h1, h2, h3⟩ | ⟨f, h1, h3, h4⟩
  · exact .inl ⟨l, h1, h2, h3.mono hR⟩
  · exact .inr ⟨f, h1, h3, h4.mono hR⟩
theorem RoundIn.wide {n m : Nat} {P : Program} {l : Nat} {f : FuncId} {tmps : Array Value} {assign body : Code} {w : World} {R : Ending → World → Prop} (h : RoundIn Fence.wide n P l f tmps assign body w R) : RoundIn Fence.wide m P l f tmps assign body w R :=
  ⟨h.1, fun c cs _ => h.2 c cs (room_wide _)⟩
theorem RoundIn.inR {F : Fence} {n : Nat} {P : Program} {l l' : Nat} {f : FuncId} {tmps : Array Value} {assign body : Code} {w : World} {R : Ending → World → Prop} (h : RoundIn F n P l f tmps assign body w R) : RoundIn (F.inRound l') n P l f tmps assign body w R := h
/-- How a round ends: what the caller then has. -/
def RoundT {α : Type} (J Jx : List α → (Nat → Prop) → World → Prop) (xs : List α) (T : Nat → Prop) (W : World) (e : Ending) (W' : World) : Prop :=
  ∃ T', Grow T T' W ∧ Upd T W W' ∧ ((e = .returned (.bool true) ∧ J xs T' W') ∨ (e = .returned (.bool false) ∧ Jx xs T' W'))
theorem RoundT.bool {α : Type} {J Jx : List α → (Nat → Prop) → World → Prop} {xs : List α} {T : Nat → Prop} {W : World} {e : Ending} {W' : World} (h : RoundT J Jx xs T W e W') :
    ∃ b T', e = .returned (.bool b) ∧ Grow T T' W ∧ Upd T W W' ∧ (b = true → J xs T' W') ∧ (b = false → Jx xs T' W') := by
  obtain ⟨T', h1, h2, ⟨rfl, h3⟩ | ⟨rfl, h3⟩⟩ := h
  · exact ⟨true, T', rfl, h1, h2, (fun _ => h3), (fun h => by cases h)⟩
  · exact ⟨false, T', rfl, h1, h2, (fun h => by cases h), (fun _ => h3)⟩
/-- What the iterator gives at W, whatever function it is handed: l, if it isn't left. -/
def IterT {α : Type} (P : Program) (g : Nat) (lb : Array Value) (encs : α → Array Value) (n₀ : Nat) (l : List α) (W : World) : Prop :=
  ∀ (fn : Fn) (cap : Array Value) (J Jx : List α → (Nat → Prop) → World → Prop) (T : Nat → Prop), Foot J → Foot Jx → (∀ k, T k → n₀ ≤ k) → J [] T W →
    (∀ pre x T1 W1, J pre T1 W1 → Grow T T1 W → Upd T W W1 → pre ++ [x] <+: l → CallT P fn cap (encs x) W1 (RoundT J Jx (pre ++ [x]) T1 W1)) →
    Calls P g (#[.func fn #[] cap] ++ lb) W fun e W' => (∃ v, e = .returned v) ∧ ∃ T', Grow T T' W ∧ Upd T W W' ∧ (J l T' W' ∨ ∃ pre, pre <+: l ∧ Jx pre T' W')
/-- How the body of a round may be left. -/
def postT {α : Type} (I : List α → (Nat → Prop) → World → Prop) (Ix : Code → List α → (Nat → Prop) → World → Prop) (xs : List α) (T : Nat → Prop) (W : World) : Exit → Act → World → Prop
  | .normal, _, W' => ∃ T', Grow T T' W ∧ Upd T W W' ∧ I xs T' W'
  | .ret, _, W' => ∃ T', Grow T T' W ∧ Upd T W W' ∧ Ix .ret xs T' W'
  | .exit id, _, W' => ∃ T', Grow T T' W ∧ Upd T W W' ∧ Ix (.exit id) xs T' W'
  | .goto t, _, W' => ∃ T', Grow T T' W ∧ Upd T W W' ∧ Ix (.goto t) xs T' W'
  | .panic _, _, _ => False
  | .outgrown, _, _ => False
theorem upd_putObj {S : Nat → Prop} (W : World) {l : Nat} (o : Obj) (hl : S l) : Upd S W (W.putObj l o) := Upd.of_grown (grownBy_putObj' W l o) (fun k e => by cases e; exact hl)
theorem same_putObj {T : Nat → Prop} (W : World) {l : Nat} (o : Obj) (hl : ¬ T l) : Same T W (W.putObj l o) := by
  have h := grownBy_putObj' W l o
  exact ⟨h.os, h.tape, h.output, h.size, fun k hk => World.putObj_heap_other (by rintro rfl; exact hl hk)⟩
/-- A loop over such an iterator. -/
theorem rangeT {α : Type} {n : Nat} {P : Program} {g : Operand} {ps : Array Tmp} {assign body : Code} {Q : Exit → Act → World → Prop} {a : Act} {w : World}
    {gf : Nat} {lb : Array Value} (hg : a.eval g = .func (.func gf) #[] lb) (eg : ∀ args w, (callFunc gf args).run P w = .ok (.enter gf args) w)
    {encs : α → Array Value} {n₀ : Nat} {l : List α} (hseq : ∀ W, Below w.heap.size w W → IterT P gf lb encs n₀ l W) (hps : ∀ x, (encs x).size = ps.size)
    (I : List α → (Nat → Prop) → World → Prop) (Ix : Code → List α → (Nat → Prop) → World → Prop) (IA : List α → α → Act → (Nat → Prop) → World → Prop) (hI : Foot I) (hIx : ∀ c, Foot (Ix c)) (hIA : ∀ pre x, Foot (IA pre x))
    (T : Nat → Prop) (hT : ∀ k, T k → n₀ ≤ k) (hn : n₀ ≤ w.heap.size) (h0 : I [] T w)
    (hassign : ∀ (lp : Nat) (pre : List α) (x : α) (T1 : Nat → Prop) (W : World) (K : Act → World → Prop), I pre T1 W → Grow T T1 w → Upd T w W → pre ++ [x] <+: l → (∀ a' T2 W', Grow T1 T2 W → Upd T1 W W' → IA pre x a' T2 W' → K a' W') →
      assign.wpIn (Fence.wide.inRound lp) (n - 1 - 1) P (Exit.then K (fun _ _ _ => False)) { tmps := (ps.zip (encs x)).foldl (fun t (p, v) => t.setIfInBounds p v) a.tmps, defers := [] } W)
    (hbody : ∀ (lp : Nat) (pre : List α) (x : α) (a' : Act) (T2 : Nat → Prop) (W : World), IA pre x a' T2 W → Grow T T2 w → Upd T w W → pre ++ [x] <+: l → body.wpIn (Fence.wide.inRound lp) (n - 1 - 1) P (postT I Ix (pre ++ [x]) T2 W) a' W)
    (hdone : ∀ (D : Nat) (T' : Nat → Prop) (W : World), w.heap.size ≤ D → ¬ T' D → Grow T T' w → Upd T w W → I l T' W → W.heap[D]? = some (.deferred (some [])) → Q .normal { a with defers := { target := .collected D, args := #[] } :: a.defers } W)
    (hstop : ∀ (D : Nat) (c : Code) (pre : List α) (T' : Nat → Prop) (W : World), w.heap.size ≤ D → ¬ T' D → Grow T T' w → Upd T w W → pre <+: l → Ix c pre T' W → W.heap[D]? = some (.deferred (some [])) → c.wpIn Fence.wide n P Q { a with defers := { target := .collected D, args := #[] } :: a.defers } W) :
    (Code.rangeFunc g ps assign body).wpIn Fence.wide n P Q a w := by
  refine wpIn_rangeFunc ?_
  intro fn hfn
  rw [show Fence.wide.round = none from rfl]
  obtain ⟨rec, hrec⟩ : ∃ rec : LoopState → Option Code → Loop, rec = fun st pe => { state := st, pending := pe, fn, tmps := a.tmps, params := ps, assign, body, defers := w.heap.size } := ⟨_, rfl⟩
  obtain ⟨W1, hW1⟩ : ∃ W1, (w.alloc (.deferred (some []))).alloc (.loop (rec .ready none)) = W1 := ⟨_, rfl⟩
  have hsz : W1.heap.size = w.heap.size + 1 + 1 := by rw [← hW1]; simp
  have hL1 : W1.heap[w.heap.size + 1]? = some (.loop (rec .ready none)) := by
    have := World.alloc_heap_new (w.alloc (.deferred (some []))) (.loop (rec .ready none))
    rw [World.size_alloc, hW1] at this
    exact this
  have hD1 : W1.heap[w.heap.size]? = some (.deferred (some [])) := by
    rw [← hW1]; exact (Below.heap_alloc _ _ _ (by simp)).trans (World.alloc_heap_new w _)
  have hb1 : Below w.heap.size w W1 := by
    rw [← hW1]; exact ((Below.refl _ w).alloc (Nat.le_refl _) _).alloc (by simp) _
  have hI1 : I [] T W1 := hI.move h0 (Same.of_below hb1 (fun k hk => hI.lt h0 hk))
  have hlt0 : ∀ k, T k → k < w.heap.size := fun k hk => hI.lt h0 hk
  refine ⟨w.heap.size + 1, [{ target := .collected w.heap.size, args := #[] }], W1, { target := .fn (.func gf) lb, args := #[.func (.yield (w.heap.size + 1)) #[] #[]] }, W1, gf,
    #[.func (.yield (w.heap.size + 1)) #[] #[]] ++ lb, W1, ?_, ?_, ?_, ?_, (fun h => by cases h), ?_⟩
  · rw [← hW1, hrec]; exact run_enterLoop_outer _ _ _ _ _
  · simp only [resolve, hg]
    simp [go_sem]
  · intro f' hf'; simp [Target.leads] at hf'; subst hf'; trivial
  · simp [invoke, go_sem, eg]
  · obtain ⟨TT, hTT⟩ : ∃ TT : (Nat → Prop) → Nat → Prop, TT = fun S k => S k ∨ k = w.heap.size ∨ k = w.heap.size + 1 := ⟨_, rfl⟩
    have tt : ∀ S k, TT S k ↔ S k ∨ k = w.heap.size ∨ k = w.heap.size + 1 := fun S k => by rw [hTT]
    have it := hseq W1 hb1 (.yield (w.heap.size + 1)) #[]
      (fun pre S W => ∃ T1, (∀ k, S k ↔ TT T1 k) ∧ ¬ T1 w.heap.size ∧ ¬ T1 (w.heap.size + 1) ∧ I pre T1 W ∧ W.heap[w.heap.size + 1]? = some (.loop (rec .ready none)) ∧ W.heap[w.heap.size]? = some (.deferred (some [])))
      (fun pre S W => ∃ T1 c, (∀ k, S k ↔ TT T1 k) ∧ ¬ T1 w.heap.size ∧ ¬ T1 (w.heap.size + 1) ∧ Ix c pre T1 W ∧ W.heap[w.heap.size + 1]? = some (.loop (rec .done (some c))) ∧ W.heap[w.heap.size]? = some (.deferred (some [])))
      (TT T)
      ⟨fun {s S W k} h hk => by
          obtain ⟨T1, hS, _, _, hi, hl, hd⟩ := h
          rcases (tt T1 k).1 ((hS k).1 hk) with h | rfl | rfl
          · exact hI.lt hi h
          · exact blk_lt hd
          · exact blk_lt hl,
        fun {s S W W'} h hs => by
          obtain ⟨T1, hS, n1, n2, hi, hl, hd⟩ := h
          exact ⟨T1, hS, n1, n2, hI.move hi (hs.mono fun k hk => (hS k).2 ((tt _ _).2 (.inl hk))), (hs.block _ ((hS _).2 ((tt _ _).2 (.inr (.inr rfl))))).trans hl, (hs.block _ ((hS _).2 ((tt _ _).2 (.inr (.inl rfl))))).trans hd⟩⟩
      ⟨fun {s S W k} h hk => by
          obtain ⟨T1, c, hS, _, _, hi, hl, hd⟩ := h
          rcases (tt T1 k).1 ((hS k).1 hk) with h | rfl | rfl
          · exact (hIx c).lt hi h
          · exact blk_lt hd
          · exact blk_lt hl,
        fun {s S W W'} h hs => by
          obtain ⟨T1, c, hS, n1, n2, hi, hl, hd⟩ := h
          exact ⟨T1, c, hS, n1, n2, (hIx c).move hi (hs.mono fun k hk => (hS k).2 ((tt _ _).2 (.inl hk))), (hs.block _ ((hS _).2 ((tt _ _).2 (.inr (.inr rfl))))).trans hl, (hs.block _ ((hS _).2 ((tt _ _).2 (.inr (.inl rfl))))).trans hd⟩⟩
      (fun k hk => by
        rcases (tt T k).1 hk with h | rfl | rfl
        · exact hT k h
        · exact hn
        · omega)
      ⟨T, fun _ => Iff.rfl, fun h => Nat.lt_irrefl _ (hlt0 _ h), fun h => by have := hlt0 _ h; omega, hI1, hL1, hD1⟩ ?_
    · refine callsIn_wide.2 (it.mono ?_)
      rintro e W2 ⟨⟨v, rfl⟩, S', hgS, huS, (⟨T1, hS, n1, n2, hi, hl, hd⟩ | ⟨pre, hSp, T1, c, hS, n1, n2, hi, hl, hd⟩)⟩
      · have hg1 : Grow T T1 w := fun k hk => by
          rcases hgS k ((hS k).2 ((tt _ _).2 (.inl hk))) with h | h
          · rcases (tt T k).1 h with h | rfl | rfl
            · exact .inl h
            · exact .inr (Nat.le_refl _)
            · exact .inr (by omega)
          · exact .inr (by omega)
        have hu1 : Upd T w W2 := (Upd.of_below hb1).step huS (fun k hk => by
          rcases (tt T k).1 hk with h | rfl | rfl
          · exact .inl h
          · exact .inr (Nat.le_refl _)
          · exact .inr (by omega))
        exact ⟨none, _, by have := run_endLoop (P := P) hl (by rw [hrec]; simp); rw [hrec] at this; exact this,
          hdone _ T1 _ (Nat.le_refl _) n1 hg1 (hu1.step (upd_putObj (S := fun k => k = w.heap.size + 1) _ _ rfl) (fun k hk => .inr (by omega))) (hI.move hi (same_putObj _ _ n2)) ((World.putObj_heap_other (by omega)).trans hd)⟩
      · have hg1 : Grow T T1 w := fun k hk => by
          rcases hgS k ((hS k).2 ((tt _ _).2 (.inl hk))) with h | h
          · rcases (tt T k).1 h with h | rfl | rfl
            · exact .inl h
            · exact .inr (Nat.le_refl _)
            · exact .inr (by omega)
          · exact .inr (by omega)
        have hu1 : Upd T w W2 := (Upd.of_below hb1).step huS (fun k hk => by
          rcases (tt T k).1 hk with h | rfl | rfl
          · exact .inl h
          · exact .inr (Nat.le_refl _)
          · exact .inr (by omega))
        exact ⟨some c, _, by have := run_endLoop (P := P) hl (by rw [hrec]; simp); rw [hrec] at this; exact this,
          hstop _ c pre T1 _ (Nat.le_refl _) n1 hg1 (hu1.step (upd_putObj (S := fun k => k = w.heap.size + 1) _ _ rfl) (fun k hk => .inr (by omega))) hSp ((hIx c).move hi (same_putObj _ _ n2)) ((World.putObj_heap_other (by omega)).trans hd)⟩
    · rintro pre x S1 W ⟨T1, hS, n1, n2, hi, hl, hd⟩ hgS0 huS0 hpre
      have hg1 : Grow T T1 w := fun k hk => by
        rcases hgS0 k ((hS k).2 ((tt _ _).2 (.inl hk))) with h | h
        · rcases (tt T k).1 h with h | rfl | rfl
          · exact .inl h
          · exact .inr (Nat.le_refl _)
          · exact .inr (by omega)
        · exact .inr (by omega)
      have hu1 : Upd T w W := (Upd.of_below hb1).step huS0 (fun k hk => by
        rcases (tt T k).1 hk with h | rfl | rfl
        · exact .inl h
        · exact .inr (Nat.le_refl _)
        · exact .inr (by omega))
      have hlt : w.heap.size + 1 < W.heap.size := blk_lt hl
      have hy := run_yield (P := P) (args := encs x) hl (by rw [hrec]; exact hps x)
      rw [hrec] at hy
      refine .inl ⟨w.heap.size + 1, rfl, rfl, fn, _, assign, body, hy, RoundIn.wide (n := n - 1 - 1) (roundIn_of_wpIn hfn (hassign _ pre x T1 W _ hi hg1 hu1 hpre (fun a' T2 Wa hgr hu ia => ?_)))⟩
      have hla : Wa.heap[w.heap.size + 1]? = some (.loop (rec .ready none)) := hu.heap hl n2
      have hda : Wa.heap[w.heap.size]? = some (.deferred (some [])) := hu.heap hd n1
      have m1 : ¬ T2 w.heap.size := hgr.not n1 (by omega)
      have m2 : ¬ T2 (w.heap.size + 1) := hgr.not n2 hlt
      have hlta : w.heap.size + 1 < Wa.heap.size := blk_lt hla
      refine ⟨_, run_beginRound hla (by rw [hrec]), ?_⟩
      obtain ⟨Wc, hWc⟩ : ∃ Wc, Wa.putObj (w.heap.size + 1) (.loop { rec .ready none with state := .busy }) = Wc := ⟨_, rfl⟩
      have hlc : Wc.heap[w.heap.size + 1]? = some (.loop { rec .ready none with state := .busy }) := by rw [← hWc]; exact World.putObj_heap_same hlta
      have hdc : Wc.heap[w.heap.size]? = some (.deferred (some [])) := by rw [← hWc]; exact (World.putObj_heap_other (by omega)).trans hda
      have huc : Upd (fun k => k = w.heap.size + 1) Wa Wc := by rw [← hWc]; exact upd_putObj _ _ rfl
      have hic : IA pre x a' T2 Wc := (hIA pre x).move ia (by rw [← hWc]; exact same_putObj _ _ m2)
      have hg2 : Grow T T2 w := hg1.trans hgr hu1.size
      have hu2 : Upd T w Wc := (hu1.grow hu hg1).step huc (fun k hk => .inr (by omega))
      have hszc : W.heap.size ≤ Wc.heap.size := Nat.le_trans hu.size huc.size
      rw [hWc]
      refine wpIn_mono (hbody _ pre x a' T2 Wc hic hg2 hu2 hpre) ?_
      have fin : ∀ (jump : Option Code) (T3 : Nat → Prop) (W3 : World), Grow T2 T3 Wc → Upd T2 Wc W3 →
          (Instr.endRound (w.heap.size + 1) jump).run P W3 = .ok (.bool jump.isNone) (W3.putObj (w.heap.size + 1) (.loop (rec (if jump.isNone then .ready else .done) jump))) ∧
          Grow S1 (TT T3) W ∧ Upd S1 W (W3.putObj (w.heap.size + 1) (.loop (rec (if jump.isNone then .ready else .done) jump))) ∧ ¬ T3 w.heap.size ∧ ¬ T3 (w.heap.size + 1) ∧
          (W3.putObj (w.heap.size + 1) (.loop (rec (if jump.isNone then .ready else .done) jump))).heap[w.heap.size + 1]? = some (.loop (rec (if jump.isNone then .ready else .done) jump)) ∧
          (W3.putObj (w.heap.size + 1) (.loop (rec (if jump.isNone then .ready else .done) jump))).heap[w.heap.size]? = some (.deferred (some [])) := fun jump T3 W3 hg3 hu3 => by
        have hl3 := hu3.heap hlc m2
        have hd3 := hu3.heap hdc m1
        have k1 : ¬ T3 w.heap.size := hg3.not m1 (blk_lt hdc)
        have k2 : ¬ T3 (w.heap.size + 1) := hg3.not m2 (blk_lt hlc)
        have sT : ∀ k, T1 k → S1 k := fun k hk => (hS k).2 ((tt _ _).2 (.inl hk))
        have sD : S1 w.heap.size := (hS _).2 ((tt _ _).2 (.inr (.inl rfl)))
        have sL : S1 (w.heap.size + 1) := (hS _).2 ((tt _ _).2 (.inr (.inr rfl)))
        have s2 : ∀ k, T2 k → S1 k ∨ W.heap.size ≤ k := fun k hk => by
          rcases hgr k hk with h | h
          · exact .inl (sT k h)
          · exact .inr h
        have hgS : Grow S1 (TT T3) W := fun k hk => by
          rcases (tt T3 k).1 hk with h | rfl | rfl
          · rcases hg3 k h with h | h
            · exact s2 k h
            · exact .inr (by omega)
          · exact .inl sD
          · exact .inl sL
        have huS : Upd S1 W W3 := (((hu.mono sT).step huc (fun k hk => .inl (by rw [hk]; exact sL))).step hu3 s2)
        have := run_endRound (P := P) jump hl3
        rw [hrec] at this ⊢
        exact ⟨this, hgS, huS.step (upd_putObj (S := fun k => k = w.heap.size + 1) _ _ rfl) (fun k hk => .inl (by rw [hk]; exact sL)), k1, k2, World.putObj_heap_same (blk_lt hl3), (World.putObj_heap_other (by omega)).trans hd3⟩
      rintro e a3 W3 hp
      cases e with
      | normal =>
        obtain ⟨T3, hg3, hu3, hi3⟩ := hp
        obtain ⟨hr, hgS, huS, k1, k2, hl5, hd5⟩ := fin none T3 W3 hg3 hu3
        exact ⟨_, _, hr, TT T3, hgS, huS, .inl ⟨rfl, T3, fun _ => Iff.rfl, k1, k2, hI.move hi3 (same_putObj _ _ k2), hl5, hd5⟩⟩
      | ret =>
        obtain ⟨T3, hg3, hu3, hi3⟩ := hp
        obtain ⟨hr, hgS, huS, k1, k2, hl5, hd5⟩ := fin (some .ret) T3 W3 hg3 hu3
        exact ⟨_, _, hr, TT T3, hgS, huS, .inr ⟨rfl, T3, .ret, fun _ => Iff.rfl, k1, k2, (hIx _).move hi3 (same_putObj _ _ k2), hl5, hd5⟩⟩
      | exit id =>
        obtain ⟨T3, hg3, hu3, hi3⟩ := hp
        obtain ⟨hr, hgS, huS, k1, k2, hl5, hd5⟩ := fin (some (.exit id)) T3 W3 hg3 hu3
        exact ⟨_, _, hr, TT T3, hgS, huS, .inr ⟨rfl, T3, .exit id, fun _ => Iff.rfl, k1, k2, (hIx _).move hi3 (same_putObj _ _ k2), hl5, hd5⟩⟩
      | goto t =>
        obtain ⟨T3, hg3, hu3, hi3⟩ := hp
        obtain ⟨hr, hgS, huS, k1, k2, hl5, hd5⟩ := fin (some (.goto t)) T3 W3 hg3 hu3
        exact ⟨_, _, hr, TT T3, hgS, huS, .inr ⟨rfl, T3, .goto t, fun _ => Iff.rfl, k1, k2, (hIx _).move hi3 (same_putObj _ _ k2), hl5, hd5⟩⟩
      | panic ch => exact hp.elim
      | outgrown => exact hp.elim
end Go.Proofs.Ytjbbobhjomhnmaa.H
