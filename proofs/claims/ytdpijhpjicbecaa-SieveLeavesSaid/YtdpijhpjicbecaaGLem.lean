/- Small steps for walks with iterators: regions within a round, boxes of entries, slices. No conditions. (gengl.py) -/
import Derived.Test.YtdpijhpjicbecaaGCur
import Derived.Test.YtdpijhpjicbecaaUIt
import Derived.Shelf.RegionOpen
import Derived.RangeFuncCalls
namespace Go.Proofs.Ytdpijhpjicbecaa.H
open Go Go.RowKit Go.Deep Go.Shelf Go.Proofs Go.Proofs.YtdpijhpjicbecaaW.PrintWords
set_option linter.unusedVariables false
set_option linter.unusedSimpArgs false
def noDefer (o : Oper) : Bool := match o.op with | .defer _ => false | _ => true
theorem noDefer_of {o : Oper} (h : noDefer o = true) : ∀ c, o.op ≠ .defer c := fun c e => by simp [noDefer, e] at h
section
variable {l n : Nat} {P : Program} {Q : Exit → Act → World → Prop}
theorem oper_rnd {o : Oper} {a : Act} {w : World} {K : Act → World → Prop} (hnd : ∀ c, o.op ≠ .defer c) (h : o.wp P a w K Q) : o.wpIn (Fence.wide.inRound l) n P a w K Q := by
  refine ⟨fun _ _ => trivial, ?_⟩
  rw [Fence.inRound_round, Oper.semAt_some l _ _ hnd]
  unfold Oper.wp at h
  generalize (execOp a.eval o).run P w = r at *
  cases r with
  | ok x w' =>
    cases x <;> simp only [Oper.upon, Oper.uponIn] at h ⊢
    case value => exact h
    case skip => exact h
    case defer => exact h
    case enter => exact ⟨(fun h => by cases h), CallsIn.inRound l (callsIn_wide.2 h)⟩
    case row row args => exact ⟨(fun h => by cases h), fun c cs _ => let ⟨v, w'', r, s⟩ := h c cs; ⟨v, w'', r, stepsIn_wide.2 s⟩⟩
  | halt x w' => cases x <;> simp only [Oper.upon, Oper.uponIn] at h ⊢ <;> exact h
theorem wpAny_rnd {md : Region.Mode} {ops : Array Oper} (hnd : ∀ (i : Nat) (o : Oper), ops[i]? = some o → ∀ c, o.op ≠ .defer c) (hQ : ¬ LetsOut Q) : ∀ (f : Nat) (listed : Array Bool) (a : Act) (w : World), wpAny P md ops Q f listed a w → wpAnyIn (Fence.wide.inRound l) n P md ops Q f listed a w
  | 0, listed, a, w, h => h
  | f + 1, listed, a, w, h => by
    refine ⟨h.1, fun i hi => ?_⟩
    have h2 := h.2 i hi
    unfold wpOp at h2
    unfold wpOpIn
    cases ho : ops[i]? with
    | none =>
      simp only [ho] at h2 ⊢
      exact wpAny_rnd hnd hQ f _ _ _ h2
    | some o =>
      simp only [ho] at h2 ⊢
      split
      · rename_i hw
        simp only [hw, if_true] at h2
        rcases h2 with h2 | ⟨_, h2⟩
        · exact Oper.wpIn_mono (wpAny_rnd hnd hQ f _) (oper_rnd (hnd i o ho) h2)
        · exact absurd h2 hQ
      · rename_i hw
        simp only [hw] at h2
        exact ⟨fun _ _ => trivial, wpAny_rnd hnd hQ f _ _ _ h2⟩
theorem wpIn_region_rnd {id : Nat} {ops : List Oper} {a : Act} {w : World} (hm : P.follows .mixedOrders = true) (hnd : ops.all noDefer = true) (hQ : ¬ LetsOut Q)
    (h : wpAny P .any ops.toArray Q ops.toArray.size (Array.replicate ops.toArray.size false) a { w with drawn := w.drawn + 1 }) : (Code.region id ops.toArray true).wpIn (Fence.wide.inRound l) n P Q a w :=
  wpIn_region_any hm (wpAny_rnd (fun i o ho => noDefer_of (List.all_eq_true.1 hnd o (by simpa using List.mem_of_getElem? (by simpa using ho)))) hQ _ _ _ _ h)
theorem wpList_rnd {ops : Array Oper} (hQ : ¬ LetsOut Q) : ∀ (rest : List Oper) (a : Act) (w : World), rest.all noDefer = true → wpList P ops Q rest a w → wpListIn (Fence.wide.inRound l) n P ops Q rest a w
  | [], a, w, _, h => h
  | o :: rest, a, w, hd, h => by
    rw [List.all_cons, Bool.and_eq_true] at hd
    unfold wpList at h
    unfold wpListIn
    split
    · rename_i hw
      rw [if_pos hw] at h
      rcases h with h | ⟨_, h⟩
      · exact Oper.wpIn_mono (fun a w h => wpList_rnd hQ rest a w hd.2 h) (oper_rnd (noDefer_of hd.1) h)
      · exact absurd h hQ
    · rename_i hw
      rw [if_neg hw] at h
      exact ⟨fun _ _ => trivial, wpList_rnd hQ rest _ w hd.2 h⟩
theorem wpIn_region_rndL {id : Nat} {ops : List Oper} {a : Act} {w : World} (hnd : ops.all noDefer = true) (hQ : ¬ LetsOut Q) (h : wpList P ops.toArray Q ops a w) : (Code.region id ops.toArray false).wpIn (Fence.wide.inRound l) n P Q a w :=
  wpIn_region_lit (wpList_rnd hQ ops a w hnd h)
end
theorem no_letsOut {Q : Exit → Act → World → Prop} (h : ∀ a w, ¬ Q .outgrown a w) : ¬ LetsOut Q := fun ⟨a, w, h2⟩ => h a w h2
theorem cell_later {w W : World} {b o : Nat} {v : Value} (hb : Below w.heap.size w W) (hv : w.cell? ⟨b, o, none⟩ = some v) : W.cell? ⟨b, o, none⟩ = some v := (hb.cell (p := ⟨b, o, none⟩) (World.block_lt_of_cell? w ⟨b, o, none⟩ hv)).trans hv
theorem boxEnt {w : World} {b : Nat} {e : Ent} (h : w.heap[b]? = some (.cells #[.string e.1, .int .u64 e.2.1, .bool e.2.2.1, .string e.2.2.2] 53 (0, 0))) : ∀ i v, (encE e)[i]? = some v → w.cell? ⟨b, i, none⟩ = some v := fun i v hv => (blk_cell h i).trans (by simpa [encE] using hv)
theorem own_slice {α : Type} {enc : α → List Value} {e : TypeId} {sz : Nat} {w : World} {base : Nat} {v : Value} {l : List α} (h : Own enc e sz w base v l) : ∃ A c, v = .slice A l.length c := by
  rcases h.2 with ⟨hv, hn⟩ | ⟨g, cap, cur, hv, _⟩
  · exact ⟨_, _, by rw [hn]; exact hv⟩
  · exact ⟨_, _, hv⟩
theorem foot_and {β : Type} {J : β → (Nat → Prop) → World → Prop} (h : Foot J) (p : β → Prop) : Foot (fun s T W => J s T W ∧ p s) := ⟨fun h1 hk => h.lt h1.1 hk, fun h1 hs => ⟨h.move h1.1 hs, h1.2⟩⟩
theorem foot_act {α β : Type} {I : α → (Nat → Prop) → World → Prop} (h : Foot I) (p : α) (X : β) : Foot (fun (a : β) S W => I p S W ∧ a = X) := ⟨fun h1 hk => h.lt h1.1 hk, fun h1 hs => ⟨h.move h1.1 hs, h1.2⟩⟩
theorem Upd.bel {S : Nat → Prop} {w w' : World} {n : Nat} (u : Upd S w w') (hS : ∀ k, S k → n ≤ k) (hn : n ≤ w.heap.size) : Below n w w' :=
  ⟨u.os, u.tape, u.output, u.size, fun k hk => u.block k (Nat.lt_of_lt_of_le hk hn) (fun s => by have := hS k s; omega)⟩
theorem store4 {W : World} {b : Nat} {v0 v1 v2 v3 : Value} {t : TypeId} (h : W.heap[b]? = some (.cells #[v0, v1, v2, v3] t (0, 0))) (e : Ent) : (storeCells ⟨b, 0, none⟩ (encE e)).run Try.prog W = .ok () (W.setRow b (encE e).toArray) := by
  have := run_storeCells_at (P := Try.prog) b 0 t (encE e) 0 _ W h (by simp [encE]) (okE e).2
  rw [this]
  congr 2
theorem upd_setRow {S : Nat → Prop} (W : World) {g : Nat} (cs : Array Value) (hg : S g) : Upd S W (W.setRow g cs) :=
  ⟨rfl, rfl, rfl, by simp, fun k hk hne => setRow_other W g k cs (by rintro rfl; exact hne hg)⟩
theorem same_setRow {T : Nat → Prop} (W : World) {g : Nat} (cs : Array Value) (hg : ¬ T g) : Same T W (W.setRow g cs) :=
  ⟨rfl, rfl, rfl, by simp, fun k hk => setRow_other W g k cs (by rintro rfl; exact hg hk)⟩
theorem same_alloc {T : Nat → Prop} (W : World) (o : Obj) (h : ∀ k, T k → k < W.heap.size) : Same T W (W.alloc o) := Same.of_below ((Below.refl _ _).alloc (Nat.le_refl _) _) h
abbrev encA (e : Ent) : Array Value := #[.agg (encE e).toArray]
/-- With a box more. -/
theorem foot_box {I : List Ent → (Nat → Prop) → World → Prop} (h : Foot I) (p : List Ent) (x : Ent) (X : Nat → Act) (t : TypeId) :
    Foot (fun (a : Act) S W => ∃ b7 S0, W.heap[b7]? = some (.cells (encE x).toArray t (0, 0)) ∧ I p S0 W ∧ (∀ k, S k ↔ S0 k ∨ k = b7) ∧ ¬ S0 b7 ∧ a = X b7) := by
  refine ⟨fun {a S W k} h1 hk => ?_, fun {a S W W'} h1 hs => ?_⟩
  · obtain ⟨b7, S0, r, hi, hS, _, _⟩ := h1
    rcases (hS k).1 hk with hk | rfl
    · exact h.lt hi hk
    · exact blk_lt r
  · obtain ⟨b7, S0, r, hi, hS, hn, ha⟩ := h1
    exact ⟨b7, S0, (hs.block _ ((hS _).2 (.inr rfl))).trans r, h.move hi (hs.mono fun k hk => (hS k).2 (.inl hk)), hS, hn, ha⟩
theorem infoE : (Try.prog.info? 53).map (fun i => (i.zero, i.size, i.bytes)) = some (some (.agg #[.string ByteArray.empty, .int .u64 0, .bool false, .string ByteArray.empty]), 4, 48) := by kernel_rfl
theorem uSlE : Try.prog.underlying 27 = some (.slice 53) := Try.underlying27
end Go.Proofs.Ytdpijhpjicbecaa.H
