/- A region that draws its order, whose operations but for a forced tail read, compute, or call what only makes memory: walked once, in the order of the text. No conditions. -/
import Derived.StillTail
import Derived.Below
namespace Go.Proofs.Ytjbbobhjomhnmaa.H
open Go Go.RowKit
set_option linter.unusedVariables false
section
variable {P : Program} {ops : Array Oper} {md : Region.Mode} {w : World}
/-- An operation comes to v, and only makes memory. -/
def CalmRes (P : Program) (w : World) (v : Value) : Result Next → Prop
  | .ok (.value x) W' => x = v ∧ Below w.heap.size w W'
  | .ok .skip W' => undef = v ∧ Below w.heap.size w W'
  | .ok (.enter f args) W' => Calls P f args W' fun e W'' => e = .returned v ∧ Below w.heap.size w W''
  | _ => False
/-- It does so wherever all of w lies as it did. -/
def CalmAt (P : Program) (ops : Array Oper) (w : World) (o : Oper) (v : Value) (a : Act) : Prop :=
  (Region.wanted o (yielded ops a.tmps) = true ∧ ∀ W, Below w.heap.size w W → CalmRes P w v ((execOp a.eval o).run P W)) ∨ (Region.wanted o (yielded ops a.tmps) = false ∧ undef = v)
theorem CalmAt.same {o : Oper} {v : Value} {a a' : Act} (h : CalmAt P ops w o v a) (he : execOp a'.eval o = execOp a.eval o) (hw : Region.wanted o (yielded ops a'.tmps) = Region.wanted o (yielded ops a.tmps)) : CalmAt P ops w o v a' := by
  unfold CalmAt at *
  rw [he, hw]
  exact h
def calmOp (P : Program) (ops : Array Oper) (w : World) (i : Nat) (K : Act → Prop) (a : Act) : Prop :=
  match ops[i]? with
  | none => K a
  | some o => ∃ v, CalmAt P ops w o v a ∧ K (a.put o.dst v)
theorem calmOp_some {i : Nat} {o : Oper} (hi : ops[i]? = some o) {K : Act → Prop} {a : Act} : calmOp P ops w i K a ↔ ∃ v, CalmAt P ops w o v a ∧ K (a.put o.dst v) := by
  unfold calmOp
  rw [hi]
theorem calmOp_mono {i : Nat} {a : Act} {K K' : Act → Prop} (h : ∀ a, K a → K' a) (hh : calmOp P ops w i K a) : calmOp P ops w i K' a := by
  cases hi : ops[i]? with
  | none =>
    unfold calmOp at *
    simp only [hi] at *
    exact h _ hh
  | some o =>
    rw [calmOp_some hi] at *
    obtain ⟨v, h1, h2⟩ := hh
    exact ⟨v, h1, h _ h2⟩
theorem calmOp_put {j : Nat} {oi oj : Oper} {v : Value} (hj : ops[j]? = some oj) (hap : oi.apart ops oj = true) (hsi : ∀ cs b, oi.op ≠ .select cs b) (hsj : ∀ cs b, oj.op ≠ .select cs b) {K : Act → Prop} {a : Act}
    (hy : CalmAt P ops w oi v a) (h : calmOp P ops w j K (a.put oi.dst v)) : calmOp P ops w j (fun a' => CalmAt P ops w oi v a' ∧ K (a'.put oi.dst v)) a := by
  obtain ⟨h1, h2, h3⟩ := Oper.apart_spec hap
  rw [calmOp_some hj] at *
  obtain ⟨u, hu, hK⟩ := h
  refine ⟨u, hu.same (execOp_put oj hsj a oi.dst v h1).symm (wanted_put oj a oi.dst v h1).symm, hy.same (execOp_put oi hsi a oj.dst u h3) (wanted_put oi a oj.dst u h3), ?_⟩
  rw [← Act.put_comm a v u h2]
  exact hK
theorem wpOp_of_calm {i : Nat} {a : Act} {K : Act → Prop} {K' : Act → World → Prop} {Q : Exit → Act → World → Prop} (h : ∀ a, K a → ∀ W, Below w.heap.size w W → K' a W) (hh : calmOp P ops w i K a) {W : World} (hW : Below w.heap.size w W) :
    wpOp P ops Q i K' a W := by
  unfold wpOp
  cases hi : ops[i]? with
  | none =>
    unfold calmOp at hh
    simp only [hi] at hh
    exact h _ hh W hW
  | some o =>
    rw [calmOp_some hi] at hh
    obtain ⟨v, hy, hK⟩ := hh
    rcases hy with ⟨hw, hr⟩ | ⟨hw, rfl⟩
    · simp only [hw, if_true]
      refine .inl ?_
      have hr := hr W hW
      unfold Oper.wp
      generalize (execOp a.eval o).run P W = r at hr
      cases r with
      | ok n W' =>
        cases n <;> simp only [CalmRes] at hr <;> simp only [Oper.upon]
        case value x => obtain ⟨rfl, hb⟩ := hr; exact h _ hK W' hb
        case skip => obtain ⟨rfl, hb⟩ := hr; exact h _ hK W' hb
        case enter f args => exact hr.mono fun e W'' ⟨he, hb⟩ => by subst he; exact h _ hK W'' hb
      | halt x W' => simp only [CalmRes] at hr
    · simp only [hw, Bool.false_eq_true, if_false]
      exact h _ hK W hW
/-- Whatever is ready next: it is calm, and none of the tail. -/
def calmAny (P : Program) (md : Region.Mode) (ops : Array Oper) (w : World) (n : Nat) (L : Array Bool → Act → Prop) : Nat → Array Bool → Act → Prop
  | 0, listed, a => L listed a
  | f + 1, listed, a => Region.ready md ops listed ≠ [] ∧ ∀ i ∈ Region.ready md ops listed, i < n ∧ calmOp P ops w i (calmAny P md ops w n L f (listed.setIfInBounds i true)) a
theorem wpAny_of_calm {n g : Nat} {L : Array Bool → Act → Prop} {Q : Exit → Act → World → Prop} (hL : ∀ listed a, L listed a → ∀ W, Below w.heap.size w W → wpAny P md ops Q g listed a W) :
    ∀ (f : Nat) (listed : Array Bool) (a : Act), calmAny P md ops w n L f listed a → ∀ W, Below w.heap.size w W → wpAny P md ops Q (f + g) listed a W
  | 0, listed, a, h, W, hW => by rw [Nat.zero_add]; exact hL _ _ h W hW
  | f + 1, listed, a, h, W, hW => by
    rw [show f + 1 + g = (f + g) + 1 by omega]
    exact ⟨fun h0 => absurd h0 h.1, fun i hi => wpOp_of_calm (fun a' h' => wpAny_of_calm hL f _ a' h') (h.2 i hi).2 hW⟩
theorem calm_first {n i : Nat} {oi : Oper} {v : Value} {L : Array Bool → Act → Prop} (hi : ops[i]? = some oi) (hsel : ∀ (j : Nat) (o : Oper) cs b, ops[j]? = some o → o.op ≠ .select cs b)
    (hs : Region.sinkB md ops n = true) (hc : Region.chainB md ops n = true) (hn : n < ops.size) (hin : i < n) (hdone : ∀ listed a, L listed a → ∀ j ∈ Region.ready md ops listed, n ≤ j) :
    ∀ (f : Nat) (listed : Array Bool) (a : Act), HeadInv md ops n listed →
      (∀ j oj, ops[j]? = some oj → j ≠ i → listed.getD j true = false → (∀ e ∈ oj.after, Region.binds md e = true → e.on ≠ i) → oi.apart ops oj = true) →
      i ∈ Region.ready md ops listed → CalmAt P ops w oi v a → calmAny P md ops w n L f (listed.setIfInBounds i true) (a.put oi.dst v) → calmAny P md ops w n L (f + 1) listed a := by
  intro f
  induction f with
  | zero =>
    intro listed a inv hfree hr hy H
    refine ⟨fun h0 => (by rw [h0] at hr; cases hr), fun j hj => ?_⟩
    have hjn : j < n := Nat.lt_of_not_le fun hle => tail_waits hs hc hn inv _ i rfl hin (mem_ready.1 hr).1 j hle hj
    by_cases hji : j = i
    · subst hji
      exact ⟨hjn, (calmOp_some hi).2 ⟨v, hy, H⟩⟩
    · exact absurd (hdone _ _ H j (ready_mono hj hji)) (by omega)
  | succ f ih =>
    intro listed a inv hfree hr hy H
    refine ⟨fun h0 => (by rw [h0] at hr; cases hr), fun j hj => ?_⟩
    have hjn : j < n := Nat.lt_of_not_le fun hle => tail_waits hs hc hn inv _ i rfl hin (mem_ready.1 hr).1 j hle hj
    by_cases hji : j = i
    · subst hji
      exact ⟨hjn, (calmOp_some hi).2 ⟨v, hy, H⟩⟩
    · obtain ⟨hjun, oj, hoj, hall⟩ := mem_ready.1 hj
      have hno : ∀ e ∈ oj.after, Region.binds md e = true → e.on ≠ i := by
        intro e he hb heq
        have := hall e he hb
        rw [heq, getD_both (mem_ready.1 hr).1] at this
        cases this
      refine ⟨hjn, calmOp_mono (fun a' h3 => ?_) (calmOp_put hoj (hfree j oj hoj hji hjun hno) (fun cs b => hsel i oi cs b hi) (fun cs b => hsel j oj cs b hoj) hy (H.2 j (ready_mono hj hji)).2)⟩
      refine ih _ a' (inv.set hj hjn) (fun k ok hk hki hun hno' => hfree k ok hk hki ?_ hno') (ready_mono hr (Ne.symm hji)) h3.1 ?_
      · by_cases hjk : j = k
        · rw [← hjk]; exact hjun
        · rwa [getD_set_ne true hjk] at hun
      · rw [Array.setIfInBounds_comm _ _ hji]
        exact h3.2
/-- The operations one behind the other. -/
def calmList (P : Program) (ops : Array Oper) (w : World) (Q : Act → Prop) : List Oper → Act → Prop
  | [], a => Q a
  | o :: rest, a => ∃ v, CalmAt P ops w o v a ∧ calmList P ops w Q rest (a.put o.dst v)
theorem calm_lex {n g : Nat} {Lq : Act → Prop} (hsel : Region.noSelect ops = true) (hs : Region.sinkB md ops n = true) (hc : Region.chainB md ops n = true) (hn : n < ops.size) :
    ∀ (l : List Oper) (k : Nat) (listed : Array Bool) (a : Act), (∀ j, j < l.length → l[j]? = ops[k + j]?) → k + l.length = n → HeadInv md ops n listed → Region.lexHead md ops g l.length k listed = true → calmList P ops w Lq l a →
      calmAny P md ops w n (fun listed' a' => Region.seqB md ops g n listed' = true ∧ Lq a') l.length listed a
  | [], k, listed, a, _, hk, _, hB, h => by
    obtain rfl : k = n := by simpa using hk
    exact ⟨by simpa [Region.lexHead] using hB, h⟩
  | o :: l, k, listed, a, hl, hk, inv, hB, h => by
    have h0 : ops[k]? = some o := by simpa using (hl 0 (by simp)).symm
    simp only [List.length_cons, Region.lexHead, Bool.and_eq_true] at hB
    simp only [List.length_cons] at hk
    have hr : k ∈ Region.ready md ops listed := by simpa using hB.1.1
    obtain ⟨v, hy, hK⟩ := h
    exact calm_first h0 (Region.noSelect_spec hsel) hs hc hn (by omega) (fun _ _ hL => seqB_ready hL.1) l.length listed a inv (Region.free_spec h0 hB.1.2) hr hy
      (calm_lex hsel hs hc hn l (k + 1) _ _ (fun j hj => by simpa [Nat.add_assoc, Nat.add_comm 1 j] using hl (j + 1) (by simp; omega)) (by omega) (inv.set hr (by omega)) hB.2 hK)
/-- The region, walked once: n operations that are calm, then its tail. -/
theorem wp_region_calm {id : Nat} {Q : Exit → Act → World → Prop} {a : Act} {l : List Oper} (n : Nat) (hm : P.follows .mixedOrders = true) (hB : Region.lexTailB .any l.toArray n = true)
    (h : calmList P l.toArray w (fun a' => ∀ W, Below w.heap.size w W → wpList P l.toArray Q (l.drop n) a' W) (l.take n) a) : (Code.region id l.toArray true).wp P Q a w := by
  simp only [Region.lexTailB, Bool.and_eq_true, decide_eq_true_eq] at hB
  obtain ⟨⟨⟨⟨hsel, hn⟩, hs⟩, hc⟩, hlex⟩ := hB
  have hlt : n < l.length := by simpa using hn
  have htl : (l.take n).length = n := by simp; omega
  have hdl : (l.drop n).length = l.toArray.size - n := by simp
  have inv0 : HeadInv .any l.toArray n (Array.replicate l.toArray.size false) :=
    ⟨by simp, fun j oj _ hl => (by rw [getD_replicate_false] at hl; cases hl), fun t _ ht => getD_in (by simpa using ht) (getD_replicate_false _ _)⟩
  have H := calm_lex (md := .any) (g := l.toArray.size - n) hsel hs hc hn (l.take n) 0 _ a (fun j hj => by
    rw [htl] at hj
    simp [hj]) (by simpa using htl) inv0 (by rw [htl]; exact hlex) h
  refine wp_region_any hm ?_
  have h2 := wpAny_of_calm (Q := Q) (g := l.toArray.size - n) (fun listed a' hL W hW => by
    have := wpAny_of_seq (md := .any) (Q' := Q) (l.drop n) n listed a' W (fun j => by simp [List.getElem?_drop]) (by rw [hdl]; exact hL.1) (hL.2 W hW)
    rwa [hdl] at this) _ _ _ H { w with drawn := w.drawn + 1 } ((Below.refl w.heap.size w).drew)
  rw [htl, show n + (l.toArray.size - n) = l.toArray.size by omega] at h2
  exact h2
theorem calm_nil {Q : Act → Prop} {a : Act} (h : Q a) : calmList P ops w Q [] a := h
/-- One step: the value is read off the run. -/
theorem calm_step {Q : Act → Prop} {a : Act} {o : Oper} {rest : List Oper}
    (h : ∀ K : Act → Prop, (∀ a, calmList P ops w Q rest a → K a) → ∃ v, Region.wanted o (yielded ops a.tmps) = true ∧ (∀ W, Below w.heap.size w W → CalmRes P w v ((execOp a.eval o).run P W)) ∧ K (a.put o.dst v)) : calmList P ops w Q (o :: rest) a := by
  obtain ⟨v, h1, h2, h3⟩ := h _ (fun _ h => h)
  exact ⟨v, .inl ⟨h1, h2⟩, h3⟩
/-- The same, where no guard stands ahead. -/
theorem calm_plain {Q : Act → Prop} {a : Act} {o : Oper} {rest : List Oper} (hg : o.guard = none)
    (h : ∀ K : Act → Prop, (∀ a, calmList P ops w Q rest a → K a) → ∃ v, (∀ W, Below w.heap.size w W → CalmRes P w v ((execOp a.eval o).run P W)) ∧ K (a.put o.dst v)) : calmList P ops w Q (o :: rest) a := by
  obtain ⟨v, h2, h3⟩ := h _ (fun _ h => h)
  exact ⟨v, .inl ⟨by simp [Region.wanted, hg], h2⟩, h3⟩
theorem calm_skip {Q : Act → Prop} {a : Act} {o : Oper} {rest : List Oper} (hw : Region.wanted o (yielded ops a.tmps) = false) (hr : calmList P ops w Q rest (a.put o.dst undef)) : calmList P ops w Q (o :: rest) a := ⟨undef, .inr ⟨hw, rfl⟩, hr⟩
/-- A call that only makes memory; one that does nothing. -/
theorem calm_b {f : FuncId} {args : Array Value} {v : Value} {W : World} (h : Below w.heap.size w W) (hc : Calls P f args W fun e W' => e = .returned v ∧ Below W.heap.size W W') : CalmRes P w v (.ok (.enter f args) W) :=
  hc.mono fun _ _ ⟨he, hb⟩ => ⟨he, h.trans (hb.mono h.size)⟩
theorem calm_q {f : FuncId} {args : Array Value} {v : Value} {W : World} (h : Below w.heap.size w W) (hc : Calls P f args W fun e W' => e = .returned v ∧ W = W') : CalmRes P w v (.ok (.enter f args) W) :=
  hc.mono fun _ _ ⟨he, hb⟩ => ⟨he, hb ▸ h⟩
theorem calm_cells {W : World} (h : Below w.heap.size w W) : ∀ b o, b < w.heap.size → W.cell? ⟨b, o, none⟩ = w.cell? ⟨b, o, none⟩ := fun b o hb => h.cell (p := ⟨b, o, none⟩) hb
theorem calm_value {v : Value} {W : World} (h : Below w.heap.size w W) : CalmRes P w v (.ok (.value v) W) := ⟨rfl, h⟩
end
end Go.Proofs.Ytjbbobhjomhnmaa.H
