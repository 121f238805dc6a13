/- A region that draws its order and writes on its way: its writers in their order, its readers around them, each one walked once. No conditions. | Single steps of a region with stages. No conditions. | Regions within a round: as anywhere. No conditions. -/
import Derived.Test.YtdpijhpjicbecaaSkA
import Derived.Shelf.RegionOpen
import Derived.Test.YtdpijhpjicbecaaGLem
import Derived.RangeFuncCalls
namespace Go.Proofs.Ytdpijhpjicbecaa.H
open Go Go.RowKit
set_option linter.unusedVariables false
section
variable {σ : Type} {P : Program} {ops : Array Oper} {md : Region.Mode} {R : σ → World → Prop} {le : σ → σ → Prop} {kd : Nat → Nat} {V : Nat → Value}
def StepRes (P : Program) (S : World → Prop) (v : Value) : Result Next → Prop
  | .ok (.value x) W' => x = v ∧ S W'
  | .ok .skip W' => undef = v ∧ S W'
  | .ok (.enter f args) W' => Calls P f args W' fun e W'' => e = .returned v ∧ S W''
  | _ => False
def StepResT (P : Program) (S : Value → World → Prop) : Result Next → Prop
  | .ok (.value x) W' => S x W'
  | .ok .skip W' => S undef W'
  | .ok (.enter f args) W' => Calls P f args W' fun e W'' => ∃ v, e = .returned v ∧ S v W''
  | _ => False
/-- k = 2: a writer (the states it may leave: T); 0: a reader at any state, its value is u; else a reader from state s on. -/
def StepAt (P : Program) (ops : Array Oper) (R : σ → World → Prop) (le : σ → σ → Prop) (k : Nat) (u : Value) (s : σ) (o : Oper) (a : Act) (K : σ → Value → Prop) : Prop :=
  (Region.wanted o (yielded ops a.tmps) = true ∧ (k = 0 → K s u ∧ ∀ s' W, R s' W → StepRes P (R s') u ((execOp a.eval o).run P W)) ∧
    (k = 2 → ∃ T : Value → σ → Prop, (∃ v s', T v s') ∧ (∀ v s', T v s' → le s s' ∧ K s' v) ∧ ∀ W, R s W → StepResT P (fun v W' => ∃ s', T v s' ∧ R s' W') ((execOp a.eval o).run P W)) ∧
    (k ≠ 0 → k ≠ 2 → ∃ v, K s v ∧ ∀ s', le s s' → ∀ W, R s' W → StepRes P (R s') v ((execOp a.eval o).run P W))) ∨
  (Region.wanted o (yielded ops a.tmps) = false ∧ K s undef)
theorem StepAt.mono {k : Nat} {u : Value} {s : σ} {o : Oper} {a : Act} {K K' : σ → Value → Prop} (hr : ∀ s, le s s) (h : StepAt P ops R le k u s o a K) (hK : ∀ s' v, le s s' → K s' v → K' s' v) : StepAt P ops R le k u s o a K' := by
  rcases h with ⟨h1, h2, h3, h4⟩ | ⟨h1, h2⟩
  · refine .inl ⟨h1, fun hk => ⟨hK _ _ (hr s) (h2 hk).1, (h2 hk).2⟩, fun hk => ?_, fun hk hk' => ?_⟩
    · obtain ⟨T, t1, t2, t3⟩ := h3 hk
      exact ⟨T, t1, fun v s' ht => ⟨(t2 v s' ht).1, hK _ _ (t2 v s' ht).1 (t2 v s' ht).2⟩, t3⟩
    · obtain ⟨v, v1, v2⟩ := h4 hk hk'
      exact ⟨v, hK _ _ (hr s) v1, v2⟩
  · exact .inr ⟨h1, hK _ _ (hr s) h2⟩
theorem StepAt.same {k : Nat} {u : Value} {s : σ} {o : Oper} {a a' : Act} {K : σ → Value → Prop} (h : StepAt P ops R le k u s o a K) (he : execOp a'.eval o = execOp a.eval o) (hw : Region.wanted o (yielded ops a'.tmps) = Region.wanted o (yielded ops a.tmps)) : StepAt P ops R le k u s o a' K := by
  unfold StepAt at *
  rw [he, hw]
  exact h
def stepOp (P : Program) (ops : Array Oper) (R : σ → World → Prop) (le : σ → σ → Prop) (kd : Nat → Nat) (V : Nat → Value) (i : Nat) (K : σ → Act → Prop) (s : σ) (a : Act) : Prop :=
  match ops[i]? with
  | none => K s a
  | some o => StepAt P ops R le (kd i) (V i) s o a fun s' v => K s' (a.put o.dst v)
theorem stepOp_some {i : Nat} {o : Oper} (hi : ops[i]? = some o) {K : σ → Act → Prop} {s : σ} {a : Act} : stepOp P ops R le kd V i K s a ↔ StepAt P ops R le (kd i) (V i) s o a fun s' v => K s' (a.put o.dst v) := by
  unfold stepOp
  rw [hi]
theorem stepOp_mono {i : Nat} {s : σ} {a : Act} {K K' : σ → Act → Prop} (hr : ∀ s, le s s) (h : ∀ s a, K s a → K' s a) (hh : stepOp P ops R le kd V i K s a) : stepOp P ops R le kd V i K' s a := by
  cases hi : ops[i]? with
  | none =>
    unfold stepOp at *
    simp only [hi] at *
    exact h _ _ hh
  | some o =>
    rw [stepOp_some hi] at *
    exact hh.mono hr fun s' v _ hK => h _ _ hK
theorem stepOp_put {i j : Nat} {s : σ} {oi oj : Oper} (hr : ∀ s, le s s) (htr : ∀ a b c, le a b → le b c → le a c) (hj : ops[j]? = some oj) (hap : oi.apart ops oj = true) (hk : kd i = 2 → kd j = 0) (hsi : ∀ cs b, oi.op ≠ .select cs b) (hsj : ∀ cs b, oj.op ≠ .select cs b) {K : σ → Act → Prop} {a : Act}
    (hy : StepAt P ops R le (kd i) (V i) s oi a fun s' v => stepOp P ops R le kd V j K s' (a.put oi.dst v)) :
    stepOp P ops R le kd V j (fun s' a' => StepAt P ops R le (kd i) (V i) s' oi a' fun s'' v => K s'' (a'.put oi.dst v)) s a := by
  obtain ⟨h1, h2, h3⟩ := Oper.apart_spec hap
  have ej : ∀ v, execOp a.eval oj = execOp (a.put oi.dst v).eval oj := fun v => (execOp_put oj hsj a oi.dst v h1).symm
  have wj : ∀ v, Region.wanted oj (yielded ops a.tmps) = Region.wanted oj (yielded ops (a.put oi.dst v).tmps) := fun v => (wanted_put oj a oi.dst v h1).symm
  have ei : ∀ u, execOp (a.put oj.dst u).eval oi = execOp a.eval oi := fun u => execOp_put oi hsi a oj.dst u h3
  have wi : ∀ u, Region.wanted oi (yielded ops (a.put oj.dst u).tmps) = Region.wanted oi (yielded ops a.tmps) := fun u => wanted_put oi a oj.dst u h3
  have cm : ∀ v u, (a.put oi.dst v).put oj.dst u = (a.put oj.dst u).put oi.dst v := fun v u => (Act.put_comm a v u h2)
  simp only [stepOp_some hj] at hy ⊢
  rcases hy with ⟨w1, y0, y2, y1⟩ | ⟨w0, y⟩
  · by_cases k0 : kd i = 0
    · obtain ⟨y, val⟩ := y0 k0
      refine (y.same (ej _) (wj _)).mono hr fun s' u hs hK => ?_
      rw [cm] at hK
      exact .inl ⟨by rw [wi]; exact w1, fun _ => ⟨hK, fun s'' W hW => by rw [ei]; exact val s'' W hW⟩, fun h => by omega, fun h => absurd k0 h⟩
    · by_cases k2 : kd i = 2
      · obtain ⟨T, ⟨v0, s0, t0⟩, t1, t2⟩ := y2 k2
        have kj := hk k2
        have z0 := (t1 v0 s0 t0).2
        rcases z0 with ⟨q1, q0, _, _⟩ | ⟨q1, _⟩
        · rw [← wj] at q1
          have val := (q0 kj).2
          refine .inl ⟨q1, fun _ => ⟨?_, fun s' W hW => by rw [ej]; exact val s' W hW⟩, fun h => by omega, fun h => absurd kj h⟩
          refine .inl ⟨by rw [wi]; exact w1, fun h => absurd h k0, fun _ => ⟨T, ⟨v0, s0, t0⟩, fun v s' ht => ⟨(t1 v s' ht).1, ?_⟩, fun W hW => by rw [ei]; exact t2 W hW⟩, fun _ h => absurd k2 h⟩
          rcases (t1 v s' ht).2 with ⟨_, p0, _, _⟩ | ⟨p1, _⟩
          · have this : K s' ((a.put oi.dst v).put oj.dst (V j)) := (p0 kj).1
            rwa [cm] at this
          · rw [← wj, q1] at p1
            cases p1
        · rw [← wj] at q1
          refine .inr ⟨q1, ?_⟩
          refine .inl ⟨by rw [wi]; exact w1, fun h => absurd h k0, fun _ => ⟨T, ⟨v0, s0, t0⟩, fun v s' ht => ⟨(t1 v s' ht).1, ?_⟩, fun W hW => by rw [ei]; exact t2 W hW⟩, fun _ h => absurd k2 h⟩
          rcases (t1 v s' ht).2 with ⟨p1, _⟩ | ⟨_, p⟩
          · rw [← wj, q1] at p1
            cases p1
          · have this : K s' ((a.put oi.dst v).put oj.dst undef) := p
            rwa [cm] at this
      · obtain ⟨v, y, val⟩ := y1 k0 k2
        refine (y.same (ej _) (wj _)).mono hr fun s' u hs hK => ?_
        rw [cm] at hK
        exact .inl ⟨by rw [wi]; exact w1, fun h => absurd h k0, fun h => absurd h k2, fun _ _ => ⟨v, hK, fun s'' hs' W hW => by rw [ei]; exact val s'' (htr _ _ _ hs hs') W hW⟩⟩
  · refine (y.same (ej _) (wj _)).mono hr fun s' u hs hK => ?_
    rw [cm] at hK
    exact .inr ⟨by rw [wi]; exact w0, hK⟩
theorem wpOp_of_step {i : Nat} {s : σ} {a : Act} {K : σ → Act → Prop} {K' : Act → World → Prop} {Q : Exit → Act → World → Prop} (h : ∀ s a, K s a → ∀ W, R s W → K' a W) (hr : ∀ s, le s s) (hh : stepOp P ops R le kd V i K s a) {W : World} (hW : R s W) :
    wpOp P ops Q i K' a W := by
  unfold wpOp
  cases hi : ops[i]? with
  | none =>
    unfold stepOp at hh
    simp only [hi] at hh
    exact h _ _ hh W hW
  | some o =>
    rw [stepOp_some hi] at hh
    have one : ∀ (v : Value) (s' : σ), K s' (a.put o.dst v) → StepRes P (R s') v ((execOp a.eval o).run P W) → o.wp P a W K' Q := by
      intro v s' hK hr
      unfold Oper.wp
      generalize (execOp a.eval o).run P W = r at hr
      cases r with
      | ok n W' =>
        cases n <;> simp only [StepRes] at hr <;> simp only [Oper.upon]
        case value x => obtain ⟨rfl, hb⟩ := hr; exact h _ _ hK W' hb
        case skip => obtain ⟨rfl, hb⟩ := hr; exact h _ _ hK W' hb
        case enter f args => exact hr.mono fun e W'' ⟨he, hb⟩ => by subst he; exact h _ _ hK W'' hb
      | halt x W' => simp only [StepRes] at hr
    rcases hh with ⟨hw, h0, h2, h1⟩ | ⟨hw, hK⟩
    · simp only [hw, if_true]
      refine .inl ?_
      by_cases k0 : kd i = 0
      · exact one _ _ (h0 k0).1 ((h0 k0).2 s W hW)
      · by_cases k2 : kd i = 2
        · obtain ⟨T, _, t1, t2⟩ := h2 k2
          have hr := t2 W hW
          unfold Oper.wp
          generalize (execOp a.eval o).run P W = r at hr
          cases r with
          | ok n W' =>
            cases n <;> simp only [StepResT] at hr <;> simp only [Oper.upon]
            case value x => obtain ⟨s', ht, hb⟩ := hr; exact h _ _ (t1 _ _ ht).2 W' hb
            case skip => obtain ⟨s', ht, hb⟩ := hr; exact h _ _ (t1 _ _ ht).2 W' hb
            case enter f args => exact hr.mono fun e W'' ⟨v, he, s', ht, hb⟩ => by subst he; exact h _ _ (t1 _ _ ht).2 W'' hb
          | halt x W' => simp only [StepResT] at hr
        · obtain ⟨v, hK, val⟩ := h1 k0 k2
          exact one _ _ hK (val s (hr s) W hW)
    · simp only [hw, Bool.false_eq_true, if_false]
      exact h _ _ hK W hW
def anyS (P : Program) (md : Region.Mode) (ops : Array Oper) (R : σ → World → Prop) (le : σ → σ → Prop) (kd : Nat → Nat) (V : Nat → Value) (n : Nat) (L : Array Bool → σ → Act → Prop) : Nat → Array Bool → σ → Act → Prop
  | 0, listed, s, a => L listed s a
  | f + 1, listed, s, a => Region.ready md ops listed ≠ [] ∧ ∀ i ∈ Region.ready md ops listed, i < n ∧ stepOp P ops R le kd V i (anyS P md ops R le kd V n L f (listed.setIfInBounds i true)) s a
theorem wpAny_of_anyS {n g : Nat} {L : Array Bool → σ → Act → Prop} {Q : Exit → Act → World → Prop} (hrf : ∀ s, le s s) (hL : ∀ listed s a, L listed s a → ∀ W, R s W → wpAny P md ops Q g listed a W) :
    ∀ (f : Nat) (listed : Array Bool) (s : σ) (a : Act), anyS P md ops R le kd V n L f listed s a → ∀ W, R s W → wpAny P md ops Q (f + g) listed a W
  | 0, listed, s, a, h, W, hW => by rw [Nat.zero_add]; exact hL _ _ _ h W hW
  | f + 1, listed, s, a, h, W, hW => by
    rw [show f + 1 + g = (f + g) + 1 by omega]
    exact ⟨fun h0 => absurd h0 h.1, fun i hi => wpOp_of_step (fun s' a' h' => wpAny_of_anyS hrf hL f _ s' a' h') hrf (h.2 i hi).2 hW⟩
/-- What may run while i is not done. -/
def FreeAt (md : Region.Mode) (ops : Array Oper) (kd : Nat → Nat) (n i : Nat) (oi : Oper) : Prop :=
  ∀ listed, HeadInv md ops n listed → (∀ m, m < i → listed.getD m false = true) → listed.getD i true = false → ∀ j oj, ops[j]? = some oj → j ≠ i → j ∈ Region.ready md ops listed → oi.apart ops oj = true ∧ (kd i = 2 → kd j = 0)
theorem step_first {n i : Nat} {oi : Oper} {L : Array Bool → σ → Act → Prop} (hrf : ∀ s, le s s) (htr : ∀ a b c, le a b → le b c → le a c) (hi : ops[i]? = some oi) (hsel : ∀ (j : Nat) (o : Oper) cs b, ops[j]? = some o → o.op ≠ .select cs b)
    (hs : Region.sinkB md ops n = true) (hc : Region.chainB md ops n = true) (hn : n < ops.size) (hin : i < n) (hdone : ∀ listed s a, L listed s a → ∀ j ∈ Region.ready md ops listed, n ≤ j) (hfree : FreeAt md ops kd n i oi) :
    ∀ (f : Nat) (listed : Array Bool) (s : σ) (a : Act), HeadInv md ops n listed → (∀ m, m < i → listed.getD m false = true) →
      i ∈ Region.ready md ops listed → StepAt P ops R le (kd i) (V i) s oi a (fun s' v => anyS P md ops R le kd V n L f (listed.setIfInBounds i true) s' (a.put oi.dst v)) → anyS P md ops R le kd V n L (f + 1) listed s a := by
  intro f
  induction f with
  | zero =>
    intro listed s a inv hlow hr hy
    refine ⟨fun h0 => (by rw [h0] at hr; cases hr), fun j hj => ?_⟩
    have hjn : j < n := Nat.lt_of_not_le fun hle => tail_waits hs hc hn inv _ i rfl hin (mem_ready.1 hr).1 j hle hj
    by_cases hji : j = i
    · subst hji
      exact ⟨hjn, (stepOp_some hi).2 hy⟩
    · exfalso
      have : ∃ s' a', L (listed.setIfInBounds i true) s' a' := by
        rcases hy with ⟨_, h0, h2, h1⟩ | ⟨_, h⟩
        · by_cases k0 : kd i = 0
          · exact ⟨_, _, (h0 k0).1⟩
          · by_cases k2 : kd i = 2
            · obtain ⟨T, ⟨v, s', ht⟩, t1, _⟩ := h2 k2
              exact ⟨_, _, (t1 v s' ht).2⟩
            · obtain ⟨v, hv, _⟩ := h1 k0 k2
              exact ⟨_, _, hv⟩
        · exact ⟨_, _, h⟩
      obtain ⟨s', a', hL⟩ := this
      have := hdone _ _ _ hL j (ready_mono hj hji)
      omega
  | succ f ih =>
    intro listed s a inv hlow hr hy
    refine ⟨fun h0 => (by rw [h0] at hr; cases hr), fun j hj => ?_⟩
    have hjn : j < n := Nat.lt_of_not_le fun hle => tail_waits hs hc hn inv _ i rfl hin (mem_ready.1 hr).1 j hle hj
    by_cases hji : j = i
    · subst hji
      exact ⟨hjn, (stepOp_some hi).2 hy⟩
    · obtain ⟨hjun, oj, hoj, hall⟩ := mem_ready.1 hj
      obtain ⟨hap, hk⟩ := hfree listed inv hlow (mem_ready.1 hr).1 j oj hoj hji hj
      refine ⟨hjn, stepOp_mono hrf (fun s' a' h3 => ?_) (stepOp_put hrf htr hoj hap hk (fun cs b => hsel i oi cs b hi) (fun cs b => hsel j oj cs b hoj) (hy.mono hrf fun s' v _ H => (H.2 j (ready_mono hj hji)).2))⟩
      refine ih _ s' a' (inv.set hj hjn) (fun m hm => getD_set_true (hlow m hm)) (ready_mono hr (Ne.symm hji)) ?_
      refine h3.mono hrf fun s'' v _ H => ?_
      rw [Array.setIfInBounds_comm _ _ hji]
      exact H
/-- The operations one behind the other; k: the place of the first; s: the stage. -/
def stepList (P : Program) (ops : Array Oper) (R : σ → World → Prop) (le : σ → σ → Prop) (kd : Nat → Nat) (V : Nat → Value) (Q : σ → Act → Prop) : List Oper → Nat → σ → Act → Prop
  | [], _, s, a => Q s a
  | o :: rest, k, s, a => StepAt P ops R le (kd k) (V k) s o a fun s' v => stepList P ops R le kd V Q rest (k + 1) s' (a.put o.dst v)
def waitsOn (md : Region.Mode) (T : List Nat) (o : Oper) : Bool := o.after.toList.any fun e => Region.binds md e && T.contains e.on
/-- Those that wait for one of T, through others too. -/
def reach (md : Region.Mode) : Nat → List Nat → List Oper → List Nat
  | _, T, [] => T
  | k, T, o :: rest => reach md (k + 1) (if waitsOn md T o then k :: T else T) rest
theorem reach_spec {n i : Nat} {listed : Array Bool} (inv : HeadInv md ops n listed) : ∀ (rest : List Oper) (k : Nat) (T : List Nat), (∀ j, rest[j]? = ops[k + j]?) → (∀ t ∈ T, listed.getD t false = false ∧ (t ≠ i → t ∉ Region.ready md ops listed)) →
    ∀ t ∈ reach md k T rest, listed.getD t false = false ∧ (t ≠ i → t ∉ Region.ready md ops listed)
  | [], _, _, _, hT, t, ht => hT t ht
  | o :: rest, k, T, hl, hT, t, ht => by
    have h0 : ops[k]? = some o := by simpa using (hl 0).symm
    refine reach_spec inv rest (k + 1) _ (fun j => by have := hl (j + 1); simpa [Nat.add_assoc, Nat.add_comm 1 j] using this) ?_ t ht
    intro t' ht'
    by_cases hw : waitsOn md T o = true
    · rw [if_pos hw] at ht'
      rcases List.mem_cons.1 ht' with rfl | ht'
      · obtain ⟨e, he, hb⟩ := List.any_eq_true.1 hw
        simp only [Bool.and_eq_true] at hb
        have hin : e.on ∈ T := by simpa using hb.2
        have hg := (hT _ hin).1
        refine ⟨?_, fun _ hr => ?_⟩
        · cases hl' : listed.getD t' false with
          | false => rfl
          | true =>
            have := inv.closed t' o h0 hl' e (by simpa using he) hb.1
            rw [hg] at this
            cases this
        · obtain ⟨_, o', ho', hall⟩ := mem_ready.1 hr
          have : o' = o := Option.some.inj (ho'.symm.trans h0)
          subst this
          have := hall e (by simpa using he) hb.1
          rw [hg] at this
          cases this
      · exact hT t' ht'
    · rw [if_neg hw] at ht'
      exact hT t' ht'
def pairOk (ops : Array Oper) (o : Oper) (ki : Nat) (kd : Nat → Nat) (T : List Nat) : Nat → List Oper → Bool
  | _, [] => true
  | j, oj :: r => (T.contains j || (o.apart ops oj && (!(Nat.beq ki 2) || Nat.beq (kd j) 0))) && pairOk ops o ki kd T (j + 1) r
theorem pairOk_at {o : Oper} {ki : Nat} {T : List Nat} : ∀ (r : List Oper) (j : Nat), pairOk ops o ki kd T j r = true → ∀ q oj, r[q]? = some oj → j + q ∈ T ∨ (o.apart ops oj = true ∧ (ki = 2 → kd (j + q) = 0))
  | [], _, _, q, oj, h => by simp at h
  | x :: r, j, h, 0, oj, ho => by
    simp only [pairOk, Bool.and_eq_true, Bool.or_eq_true] at h
    simp at ho
    subst ho
    rcases h.1 with h1 | ⟨h1, h2⟩
    · exact .inl (by simpa using h1)
    · refine .inr ⟨h1, fun hk => ?_⟩
      subst hk
      simpa using h2
  | x :: r, j, h, q + 1, oj, ho => by
    simp only [pairOk, Bool.and_eq_true] at h
    have := pairOk_at r (j + 1) h.2 q oj (by simpa using ho)
    rwa [show j + 1 + q = j + (q + 1) by omega] at this
/-- k's edges lead back; what stands behind it waits for it or may change places with it; something up to n waits for it. -/
def headOkS (md : Region.Mode) (ops : Array Oper) (kd : Nat → Nat) : Nat → Nat → List Oper → Bool
  | 0, _, _ => true
  | _ + 1, _, [] => false
  | m + 1, k, o :: rest => (o.after.toList.all fun e => !Region.binds md e || Nat.blt e.on k) && pairOk ops o (kd k) kd (reach md (k + 1) [k] rest) (k + 1) rest && ((rest.take (m + 1)).any fun oj => waitsO md k oj) && headOkS md ops kd m (k + 1) rest
theorem headOkS_at : ∀ (m k : Nat) (l : List Oper), headOkS md ops kd m k l = true → ∀ i, i < m → ∃ o, l[i]? = some o ∧ (∀ e ∈ o.after, Region.binds md e = true → e.on < k + i) ∧
    pairOk ops o (kd (k + i)) kd (reach md (k + i + 1) [k + i] (l.drop (i + 1))) (k + i + 1) (l.drop (i + 1)) = true ∧ ∃ j oj, i < j ∧ j ≤ m ∧ l[j]? = some oj ∧ waitsO md (k + i) oj = true
  | 0, _, _, _, i, hi => by omega
  | m + 1, _, [], h, _, _ => by simp [headOkS] at h
  | m + 1, k, o :: rest, h, 0, _ => by
    simp only [headOkS, Bool.and_eq_true] at h
    obtain ⟨⟨⟨h1, h2⟩, h3⟩, _⟩ := h
    refine ⟨o, rfl, fun e he hb => ?_, by simpa using h2, ?_⟩
    · have := List.all_eq_true.1 h1 e (by simpa using he)
      simpa [hb, Nat.blt_eq] using this
    · obtain ⟨oj, hoj, hw⟩ := List.any_eq_true.1 h3
      obtain ⟨j, hj⟩ := List.getElem?_of_mem hoj
      have hlt : j < m + 1 := by
        have := (List.getElem?_eq_some_iff.1 hj).1
        rw [List.length_take] at this
        omega
      rw [List.getElem?_take_of_lt hlt] at hj
      exact ⟨j + 1, oj, by omega, by omega, by simpa using hj, by simpa using hw⟩
  | m + 1, k, o :: rest, h, i + 1, hi => by
    simp only [headOkS, Bool.and_eq_true] at h
    obtain ⟨o', h1, h2, h3, j, oj, h4, h5, h6, h7⟩ := headOkS_at m (k + 1) rest h.2 i (by omega)
    have e : k + 1 + i = k + (i + 1) := by omega
    rw [e] at h2 h3 h7
    exact ⟨o', by simpa using h1, h2, by simpa using h3, j + 1, oj, by omega, by omega, by simpa using h6, h7⟩
theorem step_lex {l : List Oper} {n g : Nat} {Lq : σ → Act → Prop} (hrf : ∀ s, le s s) (htr : ∀ a b c, le a b → le b c → le a c) (hsel : Region.noSelect l.toArray = true) (hs : Region.sinkB md l.toArray n = true) (hc : Region.chainB md l.toArray n = true) (hn : n < l.length) (hh : headOkS md l.toArray kd n 0 l = true) (hq : Region.seqB md l.toArray g n (listedAt n l.length) = true) :
    ∀ (m k : Nat) (listed : Array Bool) (s : σ) (a : Act), k + m = n → HeadInv md l.toArray n listed → (∀ j, j < l.length → listed.getD j true = decide (j < k)) → stepList P l.toArray R le kd V Lq ((l.take n).drop k) k s a →
      anyS P md l.toArray R le kd V n (fun listed' s' a' => Region.seqB md l.toArray g n listed' = true ∧ Lq s' a') m listed s a
  | 0, k, listed, s, a, hk, inv, hl, h => by
    have hk : k = n := by omega
    subst hk
    have e : listed = listedAt k l.length := by
      apply Array.ext
      · rw [inv.size]; simp [listedAt]; omega
      · intro i h1 h2
        have hi : i < l.length := by rw [inv.size] at h1; simpa using h1
        have := hl i hi
        simp only [Array.getD_eq_getD_getElem?, Array.getElem?_eq_getElem h1, Option.getD_some] at this
        rw [this]
        have hh2 : i < (List.replicate k true ++ List.replicate (l.length - k) false).length := by simp; omega
        have : (listedAt k l.length)[i] = (List.replicate k true ++ List.replicate (l.length - k) false)[i]'hh2 := rfl
        refine Eq.trans ?_ this.symm
        rw [List.getElem_append]
        split <;> rename_i hik <;> simp at hik <;> simp [hik]
    rw [e]
    have h0 : (l.take k).drop k = [] := by simp
    rw [h0] at h
    exact ⟨hq, h⟩
  | m + 1, k, listed, s, a, hk, inv, hl, h => by
    obtain ⟨o, h0, he, hp, _⟩ := headOkS_at n 0 l hh k (by omega)
    simp only [Nat.zero_add] at he hp
    have hks : k < l.length := (List.getElem?_eq_some_iff.1 h0).1
    have hd : (l.take n).drop k = o :: (l.take n).drop (k + 1) := by
      have h1 : k < (l.take n).length := by rw [List.length_take]; omega
      rw [List.drop_eq_getElem_cons h1]
      congr 1
      rw [List.getElem_take]
      exact (List.getElem?_eq_some_iff.1 h0).2
    rw [hd] at h
    have h0' : l.toArray[k]? = some o := by simpa using h0
    have hr : k ∈ Region.ready md l.toArray listed := by
      refine mem_ready.2 ⟨by rw [hl k hks]; simp, o, h0', fun e hem hb => ?_⟩
      have hlt := he e hem hb
      have := hl e.on (by omega)
      rw [Array.getD_eq_getD_getElem?, Array.getElem?_eq_getElem (by rw [inv.size]; simp; omega)] at this ⊢
      simpa [hlt] using this
    have hfree : FreeAt md l.toArray kd n k o := by
      intro listed' inv' hlow' hun' j oj hoj hjk hjr
      have hju := (mem_ready.1 hjr).1
      have hkj : k < j := by
        rcases Nat.lt_trichotomy j k with h | h | h
        · have := hlow' j h
          have h2 := getD_both hju
          rw [this] at h2
          cases h2
        · exact absurd h hjk
        · exact h
      have hoj' : l[j]? = some oj := by simpa using hoj
      obtain ⟨q, hq'⟩ : ∃ q, j = k + 1 + q := ⟨j - (k + 1), by omega⟩
      have hdq : (l.drop (k + 1))[q]? = some oj := by rw [List.getElem?_drop, ← hq']; exact hoj'
      rcases pairOk_at _ _ hp q oj hdq with ht | ht
      · rw [← hq'] at ht
        have := reach_spec (i := k) inv' (l.drop (k + 1)) (k + 1) [k] (fun x => by simp [List.getElem?_drop]) (fun t ht => by
          have : t = k := by simpa using ht
          subst this
          exact ⟨getD_both hun', fun h => absurd rfl h⟩) j ht
        exact absurd hjr (this.2 hjk)
      · rw [← hq'] at ht
        exact ht
    refine step_first hrf htr h0' (Region.noSelect_spec hsel) hs hc (by simpa using hn) (by omega) (fun _ _ _ hL => seqB_ready hL.1) hfree m listed s a inv (fun m' hm' => ?_) hr (StepAt.mono hrf h fun s' v _ hK => ?_)
    · have := hl m' (by omega)
      rw [Array.getD_eq_getD_getElem?, Array.getElem?_eq_getElem (by rw [inv.size]; simp; omega)] at this ⊢
      simpa [hm'] using this
    · refine step_lex hrf htr hsel hs hc hn hh hq m (k + 1) _ _ _ (by omega) (inv.set hr (by omega)) (fun j hj => ?_) hK
      by_cases hjk : k = j
      · subst hjk
        rw [Array.getD_eq_getD_getElem?, Array.getElem?_setIfInBounds]
        simp [inv.size, hks]
      · rw [getD_set_ne true hjk, hl j hj]
        apply decide_eq_decide.2
        omega
def vOf (L : List Value) (i : Nat) : Value := L.getD i undef
def kdOf (K : List Nat) (i : Nat) : Nat := K.getD i 0
/-- The region, walked once, with the stages R; K: what each operation is; n operations, then the tail. -/
theorem wpAny_region_step {Q : Exit → Act → World → Prop} {a : Act} {w : World} {l : List Oper} (R : σ → World → Prop) (le : σ → σ → Prop) (hrf : ∀ s, le s s) (htr : ∀ a b c, le a b → le b c → le a c) (s0 : σ) (K : List Nat) (VL : List Value) (n : Nat)
    (hB : (Region.noSelect l.toArray && Nat.blt n l.length && headOkS .any l.toArray (kdOf K) n 0 l && tailOk .any (n + 1) (l.drop (n + 1)) && Region.seqB .any l.toArray (l.length - n) n (listedAt n l.length)) = true)
    (h0 : R s0 { w with drawn := w.drawn + 1 })
    (h : stepList P l.toArray R le (kdOf K) (vOf VL) (fun s a' => ∀ W, R s W → wpList P l.toArray Q (l.drop n) a' W) (l.take n) 0 s0 a) : wpAny P .any l.toArray Q l.toArray.size (Array.replicate l.toArray.size false) a { w with drawn := w.drawn + 1 } := by
  simp only [Bool.and_eq_true, Nat.blt_eq] at hB
  obtain ⟨⟨⟨⟨hsel, hn⟩, hh⟩, ht⟩, hq⟩ := hB
  have hs : Region.sinkB .any l.toArray n = true := by
    refine List.all_eq_true.2 fun i hi => ?_
    have hi := List.mem_range.1 hi
    obtain ⟨o, _, _, _, j, oj, h1, h2, h3, h4⟩ := headOkS_at n 0 l hh i hi
    refine List.any_eq_true.2 ⟨j, List.mem_range.2 (by omega), ?_⟩
    rw [waitsO_eq h3]
    simp only [Nat.zero_add] at h4
    simp [h1, h4]
  have hc : Region.chainB .any l.toArray n = true := by
    refine List.all_eq_true.2 fun t ht' => ?_
    have ht' : t < l.length := by simpa using ht'
    by_cases htn : t ≤ n
    · simp [htn]
    · have ho : l[t]? = some l[t] := List.getElem?_eq_getElem ht'
      have := tailOk_at (n + 1) _ ht (t - (n + 1)) l[t] (by rw [List.getElem?_drop, show n + 1 + (t - (n + 1)) = t by omega]; exact ho)
      rw [show n + 1 + (t - (n + 1)) - 1 = t - 1 by omega] at this
      rw [waitsO_eq ho]
      simp [this]
  have hdl : (l.drop n).length = l.length - n := by simp
  have inv0 : HeadInv .any l.toArray n (Array.replicate l.toArray.size false) :=
    ⟨by simp, fun j oj _ hl => (by rw [getD_replicate_false] at hl; cases hl), fun t _ ht => getD_in (by simpa using ht) (getD_replicate_false _ _)⟩
  have H := step_lex (md := .any) (g := l.length - n) hrf htr hsel hs hc hn hh hq n 0 _ s0 a (by omega) inv0 (fun j hj => by
    rw [Array.getD_eq_getD_getElem?, Array.getElem?_eq_getElem (by simpa using hj)]
    simp) (by simpa using h)
  have h2 := wpAny_of_anyS (Q := Q) (g := l.length - n) hrf (fun listed s a' hL W hW => by
    have := wpAny_of_seq (md := .any) (Q' := Q) (l.drop n) n listed a' W (fun j => by simp [List.getElem?_drop]) (by rw [hdl]; exact hL.1) (hL.2 W hW)
    rwa [hdl] at this) _ _ _ _ H { w with drawn := w.drawn + 1 } h0
  rw [show n + (l.length - n) = l.toArray.size by simp; omega] at h2
  exact h2
theorem wp_region_step {id : Nat} {Q : Exit → Act → World → Prop} {a : Act} {w : World} {l : List Oper} (R : σ → World → Prop) (le : σ → σ → Prop) (hrf : ∀ s, le s s) (htr : ∀ a b c, le a b → le b c → le a c) (s0 : σ) (K : List Nat) (VL : List Value) (n : Nat) (hm : P.follows .mixedOrders = true)
    (hB : (Region.noSelect l.toArray && Nat.blt n l.length && headOkS .any l.toArray (kdOf K) n 0 l && tailOk .any (n + 1) (l.drop (n + 1)) && Region.seqB .any l.toArray (l.length - n) n (listedAt n l.length)) = true)
    (h0 : R s0 { w with drawn := w.drawn + 1 })
    (h : stepList P l.toArray R le (kdOf K) (vOf VL) (fun s a' => ∀ W, R s W → wpList P l.toArray Q (l.drop n) a' W) (l.take n) 0 s0 a) : (Code.region id l.toArray true).wp P Q a w :=
  wp_region_any hm (wpAny_region_step R le hrf htr s0 K VL n hB h0 h)
end
end Go.Proofs.Ytdpijhpjicbecaa.H
namespace Go.Proofs.Ytdpijhpjicbecaa.H
open Go Go.RowKit
set_option linter.unusedVariables false
section
variable {σ : Type} {P : Program} {ops : Array Oper} {R : σ → World → Prop} {le : σ → σ → Prop} {kd : Nat → Nat} {V : Nat → Value} {a : Act} {l : List (Tmp × Value)} {o : Oper} {rest : List Oper} {Q : σ → Act → Prop}
theorem snil {k : Nat} {s : σ} (h : Q s a) : stepList P ops R le kd V Q [] k s a := h
theorem schain0 {k : Nat} {s : σ} (h : stepList P ops R le kd V Q rest k s (putL a [])) : stepList P ops R le kd V Q rest k s a := by rw [putL] at h; exact h
/-- A reader at any state. -/
theorem schain {k : Nat} {s : σ} {t : Tmp} (v : Value) (hk : kd k = 0) (hv : V k = v) (hg : Region.wanted o (yielded ops (putL a l).tmps) = true) (hd : o.dst = some t) (h : ∀ s' W, R s' W → StepRes P (R s') v ((execOp (putL a l).eval o).run P W)) (hr : stepList P ops R le kd V Q rest (k + 1) s (putL a ((t, v) :: l))) :
    stepList P ops R le kd V Q (o :: rest) k s (putL a l) := by
  rw [putL] at hr
  rw [← hd] at hr
  subst hv
  exact .inl ⟨hg, fun _ => ⟨hr, h⟩, fun h2 => by omega, fun h0 => absurd hk h0⟩
/-- A reader from this state on. -/
theorem schain1 {k : Nat} {s : σ} {t : Tmp} (v : Value) (hk : kd k = 1) (hg : Region.wanted o (yielded ops (putL a l).tmps) = true) (hd : o.dst = some t) (h : ∀ s', le s s' → ∀ W, R s' W → StepRes P (R s') v ((execOp (putL a l).eval o).run P W)) (hr : stepList P ops R le kd V Q rest (k + 1) s (putL a ((t, v) :: l))) :
    stepList P ops R le kd V Q (o :: rest) k s (putL a l) := by
  rw [putL] at hr
  rw [← hd] at hr
  exact .inl ⟨hg, fun h0 => by omega, fun h2 => by omega, fun _ _ => ⟨v, hr, h⟩⟩
/-- A writer; T: what it answers and the state it leaves. -/
theorem schainT {k : Nat} {s : σ} {t : Tmp} (T : Value → σ → Prop) (hk : kd k = 2) (hg : Region.wanted o (yielded ops (putL a l).tmps) = true) (hd : o.dst = some t) (hne : ∃ v s', T v s') (hle : ∀ v s', T v s' → le s s') (h : ∀ W, R s W → StepResT P (fun v W' => ∃ s', T v s' ∧ R s' W') ((execOp (putL a l).eval o).run P W))
    (hr : ∀ v s', T v s' → stepList P ops R le kd V Q rest (k + 1) s' (putL a ((t, v) :: l))) : stepList P ops R le kd V Q (o :: rest) k s (putL a l) := by
  refine .inl ⟨hg, fun h0 => by omega, fun _ => ⟨T, hne, fun v s' ht => ⟨hle v s' ht, ?_⟩, h⟩, fun _ h2 => absurd hk h2⟩
  have := hr v s' ht
  rw [putL] at this
  rw [← hd] at this
  exact this
theorem StepRes.toT {S : World → Prop} {S' : Value → World → Prop} {v : Value} {r : Result Next} (h : StepRes P S v r) (hS : ∀ W, S W → S' v W) : StepResT P S' r := by
  cases r with
  | ok n W =>
    cases n <;> simp only [StepRes, StepResT] at h ⊢
    case value x => obtain ⟨rfl, hb⟩ := h; exact hS _ hb
    case skip => obtain ⟨rfl, hb⟩ := h; exact hS _ hb
    case enter f args => exact h.mono fun e W' ⟨he, hb⟩ => ⟨v, he, hS _ hb⟩
  | halt x W => simp only [StepRes] at h
/-- A writer that answers one thing. -/
theorem schainW {k : Nat} {s : σ} {t : Tmp} (v : Value) (s' : σ) (hk : kd k = 2) (hg : Region.wanted o (yielded ops (putL a l).tmps) = true) (hd : o.dst = some t) (hle : le s s') (h : ∀ W, R s W → StepRes P (R s') v ((execOp (putL a l).eval o).run P W)) (hr : stepList P ops R le kd V Q rest (k + 1) s' (putL a ((t, v) :: l))) :
    stepList P ops R le kd V Q (o :: rest) k s (putL a l) :=
  schainT (fun x y => x = v ∧ y = s') hk hg hd ⟨v, s', rfl, rfl⟩ (fun _ _ h => h.2 ▸ hle) (fun W hW => (h W hW).toT fun W' hW' => ⟨s', ⟨rfl, rfl⟩, hW'⟩) (fun x y h => by obtain ⟨rfl, rfl⟩ := h; exact hr)
/-- What is not wanted. -/
theorem sskip {k : Nat} {s : σ} {t : Tmp} (hg : Region.wanted o (yielded ops (putL a l).tmps) = false) (hd : o.dst = some t) (hr : stepList P ops R le kd V Q rest (k + 1) s (putL a ((t, undef) :: l))) : stepList P ops R le kd V Q (o :: rest) k s (putL a l) := by
  rw [putL] at hr
  rw [← hd] at hr
  exact .inr ⟨hg, hr⟩
end
section
variable {P : Program} {S : World → Prop} {a : Act} {o : Oper} {W : World}
theorem srun_mv {x : Operand} {v : Value} (ho : o.op = .move x) (hx : a.eval x = v) (hW : S W) : StepRes P S v ((execOp a.eval o).run P W) := by
  simp only [execOp, ho, hx, Sem.run_pure]
  exact ⟨rfl, hW⟩
theorem srun_as {x : Operand} {v : Value} (ho : o.op = .assign x) (hx : a.eval x = v) (hW : S W) : StepRes P S v ((execOp a.eval o).run P W) := by
  simp only [execOp, ho, hx, Sem.run_pure]
  exact ⟨rfl, hW⟩
theorem srun_nc {x : Operand} {p : Addr} (ho : o.op = .nilCheck x) (hx : a.eval x = .pointer (some p)) (hW : S W) : StepRes P S (.pointer (some p)) ((execOp a.eval o).run P W) := by
  simp only [execOp, ho, hx, Sem.run_pure]
  exact ⟨rfl, hW⟩
theorem srun_fa {s : TypeId} {x : Operand} {f : Nat} {p : Value} {v : Value} (ho : o.op = .fieldAddr s x f) (hx : a.eval x = p) (hf : ∀ W, (Instr.fieldAt s p f).run P W = .ok v W) (hW : S W) : StepRes P S v ((execOp a.eval o).run P W) := by
  simp only [execOp, ho, hx, Sem.run_bind, Sem.run_pure, hf, Result.andThen_ok]
  exact ⟨rfl, hW⟩
theorem srun_ia {t : TypeId} {x y : Operand} {u v r : Value} (ho : o.op = .indexAddr t x y) (hx : a.eval x = u) (hy : a.eval y = v) (hf : ∀ W, (Instr.indexAt t u v).run P W = .ok r W) (hW : S W) : StepRes P S r ((execOp a.eval o).run P W) := by
  simp only [execOp, ho, hx, hy, Sem.run_bind, Sem.run_pure, hf, Result.andThen_ok]
  exact ⟨rfl, hW⟩
theorem srun_ld {t : TypeId} {x : Operand} {u v : Value} (ho : o.op = .load t x) (hx : a.eval x = u) (hl : (Instr.loadAt t u).run P W = .ok v W) (hW : S W) : StepRes P S v ((execOp a.eval o).run P W) := by
  simp only [execOp, ho, hx, Sem.run_bind, Sem.run_pure, hl, Result.andThen_ok]
  exact ⟨rfl, hW⟩
theorem srun_bo {k : BinOp} {t t' : TypeId} {x y : Operand} {u v r : Value} (ho : o.op = .binOp k t x y t') (hx : a.eval x = u) (hy : a.eval y = v) (hf : ∀ W, (do eqGuard k t x y u v; binOp k t u v : Sem Value).run P W = .ok r W) (hW : S W) : StepRes P S r ((execOp a.eval o).run P W) := by
  unfold execOp
  simp only [ho, hx, hy]
  rw [Sem.run_bind, hf W]
  exact ⟨rfl, hW⟩
theorem srun_uo {k : UnOp} {t : TypeId} {x : Operand} {u r : Value} (ho : o.op = .unOp k t x) (hx : a.eval x = u) (hf : ∀ W, (Op.unary k u).run P W = .ok r W) (hW : S W) : StepRes P S r ((execOp a.eval o).run P W) := by
  simp only [execOp, ho, hx, Sem.run_bind, Sem.run_pure, hf, Result.andThen_ok]
  exact ⟨rfl, hW⟩
theorem srun_pkT {c x y : Operand} {u : Value} (ho : o.op = .pick c x y) (hc : a.eval c = .bool true) (hx : a.eval x = u) (hW : S W) : StepRes P S u ((execOp a.eval o).run P W) := by
  simp only [execOp, ho, hc, hx, asBool, Sem.run_bind, Sem.run_pure, Result.andThen_ok, if_true]
  exact ⟨rfl, hW⟩
theorem srun_pkF {c x y : Operand} {u : Value} (ho : o.op = .pick c x y) (hc : a.eval c = .bool false) (hy : a.eval y = u) (hW : S W) : StepRes P S u ((execOp a.eval o).run P W) := by
  simp only [execOp, ho, hc, hy, asBool, Sem.run_bind, Sem.run_pure, Result.andThen_ok, Bool.false_eq_true, if_false]
  exact ⟨rfl, hW⟩
theorem srun_call {f : FuncId} {args : Array Operand} {ts : Array TypeId} {vs : Array Value} {v : Value} (ho : o.op = .call { callee := .value (.func f), args := args, argTypes := ts }) (hx : args.map a.eval = vs) (he : ∀ (vs : Array Value) (W : World), (callFunc f vs).run P W = .ok (.enter f vs) W)
    (h : Calls P f vs W fun e W' => e = .returned v ∧ S W') : StepRes P S v ((execOp a.eval o).run P W) := by
  have e : (execOp a.eval o).run P W = .ok (.enter f vs) W := by
    unfold execOp
    simp only [ho, resolve, hx, Act.eval, Deferred.ofValue, Sem.run_bind, Sem.run_pure, Result.andThen_ok, invoke, he]
    simp
  rw [e]
  exact h
theorem srun_callT {S : Value → World → Prop} {f : FuncId} {args : Array Operand} {ts : Array TypeId} {vs : Array Value} (ho : o.op = .call { callee := .value (.func f), args := args, argTypes := ts }) (hx : args.map a.eval = vs) (he : ∀ (vs : Array Value) (W : World), (callFunc f vs).run P W = .ok (.enter f vs) W)
    (h : Calls P f vs W fun e W' => ∃ v, e = .returned v ∧ S v W') : StepResT P S ((execOp a.eval o).run P W) := by
  have e : (execOp a.eval o).run P W = .ok (.enter f vs) W := by
    unfold execOp
    simp only [ho, resolve, hx, Act.eval, Deferred.ofValue, Sem.run_bind, Sem.run_pure, Result.andThen_ok, invoke, he]
    simp
  rw [e]
  exact h
end
end Go.Proofs.Ytdpijhpjicbecaa.H
namespace Go.Proofs.Ytdpijhpjicbecaa.H
open Go Go.RowKit
set_option linter.unusedVariables false
section
variable {P : Program} {S : World → Prop} {a : Act} {o : Oper} {W W' : World}
theorem srun_bsW {t : TypeId} {n : Nat} {parts : Array (Nat × Operand)} {vs : Array (Nat × Value)} {v : Value} (ho : o.op = .buildSlice t n parts) (hx : (parts.map fun (i, x) => (i, a.eval x)) = vs) (hf : (Instr.buildSlice t n vs).run P W = .ok v W') (hW : S W') : StepRes P S v ((execOp a.eval o).run P W) := by
  simp only [execOp, ho, hx, Sem.run_bind, Sem.run_pure, hf, Result.andThen_ok]
  exact ⟨rfl, hW⟩
theorem srun_apW {x y : Operand} {ts : Array TypeId} {u v r : Value} (ho : o.op = .call { callee := .builtin .append, args := #[x, y], argTypes := ts }) (hx : a.eval x = u) (hy : a.eval y = v) (hf : (Builtin.append_ ts o.type #[u, v]).run P W = .ok r W') (hW : S W') : StepRes P S r ((execOp a.eval o).run P W) := by
  unfold execOp
  simp only [ho, resolve, invoke, builtin, Sem.run_bind, Sem.run_pure, Result.andThen_ok, List.map_toArray, List.map_cons, List.map_nil, hx, hy, hf]
  exact ⟨rfl, hW⟩
end
/-- Worlds one behind the other. -/
def AtW (L : List World) (s : Nat) (W : World) : Prop := L[s]? = some W
end Go.Proofs.Ytdpijhpjicbecaa.H
