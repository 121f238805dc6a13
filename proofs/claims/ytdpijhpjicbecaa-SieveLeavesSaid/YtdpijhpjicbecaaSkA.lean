/- A region that draws its order, whose operations but for a forced tail read, compute, or call what only makes memory: walked once, in the order of the text. No conditions. | A calm region of many operations: the look at its edges, made cheap. No conditions. | Calm regions with many slots: the frame as a list of what was put, one operation at a time. No conditions. | Calm operations at the head of a region that keeps its order; a place to stop at. No conditions. | More single steps of a chain. No conditions. -/
import Derived.StillTail
import Derived.Below
import Derived.Test.YtdpijhpjicbecaaHSl
namespace Go.Proofs.Ytdpijhpjicbecaa.H
open Go Go.RowKit
set_option linter.unusedVariables false
section
variable {P : Program} {ops : Array Oper} {md : Region.Mode} {w : World}
/-- An operation comes to v, and only makes memory. -/
def CalmRes (P : Program) (w : World) (v : Value) : Result Next → Prop
  | .ok (.value x) W' => x = v ∧ Below w.heap.size w W'
  | .ok .skip W' => undef = v ∧ Below w.heap.size w W'
  | .ok (.enter f args) W' => Calls P f args W' fun e W'' => e = .returned v ∧ Below w.heap.size w W''
  | _ => False
/-- It does so wherever all of w lies as it did. -/
def CalmAt (P : Program) (ops : Array Oper) (w : World) (o : Oper) (v : Value) (a : Act) : Prop :=
  (Region.wanted o (yielded ops a.tmps) = true ∧ ∀ W, Below w.heap.size w W → CalmRes P w v ((execOp a.eval o).run P W)) ∨ (Region.wanted o (yielded ops a.tmps) = false ∧ undef = v)
theorem CalmAt.same {o : Oper} {v : Value} {a a' : Act} (h : CalmAt P ops w o v a) (he : execOp a'.eval o = execOp a.eval o) (hw : Region.wanted o (yielded ops a'.tmps) = Region.wanted o (yielded ops a.tmps)) : CalmAt P ops w o v a' := by
  unfold CalmAt at *
  rw [he, hw]
  exact h
def calmOp (P : Program) (ops : Array Oper) (w : World) (i : Nat) (K : Act → Prop) (a : Act) : Prop :=
  match ops[i]? with
  | none => K a
  | some o => ∃ v, CalmAt P ops w o v a ∧ K (a.put o.dst v)
theorem calmOp_some {i : Nat} {o : Oper} (hi : ops[i]? = some o) {K : Act → Prop} {a : Act} : calmOp P ops w i K a ↔ ∃ v, CalmAt P ops w o v a ∧ K (a.put o.dst v) := by
  unfold calmOp
  rw [hi]
theorem calmOp_mono {i : Nat} {a : Act} {K K' : Act → Prop} (h : ∀ a, K a → K' a) (hh : calmOp P ops w i K a) : calmOp P ops w i K' a := by
  cases hi : ops[i]? with
  | none =>
    unfold calmOp at *
    simp only [hi] at *
    exact h _ hh
  | some o =>
    rw [calmOp_some hi] at *
    obtain ⟨v, h1, h2⟩ := hh
    exact ⟨v, h1, h _ h2⟩
theorem calmOp_put {j : Nat} {oi oj : Oper} {v : Value} (hj : ops[j]? = some oj) (hap : oi.apart ops oj = true) (hsi : ∀ cs b, oi.op ≠ .select cs b) (hsj : ∀ cs b, oj.op ≠ .select cs b) {K : Act → Prop} {a : Act}
    (hy : CalmAt P ops w oi v a) (h : calmOp P ops w j K (a.put oi.dst v)) : calmOp P ops w j (fun a' => CalmAt P ops w oi v a' ∧ K (a'.put oi.dst v)) a := by
  obtain ⟨h1, h2, h3⟩ := Oper.apart_spec hap
  rw [calmOp_some hj] at *
  obtain ⟨u, hu, hK⟩ := h
  refine ⟨u, hu.same (execOp_put oj hsj a oi.dst v h1).symm (wanted_put oj a oi.dst v h1).symm, hy.same (execOp_put oi hsi a oj.dst u h3) (wanted_put oi a oj.dst u h3), ?_⟩
  rw [← Act.put_comm a v u h2]
  exact hK
theorem wpOp_of_calm {i : Nat} {a : Act} {K : Act → Prop} {K' : Act → World → Prop} {Q : Exit → Act → World → Prop} (h : ∀ a, K a → ∀ W, Below w.heap.size w W → K' a W) (hh : calmOp P ops w i K a) {W : World} (hW : Below w.heap.size w W) :
    wpOp P ops Q i K' a W := by
  unfold wpOp
  cases hi : ops[i]? with
  | none =>
    unfold calmOp at hh
    simp only [hi] at hh
    exact h _ hh W hW
  | some o =>
    rw [calmOp_some hi] at hh
    obtain ⟨v, hy, hK⟩ := hh
    rcases hy with ⟨hw, hr⟩ | ⟨hw, rfl⟩
    · simp only [hw, if_true]
      refine .inl ?_
      have hr := hr W hW
      unfold Oper.wp
      generalize (execOp a.eval o).run P W = r at hr
      cases r with
      | ok n W' =>
        cases n <;> simp only [CalmRes] at hr <;> simp only [Oper.upon]
        case value x => obtain ⟨rfl, hb⟩ := hr; exact h _ hK W' hb
        case skip => obtain ⟨rfl, hb⟩ := hr; exact h _ hK W' hb
        case enter f args => exact hr.mono fun e W'' ⟨he, hb⟩ => by subst he; exact h _ hK W'' hb
      | halt x W' => simp only [CalmRes] at hr
    · simp only [hw, Bool.false_eq_true, if_false]
      exact h _ hK W hW
/-- Whatever is ready next: it is calm, and none of the tail. -/
def calmAny (P : Program) (md : Region.Mode) (ops : Array Oper) (w : World) (n : Nat) (L : Array Bool → Act → Prop) : Nat → Array Bool → Act → Prop
  | 0, listed, a => L listed a
  | f + 1, listed, a => Region.ready md ops listed ≠ [] ∧ ∀ i ∈ Region.ready md ops listed, i < n ∧ calmOp P ops w i (calmAny P md ops w n L f (listed.setIfInBounds i true)) a
theorem wpAny_of_calm {n g : Nat} {L : Array Bool → Act → Prop} {Q : Exit → Act → World → Prop} (hL : ∀ listed a, L listed a → ∀ W, Below w.heap.size w W → wpAny P md ops Q g listed a W) :
    ∀ (f : Nat) (listed : Array Bool) (a : Act), calmAny P md ops w n L f listed a → ∀ W, Below w.heap.size w W → wpAny P md ops Q (f + g) listed a W
  | 0, listed, a, h, W, hW => by rw [Nat.zero_add]; exact hL _ _ h W hW
  | f + 1, listed, a, h, W, hW => by
    rw [show f + 1 + g = (f + g) + 1 by omega]
    exact ⟨fun h0 => absurd h0 h.1, fun i hi => wpOp_of_calm (fun a' h' => wpAny_of_calm hL f _ a' h') (h.2 i hi).2 hW⟩
theorem calm_first {n i : Nat} {oi : Oper} {v : Value} {L : Array Bool → Act → Prop} (hi : ops[i]? = some oi) (hsel : ∀ (j : Nat) (o : Oper) cs b, ops[j]? = some o → o.op ≠ .select cs b)
    (hs : Region.sinkB md ops n = true) (hc : Region.chainB md ops n = true) (hn : n < ops.size) (hin : i < n) (hdone : ∀ listed a, L listed a → ∀ j ∈ Region.ready md ops listed, n ≤ j) :
    ∀ (f : Nat) (listed : Array Bool) (a : Act), HeadInv md ops n listed →
      (∀ j oj, ops[j]? = some oj → j ≠ i → listed.getD j true = false → (∀ e ∈ oj.after, Region.binds md e = true → e.on ≠ i) → oi.apart ops oj = true) →
      i ∈ Region.ready md ops listed → CalmAt P ops w oi v a → calmAny P md ops w n L f (listed.setIfInBounds i true) (a.put oi.dst v) → calmAny P md ops w n L (f + 1) listed a := by
  intro f
  induction f with
  | zero =>
    intro listed a inv hfree hr hy H
    refine ⟨fun h0 => (by rw [h0] at hr; cases hr), fun j hj => ?_⟩
    have hjn : j < n := Nat.lt_of_not_le fun hle => tail_waits hs hc hn inv _ i rfl hin (mem_ready.1 hr).1 j hle hj
    by_cases hji : j = i
    · subst hji
      exact ⟨hjn, (calmOp_some hi).2 ⟨v, hy, H⟩⟩
    · exact absurd (hdone _ _ H j (ready_mono hj hji)) (by omega)
  | succ f ih =>
    intro listed a inv hfree hr hy H
    refine ⟨fun h0 => (by rw [h0] at hr; cases hr), fun j hj => ?_⟩
    have hjn : j < n := Nat.lt_of_not_le fun hle => tail_waits hs hc hn inv _ i rfl hin (mem_ready.1 hr).1 j hle hj
    by_cases hji : j = i
    · subst hji
      exact ⟨hjn, (calmOp_some hi).2 ⟨v, hy, H⟩⟩
    · obtain ⟨hjun, oj, hoj, hall⟩ := mem_ready.1 hj
      have hno : ∀ e ∈ oj.after, Region.binds md e = true → e.on ≠ i := by
        intro e he hb heq
        have := hall e he hb
        rw [heq, getD_both (mem_ready.1 hr).1] at this
        cases this
      refine ⟨hjn, calmOp_mono (fun a' h3 => ?_) (calmOp_put hoj (hfree j oj hoj hji hjun hno) (fun cs b => hsel i oi cs b hi) (fun cs b => hsel j oj cs b hoj) hy (H.2 j (ready_mono hj hji)).2)⟩
      refine ih _ a' (inv.set hj hjn) (fun k ok hk hki hun hno' => hfree k ok hk hki ?_ hno') (ready_mono hr (Ne.symm hji)) h3.1 ?_
      · by_cases hjk : j = k
        · rw [← hjk]; exact hjun
        · rwa [getD_set_ne true hjk] at hun
      · rw [Array.setIfInBounds_comm _ _ hji]
        exact h3.2
/-- The operations one behind the other. -/
def calmList (P : Program) (ops : Array Oper) (w : World) (Q : Act → Prop) : List Oper → Act → Prop
  | [], a => Q a
  | o :: rest, a => ∃ v, CalmAt P ops w o v a ∧ calmList P ops w Q rest (a.put o.dst v)
theorem calm_lex {n g : Nat} {Lq : Act → Prop} (hsel : Region.noSelect ops = true) (hs : Region.sinkB md ops n = true) (hc : Region.chainB md ops n = true) (hn : n < ops.size) :
    ∀ (l : List Oper) (k : Nat) (listed : Array Bool) (a : Act), (∀ j, j < l.length → l[j]? = ops[k + j]?) → k + l.length = n → HeadInv md ops n listed → Region.lexHead md ops g l.length k listed = true → calmList P ops w Lq l a →
      calmAny P md ops w n (fun listed' a' => Region.seqB md ops g n listed' = true ∧ Lq a') l.length listed a
  | [], k, listed, a, _, hk, _, hB, h => by
    obtain rfl : k = n := by simpa using hk
    exact ⟨by simpa [Region.lexHead] using hB, h⟩
  | o :: l, k, listed, a, hl, hk, inv, hB, h => by
    have h0 : ops[k]? = some o := by simpa using (hl 0 (by simp)).symm
    simp only [List.length_cons, Region.lexHead, Bool.and_eq_true] at hB
    simp only [List.length_cons] at hk
    have hr : k ∈ Region.ready md ops listed := by simpa using hB.1.1
    obtain ⟨v, hy, hK⟩ := h
    exact calm_first h0 (Region.noSelect_spec hsel) hs hc hn (by omega) (fun _ _ hL => seqB_ready hL.1) l.length listed a inv (Region.free_spec h0 hB.1.2) hr hy
      (calm_lex hsel hs hc hn l (k + 1) _ _ (fun j hj => by simpa [Nat.add_assoc, Nat.add_comm 1 j] using hl (j + 1) (by simp; omega)) (by omega) (inv.set hr (by omega)) hB.2 hK)
/-- The region, walked once: n operations that are calm, then its tail. -/
theorem wp_region_calm {id : Nat} {Q : Exit → Act → World → Prop} {a : Act} {l : List Oper} (n : Nat) (hm : P.follows .mixedOrders = true) (hB : Region.lexTailB .any l.toArray n = true)
    (h : calmList P l.toArray w (fun a' => ∀ W, Below w.heap.size w W → wpList P l.toArray Q (l.drop n) a' W) (l.take n) a) : (Code.region id l.toArray true).wp P Q a w := by
  simp only [Region.lexTailB, Bool.and_eq_true, decide_eq_true_eq] at hB
  obtain ⟨⟨⟨⟨hsel, hn⟩, hs⟩, hc⟩, hlex⟩ := hB
  have hlt : n < l.length := by simpa using hn
  have htl : (l.take n).length = n := by simp; omega
  have hdl : (l.drop n).length = l.toArray.size - n := by simp
  have inv0 : HeadInv .any l.toArray n (Array.replicate l.toArray.size false) :=
    ⟨by simp, fun j oj _ hl => (by rw [getD_replicate_false] at hl; cases hl), fun t _ ht => getD_in (by simpa using ht) (getD_replicate_false _ _)⟩
  have H := calm_lex (md := .any) (g := l.toArray.size - n) hsel hs hc hn (l.take n) 0 _ a (fun j hj => by
    rw [htl] at hj
    simp [hj]) (by simpa using htl) inv0 (by rw [htl]; exact hlex) h
  refine wp_region_any hm ?_
  have h2 := wpAny_of_calm (Q := Q) (g := l.toArray.size - n) (fun listed a' hL W hW => by
    have := wpAny_of_seq (md := .any) (Q' := Q) (l.drop n) n listed a' W (fun j => by simp [List.getElem?_drop]) (by rw [hdl]; exact hL.1) (hL.2 W hW)
    rwa [hdl] at this) _ _ _ H { w with drawn := w.drawn + 1 } ((Below.refl w.heap.size w).drew)
  rw [htl, show n + (l.toArray.size - n) = l.toArray.size by omega] at h2
  exact h2
theorem calm_nil {Q : Act → Prop} {a : Act} (h : Q a) : calmList P ops w Q [] a := h
/-- One step: the value is read off the run. -/
theorem calm_step {Q : Act → Prop} {a : Act} {o : Oper} {rest : List Oper}
    (h : ∀ K : Act → Prop, (∀ a, calmList P ops w Q rest a → K a) → ∃ v, Region.wanted o (yielded ops a.tmps) = true ∧ (∀ W, Below w.heap.size w W → CalmRes P w v ((execOp a.eval o).run P W)) ∧ K (a.put o.dst v)) : calmList P ops w Q (o :: rest) a := by
  obtain ⟨v, h1, h2, h3⟩ := h _ (fun _ h => h)
  exact ⟨v, .inl ⟨h1, h2⟩, h3⟩
/-- The same, where no guard stands ahead. -/
theorem calm_plain {Q : Act → Prop} {a : Act} {o : Oper} {rest : List Oper} (hg : o.guard = none)
    (h : ∀ K : Act → Prop, (∀ a, calmList P ops w Q rest a → K a) → ∃ v, (∀ W, Below w.heap.size w W → CalmRes P w v ((execOp a.eval o).run P W)) ∧ K (a.put o.dst v)) : calmList P ops w Q (o :: rest) a := by
  obtain ⟨v, h2, h3⟩ := h _ (fun _ h => h)
  exact ⟨v, .inl ⟨by simp [Region.wanted, hg], h2⟩, h3⟩
theorem calm_skip {Q : Act → Prop} {a : Act} {o : Oper} {rest : List Oper} (hw : Region.wanted o (yielded ops a.tmps) = false) (hr : calmList P ops w Q rest (a.put o.dst undef)) : calmList P ops w Q (o :: rest) a := ⟨undef, .inr ⟨hw, rfl⟩, hr⟩
/-- A call that only makes memory; one that does nothing. -/
theorem calm_b {f : FuncId} {args : Array Value} {v : Value} {W : World} (h : Below w.heap.size w W) (hc : Calls P f args W fun e W' => e = .returned v ∧ Below W.heap.size W W') : CalmRes P w v (.ok (.enter f args) W) :=
  hc.mono fun _ _ ⟨he, hb⟩ => ⟨he, h.trans (hb.mono h.size)⟩
theorem calm_q {f : FuncId} {args : Array Value} {v : Value} {W : World} (h : Below w.heap.size w W) (hc : Calls P f args W fun e W' => e = .returned v ∧ W = W') : CalmRes P w v (.ok (.enter f args) W) :=
  hc.mono fun _ _ ⟨he, hb⟩ => ⟨he, hb ▸ h⟩
theorem calm_cells {W : World} (h : Below w.heap.size w W) : ∀ b o, b < w.heap.size → W.cell? ⟨b, o, none⟩ = w.cell? ⟨b, o, none⟩ := fun b o hb => h.cell (p := ⟨b, o, none⟩) hb
theorem calm_value {v : Value} {W : World} (h : Below w.heap.size w W) : CalmRes P w v (.ok (.value v) W) := ⟨rfl, h⟩
end
end Go.Proofs.Ytdpijhpjicbecaa.H
namespace Go.Proofs.Ytdpijhpjicbecaa.H
open Go Go.RowKit
set_option linter.unusedVariables false
def waitsO (md : Region.Mode) (i : Nat) (o : Oper) : Bool := o.after.toList.any fun e => Region.binds md e && e.on == i
/-- k's edges lead back; what stands behind it waits for it or is apart from it; something up to n waits for it. -/
def headOk (md : Region.Mode) (ops : Array Oper) : Nat → Nat → List Oper → Bool
  | 0, _, _ => true
  | _ + 1, _, [] => false
  | m + 1, k, o :: rest => (o.after.toList.all fun e => !Region.binds md e || Nat.blt e.on k) && (rest.all fun oj => waitsO md k oj || o.apart ops oj) && ((rest.take (m + 1)).any fun oj => waitsO md k oj) && headOk md ops m (k + 1) rest
def tailOk (md : Region.Mode) : Nat → List Oper → Bool
  | _, [] => true
  | t, o :: rest => waitsO md (t - 1) o && tailOk md (t + 1) rest
def listedAt (n size : Nat) : Array Bool := (List.replicate n true ++ List.replicate (size - n) false).toArray
section
variable {P : Program} {md : Region.Mode} {w : World}
theorem waitsO_eq {l : List Oper} {j i : Nat} {o : Oper} (h : l[j]? = some o) : Region.waitsFor md l.toArray j i = waitsO md i o := by
  unfold Region.waitsFor waitsO
  simp [h, Array.any_toList]
theorem waitsO_spec {i : Nat} {o : Oper} (h : waitsO md i o = true) : ∃ e ∈ o.after, Region.binds md e = true ∧ e.on = i := by
  unfold waitsO at h
  obtain ⟨e, he, hb⟩ := List.any_eq_true.1 h
  simp only [Bool.and_eq_true, beq_iff_eq] at hb
  exact ⟨e, by simpa using he, hb⟩
theorem headOk_at {ops : Array Oper} : ∀ (m k : Nat) (l : List Oper), headOk md ops m k l = true → ∀ i, i < m → ∃ o, l[i]? = some o ∧ (∀ e ∈ o.after, Region.binds md e = true → e.on < k + i) ∧
    (∀ j oj, i < j → l[j]? = some oj → waitsO md (k + i) oj = true ∨ o.apart ops oj = true) ∧ ∃ j oj, i < j ∧ j ≤ m ∧ l[j]? = some oj ∧ waitsO md (k + i) oj = true
  | 0, _, _, _, i, hi => by omega
  | m + 1, _, [], h, _, _ => by simp [headOk] at h
  | m + 1, k, o :: rest, h, 0, _ => by
    simp only [headOk, Bool.and_eq_true] at h
    obtain ⟨⟨⟨h1, h2⟩, h3⟩, _⟩ := h
    refine ⟨o, rfl, fun e he hb => ?_, fun j oj hj hoj => ?_, ?_⟩
    · have := List.all_eq_true.1 h1 e (by simpa using he)
      simpa [hb, Nat.blt_eq] using this
    · obtain ⟨j, rfl⟩ : ∃ q, j = q + 1 := ⟨j - 1, by omega⟩
      have := List.all_eq_true.1 h2 oj (List.mem_of_getElem? (by simpa using hoj))
      simpa using this
    · obtain ⟨oj, hoj, hw⟩ := List.any_eq_true.1 h3
      obtain ⟨j, hj⟩ := List.getElem?_of_mem hoj
      have hlt : j < m + 1 := by
        have := (List.getElem?_eq_some_iff.1 hj).1
        rw [List.length_take] at this
        omega
      rw [List.getElem?_take_of_lt hlt] at hj
      exact ⟨j + 1, oj, by omega, by omega, by simpa using hj, by simpa using hw⟩
  | m + 1, k, o :: rest, h, i + 1, hi => by
    simp only [headOk, Bool.and_eq_true] at h
    obtain ⟨o', h1, h2, h3, j, oj, h4, h5, h6, h7⟩ := headOk_at m (k + 1) rest h.2 i (by omega)
    have e : k + 1 + i = k + (i + 1) := by omega
    rw [e] at h2 h3 h7
    refine ⟨o', by simpa using h1, h2, fun j oj hj hoj => ?_, j + 1, oj, by omega, by omega, by simpa using h6, h7⟩
    obtain ⟨j, rfl⟩ : ∃ q, j = q + 1 := ⟨j - 1, by omega⟩
    exact h3 j oj (by omega) (by simpa using hoj)
theorem tailOk_at : ∀ (t : Nat) (l : List Oper), tailOk md t l = true → ∀ i o, l[i]? = some o → waitsO md (t + i - 1) o = true
  | _, [], _, i, o, h => by simp at h
  | t, x :: rest, h, 0, o, ho => by
    simp only [tailOk, Bool.and_eq_true] at h
    simp at ho
    subst ho
    exact h.1
  | t, x :: rest, h, i + 1, o, ho => by
    simp only [tailOk, Bool.and_eq_true] at h
    have := tailOk_at (t + 1) rest h.2 i o (by simpa using ho)
    rwa [show t + 1 + i - 1 = t + (i + 1) - 1 by omega] at this
theorem calm_lexB {l : List Oper} {n g : Nat} {Lq : Act → Prop} (hsel : Region.noSelect l.toArray = true) (hs : Region.sinkB md l.toArray n = true) (hc : Region.chainB md l.toArray n = true) (hn : n < l.length) (hh : headOk md l.toArray n 0 l = true) (hq : Region.seqB md l.toArray g n (listedAt n l.length) = true) :
    ∀ (m k : Nat) (listed : Array Bool) (a : Act), k + m = n → HeadInv md l.toArray n listed → (∀ j, j < l.length → listed.getD j true = decide (j < k)) → calmList P l.toArray w Lq ((l.take n).drop k) a →
      calmAny P md l.toArray w n (fun listed' a' => Region.seqB md l.toArray g n listed' = true ∧ Lq a') m listed a
  | 0, k, listed, a, hk, inv, hl, h => by
    have hk : k = n := by omega
    subst hk
    have e : listed = listedAt k l.length := by
      apply Array.ext
      · rw [inv.size]; simp [listedAt]; omega
      · intro i h1 h2
        have hi : i < l.length := by rw [inv.size] at h1; simpa using h1
        have := hl i hi
        simp only [Array.getD_eq_getD_getElem?, Array.getElem?_eq_getElem h1, Option.getD_some] at this
        rw [this]
        have hh2 : i < (List.replicate k true ++ List.replicate (l.length - k) false).length := by simp; omega
        have : (listedAt k l.length)[i] = (List.replicate k true ++ List.replicate (l.length - k) false)[i]'hh2 := rfl
        refine Eq.trans ?_ this.symm
        rw [List.getElem_append]
        split <;> rename_i hik <;> simp at hik <;> simp [hik]
    rw [e]
    have h0 : (l.take k).drop k = [] := by simp
    rw [h0] at h
    exact ⟨hq, h⟩
  | m + 1, k, listed, a, hk, inv, hl, h => by
    obtain ⟨o, h0, he, hap, _⟩ := headOk_at n 0 l hh k (by omega)
    simp only [Nat.zero_add] at he hap
    have hks : k < l.length := (List.getElem?_eq_some_iff.1 h0).1
    have hd : (l.take n).drop k = o :: (l.take n).drop (k + 1) := by
      have h1 : k < (l.take n).length := by rw [List.length_take]; omega
      rw [List.drop_eq_getElem_cons h1]
      congr 1
      rw [List.getElem_take]
      exact (List.getElem?_eq_some_iff.1 h0).2
    rw [hd] at h
    obtain ⟨v, hy, hK⟩ := h
    have h0' : l.toArray[k]? = some o := by simpa using h0
    have hr : k ∈ Region.ready md l.toArray listed := by
      refine mem_ready.2 ⟨by rw [hl k hks]; simp, o, h0', fun e hem hb => ?_⟩
      have hlt := he e hem hb
      have := hl e.on (by omega)
      rw [Array.getD_eq_getD_getElem?, Array.getElem?_eq_getElem (by rw [inv.size]; simp; omega)] at this ⊢
      simpa [hlt] using this
    refine calm_first h0' (Region.noSelect_spec hsel) hs hc (by simpa using hn) (by omega) (fun _ _ hL => seqB_ready hL.1) m listed a inv (fun j oj hj hjk hjl hno => ?_) hr hy ?_
    · have hjs : j < l.length := by have := (Array.getElem?_eq_some_iff.1 hj).1; simpa using this
      have hlj := hl j hjs
      rw [hjl] at hlj
      have hkj : k < j := by
        have : ¬ j < k := by simpa using hlj.symm
        omega
      rcases hap j oj hkj (by simpa using hj) with hw | hw
      · obtain ⟨e, hem, hb, hon⟩ := waitsO_spec hw
        exact absurd hon (hno e hem hb)
      · exact hw
    · refine calm_lexB hsel hs hc hn hh hq m (k + 1) _ _ (by omega) (inv.set hr (by omega)) (fun j hj => ?_) hK
      by_cases hjk : k = j
      · subst hjk
        rw [Array.getD_eq_getD_getElem?, Array.getElem?_setIfInBounds]
        simp [inv.size, hks]
      · rw [getD_set_ne true hjk, hl j hj]
        apply decide_eq_decide.2
        omega
/-- The region, walked once; its edges looked at once. -/
theorem wp_region_calmB {id : Nat} {Q : Exit → Act → World → Prop} {a : Act} {l : List Oper} (n : Nat) (hm : P.follows .mixedOrders = true)
    (hB : (Region.noSelect l.toArray && Nat.blt n l.length && headOk .any l.toArray n 0 l && tailOk .any (n + 1) (l.drop (n + 1)) && Region.seqB .any l.toArray (l.length - n) n (listedAt n l.length)) = true)
    (h : calmList P l.toArray w (fun a' => ∀ W, Below w.heap.size w W → wpList P l.toArray Q (l.drop n) a' W) (l.take n) a) : (Code.region id l.toArray true).wp P Q a w := by
  simp only [Bool.and_eq_true, Nat.blt_eq] at hB
  obtain ⟨⟨⟨⟨hsel, hn⟩, hh⟩, ht⟩, hq⟩ := hB
  have hs : Region.sinkB .any l.toArray n = true := by
    refine List.all_eq_true.2 fun i hi => ?_
    have hi := List.mem_range.1 hi
    obtain ⟨o, _, _, _, j, oj, h1, h2, h3, h4⟩ := headOk_at n 0 l hh i hi
    refine List.any_eq_true.2 ⟨j, List.mem_range.2 (by omega), ?_⟩
    rw [waitsO_eq h3]
    simp only [Nat.zero_add] at h4
    simp [h1, h4]
  have hc : Region.chainB .any l.toArray n = true := by
    refine List.all_eq_true.2 fun t ht' => ?_
    have ht' : t < l.length := by simpa using ht'
    by_cases htn : t ≤ n
    · simp [htn]
    · have ho : l[t]? = some l[t] := List.getElem?_eq_getElem ht'
      have := tailOk_at (n + 1) _ ht (t - (n + 1)) l[t] (by rw [List.getElem?_drop, show n + 1 + (t - (n + 1)) = t by omega]; exact ho)
      rw [show n + 1 + (t - (n + 1)) - 1 = t - 1 by omega] at this
      rw [waitsO_eq ho]
      simp [this]
  have hdl : (l.drop n).length = l.length - n := by simp
  have inv0 : HeadInv .any l.toArray n (Array.replicate l.toArray.size false) :=
    ⟨by simp, fun j oj _ hl => (by rw [getD_replicate_false] at hl; cases hl), fun t _ ht => getD_in (by simpa using ht) (getD_replicate_false _ _)⟩
  have H := calm_lexB (md := .any) (g := l.length - n) hsel hs hc hn hh hq n 0 _ a (by omega) inv0 (fun j hj => by
    rw [Array.getD_eq_getD_getElem?, Array.getElem?_eq_getElem (by simpa using hj)]
    simp) (by simpa using h)
  refine wp_region_any hm ?_
  have h2 := wpAny_of_calm (Q := Q) (g := l.length - n) (fun listed a' hL W hW => by
    have := wpAny_of_seq (md := .any) (Q' := Q) (l.drop n) n listed a' W (fun j => by simp [List.getElem?_drop]) (by rw [hdl]; exact hL.1) (hL.2 W hW)
    rwa [hdl] at this) _ _ _ H { w with drawn := w.drawn + 1 } ((Below.refl w.heap.size w).drew)
  rw [show n + (l.length - n) = l.toArray.size by simp; omega] at h2
  exact h2
end
end Go.Proofs.Ytdpijhpjicbecaa.H
namespace Go.Proofs.Ytdpijhpjicbecaa.H
open Go Go.RowKit
set_option linter.unusedVariables false
/-- What was put, the last first. -/
def putL (a : Act) : List (Tmp × Value) → Act
  | [] => a
  | (t, v) :: l => (putL a l).put (some t) v
def look : List (Tmp × Value) → Tmp → Option Value
  | [], _ => none
  | (s, v) :: l, t => if Nat.beq s t = true then some v else look l t
theorem putL_size (a : Act) (l : List (Tmp × Value)) : (putL a l).tmps.size = a.tmps.size := by
  induction l with
  | nil => rfl
  | cons x l ih => obtain ⟨t, v⟩ := x; simp [putL, Act.put, ih]
theorem eval_look {a : Act} {l : List (Tmp × Value)} {t : Tmp} {v : Value} (h : look l t = some v) (ht : Nat.blt t a.tmps.size = true) : (putL a l).eval (.tmp t) = v := by
  have ht : t < a.tmps.size := by simpa [Nat.blt_eq] using ht
  induction l with
  | nil => simp [look] at h
  | cons x l ih =>
    obtain ⟨s, u⟩ := x
    simp only [look] at h
    by_cases e : s = t
    · subst e
      simp at h
      subst h
      simp [putL, Act.put, Act.eval, putL_size, ht]
    · have e' : ¬ Nat.beq s t = true := by simpa using e
      rw [if_neg e'] at h
      have := ih h
      simp only [putL, Act.put, Act.eval] at this ⊢
      rw [← this]
      simp [Array.getD_eq_getD_getElem?, e]
theorem eval_base {a : Act} {l : List (Tmp × Value)} {t : Tmp} {v : Value} (h : look l t = none) (hb : a.eval (.tmp t) = v) : (putL a l).eval (.tmp t) = v := by
  induction l with
  | nil => exact hb
  | cons x l ih =>
    obtain ⟨s, u⟩ := x
    simp only [look] at h
    by_cases e : s = t
    · subst e; simp at h
    · have e' : ¬ Nat.beq s t = true := by simpa using e
      rw [if_neg e'] at h
      have := ih h
      simp only [putL, Act.put, Act.eval] at this ⊢
      rw [← this]
      simp [Array.getD_eq_getD_getElem?, e]
section
variable {P : Program} {ops : Array Oper} {w : World} {a : Act} {l : List (Tmp × Value)} {o : Oper} {rest : List Oper} {Q : Act → Prop} {W : World}
theorem chain {t : Tmp} (v : Value) (hg : o.guard = none) (hd : o.dst = some t) (h : ∀ W, Below w.heap.size w W → CalmRes P w v ((execOp (putL a l).eval o).run P W)) (hr : calmList P ops w Q rest (putL a ((t, v) :: l))) :
    calmList P ops w Q (o :: rest) (putL a l) :=
  ⟨v, .inl ⟨by simp [Region.wanted, hg], h⟩, by rw [hd]; exact hr⟩
theorem run_fa {s : TypeId} {x : Operand} {f : Nat} {p : Value} {v : Value} (ho : o.op = .fieldAddr s x f) (hx : a.eval x = p) (hf : ∀ W, (Instr.fieldAt s p f).run P W = .ok v W) (hW : Below w.heap.size w W) : CalmRes P w v ((execOp a.eval o).run P W) := by
  simp only [execOp, ho, hx, Sem.run_bind, Sem.run_pure, hf, Result.andThen_ok]
  exact ⟨rfl, hW⟩
theorem run_ld {t : TypeId} {x : Operand} {b j : Nat} {v : Value} (ho : o.op = .load t x) (hx : a.eval x = .pointer (some ⟨b, j, none⟩)) (hc : w.cell? ⟨b, j, none⟩ = some v) (hl : ∀ W : World, W.cell? ⟨b, j, none⟩ = some v → (Instr.loadAt t (.pointer (some ⟨b, j, none⟩))).run P W = .ok v W)
    (hW : Below w.heap.size w W) : CalmRes P w v ((execOp a.eval o).run P W) := by
  have hlt : b < w.heap.size := World.block_lt_of_cell? w ⟨b, j, none⟩ hc
  have hc' : W.cell? ⟨b, j, none⟩ = some v := (hW.cell (p := ⟨b, j, none⟩) hlt).trans hc
  simp only [execOp, ho, hx, Sem.run_bind, Sem.run_pure, hl W hc', Result.andThen_ok]
  exact ⟨rfl, hW⟩
theorem run_row {t : TypeId} {x : Operand} {b : Nat} {v : Value} {ob : Obj} (ho : o.op = .load t x) (hx : a.eval x = .pointer (some ⟨b, 0, none⟩)) (hc : w.heap[b]? = some ob) (hl : ∀ W : World, W.heap[b]? = some ob → (Instr.loadAt t (.pointer (some ⟨b, 0, none⟩))).run P W = .ok v W)
    (hW : Below w.heap.size w W) : CalmRes P w v ((execOp a.eval o).run P W) := by
  have hlt : b < w.heap.size := (Array.getElem?_eq_some_iff.1 hc).1
  have hc' : W.heap[b]? = some ob := (hW.block b hlt).trans hc
  simp only [execOp, ho, hx, Sem.run_bind, Sem.run_pure, hl W hc', Result.andThen_ok]
  exact ⟨rfl, hW⟩
theorem run_bd {t : TypeId} {x y z : Operand} {u v p : Value} {r : Value} (ho : o.op = .build t #[(0, x), (1, y), (2, z)]) (hx : a.eval x = u) (hy : a.eval y = v) (hz : a.eval z = p) (hf : ∀ W, (Instr.build t #[(0, u), (1, v), (2, p)]).run P W = .ok r W)
    (hW : Below w.heap.size w W) : CalmRes P w r ((execOp a.eval o).run P W) := by
  simp only [execOp, ho, List.map_toArray, List.map_cons, List.map_nil, hx, hy, hz, Sem.run_bind, Sem.run_pure, hf, Result.andThen_ok]
  exact ⟨rfl, hW⟩
theorem run_call {f : FuncId} {args : Array Operand} {ts : Array TypeId} {vs : Array Value} {v : Value} (ho : o.op = .call { callee := .value (.func f), args := args, argTypes := ts }) (hx : args.map a.eval = vs) (he : ∀ (vs : Array Value) (W : World), (callFunc f vs).run P W = .ok (.enter f vs) W)
    (h : CalmRes P w v (.ok (.enter f vs) W)) : CalmRes P w v ((execOp a.eval o).run P W) := by
  have e : (execOp a.eval o).run P W = .ok (.enter f vs) W := by
    unfold execOp
    simp only [ho, resolve, hx, Act.eval, Deferred.ofValue, Sem.run_bind, Sem.run_pure, Result.andThen_ok, invoke, he]
    simp
  rw [e]
  exact h
theorem run_mx {x y : Operand} {ts : Array TypeId} {u v r : Value} (ho : o.op = .call { callee := .builtin .max, args := #[x, y], argTypes := ts }) (hx : a.eval x = u) (hy : a.eval y = v) (hf : ∀ W, (Builtin.max_ ts o.type #[u, v]).run P W = .ok r W) (hW : Below w.heap.size w W) :
    CalmRes P w r ((execOp a.eval o).run P W) := by
  unfold execOp
  simp only [ho, resolve, invoke, builtin, Sem.run_bind, Sem.run_pure, Result.andThen_ok, List.map_toArray, List.map_cons, List.map_nil, hx, hy, hf]
  exact ⟨rfl, hW⟩
theorem chain0 (h : calmList P ops w Q rest (putL a [])) : calmList P ops w Q rest a := h
end
attribute [irreducible] putL
end Go.Proofs.Ytdpijhpjicbecaa.H
namespace Go.Proofs.Ytdpijhpjicbecaa.H
open Go Go.RowKit
set_option linter.unusedVariables false
section
variable {P : Program} {ops : Array Oper} {w : World} {Q : Exit → Act → World → Prop} {Lq : Act → Prop}
/-- Calm operations in their order, then what follows. -/
theorem wpList_calm {rest : List Oper} (hL : ∀ a', Lq a' → ∀ W, Below w.heap.size w W → wpList P ops Q rest a' W) : ∀ (l : List Oper) (a : Act) (W : World), Below w.heap.size w W → calmList P ops w Lq l a → wpList P ops Q (l ++ rest) a W
  | [], a, W, hW, h => hL a h W hW
  | o :: l, a, W, hW, ⟨v, hy, hK⟩ => by
    have ih := fun a' W' hW' h => wpList_calm hL l a' W' hW' h
    show wpList P ops Q (o :: (l ++ rest)) a W
    simp only [wpList]
    rcases hy with ⟨hw, hr⟩ | ⟨hw, rfl⟩
    · simp only [hw, if_true]
      refine .inl ?_
      have hr := hr W hW
      unfold Oper.wp
      generalize (execOp a.eval o).run P W = r at hr
      cases r with
      | ok n W' =>
        cases n <;> simp only [CalmRes] at hr <;> simp only [Oper.upon]
        case value x => obtain ⟨rfl, hb⟩ := hr; exact ih _ W' hb hK
        case skip => obtain ⟨rfl, hb⟩ := hr; exact ih _ W' hb hK
        case enter f args => exact hr.mono fun e W'' ⟨he, hb⟩ => by subst he; exact ih _ W'' hb hK
      | halt x W' => simp only [CalmRes] at hr
    · simp only [hw, Bool.false_eq_true, if_false]
      exact ih _ W hW hK
/-- The first n operations are calm. -/
theorem wpList_calmN {l : List Oper} {a : Act} (n : Nat) (h : calmList P ops w (fun a' => ∀ W, Below w.heap.size w W → wpList P ops Q (l.drop n) a' W) (l.take n) a) : wpList P ops Q l a w := by
  have := wpList_calm (P := P) (ops := ops) (w := w) (Q := Q) (rest := l.drop n) (fun a' h => h) (l.take n) a w (Below.refl _ _) h
  rwa [List.take_append_drop] at this
end
theorem run_bo {P : Program} {w : World} {a : Act} {o : Oper} {W : World} {k : BinOp} {t t' : TypeId} {x y : Operand} {u v r : Value} (ho : o.op = .binOp k t x y t') (hx : a.eval x = u) (hy : a.eval y = v)
    (hf : ∀ W, (do eqGuard k t x y u v; binOp k t u v : Sem Value).run P W = .ok r W) (hW : Below w.heap.size w W) : CalmRes P w r ((execOp a.eval o).run P W) := by
  unfold execOp
  simp only [ho, hx, hy]
  rw [Sem.run_bind, hf W]
  exact ⟨rfl, hW⟩
theorem run_mv {P : Program} {w : World} {a : Act} {o : Oper} {W : World} {x : Operand} {v : Value} (ho : o.op = .move x) (hx : a.eval x = v) (hW : Below w.heap.size w W) : CalmRes P w v ((execOp a.eval o).run P W) := by
  simp only [execOp, ho, hx, Sem.run_pure]
  exact ⟨rfl, hW⟩
theorem run_ia {P : Program} {w : World} {a : Act} {o : Oper} {W : World} {t : TypeId} {x y : Operand} {u v r : Value} (ho : o.op = .indexAddr t x y) (hx : a.eval x = u) (hy : a.eval y = v) (hf : ∀ W, (Instr.indexAt t u v).run P W = .ok r W) (hW : Below w.heap.size w W) :
    CalmRes P w r ((execOp a.eval o).run P W) := by
  simp only [execOp, ho, hx, hy, Sem.run_bind, Sem.run_pure, hf, Result.andThen_ok]
  exact ⟨rfl, hW⟩
/-- A place where the walk stops. -/
structure Stop (p : Prop) : Prop where
  out : p
theorem stopAt {P : Program} {ops : Array Oper} {Q : Exit → Act → World → Prop} {o : Oper} {rest : List Oper} {a : Act} {w : World} (t : Tmp) (ho : o.dst = some t) (h : Stop (wpList P ops Q (o :: rest) a w)) : wpList P ops Q (o :: rest) a w := h.out
end Go.Proofs.Ytdpijhpjicbecaa.H
namespace Go.Proofs.Ytdpijhpjicbecaa.H
open Go Go.RowKit
set_option linter.unusedVariables false
section
variable {P : Program} {w : World} {a : Act} {o : Oper} {W : World}
theorem run_nc {x : Operand} {p : Addr} (ho : o.op = .nilCheck x) (hx : a.eval x = .pointer (some p)) (hW : Below w.heap.size w W) : CalmRes P w (.pointer (some p)) ((execOp a.eval o).run P W) := by
  simp only [execOp, ho, hx, Sem.run_pure]
  exact ⟨rfl, hW⟩
theorem run_mn {x y : Operand} {ts : Array TypeId} {u v r : Value} (ho : o.op = .call { callee := .builtin .min, args := #[x, y], argTypes := ts }) (hx : a.eval x = u) (hy : a.eval y = v) (hf : ∀ W, (Builtin.min_ ts o.type #[u, v]).run P W = .ok r W) (hW : Below w.heap.size w W) :
    CalmRes P w r ((execOp a.eval o).run P W) := by
  unfold execOp
  simp only [ho, resolve, invoke, builtin, Sem.run_bind, Sem.run_pure, Result.andThen_ok, List.map_toArray, List.map_cons, List.map_nil, hx, hy, hf]
  exact ⟨rfl, hW⟩
theorem run_uo {k : UnOp} {t : TypeId} {x : Operand} {u r : Value} (ho : o.op = .unOp k t x) (hx : a.eval x = u) (hf : ∀ W, (Op.unary k u).run P W = .ok r W) (hW : Below w.heap.size w W) : CalmRes P w r ((execOp a.eval o).run P W) := by
  simp only [execOp, ho, hx, Sem.run_bind, Sem.run_pure, hf, Result.andThen_ok]
  exact ⟨rfl, hW⟩
theorem run_cv {s d : TypeId} {x : Operand} {u r : Value} (ho : o.op = .convert s d x) (hx : a.eval x = u) (hf : ∀ W, (convert s d u).run P W = .ok r W) (hW : Below w.heap.size w W) : CalmRes P w r ((execOp a.eval o).run P W) := by
  simp only [execOp, ho, hx, Sem.run_bind, Sem.run_pure, hf, Result.andThen_ok]
  exact ⟨rfl, hW⟩
theorem run_pkT {c x y : Operand} {u : Value} (ho : o.op = .pick c x y) (hc : a.eval c = .bool true) (hx : a.eval x = u) (hW : Below w.heap.size w W) : CalmRes P w u ((execOp a.eval o).run P W) := by
  simp only [execOp, ho, hc, hx, asBool, Sem.run_bind, Sem.run_pure, Result.andThen_ok, if_true]
  exact ⟨rfl, hW⟩
theorem run_pkF {c x y : Operand} {u : Value} (ho : o.op = .pick c x y) (hc : a.eval c = .bool false) (hy : a.eval y = u) (hW : Below w.heap.size w W) : CalmRes P w u ((execOp a.eval o).run P W) := by
  simp only [execOp, ho, hc, hy, asBool, Sem.run_bind, Sem.run_pure, Result.andThen_ok, Bool.false_eq_true, if_false]
  exact ⟨rfl, hW⟩
theorem chainG {ops : Array Oper} {l : List (Tmp × Value)} {rest : List Oper} {Q : Act → Prop} {t : Tmp} (v : Value) (hg : Region.wanted o (yielded ops (putL a l).tmps) = true) (hd : o.dst = some t) (h : ∀ W, Below w.heap.size w W → CalmRes P w v ((execOp (putL a l).eval o).run P W)) (hr : calmList P ops w Q rest (putL a ((t, v) :: l))) :
    calmList P ops w Q (o :: rest) (putL a l) :=
  ⟨v, .inl ⟨hg, h⟩, by rw [hd]; rw [putL] at hr; exact hr⟩
end
end Go.Proofs.Ytdpijhpjicbecaa.H
