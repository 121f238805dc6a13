/- A calm region of many operations: the look at its edges, made cheap. No conditions. -/
import Derived.Test.YtjbbobhjomhnmaaCalm
namespace Go.Proofs.Ytjbbobhjomhnmaa.H
open Go Go.RowKit
set_option linter.unusedVariables false
def waitsO (md : Region.Mode) (i : Nat) (o : Oper) : Bool := o.after.toList.any fun e => Region.binds md e && e.on == i
/-- k's edges lead back; what stands behind it waits for it or is apart from it; something up to n waits for it. -/
def headOk (md : Region.Mode) (ops : Array Oper) : Nat → Nat → List Oper → Bool
  | 0, _, _ => true
  | _ + 1, _, [] => false
  | m + 1, k, o :: rest => (o.after.toList.all fun e => !Region.binds md e || Nat.blt e.on k) && (rest.all fun oj => waitsO md k oj || o.apart ops oj) && ((rest.take (m + 1)).any fun oj => waitsO md k oj) && headOk md ops m (k + 1) rest
def tailOk (md : Region.Mode) : Nat → List Oper → Bool
  | _, [] => true
  | t, o :: rest => waitsO md (t - 1) o && tailOk md (t + 1) rest
def listedAt (n size : Nat) : Array Bool := (List.replicate n true ++ List.replicate (size - n) false).toArray
section
variable {P : Program} {md : Region.Mode} {w : World}
theorem waitsO_eq {l : List Oper} {j i : Nat} {o : Oper} (h : l[j]? = some o) : Region.waitsFor md l.toArray j i = waitsO md i o := by
  unfold Region.waitsFor waitsO
  simp [h, Array.any_toList]
theorem waitsO_spec {i : Nat} {o : Oper} (h : waitsO md i o = true) : ∃ e ∈ o.after, Region.binds md e = true ∧ e.on = i := by
  unfold waitsO at h
  obtain ⟨e, he, hb⟩ := List.any_eq_true.1 h
  simp only [Bool.and_eq_true, beq_iff_eq] at hb
  exact ⟨e, by simpa using he, hb⟩
theorem headOk_at {ops : Array Oper} : ∀ (m k : Nat) (l : List Oper), headOk md ops m k l = true → ∀ i, i < m → ∃ o, l[i]? = some o ∧ (∀ e ∈ o.after, Region.binds md e = true → e.on < k + i) ∧
    (∀ j oj, i < j → l[j]? = some oj → waitsO md (k + i) oj = true ∨ o.apart ops oj = true) ∧ ∃ j oj, i < j ∧ j ≤ m ∧ l[j]? = some oj ∧ waitsO md (k + i) oj = true
  | 0, _, _, _, i, hi => by omega
  | m + 1, _, [], h, _, _ => by simp [headOk] at h
  | m + 1, k, o :: rest, h, 0, _ => by
    simp only [headOk, Bool.and_eq_true] at h
    obtain ⟨⟨⟨h1, h2⟩, h3⟩, _⟩ := h
    refine ⟨o, rfl, fun e he hb => ?_, fun j oj hj hoj => ?_, ?_⟩
    · have := List.all_eq_true.1 h1 e (by simpa using he)
      simpa [hb, Nat.blt_eq] using this
    · obtain ⟨j, rfl⟩ : ∃ q, j = q + 1 := ⟨j - 1, by omega⟩
      have := List.all_eq_true.1 h2 oj (List.mem_of_getElem? (by simpa using hoj))
      simpa using this
    · obtain ⟨oj, hoj, hw⟩ := List.any_eq_true.1 h3
      obtain ⟨j, hj⟩ := List.getElem?_of_mem hoj
      have hlt : j < m + 1 := by
        have := (List.getElem?_eq_some_iff.1 hj).1
        rw [List.length_take] at this
        omega
      rw [List.getElem?_take_of_lt hlt] at hj
      exact ⟨j + 1, oj, by omega, by omega, by simpa using hj, by simpa using hw⟩
  | m + 1, k, o :: rest, h, i + 1, hi => by
    simp only [headOk, Bool.and_eq_true] at h
    obtain ⟨o', h1, h2, h3, j, oj, h4, h5, h6, h7⟩ := headOk_at m (k + 1) rest h.2 i (by omega)
    have e : k + 1 + i = k + (i + 1) := by omega
    rw [e] at h2 h3 h7
    refine ⟨o', by simpa using h1, h2, fun j oj hj hoj => ?_, j + 1, oj, by omega, by omega, by simpa using h6, h7⟩
    obtain ⟨j, rfl⟩ : ∃ q, j = q + 1 := ⟨j - 1, by omega⟩
    exact h3 j oj (by omega) (by simpa using hoj)
theorem tailOk_at : ∀ (t : Nat) (l : List Oper), tailOk md t l = true → ∀ i o, l[i]? = some o → waitsO md (t + i - 1) o = true
  | _, [], _, i, o, h => by simp at h
  | t, x :: rest, h, 0, o, ho => by
    simp only [tailOk, Bool.and_eq_true] at h
    simp at ho
    subst ho
    exact h.1
  | t, x :: rest, h, i + 1, o, ho => by
    simp only [tailOk, Bool.and_eq_true] at h
    have := tailOk_at (t + 1) rest h.2 i o (by simpa using ho)
    rwa [show t + 1 + i - 1 = t + (i + 1) - 1 by omega] at this
theorem calm_lexB {l : List Oper} {n g : Nat} {Lq : Act → Prop} (hsel : Region.noSelect l.toArray = true) (hs : Region.sinkB md l.toArray n = true) (hc : Region.chainB md l.toArray n = true) (hn : n < l.length) (hh : headOk md l.toArray n 0 l = true) (hq : Region.seqB md l.toArray g n (listedAt n l.length) = true) :
    ∀ (m k : Nat) (listed : Array Bool) (a : Act), k + m = n → HeadInv md l.toArray n listed → (∀ j, j < l.length → listed.getD j true = decide (j < k)) → calmList P l.toArray w Lq ((l.take n).drop k) a →
      calmAny P md l.toArray w n (fun listed' a' => Region.seqB md l.toArray g n listed' = true ∧ Lq a') m listed a
  | 0, k, listed, a, hk, inv, hl, h => by
    have hk : k = n := by omega
    subst hk
    have e : listed = listedAt k l.length := by
      apply Array.ext
      · rw [inv.size]; simp [listedAt]; omega
      · intro i h1 h2
        have hi : i < l.length := by rw [inv.size] at h1; simpa using h1
        have := hl i hi
        simp only [Array.getD_eq_getD_getElem?, Array.getElem?_eq_getElem h1, Option.getD_some] at this
        rw [this]
        have hh2 : i < (List.replicate k true ++ List.replicate (l.length - k) false).length := by simp; omega
        have : (listedAt k l.length)[i] = (List.replicate k true ++ List.replicate (l.length - k) false)[i]'hh2 := rfl
        refine Eq.trans ?_ this.symm
        rw [List.getElem_append]
        split <;> rename_i hik <;> simp at hik <;> simp [hik]
    rw [e]
    have h0 : (l.take k).drop k = [] := by simp
    rw [h0] at h
    exact ⟨hq, h⟩
  | m + 1, k, listed, a, hk, inv, hl, h => by
    obtain ⟨o, h0, he, hap, _⟩ := headOk_at n 0 l hh k (by omega)
    simp only [Nat.zero_add] at he hap
    have hks : k < l.length := (List.getElem?_eq_some_iff.1 h0).1
    have hd : (l.take n).drop k = o :: (l.take n).drop (k + 1) := by
      have h1 : k < (l.take n).length := by rw [List.length_take]; omega
      rw [List.drop_eq_getElem_cons h1]
      congr 1
      rw [List.getElem_take]
      exact (List.getElem?_eq_some_iff.1 h0).2
    rw [hd] at h
    obtain ⟨v, hy, hK⟩ := h
    have h0' : l.toArray[k]? = some o := by simpa using h0
    have hr : k ∈ Region.ready md l.toArray listed := by
      refine mem_ready.2 ⟨by rw [hl k hks]; simp, o, h0', fun e hem hb => ?_⟩
      have hlt := he e hem hb
      have := hl e.on (by omega)
      rw [Array.getD_eq_getD_getElem?, Array.getElem?_eq_getElem (by rw [inv.size]; simp; omega)] at this ⊢
      simpa [hlt] using this
    refine calm_first h0' (Region.noSelect_spec hsel) hs hc (by simpa using hn) (by omega) (fun _ _ hL => seqB_ready hL.1) m listed a inv (fun j oj hj hjk hjl hno => ?_) hr hy ?_
    · have hjs : j < l.length := by have := (Array.getElem?_eq_some_iff.1 hj).1; simpa using this
      have hlj := hl j hjs
      rw [hjl] at hlj
      have hkj : k < j := by
        have : ¬ j < k := by simpa using hlj.symm
        omega
      rcases hap j oj hkj (by simpa using hj) with hw | hw
      · obtain ⟨e, hem, hb, hon⟩ := waitsO_spec hw
        exact absurd hon (hno e hem hb)
      · exact hw
    · refine calm_lexB hsel hs hc hn hh hq m (k + 1) _ _ (by omega) (inv.set hr (by omega)) (fun j hj => ?_) hK
      by_cases hjk : k = j
      · subst hjk
        rw [Array.getD_eq_getD_getElem?, Array.getElem?_setIfInBounds]
        simp [inv.size, hks]
      · rw [getD_set_ne true hjk, hl j hj]
        apply decide_eq_decide.2
        omega
/-- The region, walked once; its edges looked at once. -/
theorem wp_region_calmB {id : Nat} {Q : Exit → Act → World → Prop} {a : Act} {l : List Oper} (n : Nat) (hm : P.follows .mixedOrders = true)
    (hB : (Region.noSelect l.toArray && Nat.blt n l.length && headOk .any l.toArray n 0 l && tailOk .any (n + 1) (l.drop (n + 1)) && Region.seqB .any l.toArray (l.length - n) n (listedAt n l.length)) = true)
    (h : calmList P l.toArray w (fun a' => ∀ W, Below w.heap.size w W → wpList P l.toArray Q (l.drop n) a' W) (l.take n) a) : (Code.region id l.toArray true).wp P Q a w := by
  simp only [Bool.and_eq_true, Nat.blt_eq] at hB
  obtain ⟨⟨⟨⟨hsel, hn⟩, hh⟩, ht⟩, hq⟩ := hB
  have hs : Region.sinkB .any l.toArray n = true := by
    refine List.all_eq_true.2 fun i hi => ?_
    have hi := List.mem_range.1 hi
    obtain ⟨o, _, _, _, j, oj, h1, h2, h3, h4⟩ := headOk_at n 0 l hh i hi
    refine List.any_eq_true.2 ⟨j, List.mem_range.2 (by omega), ?_⟩
    rw [waitsO_eq h3]
    simp only [Nat.zero_add] at h4
    simp [h1, h4]
  have hc : Region.chainB .any l.toArray n = true := by
    refine List.all_eq_true.2 fun t ht' => ?_
    have ht' : t < l.length := by simpa using ht'
    by_cases htn : t ≤ n
    · simp [htn]
    · have ho : l[t]? = some l[t] := List.getElem?_eq_getElem ht'
      have := tailOk_at (n + 1) _ ht (t - (n + 1)) l[t] (by rw [List.getElem?_drop, show n + 1 + (t - (n + 1)) = t by omega]; exact ho)
      rw [show n + 1 + (t - (n + 1)) - 1 = t - 1 by omega] at this
      rw [waitsO_eq ho]
      simp [this]
  have hdl : (l.drop n).length = l.length - n := by simp
  have inv0 : HeadInv .any l.toArray n (Array.replicate l.toArray.size false) :=
    ⟨by simp, fun j oj _ hl => (by rw [getD_replicate_false] at hl; cases hl), fun t _ ht => getD_in (by simpa using ht) (getD_replicate_false _ _)⟩
  have H := calm_lexB (md := .any) (g := l.length - n) hsel hs hc hn hh hq n 0 _ a (by omega) inv0 (fun j hj => by
    rw [Array.getD_eq_getD_getElem?, Array.getElem?_eq_getElem (by simpa using hj)]
    simp) (by simpa using h)
  refine wp_region_any hm ?_
  have h2 := wpAny_of_calm (Q := Q) (g := l.length - n) (fun listed a' hL W hW => by
    have := wpAny_of_seq (md := .any) (Q' := Q) (l.drop n) n listed a' W (fun j => by simp [List.getElem?_drop]) (by rw [hdl]; exact hL.1) (hL.2 W hW)
    rwa [hdl] at this) _ _ _ H { w with drawn := w.drawn + 1 } ((Below.refl w.heap.size w).drew)
  rw [show n + (l.length - n) = l.toArray.size by simp; omega] at h2
  exact h2
end
end Go.Proofs.Ytjbbobhjomhnmaa.H
