/- The sieve, plain: what stays rises strictly by key; gone through once more nothing goes. No conditions. -/
import Derived.Test.YtdpijhpjicbecaaVD
namespace Go.Proofs.Ytdpijhpjicbecaa.H
open Go Go.RowKit Go.Deep Go.Shelf Go.Proofs Go.Proofs.YtdpijhpjicbecaaW.PrintWords
set_option linter.unusedVariables false
set_option linter.unusedSimpArgs false
theorem riseP_le {a b : Ent} (h : RiseP a b) : leE a b := fun k => by
  rcases (ltE_iff b a).1 k with k | ⟨k1, k2⟩
  · have := h.1
    rw [k] at this
    cases this
  · exact h.2 (bytes_inj k1).symm k2
theorem rise_risen {l : List Ent} (h : RiseTo l l.length) : RisenL l := by
  have key : ∀ (d i : Nat) (a b : Ent), l[i]? = some a → l[i + d]? = some b → leE a b := by
    intro d
    induction d with
    | zero =>
      intro i a b ha hb
      rw [Nat.add_zero, ha] at hb
      injection hb with hb
      rw [hb]
      exact leE_refl _
    | succ d ih =>
      intro i a b ha hb
      have hlt := (List.getElem?_eq_some_iff.1 hb).1
      obtain ⟨x, hx⟩ := getElem?_of_lt (l := l) (i := i + d) (by omega)
      exact leE_trans (ih i a x ha hx) (riseP_le (h (i + d) x b (by omega) hx hb))
  refine List.pairwise_iff_getElem.2 fun i j hi hj hij => ?_
  have := key (j - i) i l[i] l[j] (List.getElem?_eq_getElem hi) (by rw [show i + (j - i) = j by omega]; exact List.getElem?_eq_getElem hj)
  exact this
theorem pick_mem {b : ByteArray → Bool} {l : List Ent} {e : Ent} (h : pickL b l = some e) : e ∈ l := by
  unfold pickL at h
  cases hb : bestL l with
  | none => rw [hb] at h; cases h
  | some x =>
    rw [hb] at h
    simp only at h
    split at h
    · cases h
    · injection h with h
      rw [← h]
      exact best_mem hb
theorem keep_up (b : ByteArray → Bool) {l : List Ent} (h : RisenL l) : (keepL b (groupsL l)).Pairwise keyLt := by
  unfold keepL
  rw [List.pairwise_filterMap]
  exact (groups_up h).imp fun {g g'} hg e he e' he' => hg e (pick_mem he) e' (pick_mem he')
theorem keyLt_ne {x y : Ent} (h : keyLt x y) : ¬ x.1 = y.1 := fun e => by
  unfold keyLt at h
  rw [e, less_irrefl] at h
  cases h
theorem grpS_single (p : List Ent) : ∀ e : Ent, (p ++ [e]).Pairwise keyLt → grpS (p ++ [e]) = (p.map fun x => [x], [e]) := by
  induction p using snocInd with
  | h0 => intro e _; simp [grpS, grpE]
  | h1 p o ih =>
    intro e h
    obtain ⟨h1, _, h2⟩ := List.pairwise_append.1 h
    rw [grpS_snoc, ih o h1]
    rw [grpE_close (o := o) (r := []) rfl (keyLt_ne (h2 o (by simp) e (by simp)))]
    simp
theorem groups_single {l : List Ent} (h : l.Pairwise keyLt) : groupsL l = l.map fun x => [x] := by
  rcases List.eq_nil_or_concat l with rfl | ⟨p, e, rfl⟩
  · rfl
  · rw [List.concat_eq_append] at h ⊢
    unfold groupsL
    rw [grpS_single p e h]
    simp [grpEnd]
theorem keep_true {l : List Ent} (h : l.Pairwise keyLt) : keepL (fun _ => true) (groupsL l) = l := by
  rw [groups_single h, keepL, List.filterMap_map]
  have : ((pickL fun _ => true) ∘ fun x => [x]) = some := by
    funext e
    simp [pickL, bestL]
  rw [this]
  simp
theorem merge_nil (a : List Ent) : mergeL [[], a] = a := by
  have h1 := mergeL_sub [[], a] 1 a rfl
  have h2 := mergeL_length [[], a]
  exact (h1.eq_of_length (by rw [h2]; simp [totL])).symm
end Go.Proofs.Ytdpijhpjicbecaa.H
