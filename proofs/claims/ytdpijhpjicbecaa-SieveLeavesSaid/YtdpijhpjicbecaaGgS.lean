/- Merging, plain: lists that rise; parts; groups of one key. No conditions. -/
import Derived.Test.YtdpijhpjicbecaaGgP
namespace Go.Proofs.Ytdpijhpjicbecaa.H
open Go.RowKit Go.Deep Go.Proofs.YtdpijhpjicbecaaW.PrintWords
set_option linter.unusedVariables false
set_option linter.unusedSimpArgs false
/-- x may stand ahead of y. -/
def leE (x y : Ent) : Prop := ¬ ltE y x
theorem leE_refl (x : Ent) : leE x x := fun h => ltE_irrefl h
theorem leE_of_lt {x y : Ent} (h : ltE x y) : leE x y := fun k => ltE_asymm h k
theorem leE_of_sam {x y : Ent} (h : samE x y) : leE x y := fun k => ltE_irrefl (samE_lt_r h k)
theorem leE_iff {x y : Ent} : leE x y ↔ ltE x y ∨ samE x y := by
  constructor
  · intro h
    rcases E_tri x y with k | k | k
    · exact .inl k
    · exact .inr k
    · exact absurd k h
  · rintro (h | h)
    · exact leE_of_lt h
    · exact leE_of_sam h
theorem leE_trans {x y z : Ent} (h : leE x y) (k : leE y z) : leE x z := by
  rw [leE_iff] at *
  rcases h with h | h <;> rcases k with k | k
  · exact .inl (ltE_trans h k)
  · exact .inl (samE_lt_r k h)
  · exact .inl (samE_lt_l (samE_symm h) k)
  · exact .inr (samE_trans h k)
theorem samE_of_le {x y : Ent} (h : leE x y) (k : leE y x) : samE x y := by
  rcases E_tri x y with p | p | p
  · exact absurd p k
  · exact p
  · exact absurd p h
def RisenL (l : List Ent) : Prop := l.Pairwise leE
def sm (x y : Ent) : Bool := cmpEE x y == 0
theorem sm_iff {x y : Ent} : sm x y = true ↔ samE x y := by unfold sm; rw [beq_iff_eq, eqE_iff]
theorem mem_set_of {α : Type} {l : List α} {i : Nat} {x y : α} (h : y ∈ l.set i x) : y = x ∨ y ∈ l := by
  rcases List.mem_or_eq_of_mem_set h with h | h
  · exact .inr h
  · exact .inl h
theorem bestO_get {l : List (List Ent)} {i : Nat} {e : Ent} {t : List Ent} (h : bestO 0 l = some (i, e, t)) : l[i]? = some (e :: t) ∧ ∀ j f u, l[j]? = some (f :: u) → lessR f j e i = false := by
  obtain ⟨m, hm, hl, h⟩ := bestO_some.1 h
  have e0 : i = m := by omega
  subst e0
  exact ⟨hl, fun j f u hj => by have := h j f u hj; rwa [Nat.zero_add] at this⟩
/-- By steps: what merging does, one taken behind the other. -/
theorem merge_ind (R : List (List Ent) → List Ent → Prop) (h0 : ∀ l, (∀ x ∈ l, x = []) → R l []) (h1 : ∀ l i e t, bestO 0 l = some (i, e, t) → l[i]? = some (e :: t) → R (l.set i t) (mergeL (l.set i t)) → R l (e :: mergeL (l.set i t))) (l : List (List Ent)) : R l (mergeL l) := by
  obtain ⟨n, hn⟩ : ∃ n, totL l = n := ⟨_, rfl⟩
  induction n generalizing l with
  | zero =>
    have h := totL_zero.1 hn
    rw [mergeL_end h]
    exact h0 l h
  | succ n ih =>
    cases hb : bestO 0 l with
    | none => have := totL_zero.2 (bestO_none.1 hb); omega
    | some p =>
      obtain ⟨i, e, t⟩ := p
      have hl := (bestO_get hb).1
      have h2 := totL_set hl
      rw [mergeL_step hb]
      exact h1 l i e t hb hl (ih _ (by omega))
/-- The entries of each list stand in what is merged, in their order. -/
theorem mergeL_sub (l : List (List Ent)) : ∀ (k : Nat) (a : List Ent), l[k]? = some a → a.Sublist (mergeL l) := by
  refine merge_ind (fun l m => ∀ (k : Nat) (a : List Ent), l[k]? = some a → a.Sublist m) (fun l h k a hk => ?_) (fun l i e t hb hl ih k a hk => ?_) l
  · rw [h a (List.mem_of_getElem? hk)]
    exact List.nil_sublist _
  · by_cases hik : i = k
    · subst hik
      rw [hl] at hk
      injection hk with hk
      subst hk
      exact (ih i t (List.getElem?_set_self (List.getElem?_eq_some_iff.1 hl).1)).cons_cons e
    · exact (ih k a (by rw [List.getElem?_set_ne hik]; exact hk)).cons e
theorem mergeL_nils : mergeL [[]] = [] := mergeL_end (by simp)
theorem mergeL_one (a : List Ent) : mergeL [a] = a := by
  have h := mergeL_sub [a] 0 a rfl
  have hlen := mergeL_length [a]
  exact (h.eq_of_length (by rw [hlen]; simp [totL])).symm
theorem mergeL_mem {l : List (List Ent)} {x : Ent} (h : x ∈ mergeL l) : ∃ a ∈ l, x ∈ a := by
  have := (mergeL_perm l).mem_iff.1 h
  exact List.mem_flatten.1 this
/-- Of lists that rise: it rises. -/
theorem mergeL_risen (l : List (List Ent)) : (∀ a ∈ l, RisenL a) → RisenL (mergeL l) := by
  refine merge_ind (fun l m => (∀ a ∈ l, RisenL a) → RisenL m) (fun l h _ => List.Pairwise.nil) (fun l i e t hb hl ih hr => ?_) l
  have hre := hr _ (List.mem_of_getElem? hl)
  have hset : ∀ a ∈ l.set i t, RisenL a := fun a ha => by
    rcases mem_set_of ha with rfl | ha
    · exact (List.pairwise_cons.1 hre).2
    · exact hr a ha
  refine List.pairwise_cons.2 ⟨fun y hy => ?_, ih hset⟩
  obtain ⟨a, ha, hya⟩ := mergeL_mem hy
  rcases mem_set_of ha with rfl | ha
  · exact (List.pairwise_cons.1 hre).1 y hya
  · obtain ⟨j, hj⟩ := List.mem_iff_getElem?.1 ha
    cases a with
    | nil => cases hya
    | cons f u =>
      have h1 := (bestO_get hb).2 j f u hj
      rw [lessR_false] at h1
      have h2 : leE e f := by
        rcases h1 with h1 | ⟨h1, _⟩
        · exact leE_of_lt h1
        · exact leE_of_sam (samE_symm h1)
      rcases List.mem_cons.1 hya with rfl | hyu
      · exact h2
      · exact leE_trans h2 ((List.pairwise_cons.1 (hr _ ha)).1 y hyu)
theorem filter_set {l : List (List Ent)} {i : Nat} {e : Ent} {t : List Ent} (p : Ent → Bool) (hl : l[i]? = some (e :: t)) (h : p e = true → ∀ j a, j < i → l[j]? = some a → a.filter p = []) : l.flatten.filter p = (if p e then [e] else []) ++ (l.set i t).flatten.filter p := by
  induction l generalizing i with
  | nil => simp at hl
  | cons a l ih =>
    cases i with
    | zero =>
      simp at hl
      subst hl
      simp only [List.set_cons_zero, List.flatten_cons, List.cons_append, List.filter_cons]
      split <;> rfl
    | succ i =>
      have h2 := ih (i := i) (by simpa using hl) (fun hp j b hj hb => h hp (j + 1) b (by omega) (by simpa using hb))
      simp only [List.set_cons_succ, List.flatten_cons, List.filter_append, h2]
      by_cases hp : p e = true
      · rw [if_pos hp, h hp 0 a (by omega) rfl]
        rfl
      · rw [if_neg hp]
        rfl
/-- What stands alike stays in the lists' order. -/
theorem mergeL_filter (x : Ent) (l : List (List Ent)) : (∀ a ∈ l, RisenL a) → (mergeL l).filter (sm x) = l.flatten.filter (sm x) := by
  refine merge_ind (fun l m => (∀ a ∈ l, RisenL a) → m.filter (sm x) = l.flatten.filter (sm x)) (fun l h _ => by rw [List.flatten_eq_nil_iff.2 h]) (fun l i e t hb hl ih hr => ?_) l
  have hre := hr _ (List.mem_of_getElem? hl)
  have hset : ∀ a ∈ l.set i t, RisenL a := fun a ha => by
    rcases mem_set_of ha with rfl | ha
    · exact (List.pairwise_cons.1 hre).2
    · exact hr a ha
  rw [List.filter_cons, ih hset, filter_set (sm x) hl ?_]
  · split <;> rfl
  · intro hp j a hj ha
    rw [List.filter_eq_nil_iff]
    intro y hy hys
    have s1 := sm_iff.1 hp
    have s2 := sm_iff.1 hys
    cases a with
    | nil => cases hy
    | cons f u =>
      have h1 := (bestO_get hb).2 j f u ha
      rw [lessR_false] at h1
      have h2 : ltE e f := by
        rcases h1 with h1 | ⟨_, h1⟩
        · exact h1
        · omega
      have h3 : leE f y := by
        rcases List.mem_cons.1 hy with rfl | hyu
        · exact leE_refl _
        · exact (List.pairwise_cons.1 (hr _ (List.mem_of_getElem? ha))).1 y hyu
      have h4 : samE e y := samE_trans (samE_symm s1) s2
      exact h3 (samE_lt_l h4 h2)
/-- Lists that rise, with the same in each class, are one list. -/
theorem risen_uniq : ∀ {a b : List Ent}, RisenL a → RisenL b → (∀ x, a.filter (sm x) = b.filter (sm x)) → a = b
  | [], [], _, _, _ => rfl
  | [], y :: b, _, _, h => by
    have := h y
    rw [List.filter_cons, if_pos (sm_iff.2 ⟨rfl, rfl⟩)] at this
    cases this
  | x :: a, [], _, _, h => by
    have := h x
    rw [List.filter_cons, if_pos (sm_iff.2 ⟨rfl, rfl⟩)] at this
    cases this
  | x :: a, y :: b, ha, hb, h => by
    have hself : ∀ z : Ent, sm z z = true := fun z => sm_iff.2 ⟨rfl, rfl⟩
    have hx : x ∈ y :: b := by
      have h1 : x ∈ (x :: a).filter (sm x) := by rw [List.filter_cons, if_pos (hself x)]; exact List.mem_cons_self
      rw [h x] at h1
      exact (List.mem_filter.1 h1).1
    have hy : y ∈ x :: a := by
      have h1 : y ∈ (y :: b).filter (sm y) := by rw [List.filter_cons, if_pos (hself y)]; exact List.mem_cons_self
      rw [← h y] at h1
      exact (List.mem_filter.1 h1).1
    have l1 : leE y x := by
      rcases List.mem_cons.1 hx with rfl | hx
      · exact leE_refl _
      · exact (List.pairwise_cons.1 hb).1 x hx
    have l2 : leE x y := by
      rcases List.mem_cons.1 hy with rfl | hy
      · exact leE_refl _
      · exact (List.pairwise_cons.1 ha).1 y hy
    have hs := samE_of_le l2 l1
    have h1 := h x
    rw [List.filter_cons, if_pos (hself x), List.filter_cons, if_pos (sm_iff.2 hs)] at h1
    injection h1 with h1 _
    subst h1
    congr 1
    refine risen_uniq (List.pairwise_cons.1 ha).2 (List.pairwise_cons.1 hb).2 (fun z => ?_)
    have h2 := h z
    rw [List.filter_cons, List.filter_cons] at h2
    split at h2
    · injection h2
    · exact h2
theorem mergeL_left {a b c : List Ent} (ha : RisenL a) (hb : RisenL b) (hc : RisenL c) : mergeL [mergeL [a, b], c] = mergeL [a, b, c] := by
  have hab : RisenL (mergeL [a, b]) := mergeL_risen _ (by simp [ha, hb])
  refine risen_uniq (mergeL_risen _ (by simp [hab, hc])) (mergeL_risen _ (by simp [ha, hb, hc])) (fun x => ?_)
  rw [mergeL_filter x _ (by simp [hab, hc]), mergeL_filter x _ (by simp [ha, hb, hc])]
  simp only [List.flatten_cons, List.flatten_nil, List.append_nil, List.filter_append]
  rw [mergeL_filter x _ (by simp [ha, hb])]
  simp [List.filter_append]
theorem mergeL_right {a b c : List Ent} (ha : RisenL a) (hb : RisenL b) (hc : RisenL c) : mergeL [a, mergeL [b, c]] = mergeL [a, b, c] := by
  have hbc : RisenL (mergeL [b, c]) := mergeL_risen _ (by simp [hb, hc])
  refine risen_uniq (mergeL_risen _ (by simp [ha, hbc])) (mergeL_risen _ (by simp [ha, hb, hc])) (fun x => ?_)
  rw [mergeL_filter x _ (by simp [ha, hbc]), mergeL_filter x _ (by simp [ha, hb, hc])]
  simp only [List.flatten_cons, List.flatten_nil, List.append_nil, List.filter_append]
  rw [mergeL_filter x _ (by simp [hb, hc])]
  simp [List.filter_append]
/-- Key by key: what is whole, and the group under way. -/
def grpE (s : List (List Ent) × List Ent) (e : Ent) : List (List Ent) × List Ent := match s.2 with
  | [] => (s.1, [e])
  | o :: r => if o.1 = e.1 then (s.1, (o :: r) ++ [e]) else (s.1 ++ [o :: r], [e])
def grpS (l : List Ent) : List (List Ent) × List Ent := l.foldl grpE ([], [])
def grpEnd (s : List (List Ent) × List Ent) : List (List Ent) := match s.2 with
  | [] => s.1
  | o :: r => s.1 ++ [o :: r]
def groupsL (l : List Ent) : List (List Ent) := grpEnd (grpS l)
theorem grpS_snoc (p : List Ent) (e : Ent) : grpS (p ++ [e]) = grpE (grpS p) e := by simp [grpS]
theorem grpE_pre (s : List (List Ent) × List Ent) (e : Ent) : s.1 <+: (grpE s e).1 := by
  unfold grpE
  split
  · exact List.prefix_refl _
  · split
    · exact List.prefix_refl _
    · exact List.prefix_append _ _
theorem grpFold_pre (q : List Ent) : ∀ s : List (List Ent) × List Ent, s.1 <+: (q.foldl grpE s).1 := by
  induction q with
  | nil => intro s; exact List.prefix_refl _
  | cons e q ih => intro s; exact (grpE_pre s e).trans (ih _)
theorem grpEnd_pre (s : List (List Ent) × List Ent) : s.1 <+: grpEnd s := by
  unfold grpEnd
  split
  · exact List.prefix_refl _
  · exact List.prefix_append _ _
/-- A group that is closed on the way is one of the groups. -/
theorem grp_prefix {p l : List Ent} (h : p <+: l) : (grpS p).1 <+: groupsL l := by
  obtain ⟨q, rfl⟩ := h
  refine List.IsPrefix.trans ?_ (grpEnd_pre _)
  unfold grpS
  rw [List.foldl_append]
  exact grpFold_pre q _
theorem grpE_close {s : List (List Ent) × List Ent} {o e : Ent} {r : List Ent} (hs : s.2 = o :: r) (h : ¬ o.1 = e.1) : grpE s e = (s.1 ++ [s.2], [e]) := by
  unfold grpE
  rw [hs]
  simp [h]
theorem grpE_open {s : List (List Ent) × List Ent} {o e : Ent} {r : List Ent} (hs : s.2 = o :: r) (h : o.1 = e.1) : grpE s e = (s.1, s.2 ++ [e]) := by
  unfold grpE
  rw [hs]
  simp [h]
theorem grpE_nil {s : List (List Ent) × List Ent} {e : Ent} (hs : s.2 = []) : grpE s e = (s.1, [e]) := by
  unfold grpE
  rw [hs]
theorem grpEnd_flat (s : List (List Ent) × List Ent) : (grpEnd s).flatten = s.1.flatten ++ s.2 := by
  unfold grpEnd
  split
  · rename_i h; rw [h]; simp
  · rename_i h; rw [h]; simp
theorem grpE_flat (s : List (List Ent) × List Ent) (e : Ent) : (grpE s e).1.flatten ++ (grpE s e).2 = s.1.flatten ++ s.2 ++ [e] := by
  cases hs : s.2 with
  | nil => rw [grpE_nil hs]; simp
  | cons o r =>
    by_cases h : o.1 = e.1
    · rw [grpE_open hs h]; simp [hs]
    · rw [grpE_close hs h]; simp [hs]
theorem grpFold_flat (q : List Ent) : ∀ s : List (List Ent) × List Ent, (q.foldl grpE s).1.flatten ++ (q.foldl grpE s).2 = s.1.flatten ++ s.2 ++ q := by
  induction q with
  | nil => intro s; simp
  | cons e q ih => intro s; rw [List.foldl_cons, ih, grpE_flat]; simp
theorem groups_flat (l : List Ent) : (groupsL l).flatten = l := by
  unfold groupsL
  rw [grpEnd_flat]
  unfold grpS
  rw [grpFold_flat]
  simp
/-- The groups of a list that rises. -/
structure GrpOk (s : List (List Ent) × List Ent) : Prop where
  ne : ∀ g ∈ s.1, g ≠ []
  one : ∀ g ∈ s.1 ++ [s.2], ∀ x ∈ g, ∀ y ∈ g, x.1 = y.1
  emp : s.2 = [] → s.1 = []
def keyLt (x y : Ent) : Prop := Op.bytesLess x.1.toList y.1.toList = true
/-- Each group's keys are below the next one's. -/
def GrpUp (g : List (List Ent)) : Prop := g.Pairwise fun a b => ∀ x ∈ a, ∀ y ∈ b, keyLt x y
theorem grpE_ok {s : List (List Ent) × List Ent} (e : Ent) (h : GrpOk s) : GrpOk (grpE s e) ∧ (grpE s e).2 ≠ [] := by
  cases hs : s.2 with
  | nil =>
    rw [grpE_nil hs, h.emp hs]
    refine ⟨⟨by simp, fun g hg x hx y hy => ?_, by simp⟩, by simp⟩
    have hg : g = [e] := List.mem_singleton.1 hg
    subst hg
    rw [List.mem_singleton.1 hx, List.mem_singleton.1 hy]
  | cons o r =>
    by_cases hk : o.1 = e.1
    · rw [grpE_open hs hk]
      refine ⟨⟨h.ne, fun g hg x hx y hy => ?_, by simp [hs]⟩, by simp⟩
      rcases List.mem_append.1 hg with hg | hg
      · exact h.one g (List.mem_append.2 (.inl hg)) x hx y hy
      · have hg : g = s.2 ++ [e] := by simpa using hg
        subst hg
        have ho : ∀ z ∈ s.2 ++ [e], z.1 = o.1 := fun z hz => by
          rcases List.mem_append.1 hz with hz | hz
          · exact h.one s.2 (by simp) z hz o (by rw [hs]; simp)
          · have : z = e := by simpa using hz
            rw [this, hk]
        exact (ho x hx).trans (ho y hy).symm
    · rw [grpE_close hs hk]
      refine ⟨⟨fun g hg => ?_, fun g hg x hx y hy => ?_, by simp⟩, by simp⟩
      · rcases List.mem_append.1 hg with hg | hg
        · exact h.ne g hg
        · have : g = s.2 := by simpa using hg
          rw [this, hs]; simp
      · rcases List.mem_append.1 hg with hg | hg
        · exact h.one g hg x hx y hy
        · have : g = [e] := by simpa using hg
          subst this
          simp at hx hy
          rw [hx, hy]
theorem grpS_ok (l : List Ent) : GrpOk (grpS l) := by
  unfold grpS
  have : ∀ (q : List Ent) (s : List (List Ent) × List Ent), GrpOk s → GrpOk (q.foldl grpE s) := by
    intro q
    induction q with
    | nil => intro s h; exact h
    | cons e q ih => intro s h; exact ih _ (grpE_ok e h).1
  exact this l _ ⟨by simp, by simp, fun _ => rfl⟩
theorem groups_ne {l : List Ent} {g : List Ent} (h : g ∈ groupsL l) : g ≠ [] := by
  have ok := grpS_ok l
  unfold groupsL grpEnd at h
  split at h
  · exact ok.ne g h
  · rcases List.mem_append.1 h with h | h
    · exact ok.ne g h
    · have this := List.mem_singleton.1 h
      rw [this]; simp
theorem groups_one {l : List Ent} {g : List Ent} (h : g ∈ groupsL l) {x y : Ent} (hx : x ∈ g) (hy : y ∈ g) : x.1 = y.1 := by
  have ok := grpS_ok l
  unfold groupsL grpEnd at h
  split at h
  · exact ok.one g (List.mem_append.2 (.inl h)) x hx y hy
  · rename_i h2
    exact ok.one g (by rw [h2]; exact h) x hx y hy
theorem bytes_inj {a b : ByteArray} (h : a.toList = b.toList) : a = b := by
  rw [ByteArray.toList_eq, ByteArray.toList_eq] at h
  exact ByteArray.ext (Array.toList_inj.1 h)
theorem snocInd {α : Type} {R : List α → Prop} (h0 : R []) (h1 : ∀ p e, R p → R (p ++ [e])) (l : List α) : R l := by
  obtain ⟨m, hm⟩ : ∃ m, l.reverse = m := ⟨_, rfl⟩
  have e : l = m.reverse := by rw [← hm, List.reverse_reverse]
  subst e
  clear hm
  induction m with
  | nil => exact h0
  | cons a m ih => rw [List.reverse_cons]; exact h1 _ _ ih
theorem leE_key {x y : Ent} (h : leE x y) : x.1 = y.1 ∨ keyLt x y := by
  rcases leE_iff.1 h with h | h
  · rcases (ltE_iff _ _).1 h with h | ⟨h, _⟩
    · exact .inr h
    · exact .inl (bytes_inj h)
  · exact .inl (bytes_inj h.1)
theorem keyLt_trans {x y z : Ent} (h : keyLt x y) (k : keyLt y z) : keyLt x z := less_trans _ _ _ h k
theorem grpS_up (l : List Ent) : RisenL l → GrpUp ((grpS l).1 ++ [(grpS l).2]) := by
  induction l using snocInd with
  | h0 => intro _; simp [GrpUp, grpS]
  | h1 p e ih =>
    intro hr
    obtain ⟨hp, _, hpe⟩ := List.pairwise_append.1 hr
    have h := ih hp
    have hok := grpS_ok p
    have hfl := grpFold_flat p ([], [])
    rw [show p.foldl grpE ([], []) = grpS p from rfl] at hfl
    simp only [List.flatten_nil, List.nil_append] at hfl
    have hmem : ∀ g ∈ (grpS p).1 ++ [(grpS p).2], ∀ x ∈ g, leE x e := fun g hg x hx => hpe x (by
      rw [← hfl]
      rcases List.mem_append.1 hg with hg | hg
      · exact List.mem_append.2 (.inl (List.mem_flatten.2 ⟨g, hg, hx⟩))
      · have this := List.mem_singleton.1 hg
        rw [this] at hx
        exact List.mem_append.2 (.inr hx)) e (by simp)
    obtain ⟨hd, _, hdl⟩ := List.pairwise_append.1 h
    rw [grpS_snoc]
    cases hs : (grpS p).2 with
    | nil =>
      rw [grpE_nil hs, hok.emp hs]
      simp [GrpUp]
    | cons o r =>
      have ho : o ∈ (grpS p).2 := by rw [hs]; exact List.mem_cons_self
      by_cases hk : o.1 = e.1
      · rw [grpE_open hs hk]
        refine List.pairwise_append.2 ⟨hd, by simp, fun a ha b hb x hx y hy => ?_⟩
        have hb := List.mem_singleton.1 hb
        subst hb
        rcases List.mem_append.1 hy with hy | hy
        · exact hdl a ha _ (by simp) x hx y hy
        · have : y = e := by simpa using hy
          subst this
          have h1 := hdl a ha _ (List.mem_singleton.2 rfl) x hx o ho
          unfold keyLt at h1 ⊢
          rwa [← hk]
      · rw [grpE_close hs hk]
        refine List.pairwise_append.2 ⟨h, by simp, fun a ha b hb x hx y hy => ?_⟩
        have hb : b = [e] := by simpa using hb
        subst hb
        have : y = e := by simpa using hy
        subst this
        have h2 : keyLt o y := (leE_key (hmem _ (List.mem_append.2 (.inr (List.mem_singleton.2 rfl))) o ho)).resolve_left hk
        rcases List.mem_append.1 ha with ha | ha
        · exact keyLt_trans (hdl a ha _ (List.mem_singleton.2 rfl) x hx o ho) h2
        · have ha := List.mem_singleton.1 ha
          subst ha
          have h3 := hok.one _ (List.mem_append.2 (.inr (List.mem_singleton.2 rfl))) x hx o ho
          unfold keyLt at h2 ⊢
          rwa [h3]
/-- Of a list that rises: each group's keys are below the next one's. -/
theorem groups_up {l : List Ent} (h : RisenL l) : GrpUp (groupsL l) := by
  have h2 := grpS_up l h
  unfold groupsL grpEnd
  split
  · exact (List.pairwise_append.1 h2).1
  · rename_i h3
    rw [← h3]
    exact h2
end Go.Proofs.Ytdpijhpjicbecaa.H
