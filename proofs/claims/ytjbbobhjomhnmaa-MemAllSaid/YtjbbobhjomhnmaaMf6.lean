/- The law's pair of memtables (screelaw6): what it is; adds (printed by genmf6.py). Conditions: sizes. -/
import Derived.Test.YtjbbobhjomhnmaaMf5
namespace Go.Proofs.Ytjbbobhjomhnmaa.H
open Go Go.RowKit Go.Deep Go.Shelf Go.Proofs Go.Proofs.YtjbbobhjomhnmaaW.PrintWords
set_option linter.unusedVariables false
set_option linter.unusedSimpArgs false
/-- What a memtable holds: its weight and its greatest number are those of its entries, which are small. -/
structure Sums (M : MemV) : Prop where
  wt : M.wt = sumW (allE M.L)
  last : M.last = maxQ (allE M.L)
  small : ∀ e ∈ allE M.L, Small e
theorem addS_sums {draws : List Int} {M : MemV} (hs : SortL M.L) (h : Sums M) {e : Ent} (he : Small e) : Sums (addS draws M e) := by
  unfold addS
  split
  · exact h
  · obtain ⟨P, Q, hL, _, _, _, h4⟩ := pure_split hs e
    have hE : allE (insL M.L (e, hgt draws M.L.length)) = allE P ++ e :: allE Q := by rw [h4, allE_append]; rfl
    have hM : allE M.L = allE P ++ allE Q := by rw [hL, allE_append]
    refine ⟨?_, ?_, ?_⟩
    · show M.wt + wtE e = _
      rw [hE, h.wt, hM, sumW_append, sumW_append, sumW]
      omega
    · show mxU M.last e.2.1 = _
      rw [hE, maxQ_put, ← hM, h.last]
    · intro x hx
      rw [show (⟨insL M.L (e, hgt draws M.L.length), M.wt + wtE e, mxU M.last e.2.1, M.fz⟩ : MemV).L = insL M.L (e, hgt draws M.L.length) from rfl, hE] at hx
      rcases List.mem_append.1 hx with hx | hx
      · exact h.small x (by rw [hM]; exact List.mem_append_left _ hx)
      · rcases List.mem_cons.1 hx with rfl | hx
        · exact he
        · exact h.small x (by rw [hM]; exact List.mem_append_right _ hx)
theorem addF_sums {draws : List Int} (es : List Ent) : ∀ {M : MemV}, SortL M.L → Sums M → (∀ e ∈ es, Small e) → Sums (addF draws M es) := by
  induction es with
  | nil => exact fun _ h _ => h
  | cons e es ih => exact fun hs h he => ih (by rw [addS_L]; exact putS_sorted hs e) (addS_sums hs h (he e (by simp))) (fun x hx => he x (by simp [hx]))
theorem addF_pushL (draws : List Int) (es : List Ent) : ∀ M : MemV, (addF draws M es).L = pushL draws M.L es := by
  induction es with
  | nil => exact fun _ => rfl
  | cons e es ih =>
    intro M
    show (addF draws (addS draws M e) es).L = pushL draws (putS draws M.L e) es
    rw [ih, addS_L]
theorem addF_fz' (draws : List Int) (es : List Ent) : ∀ M : MemV, (addF draws M es).fz = M.fz := by
  induction es with
  | nil => exact fun _ => rfl
  | cons e es ih =>
    intro M
    show (addF draws (addS draws M e) es).fz = M.fz
    rw [ih, addS_fz]
theorem firstE_all : ∀ {l : List Wri}, firstE l = 0 → ∀ x ∈ l, chkW x = 0
  | [], _, x, hx => by cases hx
  | y :: l, h, x, hx => by
    by_cases hy : chkW y = 0
    · rw [firstE, if_pos hy] at h
      rcases List.mem_cons.1 hx with rfl | hx
      · exact hy
      · exact firstE_all h x hx
    · rw [firstE, if_neg hy] at h
      exact absurd h hy
theorem chkW_small {x : Wri} (h : chkW x = 0) : x.1.size ≤ 64 ∧ (x.2.1 = false → x.2.2.size ≤ 512) := by
  unfold chkW at h
  by_cases hc : chk x.1 = 0
  · rw [if_pos hc] at h
    refine ⟨?_, fun hd => ?_⟩
    · unfold chk at hc
      split at hc
      · cases hc
      · split at hc
        · cases hc
        · omega
    · rw [hd] at h
      simp only [Bool.false_eq_true, if_false] at h
      split at h
      · cases h
      · omega
  · rw [if_neg hc] at h
    exact absurd h hc
theorem ents_small {f : Int} {l : List Wri} (h : chkB l = 0) : ∀ e ∈ ents f l, Small e := fun e he => by
  have h0 : firstE l = 0 := by
    unfold chkB at h
    split at h
    · cases h
    · exact h
  obtain ⟨i, hi⟩ := List.getElem?_of_mem he
  unfold ents at hi
  rw [List.getElem?_mapIdx] at hi
  cases hx : l[i]? with
  | none => rw [hx] at hi; cases hi
  | some x =>
    rw [hx] at hi
    simp only [Option.map_some, Option.some.injEq] at hi
    subst hi
    obtain ⟨h1, h2⟩ := chkW_small (firstE_all h0 x (List.mem_of_getElem? hx))
    refine ⟨h1, ?_, ?_, ?_⟩
    · show (if x.2.1 then (⟨#[]⟩ : ByteArray) else x.2.2).size ≤ 512
      cases hd : x.2.1 with
      | true => rw [if_pos rfl]; decide
      | false => simpa using h2 hd
    · show 0 ≤ IntKind.u64.wrap _
      rw [IntKind.wrap_u64]; omega
    · show IntKind.u64.wrap _ ≤ _
      rw [IntKind.wrap_u64]; omega
/-- What Add tells; what the memtable is behind it. -/
def codeA (M : MemV) (l : List Wri) : Int := if M.fz = true then 60 else chkB l
def addM (draws : List Int) (M : MemV) (f : Int) (l : List Wri) : MemV := if M.fz = true then M else if chkB l = 0 then addF draws M (ents f l) else M
theorem addM_sums {draws : List Int} {M : MemV} (hs : SortL M.L) (h : Sums M) (f : Int) (l : List Wri) : Sums (addM draws M f l) ∧ (addM draws M f l).fz = M.fz := by
  unfold addM
  split
  · exact ⟨h, rfl⟩
  · split
    · exact ⟨addF_sums _ hs h (ents_small ‹_›), addF_fz' _ _ _⟩
    · exact ⟨h, rfl⟩
theorem addM_len (draws : List Int) (M : MemV) (f : Int) (l : List Wri) : (addM draws M f l).L.length ≤ M.L.length + l.length := by
  unfold addM
  split
  · omega
  · split
    · rw [addF_pushL]
      have := pushL_len draws (ents f l) M.L
      rwa [ents_len] at this
    · omega
/-- The program's memtable and the document's. -/
structure Pair6 (w : World) (t g m r : Nat) (S R : Nat → Prop) (draws : List Int) (M : MemV) : Prop where
  mt : MemIs w t g S draws M
  rt : RTab w m r R (allE M.L) M.fz
  far : ∀ k, (S k ∨ k = t) → ¬ (R k ∨ k = m)
  sum : Sums M
section
variable {w w' : World} {t g m r : Nat} {S R T : Nat → Prop} {draws : List Int} {M : MemV}
theorem Pair6.upd (h : Pair6 w t g m r S R draws M) (hu : Upd T w w') (hT : ∀ k, ((S k ∨ k = t) ∨ (R k ∨ k = m)) → ¬ T k) : Pair6 w' t g m r S R draws M :=
  ⟨h.mt.upd hu (fun k hk => hT k (.inl (.inl hk))) (hT t (.inl (.inr rfl))), h.rt.upd hu (fun k hk => hT k (.inr hk)), h.far, h.sum⟩
theorem Pair6.later (h : Pair6 w t g m r S R draws M) (hb : Below w.heap.size w w') : Pair6 w' t g m r S R draws M :=
  h.upd (T := fun _ => False) (Upd.of_below hb) fun _ _ h => h
theorem MemIs.lt6 (h : MemIs w t g S draws M) : ∀ k, (S k ∨ k = t) → k < w.heap.size := fun k hk => by
  rcases hk with hk | hk
  · exact h.list.lt k hk
  · rw [hk]; exact blk_lt h.row
theorem Pair6.lt (h : Pair6 w t g m r S R draws M) : ∀ k, ((S k ∨ k = t) ∨ (R k ∨ k = m)) → k < w.heap.size := fun k hk => by
  rcases hk with hk | hk
  · exact h.mt.lt6 k hk
  · exact h.rt.lt k hk
theorem Pair6.sorted (h : Pair6 w t g m r S R draws M) : SortL M.L := h.mt.list.sorted
end
/-- The stages of the two Adds. -/
def AddR (w1 : World) (t g m r : Nat) (S R : Nat → Prop) (draws : List Int) (M M' : MemV) (s : Nat) (W : World) : Prop :=
  Upd (fun k => (S k ∨ k = t) ∨ (R k ∨ k = m)) w1 W ∧ match s with
    | 0 => Pair6 W t g m r S R draws M
    | 1 => ∃ S', Grow S S' w1 ∧ MemIs W t g S' draws M' ∧ RTab W m r R (allE M.L) M.fz ∧ (∀ k, (S' k ∨ k = t) → ¬ (R k ∨ k = m))
    | _ => ∃ S' R', Grow S S' w1 ∧ Grow R R' w1 ∧ Pair6 W t g m r S' R' draws M'
theorem AddR.later {w1 : World} {t g m r : Nat} {S R : Nat → Prop} {draws : List Int} {M M' : MemV} {s : Nat} {W W' : World} (h : AddR w1 t g m r S R draws M M' s W) (hb : Below W.heap.size W W') : AddR w1 t g m r S R draws M M' s W' := by
  obtain ⟨hu, hm⟩ := h
  refine ⟨hu.trans (Upd.of_below hb), ?_⟩
  match s, hm with
  | 0, hp => exact Pair6.later hp hb
  | 1, ⟨S', hg, h1, h2, h3⟩ => exact ⟨S', hg, h1.later hb, h2.later hb, h3⟩
  | _ + 2, ⟨S', R', h1, h2, h3⟩ => exact ⟨S', R', h1, h2, h3.later hb⟩
theorem ldRt (b j g : Nat) (W : World) (h : W.cell? ⟨b, j, none⟩ = some (.pointer (some ⟨g, 0, none⟩))) : (Instr.loadAt 102 (.pointer (some ⟨b, j, none⟩))).run Try.prog W = .ok (.pointer (some ⟨g, 0, none⟩)) W := by
  go_simp
theorem add_1st {w1 : World} {t g m r : Nat} {S R : Nat → Prop} {draws : List Int} {M : MemV} {f : Int} {l : List Wri} {A : Option Addr} {c : Nat} {W : World} (hW : AddR w1 t g m r S R draws M (addM draws M f l) 0 W) (hs : Sl encW 3 w1 A l) (hA : l ≠ [] → ∀ b o, A = some ⟨b, o, none⟩ → ¬ ((S b ∨ b = t) ∨ (R b ∨ b = m)))
    (hok : ∀ x ∈ l, x.1.size ≤ 140737488351232 ∧ x.2.2.size ≤ 140737488351232) (hl : M.L.length ≤ 100000) :
    Calls Try.prog 35 #[.pointer (some ⟨t, 0, none⟩), .int .u64 f, .slice A l.length c] W fun e W' => e = .returned (.int .i64 (codeA M l)) ∧ AddR w1 t g m r S R draws M (addM draws M f l) 1 W' := by
  obtain ⟨hu, hp⟩ := hW
  have hp : Pair6 W t g m r S R draws M := hp
  have hsW : Sl encW 3 W A l := by
    by_cases hne : l = []
    · subst hne; exact Sl.nil _ _ _ _
    · exact hs.upd hu (fun b o e => hA hne b o e)
  have hb := sumW_bound hp.sum.small
  rw [← hp.sum.wt, allE_len] at hb
  have hc := add_c hp.mt f A c l hsW hok (by omega) (by omega)
  refine hc.mono fun e W' he => ?_
  have key : ∀ M', AddOk W W' t g S draws M' → M' = addM draws M f l → AddR w1 t g m r S R draws M (addM draws M f l) 1 W' := fun M' ho hM' => by
    subst hM'
    obtain ⟨hu2, S', hg, hm⟩ := ho
    refine ⟨hu.step hu2 (fun k hk => .inl (.inl hk)), S', fun k hk => ?_, hm, hp.rt.upd hu2 (fun k hk hn => hp.far k hn hk), fun k hk hn => ?_⟩
    · rcases hg k hk with h | h
      · exact .inl h
      · have := hu.size; exact .inr (by omega)
    · rcases hk with hk | hk
      · rcases hg k hk with h | h
        · exact hp.far k (.inl h) hn
        · have := hp.rt.lt k hn; omega
      · exact hp.far k (.inr hk) hn
  unfold codeA
  by_cases hfz : M.fz = true
  · rw [if_pos hfz] at he ⊢
    exact ⟨he.1, key _ he.2 (by unfold addM; rw [if_pos hfz])⟩
  · rw [if_neg hfz] at he ⊢
    by_cases hch : chkB l = 0
    · rw [if_pos hch] at he
      exact ⟨by rw [hch]; exact he.1, key _ he.2 (by unfold addM; rw [if_neg hfz, if_pos hch])⟩
    · rw [if_neg hch] at he
      exact ⟨he.1, key _ he.2 (by unfold addM; rw [if_neg hfz, if_neg hch])⟩
theorem add_2nd {w1 : World} {t g m r : Nat} {S R : Nat → Prop} {draws : List Int} {M : MemV} {f : Int} {l : List Wri} {A : Option Addr} {c : Nat} {W : World} (hW : AddR w1 t g m r S R draws M (addM draws M f l) 1 W) (hs : Sl encW 3 w1 A l) (hA : l ≠ [] → ∀ b o, A = some ⟨b, o, none⟩ → ¬ ((S b ∨ b = t) ∨ (R b ∨ b = m)))
    (hp1 : Pair6 w1 t g m r S R draws M) (hf : 0 ≤ f ∧ f ≤ 18446744073709551615) (hl : M.L.length ≤ 100000) :
    Calls Try.prog 116 #[.pointer (some ⟨m, 0, none⟩), .int .u64 f, .slice A l.length c] W fun e W' => e = .returned (.int .i64 (codeA M l)) ∧ AddR w1 t g m r S R draws M (addM draws M f l) 2 W' := by
  obtain ⟨hu, S', hg, hm, hr, hfar⟩ := hW
  have hsW : Sl encW 3 W A l := by
    by_cases hne : l = []
    · subst hne; exact Sl.nil _ _ _ _
    · exact hs.upd hu (fun b o e => hA hne b o e)
  obtain ⟨hsum, hfz2⟩ := addM_sums (draws := draws) hp1.sorted hp1.sum f l
  have hself : R r := by obtain ⟨_, _, h2⟩ := hp1.rt.rf; exact h2.self
  have hc := refAdd6_c draws hr hp1.sorted (by omega) f hf A c l hsW (fun hne b o e hb => hA hne b o e (.inr (.inl (by rw [hb]; exact hself))))
  refine hc.mono fun e W' ⟨hu2, he⟩ => ?_
  have hu3 := hu.step hu2 (fun k hk => .inl (.inr (.inl (by rw [hk]; exact hself))))
  have hm3 := hm.upd hu2 (fun k hk hn => hfar k (.inl hk) (.inl (by rw [hn]; exact hself))) (fun hn => hfar t (.inr rfl) (.inl (by rw [hn]; exact hself)))
  have key : ∀ R' es, Grow R R' W → RTab W' m r R' es M.fz → es = allE (addM draws M f l).L → AddR w1 t g m r S R draws M (addM draws M f l) 2 W' := fun R' es hg2 hr2 hes => by
    subst hes
    refine ⟨hu3, S', R', hg, fun k hk => ?_, hm3, by rw [hfz2]; exact hr2, fun k hk hn => ?_, hsum⟩
    · rcases hg2 k hk with h | h
      · exact .inl h
      · have := hu.size; exact .inr (by omega)
    · rcases hn with hn | hn
      · rcases hg2 k hn with h | h
        · exact hfar k hk (.inl h)
        · have := hm.lt6 k hk; omega
      · exact hfar k hk (.inr hn)
  unfold codeA
  by_cases hfz : M.fz = true
  · rw [if_pos hfz] at he ⊢
    exact ⟨he.1, key _ _ (Grow.refl _ _) he.2 (by unfold addM; rw [if_pos hfz])⟩
  · rw [if_neg hfz] at he ⊢
    by_cases hch : chkB l = 0
    · rw [if_pos hch] at he
      obtain ⟨he, R', hg2, hr2⟩ := he
      exact ⟨by rw [hch]; exact he, key _ _ hg2 hr2 (by unfold addM; rw [if_neg hfz, if_pos hch, addF_pushL])⟩
    · rw [if_neg hch] at he
      exact ⟨he.1, key _ _ (Grow.refl _ _) he.2 (by unfold addM; rw [if_neg hfz, if_neg hch])⟩
end Go.Proofs.Ytjbbobhjomhnmaa.H
