/- The heap of merge's cursors: which are in it, which is taken. No conditions. -/
import Derived.Test.YtdpijhpjicbecaaGCur
namespace Go.Proofs.Ytdpijhpjicbecaa.H
open Go.RowKit Go.Deep Go.Proofs Go.Proofs.YtdpijhpjicbecaaW.PrintWords
set_option linter.unusedVariables false
set_option linter.unusedSimpArgs false
/-- A cursor: its block, its list, how many are taken. -/
structure CS where
  b : Nat
  A : Option Addr
  c : Nat
  L : List Ent
  i : Nat
def CursAt (w : World) (C : List CS) : Prop := ∀ (k : Nat) (s : CS), C[k]? = some s → CurAt w s.b s.A s.c s.L s.i k
/-- What is left of the sources. -/
def rests (C : List CS) : List (List Ent) := C.map fun s => s.L.drop s.i
/-- The cursor of block x is the k-th; e stands next. -/
def Live (C : List CS) (x k : Nat) (e : Ent) : Prop := ∃ s, C[k]? = some s ∧ s.b = x ∧ s.L[s.i]? = some e
def DC (C : List CS) (x : Nat) : Prop := ∃ k e, Live C x k e
def NoD (C : List CS) : Prop := ∀ (k k' : Nat) (s s' : CS), C[k]? = some s → C[k']? = some s' → s.b = s'.b → k = k'
theorem Live.uniq {C : List CS} (h : NoD C) {x k k' : Nat} {e e' : Ent} (a : Live C x k e) (b : Live C x k' e') : k = k' ∧ e = e' := by
  obtain ⟨s, h1, h2, h3⟩ := a
  obtain ⟨s', h1', h2', h3'⟩ := b
  have := h _ _ _ _ h1 h1' (h2.trans h2'.symm)
  subst this
  rw [h1] at h1'
  injection h1' with h1'
  subst h1'
  rw [h3] at h3'
  injection h3' with h3'
  exact ⟨rfl, h3'⟩
theorem live_rest {C : List CS} {k : Nat} {e : Ent} {t : List Ent} : (rests C)[k]? = some (e :: t) ↔ ∃ s, C[k]? = some s ∧ s.L[s.i]? = some e ∧ t = s.L.drop (s.i + 1) := by
  unfold rests
  rw [List.getElem?_map]
  cases hk : C[k]? with
  | none => simp
  | some s =>
    simp only [Option.map_some, Option.some.injEq]
    constructor
    · intro h
      refine ⟨s, rfl, ?_, ?_⟩
      · have : (s.L.drop s.i)[0]? = some e := by rw [h]; rfl
        rwa [List.getElem?_drop, Nat.add_zero] at this
      · have : (s.L.drop s.i).drop 1 = t := by rw [h]; rfl
        rw [← this, List.drop_drop]
    · rintro ⟨s', rfl, h1, rfl⟩
      obtain ⟨hl, he⟩ := List.getElem?_eq_some_iff.1 h1
      rw [List.drop_eq_getElem_cons hl, he]
noncomputable def kOf {C : List CS} (x : Cu (DC C)) : Nat := Classical.choose x.2
noncomputable def eOf {C : List CS} (x : Cu (DC C)) : Ent := Classical.choose (Classical.choose_spec x.2)
theorem liveOf {C : List CS} (x : Cu (DC C)) : Live C x.1 (kOf x) (eOf x) := Classical.choose_spec (Classical.choose_spec x.2)
noncomputable def ltC (C : List CS) (x y : Cu (DC C)) : Bool := lessR (eOf x) (kOf x) (eOf y) (kOf y)
theorem ltC_eq {C : List CS} (h : NoD C) {x y k j : Nat} {e f : Ent} (hx : Live C x k e) (hy : Live C y j f) (dx : DC C x) (dy : DC C y) : ltC C ⟨x, dx⟩ ⟨y, dy⟩ = lessR e k f j := by
  obtain ⟨a, b⟩ := (liveOf (C := C) ⟨x, dx⟩).uniq h hx
  obtain ⟨c, d⟩ := (liveOf (C := C) ⟨y, dy⟩).uniq h hy
  unfold ltC
  rw [a, b, c, d]
theorem weakC (C : List CS) : Weak (ltC C) := ⟨fun x y h => lessR_asymm h, fun x y z h k => lessR_trans' h k⟩
theorem lessC (C : List CS) : LessI 61 #[] (fun w => CursAt w C) (ltC C) := ⟨enters_mAhead, fun w x y h => by
  obtain ⟨s, h1, h2, h3⟩ := liveOf x
  obtain ⟨s', h1', h2', h3'⟩ := liveOf y
  have := mAhead_c s.b s.A s.c s.L s.i (kOf x) (eOf x) h3 s'.b s'.A s'.c s'.L s'.i (kOf y) (eOf y) h3' w (h _ _ h1) (h _ _ h1')
  rw [h2, h2'] at this
  exact this⟩
/-- The same heap, of other cursors. -/
theorem recast {D D' : Nat → Prop} (H : List (Cu D)) (hD : ∀ x ∈ H, D' x.1) : ∃ H' : List (Cu D'), H'.map (·.1) = H.map (·.1) := by
  induction H with
  | nil => exact ⟨[], rfl⟩
  | cons x H ih =>
    obtain ⟨H', h⟩ := ih (fun y hy => hD y (by simp [hy]))
    exact ⟨⟨x.1, hD x (by simp)⟩ :: H', by simp [h]⟩
theorem flat_val {D : Nat → Prop} (H : List (Cu D)) : H.flatMap encU = (H.map (·.1)).map fun b => Value.iface 91 (.pointer (some ⟨b, 0, none⟩)) := by
  induction H with
  | nil => rfl
  | cons x H ih => rw [List.flatMap_cons, ih]; rfl
theorem len_val {D D' : Nat → Prop} {H : List (Cu D)} {H' : List (Cu D')} (e : H'.map (·.1) = H.map (·.1)) : H'.length = H.length := by
  have := congrArg List.length e
  simpa using this
theorem get_val {D D' : Nat → Prop} {H : List (Cu D)} {H' : List (Cu D')} (e : H'.map (·.1) = H.map (·.1)) (i : Nat) (h : i < H'.length) (h' : i < H.length) : H'[i].1 = H[i].1 := by
  have : (H'.map (·.1))[i]? = (H.map (·.1))[i]? := by rw [e]
  rw [List.getElem?_map, List.getElem?_map, List.getElem?_eq_getElem h, List.getElem?_eq_getElem h'] at this
  simpa using this
theorem HeapIs.recast {D D' : Nat → Prop} {w : World} {g : Nat} {S : Nat → Prop} {f : Value} {H : List (Cu D)} {H' : List (Cu D')} (e : H'.map (·.1) = H.map (·.1)) (h : HeapIs w g S f H) : HeapIs w g S f H' := by
  obtain ⟨v, hb, ho, hg, hk⟩ := h
  refine ⟨v, hb, ?_, hg, hk⟩
  unfold Own at *
  rw [len_val e, flat_val, e, ← flat_val]
  exact ho
theorem isHeap_recast {D D' : Nat → Prop} {H : List (Cu D)} {H' : List (Cu D')} {lt : Cu D → Cu D → Bool} {lt' : Cu D' → Cu D' → Bool} (e : H'.map (·.1) = H.map (·.1)) (hl : ∀ x ∈ H, ∀ y ∈ H, ∀ dx dy, lt' ⟨x.1, dx⟩ ⟨y.1, dy⟩ = lt x y) (h : IsHeap lt H) : IsHeap lt' H' := by
  intro i hi hp
  have hln := len_val e
  have hi' : i < H.length := by omega
  have hj' : (i - 1) / 2 < H.length := by omega
  have := h i hi' hp
  have e1 := get_val e i hi hi'
  have e2 := get_val e ((i - 1) / 2) (by omega) hj'
  rw [← this, ← hl _ (List.getElem_mem hi') _ (List.getElem_mem hj') (by rw [← e1]; exact (H'[i]).2) (by rw [← e2]; exact (H'[(i - 1) / 2]'(by omega)).2)]
  congr 1
  · exact Subtype.ext e1
  · exact Subtype.ext e2
/-- What stands in the heap, by blocks: of the cursors of C those of which something is left, but for 'out'. -/
structure HeapC (C : List CS) (out : Nat → Prop) (H : List (Cu (DC C))) : Prop where
  nod : NoD C
  ord : IsHeap (ltC C) H
  nd : (H.map (·.1)).Nodup
  all : ∀ x, x ∈ H.map (·.1) ↔ DC C x ∧ ¬ out x
theorem heapC_nil : HeapC [] (fun _ => False) [] := ⟨fun k k' s s' h => by simp at h, IsHeap.nil, by simp, fun x => by simp [DC, Live]⟩
theorem live_app {C : List CS} {s : CS} (hs : ∀ (k : Nat) (s' : CS), C[k]? = some s' → s'.b ≠ s.b) {x k : Nat} {e : Ent} : Live (C ++ [s]) x k e ↔ Live C x k e ∨ (x = s.b ∧ k = C.length ∧ s.L[s.i]? = some e) := by
  unfold Live
  constructor
  · rintro ⟨s', h1, h2, h3⟩
    by_cases hk : k < C.length
    · rw [List.getElem?_append_left hk] at h1
      exact .inl ⟨s', h1, h2, h3⟩
    · rw [List.getElem?_append_right (by omega)] at h1
      have hk2 : k - C.length = 0 := by
        cases hd : k - C.length with
        | zero => rfl
        | succ n => rw [hd] at h1; simp at h1
      rw [hk2] at h1
      simp at h1
      subst h1
      exact .inr ⟨h2.symm, by omega, h3⟩
  · rintro (⟨s', h1, h2, h3⟩ | ⟨rfl, rfl, h3⟩)
    · exact ⟨s', by rw [List.getElem?_append_left (List.getElem?_eq_some_iff.1 h1).1]; exact h1, h2, h3⟩
    · exact ⟨s, by simp, rfl, h3⟩
theorem noD_app {C : List CS} {s : CS} (h : NoD C) (hs : ∀ (k : Nat) (s' : CS), C[k]? = some s' → s'.b ≠ s.b) : NoD (C ++ [s]) := by
  have key : ∀ k s', (C ++ [s])[k]? = some s' → (C[k]? = some s' ∧ s'.b ≠ s.b) ∨ (k = C.length ∧ s' = s) := fun k s' h1 => by
    by_cases hk : k < C.length
    · rw [List.getElem?_append_left hk] at h1
      exact .inl ⟨h1, hs _ _ h1⟩
    · rw [List.getElem?_append_right (by omega)] at h1
      have hk2 : k - C.length = 0 := by
        cases hd : k - C.length with
        | zero => rfl
        | succ n => rw [hd] at h1; simp at h1
      rw [hk2] at h1
      simp at h1
      exact .inr ⟨by omega, h1.symm⟩
  intro k k' a b ha hb he
  rcases key _ _ ha with ⟨ha, na⟩ | ⟨rfl, rfl⟩
  · rcases key _ _ hb with ⟨hb, nb⟩ | ⟨rfl, rfl⟩
    · exact h _ _ _ _ ha hb he
    · exact absurd he na
  · rcases key _ _ hb with ⟨hb, nb⟩ | ⟨rfl, rfl⟩
    · exact absurd he.symm nb
    · rfl
/-- A source more, of which nothing is left. -/
theorem HeapC.more0 {C : List CS} {H : List (Cu (DC C))} (h : HeapC C (fun _ => False) H) (s : CS) (hs : ∀ (k : Nat) (s' : CS), C[k]? = some s' → s'.b ≠ s.b) (h0 : s.L[s.i]? = none) :
    ∃ H' : List (Cu (DC (C ++ [s]))), H'.map (·.1) = H.map (·.1) ∧ HeapC (C ++ [s]) (fun _ => False) H' := by
  have hd : ∀ x, DC (C ++ [s]) x ↔ DC C x := fun x => by
    constructor
    · rintro ⟨k, e, hl⟩
      rcases (live_app hs).1 hl with hl | ⟨_, _, h1⟩
      · exact ⟨k, e, hl⟩
      · rw [h0] at h1; cases h1
    · rintro ⟨k, e, hl⟩
      exact ⟨k, e, (live_app hs).2 (.inl hl)⟩
  obtain ⟨H', e⟩ := recast (D' := DC (C ++ [s])) H (fun x _ => (hd _).2 x.2)
  have hn := noD_app h.nod hs
  refine ⟨H', e, hn, isHeap_recast e (fun x _ y _ dx dy => ?_) h.ord, by rw [e]; exact h.nd, fun x => by rw [e, hd]; exact h.all x⟩
  exact ltC_eq hn ((live_app hs).2 (.inl (liveOf x))) ((live_app hs).2 (.inl (liveOf y))) dx dy
/-- A source more, of which something is left: it comes in. -/
theorem HeapC.more1 {C : List CS} {H : List (Cu (DC C))} (h : HeapC C (fun _ => False) H) (s : CS) (hs : ∀ (k : Nat) (s' : CS), C[k]? = some s' → s'.b ≠ s.b) {e0 : Ent} (h0 : s.L[s.i]? = some e0) :
    ∃ (H' : List (Cu (DC (C ++ [s])))) (d : DC (C ++ [s]) s.b), H'.map (·.1) = H.map (·.1) ∧ HeapC (C ++ [s]) (fun x => x = s.b) H' ∧ HeapC (C ++ [s]) (fun _ => False) (pushL (ltC (C ++ [s])) H' ⟨s.b, d⟩) := by
  have hl0 : Live (C ++ [s]) s.b C.length e0 := (live_app hs).2 (.inr ⟨rfl, rfl, h0⟩)
  have hd : ∀ x, DC (C ++ [s]) x ↔ DC C x ∨ x = s.b := fun x => by
    constructor
    · rintro ⟨k, e, hl⟩
      rcases (live_app hs).1 hl with hl | ⟨h1, _, _⟩
      · exact .inl ⟨k, e, hl⟩
      · exact .inr h1
    · rintro (⟨k, e, hl⟩ | rfl)
      · exact ⟨k, e, (live_app hs).2 (.inl hl)⟩
      · exact ⟨_, _, hl0⟩
  have hnew : ∀ x, DC C x → x ≠ s.b := by
    rintro x ⟨k, e, s', h1, h2, _⟩ rfl
    exact hs _ _ h1 h2
  obtain ⟨H', e⟩ := recast (D' := DC (C ++ [s])) H (fun x _ => (hd _).2 (.inl x.2))
  have hn := noD_app h.nod hs
  have hord : IsHeap (ltC (C ++ [s])) H' := isHeap_recast e (fun x _ y _ dx dy => ltC_eq hn ((live_app hs).2 (.inl (liveOf x))) ((live_app hs).2 (.inl (liveOf y))) dx dy) h.ord
  have hm : ∀ x, x ∈ H'.map (·.1) ↔ DC C x := fun x => by rw [e, h.all]; simp
  have hp := (pushL_perm (ltC (C ++ [s])) H' ⟨s.b, (hd _).2 (.inr rfl)⟩).map (·.1)
  refine ⟨H', (hd _).2 (.inr rfl), e, ⟨hn, hord, by rw [e]; exact h.nd, fun x => ?_⟩, ⟨hn, pushL_heap (weakC _) _ _ hord, ?_, fun x => ?_⟩⟩
  · rw [hm, hd]
    constructor
    · intro h; exact ⟨.inl h, hnew x h⟩
    · rintro ⟨h | h, k⟩
      · exact h
      · exact absurd h k
  · rw [hp.nodup_iff, List.map_cons, List.nodup_cons, e]
    exact ⟨fun hx => by rw [← e, hm] at hx; exact hnew _ hx rfl, h.nd⟩
  · rw [hp.mem_iff, List.map_cons, List.mem_cons, hm]
    show (x = s.b ∨ DC C x) ↔ (DC (C ++ [s]) x ∧ ¬False)
    have := hd x
    constructor
    · intro h; exact ⟨this.2 h.symm, fun h => h⟩
    · intro h; exact (this.1 h.1).symm
/-- The first is taken out: it is what is taken next. -/
theorem HeapC.pop {C : List CS} {x : Cu (DC C)} {r : List (Cu (DC C))} (h : HeapC C (fun _ => False) (x :: r)) :
    ∃ k s e, C[k]? = some s ∧ s.b = x.1 ∧ s.L[s.i]? = some e ∧ bestO 0 (rests C) = some (k, e, s.L.drop (s.i + 1)) ∧ HeapC C (fun y => y = x.1) (popL (ltC C) (x :: r)) := by
  obtain ⟨s, h1, h2, h3⟩ := liveOf x
  have hp := (popL_perm (ltC C) x r).map (·.1)
  refine ⟨kOf x, s, eOf x, h1, h2, h3, ?_, h.nod, popL_heap (weakC _) _ _ h.ord, ?_, fun y => ?_⟩
  · refine bestO_some.2 ⟨kOf x, by omega, live_rest.2 ⟨s, h1, h3, rfl⟩, fun j f u hj => ?_⟩
    obtain ⟨s', q1, q2, _⟩ := live_rest.1 hj
    have hl : Live C s'.b j f := ⟨s', q1, rfl, q2⟩
    have hin := (h.all s'.b).2 ⟨⟨_, _, hl⟩, fun h => h⟩
    obtain ⟨y, hy, hy2⟩ := List.mem_map.1 hin
    have := h.ord.head (weakC C) y hy
    have e1 := ltC_eq h.nod (x := y.1) (y := x.1) (by rw [hy2]; exact hl) (liveOf x) y.2 x.2
    rw [show (0 : Nat) + j = j by omega, ← e1]
    exact this
  · rw [hp.nodup_iff]
    have := h.nd
    rw [List.map_cons, List.nodup_cons] at this
    exact this.2
  · rw [hp.mem_iff]
    have hnd := h.nd
    rw [List.map_cons, List.nodup_cons] at hnd
    have := h.all y
    rw [List.map_cons, List.mem_cons] at this
    constructor
    · intro hy
      refine ⟨(this.1 (.inr hy)).1, fun e => hnd.1 (by rw [← e]; exact hy)⟩
    · rintro ⟨hd, hn⟩
      rcases this.2 ⟨hd, fun h => h⟩ with h | h
      · exact absurd h hn
      · exact h
theorem noD_set {C : List CS} (h : NoD C) {k : Nat} {s : CS} (hk : C[k]? = some s) (i : Nat) : NoD (C.set k { s with i := i }) := by
  have key : ∀ (j : Nat) (a : CS), (C.set k { s with i := i })[j]? = some a → ∃ a', C[j]? = some a' ∧ a'.b = a.b := fun j a ha => by
    by_cases e : k = j
    · subst e
      rw [List.getElem?_set_self (List.getElem?_eq_some_iff.1 hk).1] at ha
      injection ha with ha
      subst ha
      exact ⟨s, hk, rfl⟩
    · rw [List.getElem?_set_ne e] at ha
      exact ⟨a, ha, rfl⟩
  intro k1 k2 a b ha hb he
  obtain ⟨a', ha', ea⟩ := key _ _ ha
  obtain ⟨b', hb', eb⟩ := key _ _ hb
  exact h _ _ _ _ ha' hb' (by rw [ea, eb, he])
theorem live_set {C : List CS} (h : NoD C) {k : Nat} {s : CS} (hk : C[k]? = some s) (i : Nat) {x j : Nat} {e : Ent} (hx : x ≠ s.b) : Live (C.set k { s with i := i }) x j e ↔ Live C x j e := by
  unfold Live
  by_cases e1 : k = j
  · subst e1
    rw [List.getElem?_set_self (List.getElem?_eq_some_iff.1 hk).1, hk]
    constructor
    · rintro ⟨s', h1, h2, _⟩; injection h1 with h1; subst h1; exact absurd h2.symm hx
    · rintro ⟨s', h1, h2, _⟩; injection h1 with h1; subst h1; exact absurd h2.symm hx
  · rw [List.getElem?_set_ne e1]
theorem live_set_self {C : List CS} (h : NoD C) {k : Nat} {s : CS} (hk : C[k]? = some s) (i : Nat) {j : Nat} {e : Ent} : Live (C.set k { s with i := i }) s.b j e ↔ j = k ∧ s.L[i]? = some e := by
  unfold Live
  by_cases e1 : k = j
  · subst e1
    rw [List.getElem?_set_self (List.getElem?_eq_some_iff.1 hk).1]
    constructor
    · rintro ⟨s', h1, h2, h3⟩; injection h1 with h1; subst h1; exact ⟨rfl, h3⟩
    · rintro ⟨_, h3⟩; exact ⟨_, rfl, rfl, h3⟩
  · rw [List.getElem?_set_ne e1]
    constructor
    · rintro ⟨s', h1, h2, h3⟩; exact absurd (h _ _ _ _ hk h1 h2.symm) e1
    · rintro ⟨rfl, _⟩; exact absurd rfl e1
theorem rests_set {C : List CS} {k : Nat} {s : CS} (hk : C[k]? = some s) (i : Nat) : rests (C.set k { s with i := i }) = (rests C).set k (s.L.drop i) := by
  unfold rests
  rw [List.map_set]
/-- It is taken, and something is left: it comes in again. -/
theorem HeapC.again {C : List CS} {k : Nat} {s : CS} (hk : C[k]? = some s) {r : List (Cu (DC C))} (h : HeapC C (fun y => y = s.b) r) :
    ∃ r' : List (Cu (DC (C.set k { s with i := s.i + 1 }))), r'.map (·.1) = r.map (·.1) ∧ HeapC (C.set k { s with i := s.i + 1 }) (fun y => y = s.b) r' ∧
      (s.L[s.i + 1]? = none → HeapC (C.set k { s with i := s.i + 1 }) (fun _ => False) r') ∧
      (∀ e, s.L[s.i + 1]? = some e → ∃ d : DC (C.set k { s with i := s.i + 1 }) s.b, HeapC (C.set k { s with i := s.i + 1 }) (fun _ => False) (pushL (ltC (C.set k { s with i := s.i + 1 })) r' ⟨s.b, d⟩)) := by
  have hn := noD_set h.nod hk (s.i + 1)
  have hne : ∀ x ∈ r, x.1 ≠ s.b := fun x hx => ((h.all x.1).1 (List.mem_map.2 ⟨x, hx, rfl⟩)).2
  have hd : ∀ x, x ≠ s.b → (DC (C.set k { s with i := s.i + 1 }) x ↔ DC C x) := fun x hx => by
    unfold DC
    simp only [live_set h.nod hk (s.i + 1) hx]
  obtain ⟨r', e⟩ := recast (D' := DC (C.set k { s with i := s.i + 1 })) r (fun x hx => (hd _ (hne x hx)).2 x.2)
  have hord : IsHeap (ltC (C.set k { s with i := s.i + 1 })) r' := isHeap_recast e (fun x hx y hy dx dy => ltC_eq hn ((live_set h.nod hk _ (hne x hx)).2 (liveOf x)) ((live_set h.nod hk _ (hne y hy)).2 (liveOf y)) dx dy) h.ord
  have hm : ∀ x, x ∈ r'.map (·.1) ↔ DC C x ∧ x ≠ s.b := fun x => by rw [e]; exact h.all x
  have hnd : (r'.map (·.1)).Nodup := by rw [e]; exact h.nd
  refine ⟨r', e, ⟨hn, hord, hnd, fun x => ?_⟩, fun h0 => ⟨hn, hord, hnd, fun x => ?_⟩, fun e0 h0 => ?_⟩
  · rw [hm]
    constructor
    · rintro ⟨a, b⟩; exact ⟨(hd x b).2 a, b⟩
    · rintro ⟨a, b⟩; exact ⟨(hd x b).1 a, b⟩
  · rw [hm]
    constructor
    · rintro ⟨a, b⟩; exact ⟨(hd x b).2 a, fun h => h⟩
    · rintro ⟨a, _⟩
      by_cases hx : x = s.b
      · subst hx
        obtain ⟨j, f, hl⟩ := a
        have := ((live_set_self h.nod hk _).1 hl).2
        rw [h0] at this; cases this
      · exact ⟨(hd x hx).1 a, hx⟩
  · have hl0 : Live (C.set k { s with i := s.i + 1 }) s.b k e0 := (live_set_self h.nod hk _).2 ⟨rfl, h0⟩
    have hp := (pushL_perm (ltC (C.set k { s with i := s.i + 1 })) r' ⟨s.b, _, _, hl0⟩).map (·.1)
    refine ⟨⟨_, _, hl0⟩, hn, pushL_heap (weakC _) _ _ hord, ?_, fun x => ?_⟩
    · rw [hp.nodup_iff, List.map_cons, List.nodup_cons]
      exact ⟨fun hx => ((hm _).1 hx).2 rfl, hnd⟩
    · rw [hp.mem_iff, List.map_cons, List.mem_cons, hm]
      show (x = s.b ∨ _) ↔ (_ ∧ ¬False)
      constructor
      · rintro (rfl | ⟨a, b⟩)
        · exact ⟨⟨_, _, hl0⟩, fun h => h⟩
        · exact ⟨(hd x b).2 a, fun h => h⟩
      · rintro ⟨a, _⟩
        by_cases hx : x = s.b
        · exact .inl hx
        · exact .inr ⟨(hd x hx).1 a, hx⟩
theorem HeapC.empty {C : List CS} (h : HeapC C (fun _ => False) ([] : List (Cu (DC C)))) : ∀ x ∈ rests C, x = [] := by
  intro x hx
  obtain ⟨k, hk⟩ := List.mem_iff_getElem?.1 hx
  cases x with
  | nil => rfl
  | cons e t =>
    obtain ⟨s, h1, h2, _⟩ := live_rest.1 hk
    have := (h.all s.b).2 ⟨⟨k, e, s, h1, rfl, h2⟩, fun h => h⟩
    simp at this
end Go.Proofs.Ytdpijhpjicbecaa.H
