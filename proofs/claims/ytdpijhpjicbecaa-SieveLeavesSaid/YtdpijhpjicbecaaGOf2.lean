/- merge.Of's iterator, its second loop: what holds on the way, and what each call does to it. Conditions: sizes. -/
import Derived.Test.YtdpijhpjicbecaaGOf
namespace Go.Proofs.Ytdpijhpjicbecaa.H
open Go Go.RowKit Go.Deep Go.Shelf Go.Proofs Go.Proofs.YtdpijhpjicbecaaW.PrintWords
set_option linter.unusedVariables false
set_option linter.unusedSimpArgs false
abbrev ahF : Value := .func (.func 61) #[] #[]
abbrev cuV (b : Nat) : Value := .iface 91 (.pointer (some ⟨b, 0, none⟩))
/-- What the caller has so far, and that none of it is the iterator's. -/
def OfCom (U : Nat → Prop) (ls : List (List Ent)) (StN : World → Prop) (J : List Ent → (Nat → Prop) → World → Prop) (T : Nat → Prop) (W : World) (C : List CS) (S : Nat → Prop) (w : World) : Prop :=
  ∃ (pre : List Ent) (T1 : Nat → Prop), J pre T1 w ∧ Grow T T1 W ∧ Upd (fun k => T k ∨ U k) W w ∧ StN w ∧ (∀ k, S k → ¬ T1 k) ∧
    (∀ (k : Nat) (s : CS), C[k]? = some s → ¬ T1 s.b ∧ ∀ b o, s.A = some ⟨b, o, none⟩ → ¬ T1 b) ∧ pre ++ mergeL (rests C) = mergeL ls
theorem OfCom.step {n₀ : Nat} {U : Nat → Prop} {ls : List (List Ent)} {StN : World → Prop} {J : List Ent → (Nat → Prop) → World → Prop} {T : Nat → Prop} {W : World} {C : List CS} {S S' X : Nat → Prop} {w w' : World} (h : OfCom U ls StN J T W C S w) (hJ : Foot J) (hF : Firm n₀ StN) (hn : n₀ ≤ W.heap.size) (u : Upd X w w')
    (hX : ∀ k, X k → W.heap.size ≤ k ∧ (S k ∨ ∃ (j : Nat) (s : CS), C[j]? = some s ∧ s.b = k)) (hS : ∀ k, S' k → S k ∨ w.heap.size ≤ k) : OfCom U ls StN J T W C S' w' := by
  obtain ⟨pre, T1, hj, hg, hu, hs, h1, h2, h3⟩ := h
  refine ⟨pre, T1, hJ.move hj (u.same fun k hk => ⟨hJ.lt hj hk, fun hx => ?_⟩), hg, hu.step u (fun k hk => .inr (hX k hk).1), hF _ _ hs (u.mono fun k hk => Nat.le_trans hn (hX k hk).1), fun k hk ht => ?_, h2, h3⟩
  · rcases (hX k hx).2 with h | ⟨j, s, hc, rfl⟩
    · exact h1 k h hk
    · exact (h2 j s hc).1 hk
  · rcases hS k hk with h | h
    · exact h1 k h ht
    · have := hJ.lt hj ht; omega
theorem OfCom.later {n₀ : Nat} {U : Nat → Prop} {ls : List (List Ent)} {StN : World → Prop} {J : List Ent → (Nat → Prop) → World → Prop} {T : Nat → Prop} {W : World} {C : List CS} {S : Nat → Prop} {w w' : World} (h : OfCom U ls StN J T W C S w) (hJ : Foot J) (hF : Firm n₀ StN) (hn : n₀ ≤ W.heap.size) (hb : Below w.heap.size w w') : OfCom U ls StN J T W C S w' :=
  h.step hJ hF hn (Upd.of_below (S := fun _ => False) hb) (fun k h => h.elim) (fun k h => .inl h)
/-- Ahead of Pop. -/
def OfPre (U : Nat → Prop) (ls : List (List Ent)) (StN : World → Prop) (J : List Ent → (Nat → Prop) → World → Prop) (T : Nat → Prop) (W : World) (N m : Nat) (w : World) : Prop :=
  ∃ (C : List CS) (H : List (Cu (DC C))) (S : Nat → Prop), totL (rests C) = m ∧ H.length ≤ N ∧ HeapC C (fun _ => False) H ∧ HeapIs w W.heap.size S ahF H ∧ OfSt W.heap.size w C S ∧ OfCom U ls StN J T W C S w
/-- Behind Pop: the loop's head. -/
def OfLoop (U : Nat → Prop) (ls : List (List Ent)) (StN : World → Prop) (J : List Ent → (Nat → Prop) → World → Prop) (T : Nat → Prop) (W : World) (N m : Nat) (s7 s8 : Value) (w : World) : Prop :=
  ∃ (C : List CS) (S : Nat → Prop), totL (rests C) = m ∧ OfSt W.heap.size w C S ∧ OfCom U ls StN J T W C S w ∧
    ((s8 = .bool true ∧ ∃ (j : Nat) (s : CS) (e : Ent) (r : List (Cu (DC C))), C[j]? = some s ∧ s7 = cuV s.b ∧ s.L[s.i]? = some e ∧ bestO 0 (rests C) = some (j, e, s.L.drop (s.i + 1)) ∧ r.length + 1 ≤ N ∧ HeapC C (fun y => y = s.b) r ∧ HeapIs w W.heap.size S ahF r) ∨
     (s8 = .bool false ∧ mergeL (rests C) = []))
theorem OfPre.later {n₀ : Nat} {U : Nat → Prop} {ls : List (List Ent)} {StN : World → Prop} {J : List Ent → (Nat → Prop) → World → Prop} {T : Nat → Prop} {W : World} {N m : Nat} {w w' : World} (h : OfPre U ls StN J T W N m w) (hJ : Foot J) (hF : Firm n₀ StN) (hn : n₀ ≤ W.heap.size) (hb : Below w.heap.size w w') : OfPre U ls StN J T W N m w' := by
  obtain ⟨C, H, S, h1, h2, h3, h4, h5, h6⟩ := h
  exact ⟨C, H, S, h1, h2, h3, h4.later hb, h5.later hb, h6.later hJ hF hn hb⟩
theorem ofPop {n₀ : Nat} {U : Nat → Prop} {ls : List (List Ent)} {StN : World → Prop} {J : List Ent → (Nat → Prop) → World → Prop} {T : Nat → Prop} {W : World} {N m : Nat} {w : World} (h : OfPre U ls StN J T W N m w) (hJ : Foot J) (hF : Firm n₀ StN) (hn : n₀ ≤ W.heap.size) (hN : N < 1000000000000) :
    Calls Try.prog 64 #[.pointer (some ⟨W.heap.size, 0, none⟩)] w fun e w' => ∃ s7 s8, e = .returned (.tuple #[s7, s8]) ∧ OfLoop U ls StN J T W N m s7 s8 w' := by
  obtain ⟨C, H, S, h1, h2, h3, h4, h5, h6⟩ := h
  cases H with
  | nil =>
    refine (pop_none (D := DC C) W.heap.size S ahF w h4).mono ?_
    rintro e w' ⟨rfl, rfl⟩
    exact ⟨_, _, rfl, C, S, h1, h5, h6, .inr ⟨rfl, mergeL_end h3.empty⟩⟩
  | cons x r =>
    obtain ⟨k, s, e, q1, q2, q3, q4, q5⟩ := h3.pop
    have h2' : r.length + 1 ≤ N := by simpa using h2
    refine (pop_some W.heap.size S 61 #[] _ _ (lessC C) x r (by omega) w h4 h5.cur h5.stays).mono ?_
    rintro e2 w' ⟨rfl, hh, hu⟩
    refine ⟨_, _, rfl, C, S, h1, h5.updS hu, h6.step hJ hF hn hu (fun k hk => ⟨(h5.lowS k hk).1, .inl hk⟩) (fun k hk => .inl hk), .inl ⟨rfl, k, s, e, _, q1, by rw [q2], q3, q4, ?_, by rw [q2]; exact q5, hh⟩⟩
    rw [popL_length]
    exact h2'
/-- One is taken: its cursor (block b, list L, i taken) is out of the heap. -/
def OfMid (U : Nat → Prop) (ls : List (List Ent)) (StN : World → Prop) (J : List Ent → (Nat → Prop) → World → Prop) (T : Nat → Prop) (W : World) (N m b : Nat) (A : Option Addr) (c : Nat) (L : List Ent) (i k : Nat) (w : World) : Prop :=
  ∃ (C : List CS) (r : List (Cu (DC C))) (S : Nat → Prop), CurAt w b A c L i k ∧ totL (rests C) = m ∧ r.length + 1 ≤ N ∧ (L[i]? = none → HeapC C (fun _ => False) r) ∧ (∀ e, L[i]? = some e → ∃ d : DC C b, HeapC C (fun _ => False) (pushL (ltC C) r ⟨b, d⟩)) ∧
    HeapIs w W.heap.size S ahF r ∧ OfSt W.heap.size w C S ∧ OfCom U ls StN J T W C S w
theorem OfMid.later {n₀ : Nat} {U : Nat → Prop} {ls : List (List Ent)} {StN : World → Prop} {J : List Ent → (Nat → Prop) → World → Prop} {T : Nat → Prop} {W : World} {N m b c i k : Nat} {A : Option Addr} {L : List Ent} {w w' : World} (h : OfMid U ls StN J T W N m b A c L i k w) (hJ : Foot J) (hF : Firm n₀ StN) (hn : n₀ ≤ W.heap.size) (hb : Below w.heap.size w w') : OfMid U ls StN J T W N m b A c L i k w' := by
  obtain ⟨C, r, S, h0, h1, h2, h3, h4, h5, h6, h7⟩ := h
  exact ⟨C, r, S, h0.later hb, h1, h2, h3, h4, h5.later hb, h6.later hb, h7.later hJ hF hn hb⟩
theorem ofNone {U : Nat → Prop} {ls : List (List Ent)} {StN : World → Prop} {J : List Ent → (Nat → Prop) → World → Prop} {T : Nat → Prop} {W : World} {N m b c i k : Nat} {A : Option Addr} {L : List Ent} {w : World} (h : OfMid U ls StN J T W N m b A c L i k w) (hi : L[i]? = none) : OfPre U ls StN J T W N m w := by
  obtain ⟨C, r, S, h0, h1, h2, h3, h4, h5, h6, h7⟩ := h
  exact ⟨C, r, S, h1, by omega, h3 hi, h5, h6, h7⟩
theorem ofPush {n₀ : Nat} {U : Nat → Prop} {ls : List (List Ent)} {StN : World → Prop} {J : List Ent → (Nat → Prop) → World → Prop} {T : Nat → Prop} {W : World} {N m b c i k : Nat} {A : Option Addr} {L : List Ent} {w : World} (h : OfMid U ls StN J T W N m b A c L i k w) {e : Ent} (hi : L[i]? = some e) (hJ : Foot J) (hF : Firm n₀ StN) (hn : n₀ ≤ W.heap.size) (hN : N < 1000000000000) :
    Calls Try.prog 63 #[.pointer (some ⟨W.heap.size, 0, none⟩), cuV b] w fun e w' => e = .returned (.tuple #[]) ∧ OfPre U ls StN J T W N m w' := by
  obtain ⟨C, r, S, h0, h1, h2, h3, h4, h5, h6, h7⟩ := h
  obtain ⟨d, hh⟩ := h4 e hi
  have hlow : W.heap.size ≤ w.heap.size := by
    obtain ⟨pre, T1, hj, hg, hu, _⟩ := h7
    exact hu.size
  refine (push_c W.heap.size S 61 #[] _ _ (lessC C) r ⟨b, d⟩ (by omega) w h5 h6.cur h6.stays).mono ?_
  rintro e2 w' ⟨rfl, hp, hu⟩
  refine ⟨rfl, C, _, _, h1, ?_, hh, hp.tight, h6.grow hu hlow (fun k hk => hk), h7.step hJ hF hn hu (fun k hk => ⟨(h6.lowS k hk).1, .inl hk⟩) (fun k hk => hk.1)⟩
  rw [pushL_length]
  exact h2
theorem ofNext {b c i k : Nat} {A : Option Addr} {L : List Ent} {w : World} (h : CurAt w b A c L i k) :
    Calls Try.prog 104 #[.pointer (some ⟨b, 0, none⟩)] w fun en w' => ∃ (x : Ent) (more : Bool), en = .returned (.tuple #[.agg #[.string x.1, .int .u64 x.2.1, .bool x.2.2.1, .string x.2.2.2], .bool more]) ∧ Below w.heap.size w w' ∧ (more = true → ∃ e, L[i]? = some e) ∧ (more = false → L[i]? = none) := by
  cases hx : L[i]? with
  | some x => exact (next_some b A c L i k x hx w h).mono fun e w' ⟨h1, h2⟩ => ⟨x, true, h1, h2, (fun _ => ⟨x, rfl⟩), (fun h => by cases h)⟩
  | none =>
    have hi : i = L.length := by
      have := h.2.2
      have := List.getElem?_eq_none_iff.1 hx
      omega
    subst hi
    exact (next_none b A c L k w h).mono fun e w' ⟨h1, h2⟩ => ⟨zeroE, false, h1, h2, (fun h => by cases h), fun _ => rfl⟩
/-- The round has answered that it goes on: the cursor goes on. -/
theorem ofGoOn {n₀ : Nat} {U : Nat → Prop} {ls : List (List Ent)} {StN : World → Prop} {J : List Ent → (Nat → Prop) → World → Prop} {T T1 T2 : Nat → Prop} {W : World} {N : Nat} {w1 w : World} {C : List CS} {S : Nat → Prop} {pre : List Ent} {j : Nat} {s : CS} {e : Ent} {r : List (Cu (DC C))}
    (hJ : Foot J) (hF : Firm n₀ StN) (hn : n₀ ≤ W.heap.size) (hT : ∀ k, T k → n₀ ≤ k) (hj : C[j]? = some s) (he : s.L[s.i]? = some e) (hbest : bestO 0 (rests C) = some (j, e, s.L.drop (s.i + 1))) (hN : r.length + 1 ≤ N) (hC : HeapC C (fun y => y = s.b) r)
    (hH : HeapIs w1 W.heap.size S ahF r) (hO : OfSt W.heap.size w1 C S) (hlt : ∀ k, T1 k → k < w1.heap.size) (hg : Grow T T1 W) (hu : Upd (fun k => T k ∨ U k) W w1) (hs : StN w1) (h1 : ∀ k, S k → ¬ T1 k) (h2 : ∀ (k : Nat) (s : CS), C[k]? = some s → ¬ T1 s.b ∧ ∀ b o, s.A = some ⟨b, o, none⟩ → ¬ T1 b) (h3 : pre ++ mergeL (rests C) = mergeL ls)
    (hj2 : J (pre ++ [e]) T2 w) (hg2 : Grow T1 T2 w1) (hu2 : Upd T1 w1 w) :
    Calls Try.prog 103 #[.pointer (some ⟨s.b, 0, none⟩)] w fun en w' => en = .returned (.tuple #[]) ∧ ∃ m, totL (rests C) = m + 1 ∧ OfMid U ls StN J T W N m s.b s.A s.c s.L (s.i + 1) j w' := by
  have hl : s.i < s.L.length := (List.getElem?_eq_some_iff.1 he).1
  have hO2 : OfSt W.heap.size w C S := hO.upd hu2 h2
  have hH2 : HeapIs w W.heap.size S ahF r := hH.upd hu2 h1
  have hrr := live_rest.2 ⟨s, hj, he, rfl⟩
  have hrs := rests_set hj (s.i + 1)
  obtain ⟨r', e', q1, q2, q3⟩ := hC.again hj
  have n2 : ∀ k, k < w1.heap.size → ¬ T1 k → ¬ T2 k := fun k hk hn h => by
    rcases hg2 k h with h | h
    · exact hn h
    · omega
  refine (goOn_c s.b s.A s.c s.L s.i j w (hO2.cur j s hj) hl (fun b o e2 => fun e3 => ((hO2.lowC j s hj).2.2 b o e2).2.2.2 j s hj e3.symm)).mono ?_
  rintro en w' ⟨rfl, hc, hu3⟩
  have hX : ∀ k, k = s.b → W.heap.size ≤ k := fun k hk => by rw [hk]; exact (hO.lowC j s hj).1
  have hgg : Grow T T2 W := hg.trans hg2 hu.size
  refine ⟨rfl, totL (rests (C.set j { s with i := s.i + 1 })), by rw [hrs]; exact totL_set hrr, C.set j { s with i := s.i + 1 }, r', S, hc, rfl, by rw [len_val e']; exact hN, q2, q3, (hH2.recast e').upd hu3 (fun k hk e2 => (hO.lowC j s hj).2.1 (by rw [← e2]; exact hk)), hO2.took hC.nod hj hc hu3, pre ++ [e], T2, hJ.move hj2 (hu3.same fun k hk => ⟨hJ.lt hj2 hk, fun e2 => ?_⟩), hgg, ?_, ?_, ?_, ?_, ?_⟩
  · exact n2 s.b (hO.blt hj) (h2 j s hj).1 (by rw [← e2]; exact hk)
  · exact (hu.step hu2 (fun k hk => (hg k hk).imp .inl id)).step hu3 (fun k hk => .inr (hX k hk))
  · exact hF _ _ (hF _ _ hs (hu2.mono fun k hk => by
      rcases hg k hk with h | h
      · exact hT k h
      · exact Nat.le_trans hn h)) (hu3.mono fun k hk => Nat.le_trans hn (hX k hk))
  · exact fun k hk => n2 k (hO.lowS k hk).2 (h1 k hk)
  · intro k s' hk
    have hlow : ∃ a', C[k]? = some a' ∧ a'.b = s'.b ∧ a'.A = s'.A := by
      by_cases ek : j = k
      · subst ek
        rw [List.getElem?_set_self (List.getElem?_eq_some_iff.1 hj).1] at hk
        injection hk with hk
        subst hk
        exact ⟨s, hj, rfl, rfl⟩
      · rw [List.getElem?_set_ne ek] at hk
        exact ⟨s', hk, rfl, rfl⟩
    obtain ⟨a', ha, e1, e2⟩ := hlow
    rw [← e1, ← e2]
    exact ⟨n2 _ (hO.blt ha) (h2 k a' ha).1, fun b o e3 => n2 b ((hO.lowC k a' ha).2.2 b o e3).2.1 ((h2 k a' ha).2 b o e3)⟩
  · rw [hrs, List.append_assoc]
    show pre ++ (e :: mergeL ((rests C).set j (s.L.drop (s.i + 1)))) = _
    rw [← mergeL_step hbest]
    exact h3
end Go.Proofs.Ytdpijhpjicbecaa.H
