/- Rows of a call's own that are written in place: append where there is room, clear; what stays of other blocks. No conditions. -/
import Derived.Test.YtdpijhpjicbecaaHSl
import Derived.Laws.CopyRow
namespace Go.Proofs.Ytdpijhpjicbecaa.H
open Go.RowKit Go.Deep Go.Proofs.YtdpijhpjicbecaaW.PrintWords
set_option linter.unusedVariables false
/-- w' is w but for the blocks of S and what is new. -/
structure Upd (S : Nat → Prop) (w w' : World) : Prop where
  os : w'.os = w.os
  tape : w'.tape = w.tape
  output : w'.output = w.output
  size : w.heap.size ≤ w'.heap.size
  block : ∀ k, k < w.heap.size → ¬ S k → w'.heap[k]? = w.heap[k]?
theorem Upd.refl (S : Nat → Prop) (w : World) : Upd S w w := ⟨rfl, rfl, rfl, Nat.le_refl _, fun _ _ _ => rfl⟩
theorem Upd.of_below {S : Nat → Prop} {w w' : World} (h : Below w.heap.size w w') : Upd S w w' := ⟨h.os, h.tape, h.output, h.size, fun k hk _ => h.block k hk⟩
theorem Upd.trans {S : Nat → Prop} {a b c : World} (h : Upd S a b) (k : Upd S b c) : Upd S a c :=
  ⟨k.os.trans h.os, k.tape.trans h.tape, k.output.trans h.output, Nat.le_trans h.size k.size, fun i hi hn => (k.block i (Nat.lt_of_lt_of_le hi h.size) hn).trans (h.block i hi hn)⟩
/-- The second may write, beside S, what is new behind the first's begin. -/
theorem Upd.step {S T : Nat → Prop} {a b c : World} (h : Upd S a b) (k : Upd T b c) (hT : ∀ i, T i → S i ∨ a.heap.size ≤ i) : Upd S a c :=
  ⟨k.os.trans h.os, k.tape.trans h.tape, k.output.trans h.output, Nat.le_trans h.size k.size, fun i hi hn => (k.block i (Nat.lt_of_lt_of_le hi h.size) (fun t => by rcases hT i t with h' | h'; exact hn h'; omega)).trans (h.block i hi hn)⟩
theorem Upd.mono {S T : Nat → Prop} {a b : World} (h : Upd S a b) (hT : ∀ i, S i → T i) : Upd T a b := ⟨h.os, h.tape, h.output, h.size, fun i hi hn => h.block i hi (fun s => hn (hT i s))⟩
theorem Upd.setCell {S : Nat → Prop} (w : World) {g : Nat} (j : Nat) (v : Value) (hg : S g) : Upd S w (w.setCell ⟨g, j, none⟩ v) :=
  ⟨rfl, rfl, rfl, by simp [World.setCell], fun k hk hn => Below.heap_setCell _ _ _ _ (by rintro rfl; exact hn hg)⟩
theorem Upd.of_grown {S : Nat → Prop} {w w' : World} {row : Option Nat} (h : w.grownBy w' row) (hr : ∀ k, row = some k → S k) : Upd S w w' :=
  ⟨h.os, h.tape, h.output, h.size, fun k hk hn => h.block k hk (by rintro e; exact hn (hr k e.symm))⟩
theorem Upd.alloc {S : Nat → Prop} (w : World) (o : Obj) : Upd S w (w.alloc o) := Upd.of_below ((Below.refl _ _).alloc (Nat.le_refl _) _)
theorem Upd.drew {S : Nat → Prop} (w : World) : Upd S w w.drew := ⟨rfl, rfl, rfl, Nat.le_refl _, fun _ _ _ => rfl⟩
theorem Upd.drewN {S : Nat → Prop} (w : World) (n : Nat) : Upd S w (w.drewN n) := ⟨rfl, rfl, rfl, Nat.le_refl _, fun _ _ _ => rfl⟩
/-- What is written lies behind W's end. -/
theorem Upd.below {S : Nat → Prop} {W w w' : World} (h : Below W.heap.size W w) (u : Upd S w w') (hS : ∀ k, S k → W.heap.size ≤ k) : Below W.heap.size W w' :=
  ⟨u.os.trans h.os, u.tape.trans h.tape, u.output.trans h.output, Nat.le_trans h.size u.size, fun k hk => (u.block k (Nat.lt_of_lt_of_le hk h.size) (fun s => by have := hS k s; omega)).trans (h.block k hk)⟩
theorem Upd.heap {S : Nat → Prop} {w w' : World} (u : Upd S w w') {k : Nat} {o : Obj} (h : w.heap[k]? = some o) (hn : ¬ S k) : w'.heap[k]? = some o := (u.block k (blk_lt h) hn).trans h
theorem Upd.cell {S : Nat → Prop} {w w' : World} (u : Upd S w w') {p : Addr} {v : Value} (h : w.cell? p = some v) (hn : ¬ S p.block) : w'.cell? p = some v :=
  (World.cell?_of_block (w := w) (u.block p.block (World.block_lt_of_cell? w _ h) hn)).trans h
theorem Sl.upd {α : Type} {enc : α → List Value} {sz : Nat} {w w' : World} {A : Option Addr} {l : List α} {S : Nat → Prop} (h : Sl enc sz w A l) (u : Upd S w w') (hn : ∀ b o, A = some ⟨b, o, none⟩ → ¬ S b) : Sl enc sz w' A l := by
  refine ⟨h.1, ?_⟩
  rcases h.2 with h0 | ⟨b, o, hA, hlt, hc⟩
  · exact .inl h0
  · exact .inr ⟨b, o, hA, Nat.lt_of_lt_of_le hlt u.size, fun i x hx j v hv => u.cell (hc i x hx j v hv) (hn b o hA)⟩
theorem Own.upd {α : Type} {enc : α → List Value} {e : TypeId} {sz : Nat} {w w' : World} {base : Nat} {v : Value} {l : List α} {S : Nat → Prop} (h : Own enc e sz w base v l) (u : Upd S w w') (hn : ∀ k, v.ownBlock = some k → ¬ S k) : Own enc e sz w' base v l :=
  h.move (fun k hk hlt => u.block k hlt (hn k hk))
section
variable {P : Program} {w : World}
/-- append where there is room, into a prefix of an own row. -/
theorem run_app_room {α : Type} {enc : α → List Value} {base : Nat} {t ty e : TypeId} {z : Value} {sz bytes : Nat} (ht : P.underlying t = some (.slice e)) (hinfo : (P.info? e).map (fun i => (i.zero, i.size, i.bytes)) = some (some z, sz, bytes))
    (hsz : 0 < sz) (he : EncOk enc sz) {g cap i : Nat} {l : List α} (hown : Own enc e sz w base (.slice (some ⟨g, 0, none⟩) l.length cap) l) (hi : i ≤ l.length) {X : Option Addr} {c : Nat} {l' : List α} (hs : Sl enc sz w X l') (hroom : i + l'.length ≤ cap) :
    ∃ w', (Builtin.append_ #[t, t] ty #[.slice (some ⟨g, 0, none⟩) i cap, .slice X l'.length c]).run P w = .ok (.slice (some ⟨g, 0, none⟩) (i + l'.length) cap) w' ∧
      Own enc e sz w' base (.slice (some ⟨g, 0, none⟩) (i + l'.length) cap) (l.take i ++ l') ∧ w.grownBy w' (some g) ∧ w'.heap.size = w.heap.size := by
  obtain ⟨i0, hi0, hz0, hz1, hz2⟩ := info_parts hinfo
  obtain ⟨h1, h2⟩ := hown
  rcases h2 with ⟨hv, _⟩ | ⟨g', cap', cur, hv, hb, hh, hn, hm, hcs, htk⟩
  · cases hv
  injection hv with hv1 hv2 hv3
  injection hv1 with hv1
  injection hv1 with hv1
  subst hv1; subst hv3
  have hlen' := flat_len he l'
  have hone : ∀ u ∈ l'.flatMap enc, u.oneCell' = true := by
    intro u hu
    obtain ⟨x, _, hx⟩ := List.mem_flatMap.1 hu
    exact (he x).2 u hx
  have hfit : i * sz + (l'.flatMap enc).length ≤ cur.size := by
    rw [hlen', hcs, ← Nat.add_mul]
    exact Nat.mul_le_mul_right _ hroom
  have hadd : (⟨g, 0, none⟩ : Addr).add (i * sz) = ⟨g, i * sz, none⟩ := by rw [add_at, Nat.zero_add]
  have hst := run_storeCells_at P g (i * sz) e (l'.flatMap enc) 0 cur w hh (by simpa using hfit) hone
  have hfirst : (Builtin.firstCells sz l'.length (.slice X l'.length c)).run P w = .ok (l'.flatMap enc).toArray w := by
    rcases X with _ | ad
    · have hl' : l' = [] := by
        rcases hs.2 with h | ⟨b, o, h, _⟩
        · exact h
        · cases h
      subst hl'
      simp [Builtin.firstCells]
    · have hc : ∀ j u, (l'.flatMap enc)[j]? = some u → w.cell? (ad.add j) = some u := by
        rcases hs.2 with rfl | ⟨b, o, hA, _, _⟩
        · intro j u hu; simp at hu
        · injection hA with hA
          subst hA
          exact hs.flat he hsz
      have := run_loadCells_list (P := P) w ad (l'.flatMap enc) hc
      rw [hlen'] at this
      simpa [Builtin.firstCells] using this
  have hcap : i + l'.length ≤ cap := hroom
  refine ⟨w.setRow g (cur.toList.take (i * sz) ++ l'.flatMap enc ++ cur.toList.drop (i * sz + (l'.flatMap enc).length)).toArray, ?_, ⟨?_, .inr ⟨g, cap, _, ?_, hb, setRow_heap w g cur _ e (0, 0) hh, ?_, hm, ?_, ?_⟩⟩, ⟨rfl, rfl, rfl, by simp, fun k hk hne => setRow_other w g k _ (by rintro rfl; exact hne rfl)⟩, by simp⟩
  · have hst' := hst
    simp only [Nat.add_zero] at hst'
    simp [Builtin.append_, run_underlying ht, sizeOf, typeInfo, hi0, hz1, Builtin.lenOf, hcap, hfirst, hadd, hst']
  · rw [flat_len he, List.length_append, List.length_take, Nat.min_eq_left hi]
  · rw [List.length_append, List.length_take, Nat.min_eq_left hi]
  · rw [List.length_append, List.length_take, Nat.min_eq_left hi]; exact hroom
  · simp only [List.size_toArray, List.length_append, List.length_take, List.length_drop, Array.length_toList]
    omega
  · have hpre : cur.toList.take (i * sz) = (l.take i).flatMap enc := by
      have e1 : (l.take i).flatMap enc = (l.flatMap enc).take (i * sz) := by
        have hsplit : l.flatMap enc = (l.take i).flatMap enc ++ (l.drop i).flatMap enc := by rw [← List.flatMap_append, List.take_append_drop]
        rw [hsplit, List.take_left' (by rw [flat_len he, List.length_take, Nat.min_eq_left hi])]
      rw [e1, ← htk, List.take_take, Nat.min_eq_left (Nat.mul_le_mul_right _ hi)]
    rw [List.flatMap_append, ← hpre]
    have hl1 : (cur.toList.take (i * sz) ++ l'.flatMap enc).length = (l.take i ++ l').length * sz := by
      rw [List.length_append, List.length_take, Array.length_toList, hlen', List.length_append, List.length_take, Nat.min_eq_left hi, Nat.add_mul]
      omega
    show List.take _ ((cur.toList.take (i * sz) ++ l'.flatMap enc ++ cur.toList.drop (i * sz + (l'.flatMap enc).length))) = _
    rw [← hl1, List.take_left]
theorem wp_app_room {α : Type} {enc : α → List Value} {base : Nat} {t e : TypeId} {z : Value} {sz bytes : Nat} {o : Oper} {a : Act} {K : Act → World → Prop} {Q : Exit → Act → World → Prop} (s x : Operand)
    (ho : o.op = .call { callee := .builtin .append, args := #[s, x], argTypes := #[t, t] }) (ht : P.underlying t = some (.slice e)) (hinfo : (P.info? e).map (fun i => (i.zero, i.size, i.bytes)) = some (some z, sz, bytes))
    (hsz : 0 < sz) (he : EncOk enc sz) (g cap i : Nat) (l : List α) (hv : a.eval s = .slice (some ⟨g, 0, none⟩) i cap) (hown : Own enc e sz w base (.slice (some ⟨g, 0, none⟩) l.length cap) l) (hi : i ≤ l.length) (X : Option Addr) (c : Nat) (l' : List α)
    (hx : a.eval x = .slice X l'.length c) (hs : Sl enc sz w X l') (hroom : i + l'.length ≤ cap)
    (h : ∀ w', Own enc e sz w' base (.slice (some ⟨g, 0, none⟩) (i + l'.length) cap) (l.take i ++ l') → w.grownBy w' (some g) → w'.heap.size = w.heap.size → K (a.put o.dst (.slice (some ⟨g, 0, none⟩) (i + l'.length) cap)) w') : o.wp P a w K Q := by
  obtain ⟨w', hrun, h2, h3, h4⟩ := run_app_room (P := P) (ty := o.type) ht hinfo hsz he hown hi (c := c) hs hroom
  unfold Oper.wp execOp
  simp only [ho, resolve, invoke, builtin, Sem.run_bind, Sem.run_pure, Result.andThen_ok, List.map_toArray, List.map_cons, List.map_nil, hv, hx, hrun]
  exact h w' h2 h3 h4
theorem wpList_app_room {α : Type} {enc : α → List Value} {base : Nat} {t e : TypeId} {z : Value} {sz bytes : Nat} {ops : Array Oper} {rest : List Oper} {o : Oper} {a : Act} {Q : Exit → Act → World → Prop} (hgd : o.guard = none) (s x : Operand)
    (ho : o.op = .call { callee := .builtin .append, args := #[s, x], argTypes := #[t, t] }) (ht : P.underlying t = some (.slice e)) (hinfo : (P.info? e).map (fun i => (i.zero, i.size, i.bytes)) = some (some z, sz, bytes))
    (hsz : 0 < sz) (he : EncOk enc sz) (g cap i : Nat) (l : List α) (hv : a.eval s = .slice (some ⟨g, 0, none⟩) i cap) (hown : Own enc e sz w base (.slice (some ⟨g, 0, none⟩) l.length cap) l) (hi : i ≤ l.length) (X : Option Addr) (c : Nat) (l' : List α)
    (hx : a.eval x = .slice X l'.length c) (hs : Sl enc sz w X l') (hroom : i + l'.length ≤ cap)
    (h : ∀ w', Own enc e sz w' base (.slice (some ⟨g, 0, none⟩) (i + l'.length) cap) (l.take i ++ l') → w.grownBy w' (some g) → w'.heap.size = w.heap.size → wpList P ops Q rest (a.put o.dst (.slice (some ⟨g, 0, none⟩) (i + l'.length) cap)) w') : wpList P ops Q (o :: rest) a w :=
  wpList_plain hgd fun _ hK => wp_app_room s x ho ht hinfo hsz he g cap i l hv hown hi X c l' hx hs hroom fun w' h2 h3 h4 => hK _ _ (h w' h2 h3 h4)
theorem step_app_room {α : Type} {enc : α → List Value} {base : Nat} {t e : TypeId} {z : Value} {sz bytes : Nat} {ops : Array Oper} {o : Oper} {a : Act} {K : Act → World → Prop} {Q : Exit → Act → World → Prop} {E : Prop} (hgd : o.guard = none) (s x : Operand)
    (ho : o.op = .call { callee := .builtin .append, args := #[s, x], argTypes := #[t, t] }) (ht : P.underlying t = some (.slice e)) (hinfo : (P.info? e).map (fun i => (i.zero, i.size, i.bytes)) = some (some z, sz, bytes))
    (hsz : 0 < sz) (he : EncOk enc sz) (g cap i : Nat) (l : List α) (hv : a.eval s = .slice (some ⟨g, 0, none⟩) i cap) (hown : Own enc e sz w base (.slice (some ⟨g, 0, none⟩) l.length cap) l) (hi : i ≤ l.length) (X : Option Addr) (c : Nat) (l' : List α)
    (hx : a.eval x = .slice X l'.length c) (hs : Sl enc sz w X l') (hroom : i + l'.length ≤ cap)
    (h : ∀ w', Own enc e sz w' base (.slice (some ⟨g, 0, none⟩) (i + l'.length) cap) (l.take i ++ l') → w.grownBy w' (some g) → w'.heap.size = w.heap.size → K (a.put o.dst (.slice (some ⟨g, 0, none⟩) (i + l'.length) cap)) w') :
    if Region.wanted o (yielded ops a.tmps) = true then Oper.wp P o a w K Q else E := by
  have hw : Region.wanted o (yielded ops a.tmps) = true := by simp [Region.wanted, hgd]
  rw [if_pos hw]
  exact wp_app_room s x ho ht hinfo hsz he g cap i l hv hown hi X c l' hx hs hroom h
/-- clear, behind the end of an own row. -/
theorem run_clear_room {α : Type} {enc : α → List Value} {base : Nat} {t ty e : TypeId} {z : Value} {bytes : Nat} (ht : P.underlying t = some (.slice e)) (hinfo : (P.info? e).map (fun i => (i.zero, i.size, i.bytes)) = some (some z, 1, bytes))
    (hz : z.cells = #[z]) (h1 : z.oneCell' = true) {g cap o n c : Nat} {l : List α} (hown : Own enc e 1 w base (.slice (some ⟨g, 0, none⟩) l.length cap) l) (ho : l.length ≤ o) (hn : o + n ≤ cap) :
    ∃ w', (Builtin.clear_ #[t] ty #[.slice (some ⟨g, o, none⟩) n c]).run P w = .ok (.tuple #[]) w' ∧ Own enc e 1 w' base (.slice (some ⟨g, 0, none⟩) l.length cap) l ∧ w.grownBy w' (some g) ∧ w'.heap.size = w.heap.size := by
  obtain ⟨i0, hi0, hz0, hz1, hz2⟩ := info_parts hinfo
  have hown' := hown
  obtain ⟨hl, h2⟩ := hown
  rcases h2 with ⟨hv, _⟩ | ⟨g', cap', cur, hv, hb, hh, hn', hm, hcs, htk⟩
  · cases hv
  injection hv with hv1 hv2 hv3
  injection hv1 with hv1
  injection hv1 with hv1
  subst hv1; subst hv3
  rcases Nat.eq_zero_or_pos n with h0 | hpos
  · subst h0
    exact ⟨w, by simp [Builtin.clear_, run_underlying ht], hown', World.grownBy.refl w _, rfl⟩
  · have hzc : (Builtin.zeroCells #[z] n).toList = List.replicate n z := by
      apply List.ext_getElem
      · simp [Builtin.zeroCells]
      · intro k hk1 hk2
        simp [Builtin.zeroCells, Nat.mod_one]
    have hst := run_storeCells_at P g o e (List.replicate n z) 0 cur w hh (by simp; omega) (by intro v hv; rw [List.eq_of_mem_replicate hv]; exact h1)
    have hzv : (zeroValue e).run P w = .ok z w := by simp [zeroValue, typeInfo, hi0, hz0]
    obtain ⟨k, rfl⟩ : ∃ k, n = k + 1 := ⟨n - 1, by omega⟩
    refine ⟨w.setRow g (cur.toList.take o ++ List.replicate (k + 1) z ++ cur.toList.drop (o + (k + 1))).toArray, ?_, ⟨hl, .inr ⟨g, cap, _, rfl, hb, setRow_heap w g cur _ e (0, 0) hh, hn', hm, ?_, ?_⟩⟩, ⟨rfl, rfl, rfl, by simp, fun k hk hne => setRow_other w g k _ (by rintro rfl; exact hne rfl)⟩, by simp⟩
    · have hst' := hst
      simp only [Nat.add_zero, List.length_replicate] at hst'
      simp [Builtin.clear_, run_underlying ht, hzv, hz, hzc, hst']
    · simp only [List.size_toArray, List.length_append, List.length_take, List.length_drop, Array.length_toList, List.length_replicate]
      omega
    · show List.take _ (cur.toList.take o ++ List.replicate (k + 1) z ++ cur.toList.drop (o + (k + 1))) = _
      have hcs' : cur.toList.length = cap := by rw [Array.length_toList, hcs, Nat.mul_one]
      rw [List.append_assoc, List.take_append_of_le_length (by rw [List.length_take, hcs', Nat.mul_one]; omega), List.take_take, Nat.min_eq_left (by omega)]
      exact htk
end
end Go.Proofs.Ytdpijhpjicbecaa.H
