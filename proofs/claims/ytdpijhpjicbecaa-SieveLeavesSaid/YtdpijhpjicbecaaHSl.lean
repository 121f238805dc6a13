/- A slice that is read: its cells, element by element, in a spelling that the walk meets. No conditions. -/
import Derived.Test.YtdpijhpjicbecaaHRd
import Derived.Deep.Draws
import Derived.Maps.AppendAt
import Derived.OwnWalk
import Derived.Tactics
namespace Go.Proofs.Ytdpijhpjicbecaa.H
open Go.RowKit Go.Deep Go.Proofs.YtdpijhpjicbecaaW.PrintWords
set_option linter.unusedVariables false
theorem alloc2_new (w : World) (o o' : Obj) : ((w.alloc o).alloc o').heap[w.heap.size + 1]? = some o' := by
  have := heap_alloc_new (w.alloc o) o'
  simpa only [World.size_alloc] using this
theorem add_at (b o n : Nat) : (⟨b, o, none⟩ : Addr).add n = ⟨b, o + n, none⟩ := by
  unfold Addr.add
  by_cases h : n = 0 <;> simp [h]
/-- The slice at A holds the elements l, each of sz cells 'enc x'. -/
def Sl {α : Type} (enc : α → List Value) (sz : Nat) (w : World) (A : Option Addr) (l : List α) : Prop :=
  l.length ≤ 9223372036854775807 ∧ (l = [] ∨ ∃ b o, A = some ⟨b, o, none⟩ ∧ b < w.heap.size ∧ ∀ i x, l[i]? = some x → ∀ j u, (enc x)[j]? = some u → w.cell? ⟨b, o + i * sz + j, none⟩ = some u)
section
variable {α : Type} {enc : α → List Value} {sz : Nat} {w w' : World} {A : Option Addr} {l : List α}
theorem Sl.of_C {d : Kd α} (henc : ∀ w x c, d.K w x c → c = enc x) (hsz : d.sz = sz) (hpos : ∀ x, 0 < (enc x).length) (h : d.C w A l.length l) : Sl enc sz w A l := by
  obtain ⟨h1, h2, h3⟩ := h
  refine ⟨h2, ?_⟩
  rcases l with _ | ⟨x, l⟩
  · exact .inl rfl
  · obtain ⟨ad, rfl, hc⟩ := h3 (by simp)
    obtain ⟨c, hcl, hk, hcell⟩ := hc 0 x rfl
    have e := henc _ _ _ hk
    subst e
    have h0 := hcell 0 ((enc x)[0]'(hpos x)) (List.getElem?_eq_getElem (hpos x))
    have hspot : ad.spot = none := by
      have := World.cell?_spot h0
      simpa [Addr.add] using this
    obtain ⟨b, o, spot⟩ := ad
    simp only at hspot
    subst hspot
    refine .inr ⟨b, o, rfl, ?_, fun i y hy j u hu => ?_⟩
    · have := World.block_lt_of_cell? w _ h0
      simpa [Addr.add] using this
    · obtain ⟨c', hcl', hk', hcell'⟩ := hc i y hy
      have e' := henc _ _ _ hk'
      subst e'
      have := hcell' j u hu
      rw [hsz, add_at, ← Nat.add_assoc] at this
      exact this
theorem Sl.nil (enc : α → List Value) (sz : Nat) (w : World) (A : Option Addr) : Sl enc sz w A [] := ⟨by simp, .inl rfl⟩
theorem Sl.below {B : Nat} (h : Sl enc sz w A l) (hb : Below B w w') (hB : ∀ b o, A = some ⟨b, o, none⟩ → l ≠ [] → b < B) : Sl enc sz w' A l := by
  refine ⟨h.1, ?_⟩
  rcases h.2 with h0 | ⟨b, o, rfl, hlt, hc⟩
  · exact .inl h0
  · by_cases e : l = []
    · exact .inl e
    · refine .inr ⟨b, o, rfl, Nat.lt_of_lt_of_le hlt hb.size, fun i x hx j u hu => ?_⟩
      rw [hb.cell (by exact hB b o rfl e)]
      exact hc i x hx j u hu
theorem Sl.later (h : Sl enc sz w A l) (hb : Below w.heap.size w w') : Sl enc sz w' A l := by
  refine ⟨h.1, ?_⟩
  rcases h.2 with h0 | ⟨b, o, rfl, hlt, hc⟩
  · exact .inl h0
  · refine .inr ⟨b, o, rfl, Nat.lt_of_lt_of_le hlt hb.size, fun i x hx j u hu => ?_⟩
    rw [hb.cell (by exact hlt)]
    exact hc i x hx j u hu
theorem Sl.at (h : Sl enc sz w A l) {i : Nat} {x : α} (hx : l[i]? = some x) : ∃ b o, A = some ⟨b, o, none⟩ ∧ b < w.heap.size ∧ ∀ j u, (enc x)[j]? = some u → w.cell? ⟨b, o + i * sz + j, none⟩ = some u := by
  rcases h.2 with h0 | ⟨b, o, hA, hlt, hc⟩
  · subst h0; simp at hx
  · exact ⟨b, o, hA, hlt, hc i x hx⟩
theorem getElem?_of_lt {α : Type} {l : List α} {i : Nat} (h : i < l.length) : ∃ x, l[i]? = some x := ⟨l[i], List.getElem?_eq_getElem h⟩
theorem take_succ_of {α : Type} {l : List α} {i : Nat} {x : α} (h : l[i]? = some x) : l.take (i + 1) = l.take i ++ [x] := by
  rw [List.take_add_one, h]; rfl
end
/-- A row of the call's own that holds the elements l. -/
def Own {α : Type} (enc : α → List Value) (e : TypeId) (sz : Nat) (w : World) (base : Nat) (v : Value) (l : List α) : Prop := w.ownsRow base e sz v l.length (l.flatMap enc)
theorem flat_at {α : Type} {enc : α → List Value} {sz : Nat} (he : ∀ x, (enc x).length = sz) : ∀ (l : List α) (i : Nat) (x : α), l[i]? = some x → ∀ j u, (enc x)[j]? = some u → (l.flatMap enc)[i * sz + j]? = some u
  | [], i, x, h, j, u, hu => by simp at h
  | y :: l, 0, x, h, j, u, hu => by
    simp only [List.getElem?_cons_zero, Option.some.injEq] at h
    subst h
    have hj : j < (enc y).length := (List.getElem?_eq_some_iff.1 hu).1
    simp only [List.flatMap_cons, Nat.zero_mul, Nat.zero_add]
    rw [List.getElem?_append_left hj, hu]
  | y :: l, i + 1, x, h, j, u, hu => by
    simp only [List.getElem?_cons_succ] at h
    have := flat_at he l i x h j u hu
    simp only [List.flatMap_cons]
    rw [List.getElem?_append_right (by rw [he, Nat.succ_mul]; omega), he, ← this]
    congr 1
    rw [Nat.succ_mul]
    omega
theorem Own.slice {α : Type} {enc : α → List Value} {e : TypeId} {sz : Nat} {w : World} {base : Nat} {v : Value} {l : List α} (h : Own enc e sz w base v l) (he : ∀ x, (enc x).length = sz) :
    ∃ A c, v = .slice A l.length c ∧ l.length ≤ c ∧ Sl enc sz w A l ∧ (l ≠ [] → ∃ g, A = some ⟨g, 0, none⟩ ∧ base ≤ g ∧ g < w.heap.size) := by
  obtain ⟨h1, h2⟩ := h
  rcases h2 with ⟨rfl, h0⟩ | ⟨g, cap, cur, rfl, hb, hh, hn, hm, hsz, htk⟩
  · have : l = [] := List.eq_nil_of_length_eq_zero h0
    subst this
    exact ⟨none, 0, rfl, Nat.le_refl _, Sl.nil _ _ _ _, fun h => absurd rfl h⟩
  · have hlt : g < w.heap.size := by
      rcases Nat.lt_or_ge g w.heap.size with hlt | hge
      · exact hlt
      · rw [Array.getElem?_eq_none hge] at hh; cases hh
    refine ⟨_, cap, rfl, hn, ⟨by unfold maxLen at hm; omega, .inr ⟨g, 0, rfl, hlt, fun i x hx j u hu => ?_⟩⟩, fun _ => ⟨g, rfl, hb, hlt⟩⟩
    have hf := flat_at he l i x hx j u hu
    have hc : w.cell? ⟨g, i * sz + j, none⟩ = cur[i * sz + j]? := cell_of_row _ _ _ _ _ _ hh
    rw [Nat.zero_add, hc, ← Array.getElem?_toList, ← hf, ← htk, List.getElem?_take_of_lt]
    have := (List.getElem?_eq_some_iff.1 hf).1
    omega
theorem Own.below {α : Type} {enc : α → List Value} {e : TypeId} {sz : Nat} {w w' : World} {base : Nat} {v : Value} {l : List α} (h : Own enc e sz w base v l) (hb : Below w.heap.size w w') : Own enc e sz w' base v l :=
  own_move h (fun k hk => hb.block k (own_lt h k hk))
theorem Own.weaken {α : Type} {enc : α → List Value} {e : TypeId} {sz : Nat} {w : World} {base base' : Nat} {v : Value} {l : List α} (h : Own enc e sz w base v l) (hb : base' ≤ base) : Own enc e sz w base' v l := own_weaken h hb
theorem Sl.of_block {α : Type} {enc : α → List Value} {sz : Nat} {w : World} {l : List α} (he : ∀ x, (enc x).length = sz) {g : Nat} {cs : Array Value} {t : TypeId} {fr : Nat × Nat} (hh : w.heap[g]? = some (.cells cs t fr)) (hc : cs.toList = l.flatMap enc) (hm : l.length ≤ 9223372036854775807) :
    Sl enc sz w (some ⟨g, 0, none⟩) l := by
  have hlt : g < w.heap.size := by
    rcases Nat.lt_or_ge g w.heap.size with hlt | hge
    · exact hlt
    · rw [Array.getElem?_eq_none hge] at hh; cases hh
  refine ⟨hm, .inr ⟨g, 0, rfl, hlt, fun i x hx j u hu => ?_⟩⟩
  have hf := flat_at he l i x hx j u hu
  have hc' : w.cell? ⟨g, i * sz + j, none⟩ = cs[i * sz + j]? := cell_of_row _ _ _ _ _ _ hh
  rw [Nat.zero_add, hc', ← Array.getElem?_toList, hc, hf]
/-! ### append, by elements -/
/-- What an element's cells are fit for. -/
def EncOk {α : Type} (enc : α → List Value) (sz : Nat) : Prop := ∀ x, (enc x).length = sz ∧ ∀ u ∈ enc x, u.oneCell' = true
theorem flat_len {α : Type} {enc : α → List Value} {sz : Nat} (he : EncOk enc sz) : ∀ l : List α, (l.flatMap enc).length = l.length * sz
  | [] => by simp
  | x :: l => by rw [List.flatMap_cons, List.length_append, (he x).1, flat_len he l, List.length_cons, Nat.succ_mul]; omega
theorem flat_find {α : Type} {enc : α → List Value} {sz : Nat} (he : EncOk enc sz) (hsz : 0 < sz) (l : List α) (j : Nat) (u : Value) (h : (l.flatMap enc)[j]? = some u) : ∃ x, l[j / sz]? = some x ∧ (enc x)[j % sz]? = some u := by
  have hj : j < l.length * sz := by rw [← flat_len he]; exact (List.getElem?_eq_some_iff.1 h).1
  have hq : j / sz < l.length := by rw [Nat.div_lt_iff_lt_mul hsz]; exact hj
  have hr : j % sz < sz := Nat.mod_lt _ hsz
  have hx : l[j / sz]? = some l[j / sz] := List.getElem?_eq_getElem hq
  have hlen : j % sz < (enc l[j / sz]).length := by rw [(he _).1]; exact hr
  have hu := flat_at (fun x => (he x).1) l _ _ hx _ _ (List.getElem?_eq_getElem hlen)
  have e : j / sz * sz + j % sz = j := by rw [Nat.mul_comm]; exact Nat.div_add_mod j sz
  rw [e, h] at hu
  exact ⟨_, hx, by rw [List.getElem?_eq_getElem hlen]; exact hu.symm⟩
theorem Sl.flat {α : Type} {enc : α → List Value} {sz : Nat} {w : World} {b o : Nat} {l : List α} (h : Sl enc sz w (some ⟨b, o, none⟩) l) (he : EncOk enc sz) (hsz : 0 < sz) : ∀ j u, (l.flatMap enc)[j]? = some u → w.cell? ((⟨b, o, none⟩ : Addr).add j) = some u := by
  intro j u hu
  obtain ⟨x, hx, hxu⟩ := flat_find he hsz l j u hu
  obtain ⟨b', o', hA, _, hc⟩ := h.at hx
  injection hA with hA
  injection hA with h1 h2
  subst h1; subst h2
  have := hc _ _ hxu
  rw [add_at]
  have e : j / sz * sz + j % sz = j := by rw [Nat.mul_comm]; exact Nat.div_add_mod j sz
  rw [Nat.add_assoc, e] at this
  exact this
section
variable {P : Program} {w : World}
theorem run_app {α : Type} {enc : α → List Value} {base : Nat} {t ty e : TypeId} {z : Value} {sz bytes : Nat} (ht : P.underlying t = some (.slice e)) (hinfo : (P.info? e).map (fun i => (i.zero, i.size, i.bytes)) = some (some z, sz, bytes))
    (hz : z.cells.size = sz) (hsz : 0 < sz) (hb0 : 0 < bytes) (he : EncOk enc sz) {v : Value} {l : List α} (hown : Own enc e sz w base v l) {A : Option Addr} {c : Nat} {l' : List α} (hs : Sl enc sz w A l')
    (hl : (l.length + l'.length) * bytes ≤ 140737488355328) (hbase : base ≤ w.heap.size) :
    ∃ v' w', (Builtin.append_ #[t, t] ty #[v, .slice A l'.length c]).run P w = .ok v' w' ∧ Own enc e sz w' base v' (l ++ l') ∧ w.grownBy w' v.ownBlock ∧ (v'.ownBlock = v.ownBlock ∨ v'.ownBlock = some w.heap.size) := by
  obtain ⟨i0, hi, hz0, hz1, hz2⟩ := info_parts hinfo
  have hlen : l.length + l'.length ≤ 140737488355328 := Nat.le_trans (Nat.le_mul_of_pos_right _ hb0) hl
  have h63 : l.length + l'.length ≤ maxLen := by unfold maxLen; omega
  have h1 : ∀ u ∈ l'.flatMap enc, u.oneCell' = true := by
    intro u hu
    obtain ⟨x, _, hx⟩ := List.mem_flatMap.1 hu
    exact (he x).2 u hx
  have key : ∀ (ad : Addr), (∀ j u, (l'.flatMap enc)[j]? = some u → w.cell? (ad.add j) = some u) →
      ∃ v' w', (Builtin.append_ #[t, t] ty #[v, .slice (some ad) l'.length c]).run P w = .ok v' w' ∧ Own enc e sz w' base v' (l ++ l') ∧ w.grownBy w' v.ownBlock ∧ (v'.ownBlock = v.ownBlock ∨ v'.ownBlock = some w.heap.size) := by
    intro ad hcells
    obtain ⟨v', w', hrun, h2, h3, _, h5⟩ := run_append_own_at (P := P) w base t ty e i0 z sz bytes ht hi hz0 hz1 hz2 hz hsz v l.length (l.flatMap enc) hown ad l'.length c (l'.flatMap enc) (flat_len he l') hcells h1 h63 hl hbase
    refine ⟨v', w', hrun, ?_, h3, h5⟩
    unfold Own
    rw [List.length_append, List.flatMap_append]
    exact h2
  rcases A with _ | ad
  · have hl' : l' = [] := by
      rcases hs.2 with h | ⟨b, o, h, _⟩
      · exact h
      · cases h
    subst hl'
    refine ⟨v, w, ?_, by simpa using hown, World.grownBy.refl w _, .inl rfl⟩
    rcases hown.2 with ⟨rfl, _⟩ | ⟨g, cap, cur, rfl, _, _, hnc, _⟩
    · simp [Builtin.append_, run_underlying ht, sizeOf, typeInfo, hi, Builtin.lenOf, Builtin.firstCells]
    · simp [Builtin.append_, run_underlying ht, sizeOf, typeInfo, hi, Builtin.lenOf, Builtin.firstCells, hnc, storeCells]
  · rcases hs.2 with rfl | ⟨b, o, hA, _, _⟩
    · exact key ad (fun j u hu => by simp at hu)
    · injection hA with hA
      subst hA
      exact key _ (hs.flat he hsz)
theorem wp_app {α : Type} {enc : α → List Value} {base : Nat} {t e : TypeId} {z : Value} {sz bytes : Nat} {o : Oper} {a : Act} {K : Act → World → Prop} {Q : Exit → Act → World → Prop} (s x : Operand)
    (ho : o.op = .call { callee := .builtin .append, args := #[s, x], argTypes := #[t, t] }) (ht : P.underlying t = some (.slice e)) (hinfo : (P.info? e).map (fun i => (i.zero, i.size, i.bytes)) = some (some z, sz, bytes))
    (hz : z.cells.size = sz) (hsz : 0 < sz) (hb0 : 0 < bytes) (he : EncOk enc sz) (v : Value) (l : List α) (hv : a.eval s = v) (hown : Own enc e sz w base v l) (A : Option Addr) (c : Nat) (l' : List α) (hx : a.eval x = .slice A l'.length c)
    (hs : Sl enc sz w A l') (hl : (l.length + l'.length) * bytes ≤ 140737488355328) (hbase : base ≤ w.heap.size)
    (h : ∀ v' w', Own enc e sz w' base v' (l ++ l') → w.grownBy w' v.ownBlock → (v'.ownBlock = v.ownBlock ∨ v'.ownBlock = some w.heap.size) → K (a.put o.dst v') w') : o.wp P a w K Q := by
  obtain ⟨v', w', hrun, h2, h3, h4⟩ := run_app (P := P) (ty := o.type) ht hinfo hz hsz hb0 he hown (c := c) hs hl hbase
  unfold Oper.wp execOp
  simp only [ho, resolve, invoke, builtin, Sem.run_bind, Sem.run_pure, Result.andThen_ok, List.map_toArray, List.map_cons, List.map_nil, hv, hx, hrun]
  exact h v' w' h2 h3 h4
/-- append in a plain region. -/
theorem wpList_app {α : Type} {enc : α → List Value} {base : Nat} {t e : TypeId} {z : Value} {sz bytes : Nat} {ops : Array Oper} {rest : List Oper} {o : Oper} {a : Act} {Q : Exit → Act → World → Prop} (hgd : o.guard = none) (s x : Operand)
    (ho : o.op = .call { callee := .builtin .append, args := #[s, x], argTypes := #[t, t] }) (ht : P.underlying t = some (.slice e)) (hinfo : (P.info? e).map (fun i => (i.zero, i.size, i.bytes)) = some (some z, sz, bytes))
    (hz : z.cells.size = sz) (hsz : 0 < sz) (hb0 : 0 < bytes) (he : EncOk enc sz) (v : Value) (l : List α) (hv : a.eval s = v) (hown : Own enc e sz w base v l) (A : Option Addr) (c : Nat) (l' : List α) (hx : a.eval x = .slice A l'.length c)
    (hs : Sl enc sz w A l') (hl : (l.length + l'.length) * bytes ≤ 140737488355328) (hbase : base ≤ w.heap.size)
    (h : ∀ v' w', Own enc e sz w' base v' (l ++ l') → w.grownBy w' v.ownBlock → (v'.ownBlock = v.ownBlock ∨ v'.ownBlock = some w.heap.size) → wpList P ops Q rest (a.put o.dst v') w') : wpList P ops Q (o :: rest) a w :=
  wpList_plain hgd fun _ hK => wp_app s x ho ht hinfo hz hsz hb0 he v l hv hown A c l' hx hs hl hbase fun v' w' h2 h3 h4 => hK _ _ (h v' w' h2 h3 h4)
/-- append in a region that draws its order (go_region_held3, go_region_law). -/
theorem step_app {α : Type} {enc : α → List Value} {base : Nat} {t e : TypeId} {z : Value} {sz bytes : Nat} {ops : Array Oper} {o : Oper} {a : Act} {K : Act → World → Prop} {Q : Exit → Act → World → Prop} {E : Prop} (hgd : o.guard = none) (s x : Operand)
    (ho : o.op = .call { callee := .builtin .append, args := #[s, x], argTypes := #[t, t] }) (ht : P.underlying t = some (.slice e)) (hinfo : (P.info? e).map (fun i => (i.zero, i.size, i.bytes)) = some (some z, sz, bytes))
    (hz : z.cells.size = sz) (hsz : 0 < sz) (hb0 : 0 < bytes) (he : EncOk enc sz) (v : Value) (l : List α) (hv : a.eval s = v) (hown : Own enc e sz w base v l) (A : Option Addr) (c : Nat) (l' : List α) (hx : a.eval x = .slice A l'.length c)
    (hs : Sl enc sz w A l') (hl : (l.length + l'.length) * bytes ≤ 140737488355328) (hbase : base ≤ w.heap.size)
    (h : ∀ v' w', Own enc e sz w' base v' (l ++ l') → w.grownBy w' v.ownBlock → (v'.ownBlock = v.ownBlock ∨ v'.ownBlock = some w.heap.size) → K (a.put o.dst v') w') :
    if Region.wanted o (yielded ops a.tmps) = true then Oper.wp P o a w K Q else E := by
  have hw : Region.wanted o (yielded ops a.tmps) = true := by simp [Region.wanted, hgd]
  rw [if_pos hw]
  exact wp_app s x ho ht hinfo hz hsz hb0 he v l hv hown A c l' hx hs hl hbase h
end
theorem Own.nil {α : Type} (enc : α → List Value) (e sz : Nat) (w : World) (base : Nat) : Own enc e sz w base (.slice none 0 0) [] := ⟨by simp, .inl ⟨rfl, rfl⟩⟩
theorem Own.move {α : Type} {enc : α → List Value} {e : TypeId} {sz : Nat} {w w' : World} {base : Nat} {v : Value} {l : List α} (h : Own enc e sz w base v l) (hm : ∀ k, v.ownBlock = some k → k < w.heap.size → w'.heap[k]? = w.heap[k]?) : Own enc e sz w' base v l :=
  own_move h (fun k hk => hm k hk (own_lt h k hk))
theorem Own.block_lt {α : Type} {enc : α → List Value} {e : TypeId} {sz : Nat} {w : World} {base : Nat} {v : Value} {l : List α} (h : Own enc e sz w base v l) {k : Nat} (hk : v.ownBlock = some k) : base ≤ k ∧ k < w.heap.size := ⟨own_base h k hk, own_lt h k hk⟩
/-- One new element, in a block of its own. -/
theorem Sl.one {α : Type} {enc : α → List Value} {sz : Nat} (he : EncOk enc sz) (w : World) (x : α) (t : TypeId) {cs : Array Value} (hc : cs.toList = enc x) : Sl enc sz (w.alloc (.cells cs t)) (some ⟨w.heap.size, 0, none⟩) [x] :=
  Sl.of_block (fun x => (he x).1) (heap_alloc_new w _) (by simpa using hc) (by simp)
theorem Sl.drew {α : Type} {enc : α → List Value} {sz : Nat} {w : World} {A : Option Addr} {l : List α} (h : Sl enc sz w A l) : Sl enc sz w.drew A l := h
theorem Sl.drewN {α : Type} {enc : α → List Value} {sz : Nat} {w : World} {A : Option Addr} {l : List α} (h : Sl enc sz w A l) (n : Nat) : Sl enc sz (w.drewN n) A l := h
theorem Sl.take_ {α : Type} {enc : α → List Value} {sz : Nat} {w : World} {A : Option Addr} {l : List α} (h : Sl enc sz w A l) (k : Nat) : Sl enc sz w A (l.take k) := by
  refine ⟨by rw [List.length_take]; have := h.1; omega, ?_⟩
  rcases h.2 with rfl | ⟨b, o, hA, hlt, hc⟩
  · exact .inl (by simp)
  · refine .inr ⟨b, o, hA, hlt, fun i x hx j u hu => ?_⟩
    rw [List.getElem?_take] at hx
    split at hx
    · exact hc i x hx j u hu
    · cases hx
theorem Sl.drop_ {α : Type} {enc : α → List Value} {sz : Nat} {w : World} {b o : Nat} {l : List α} (h : Sl enc sz w (some ⟨b, o, none⟩) l) (k : Nat) : Sl enc sz w (some ⟨b, o + k * sz, none⟩) (l.drop k) := by
  refine ⟨by rw [List.length_drop]; have := h.1; omega, ?_⟩
  rcases h.2 with rfl | ⟨b', o', hA, hlt, hc⟩
  · exact .inl (by simp)
  · injection hA with hA
    injection hA with h1 h2
    subst h1; subst h2
    refine .inr ⟨b, _, rfl, hlt, fun i x hx j u hu => ?_⟩
    rw [List.getElem?_drop] at hx
    have := hc (k + i) x hx j u hu
    rw [Nat.add_mul] at this
    rw [← this]
    congr 2
    omega
theorem Sl.dropA {α : Type} {enc : α → List Value} {sz : Nat} {w : World} {A : Option Addr} {l : List α} (h : Sl enc sz w A l) (k : Nat) : Sl enc sz w (Option.map (fun x => x.add (k * sz)) A) (l.drop k) := by
  rcases h.2 with rfl | ⟨b, o, rfl, _⟩
  · simpa using Sl.nil enc sz w _
  · have := h.drop_ k
    simpa [add_at] using this
def encS (x : Option Addr × Nat × Nat) : List Value := [.slice x.1 x.2.1 x.2.2]
def encI (n : Int) : List Value := [.int .i64 n]
theorem okS : EncOk encS 1 := fun x => ⟨rfl, by simp [encS, Value.oneCell']⟩
theorem okI : EncOk encI 1 := fun x => ⟨rfl, by simp [encI, Value.oneCell']⟩
theorem Sl.setOther {α : Type} {enc : α → List Value} {sz : Nat} {w : World} {A : Option Addr} {l : List α} (h : Sl enc sz w A l) {g : Nat} (hg : ∀ b o, A = some ⟨b, o, none⟩ → b ≠ g) (j : Nat) (v : Value) : Sl enc sz (w.setCell ⟨g, j, none⟩ v) A l := by
  refine ⟨h.1, ?_⟩
  rcases h.2 with h0 | ⟨b, o, hA, hlt, hc⟩
  · exact .inl h0
  · refine .inr ⟨b, o, hA, by simpa [World.setCell] using hlt, fun i x hx k u hu => ?_⟩
    rw [World.cell?_setCell_other _ _ _ _ (by intro e; injection e with e1; exact hg b o hA e1.symm)]
    exact hc i x hx k u hu
/-- A row of one. -/
theorem Own.single {α : Type} {enc : α → List Value} {e : TypeId} {w : World} {base : Nat} {v : Value} {x : α} {u : Value} (h : Own enc e 1 w base v [x]) (he : enc x = [u]) :
    ∃ p c, v = .slice (some ⟨p, 0, none⟩) 1 c ∧ base ≤ p ∧ p < w.heap.size ∧ w.cell? ⟨p, 0, none⟩ = some u := by
  obtain ⟨h1, h2⟩ := h
  rcases h2 with ⟨_, h0⟩ | ⟨g, cap, cur, rfl, hb, hh, hn, hm, hsz, htk⟩
  · simp at h0
  · refine ⟨g, cap, rfl, hb, (Array.getElem?_eq_some_iff.1 hh).1, ?_⟩
    have hc : w.cell? ⟨g, 0, none⟩ = cur[0]? := cell_of_row _ _ _ _ _ _ hh
    rw [hc, ← Array.getElem?_toList]
    have e0 : (cur.toList.take 1)[0]? = some u := by
      have : cur.toList.take 1 = [u] := by simpa [he] using htk
      rw [this]; rfl
    rw [List.getElem?_take_of_lt (by omega)] at e0
    exact e0
end Go.Proofs.Ytdpijhpjicbecaa.H
