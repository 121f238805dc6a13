/- Reading lemmas: an argument that can be read as data is, in the words of the printed texts (Kd), a value of its kind; and the row of a law out of a walk. No conditions. -/
import Derived.Test.YtdpijhpjicbecaaWWords
import Derived.Test.YtdpijhpjicbecaaRows
import Derived.WalkKit
import Derived.ProofKit
import Derived.OpenShut
import Derived.ShutString
import Derived.ChangeOld
import Derived.Below
import Derived.SizedLaws
import Derived.Deep.Slices
import Derived.Deep.Fields
namespace Go.Proofs.Ytdpijhpjicbecaa.H
open Go.RowKit Go.ChangeShapes Go.WideShapes Go.Deep Go.Proofs.YtdpijhpjicbecaaW.PrintWords
set_option linter.unusedVariables false

theorem heldin_add (a : Addr) (i j : Nat) : (a.add i).add j = a.add (i + j) := by
  unfold Addr.add
  by_cases hi : i = 0 <;> by_cases hj : j = 0 <;> simp [hi, hj, Nat.add_assoc]

/-- Whatever reads as data of type t is, cell by cell, a value of kind d of which Q holds. -/
def Rd {α : Type} (d : Kd α) (P : Program) (t : TypeId) (Q : α → Prop) : Prop :=
  ∀ (H : Type) (enc : TypeId × Value → H) (w : World) (base : Nat) (spare : Nat → Bool) (held : Bool) (fuel : Nat) (cs : List Value) (x : DataW H × List MemPlace),
    DataW.trod enc P w base spare held fuel t cs = some x → (x.1.weights P t).all (· ≤ reachBytes) = true → ∃ y, d.K w y cs ∧ Q y

theorem Rd.int {P : Program} {t : TypeId} {k : IntKind} (ht : P.underlying t = some (.int k)) : Rd (Kd.int k) P t (fun n => (Lit.int k n).wf = true) := by
  intro H enc w base spare held fuel cs x h _
  obtain ⟨n, rfl, _, hw⟩ := DataW.trod_int ht h
  exact ⟨n, rfl, hw⟩
theorem Rd.bool {P : Program} {t : TypeId} (ht : P.underlying t = some .bool) : Rd Kd.bool P t (fun _ => True) := by
  intro H enc w base spare held fuel cs x h _
  obtain ⟨b, rfl, _⟩ := DataW.trod_bool ht h
  exact ⟨b, rfl, trivial⟩
theorem Rd.string {P : Program} {t : TypeId} (ht : P.underlying t = some .string) : Rd Kd.string P t (fun s => s.size ≤ 140737488351232) := by
  intro H enc w base spare held fuel cs x h hw
  obtain ⟨s, rfl, rfl, _⟩ := DataW.trod_string ht h
  refine ⟨s, rfl, ?_⟩
  have := List.all_eq_true.1 hw s.data.toList.length (by simp [DataW.weights])
  have h2 : s.data.toList.length ≤ reachBytes := by simpa using this
  rw [Array.length_toList] at h2
  exact h2

theorem weightsAll_mem {H : Type} {P : Program} {e : TypeId} : ∀ {l : List (DataW H)} {d : DataW H}, d ∈ l → ∀ n ∈ d.weights P e, n ∈ DataW.weightsAll P e l
  | a :: l, d, hd, n, hn => by
    simp only [DataW.weightsAll, List.mem_append]
    rcases List.mem_cons.1 hd with rfl | hd
    · exact .inl hn
    · exact .inr (weightsAll_mem hd n hn)

theorem rows_choose {α : Type} {Q : Nat → α → Prop} : ∀ (n : Nat), (∀ i, i < n → ∃ y, Q i y) → ∃ ys : List α, ys.length = n ∧ ∀ j p, ys[j]? = some p → Q j p
  | 0, _ => ⟨[], rfl, fun j p h => by simp at h⟩
  | n + 1, h => by
    obtain ⟨ys, hl, hq⟩ := rows_choose n (fun i hi => h i (by omega))
    obtain ⟨y, hy⟩ := h n (by omega)
    refine ⟨ys ++ [y], by simp [hl], fun j p hj => ?_⟩
    rcases Nat.lt_or_ge j n with hlt | hge
    · rw [List.getElem?_append_left (by omega)] at hj
      exact hq j p hj
    · have : j = n := by
        have := (List.getElem?_eq_some_iff.1 hj).1
        simp [hl] at this
        omega
      subst this
      rw [← hl] at hj
      simp at hj
      subst hj
      exact hy

/-- A slice: its length, what its elements' cells say; the bytes of its elements. -/
theorem Rd.slice {α : Type} {d : Kd α} {P : Program} {t e : TypeId} {Q : α → Prop} (ht : P.underlying t = some (.slice e)) (hC : P.cellsOf e = d.sz) (hd : Rd d P e Q) :
    Rd (Kd.slice e d) P t (fun xs => xs.length * P.bytesOf e ≤ 140737488351232 ∧ ∀ x ∈ xs, Q x) := by
  intro H enc w base spare held fuel cs x h hw
  rcases open_slice ht h with ⟨rfl, rfl⟩ | ⟨a, len, cap, m, n, D, Pl, rfl, hb, hl, hm, hmm, rfl, hi⟩
  · refine ⟨[], ⟨none, 0, rfl, Nat.le_refl _, by unfold Kd.C ReadsRow; simp⟩, by simp, by simp⟩
  · have hmle : len ≤ m := by rw [hmm]; split <;> omega
    have hwt : ∀ i, i < len → ((D i).weights P e).all (· ≤ reachBytes) = true := by
      intro i hi'
      refine List.all_eq_true.2 fun q hq => ?_
      refine List.all_eq_true.1 hw q ?_
      simp only [DataW.weights, ht, List.mem_cons, List.mem_append]
      exact .inr (.inl (weightsAll_mem (List.mem_map.2 ⟨i, List.mem_range.2 hi', rfl⟩) q hq))
    obtain ⟨ys, hyl, hyq⟩ := rows_choose (Q := fun i y => (∃ c, c.length = d.sz ∧ d.K w y c ∧ ∀ i' u, c[i']? = some u → w.cell? (a.add (i * d.sz + i')) = some u) ∧ Q y) len (fun i hi' => by
      obtain ⟨cs', hc, ht'⟩ := hi i (by omega)
      obtain ⟨y, hk, hq⟩ := hd H enc w base spare held n cs' _ ht' (hwt i hi')
      rw [hC] at hc
      obtain ⟨_, hcl, hat⟩ := World.cells?_some hc
      refine ⟨y, ⟨cs', hcl, hk, fun i' u hu => ?_⟩, hq⟩
      have hlt : i' < d.sz := by have := (List.getElem?_eq_some_iff.1 hu).1; omega
      have := hat i' hlt
      rw [heldin_add] at this
      rw [this, hu])
    subst hyl
    have hbytes : ys.length * P.bytesOf e ≤ 140737488351232 := by
      have h1 := List.all_eq_true.1 hw ((((List.range ys.length).map D).length + ((List.range (m - ys.length)).map fun j => D (ys.length + j)).length) * P.bytesOf e) (by simp [DataW.weights, ht])
      have h2 : (ys.length + (m - ys.length)) * P.bytesOf e ≤ reachBytes := by simpa using h1
      have h3 : ys.length * P.bytesOf e ≤ (ys.length + (m - ys.length)) * P.bytesOf e := Nat.mul_le_mul_right _ (by omega)
      exact Nat.le_trans h3 h2
    refine ⟨ys, ⟨some a, cap, rfl, hl, rfl, ?_, fun _ => ⟨a, rfl, fun j p hj => (hyq j p hj).1⟩⟩, hbytes, fun x hx => ?_⟩
    · unfold maxLen at hm; omega
    · obtain ⟨j, hj⟩ := List.getElem?_of_mem hx
      exact (hyq j x hj).2

/-- The fields of a struct, one behind the other from cell o on. -/
inductive RdS (P : Program) : {α : Type} → List Field → Nat → Kd α → (α → Prop) → Prop
  | one {α : Type} {f : Field} {o : Nat} {d : Kd α} {Q : α → Prop} (h : Rd d P f.type Q) (ho : f.offset = o) (hC : P.cellsOf f.type = d.sz) : RdS P [f] o d Q
  | cons {α β : Type} {f : Field} {fs : List Field} {o : Nat} {d : Kd α} {d' : Kd β} {Q : α → Prop} {Q' : β → Prop} (h : Rd d P f.type Q) (ho : f.offset = o) (hC : P.cellsOf f.type = d.sz)
      (hs : RdS P fs (o + d.sz) d' Q') : RdS P (f :: fs) o (Kd.pair d d') (fun p => Q p.1 ∧ Q' p.2)

theorem RdS.run {P : Program} {α : Type} {fs : List Field} {o : Nat} {d : Kd α} {Q : α → Prop} (h : RdS P fs o d Q) :
    ∀ (H : Type) (enc : TypeId × Value → H) (w : World) (base : Nat) (spare : Nat → Bool) (held : Bool) (n : Nat) (cs : List Value) (xs : List (DataW H × List MemPlace)),
      xs.length = fs.length → (∀ (i : Nat) (f : Field), fs[i]? = some f → DataW.trod enc P w base spare held n f.type ((cs.drop f.offset).take (P.cellsOf f.type)) = xs[i]?) →
      (DataW.weightsEach P (fs.map (·.type)) (xs.map (·.1))).all (· ≤ reachBytes) = true → ∃ y, d.K w y ((cs.drop o).take d.sz) ∧ Q y := by
  induction h with
  | one h ho hC =>
    intro H enc w base spare held n cs xs hlen hat hw
    match xs, hlen with
    | [x], _ =>
      have h0 := hat 0 _ rfl
      simp only [List.getElem?_cons_zero] at h0
      rw [ho, hC] at h0
      refine h H enc w base spare held n _ x h0 ?_
      refine List.all_eq_true.2 fun q hq => List.all_eq_true.1 hw q ?_
      simp [DataW.weightsEach, hq]
  | cons h ho hC hs ih =>
    intro H enc w base spare held n cs xs hlen hat hw
    match xs, hlen with
    | x :: xs, hlen =>
      have h0 := hat 0 _ rfl
      simp only [List.getElem?_cons_zero] at h0
      rw [ho, hC] at h0
      obtain ⟨y, hk, hq⟩ := h H enc w base spare held n _ x h0 (List.all_eq_true.2 fun q hq => List.all_eq_true.1 hw q (by simp [DataW.weightsEach, hq]))
      obtain ⟨y', hk', hq'⟩ := ih H enc w base spare held n cs xs (by simpa using hlen) (fun i f hf => by have := hat (i + 1) f (by simpa using hf); simpa using this)
        (List.all_eq_true.2 fun q hq => List.all_eq_true.1 hw q (by simp only [List.map_cons, DataW.weightsEach, List.mem_append]; exact .inr hq))
      refine ⟨(y, y'), ⟨_, _, ?_, hk, hk'⟩, hq, hq'⟩
      show _ = _
      rw [← List.drop_drop, ← List.take_add]
      rfl
theorem Rd.struct {P : Program} {α : Type} {t : TypeId} {fs : Array Field} {d : Kd α} {Q : α → Prop} (ht : P.underlying t = some (.struct fs)) (hC : P.cellsOf t = d.sz) (h : RdS P fs.toList 0 d Q) : Rd d P t Q := by
  intro H enc w base spare held fuel cs x hx hw
  obtain ⟨xs, n, _, rfl, hl, hxl, hat⟩ := DataW.trod_struct ht hx
  have := h.run H enc w base spare held n cs xs (by simpa using hxl) (fun i f hf => hat i f (by simpa using hf)) (by simpa [DataW.weights, ht] using hw)
  rw [List.drop_zero, List.take_of_length_le (by omega)] at this
  exact this
theorem Rd.iso {P : Program} {α β : Type} {t : TypeId} {d : Kd α} {Q : α → Prop} {f : β → α} (g : α → β) (hg : ∀ a, f (g a) = a) (h : Rd d P t Q) : Rd (Kd.iso d f) P t (fun b => Q (f b)) := by
  intro H enc w base spare held fuel cs x hx hw
  obtain ⟨y, hk, hq⟩ := h H enc w base spare held fuel cs x hx hw
  exact ⟨g y, by show d.K w (f (g y)) cs; rw [hg]; exact hk, by show Q (f (g y)); rw [hg]; exact hq⟩
theorem Rd.mono {P : Program} {α : Type} {t : TypeId} {d : Kd α} {Q Q' : α → Prop} (h : Rd d P t Q) (hq : ∀ a, Q a → Q' a) : Rd d P t Q' := by
  intro H enc w base spare held fuel cs x hx hw
  obtain ⟨y, hk, hq'⟩ := h H enc w base spare held fuel cs x hx hw
  exact ⟨y, hk, hq _ hq'⟩

/-! ### A parameter -/
section
variable {H : Type} {enc : TypeId × Value → H} {P : Program} {w : World} {base : Nat} {spare : Nat → Bool} {held : Bool} {r : Reach} {b0 : Nat} {t : TypeId} {v : Value} {dt : DataW H} {p : List MemPlace}
theorem Rd.arg {α : Type} {d : Kd α} {Q : α → Prop} (h : Rd d P t Q) (hx : DataW.Trod enc P w base spare held t v dt p) (hw : (dt.weights P t).all (· ≤ reachBytes) = true) : ∃ y, d.K w y v.cells.toList ∧ Q y := by
  obtain ⟨fuel, hx⟩ := hx
  exact h H enc w base spare held fuel _ _ hx hw
theorem arg_slice {α : Type} {d : Kd α} {e : TypeId} {Q : List α → Prop} (ht : P.underlying t = some (.slice e)) (hv : Value.okWide P w r b0 t v) (h : Rd (Kd.slice e d) P t Q) (hx : DataW.Trod enc P w base spare held t v dt p)
    (hw : (dt.weights P t).all (· ≤ reachBytes) = true) : ∃ (A : Option Addr) (c : Nat) (xs : List α), v = .slice A xs.length c ∧ xs.length ≤ c ∧ d.C w A xs.length xs ∧ Q xs := by
  obtain ⟨a, len, cap, rfl⟩ := okWide_slice ht hv
  obtain ⟨xs, ⟨A, c, he, hl, hc⟩, hq⟩ := h.arg hx hw
  simp only [Value.cells, List.cons.injEq, and_true] at he
  exact ⟨A, c, xs, he, hl, hc, hq⟩
theorem arg_struct {α : Type} {d : Kd α} {fs : Array Field} {Q : α → Prop} (ht : P.underlying t = some (.struct fs)) (hv : Value.okWide P w r b0 t v) (h : Rd d P t Q) (hx : DataW.Trod enc P w base spare held t v dt p)
    (hw : (dt.weights P t).all (· ≤ reachBytes) = true) : ∃ (cs : List Value) (y : α), v = .agg cs.toArray ∧ d.K w y cs ∧ Q y := by
  obtain ⟨cs, rfl, hsz⟩ := okWide_struct ht hv
  obtain ⟨y, hk, hq⟩ := h.arg hx hw
  exact ⟨cs.toList, y, by simp, hk, hq⟩
theorem arg_int {k : IntKind} (ht : P.underlying t = some (.int k)) (hv : Value.okWide P w r b0 t v) (hx : DataW.Trod enc P w base spare held t v dt p) (hw : (dt.weights P t).all (· ≤ reachBytes) = true) : ∃ n, v = .int k n ∧ (Lit.int k n).wf = true := by
  obtain ⟨n, rfl⟩ := okWide_int ht hv
  obtain ⟨y, hk, hq⟩ := (Rd.int ht).arg hx hw
  simp only [Kd.int, Kd.scalar, Value.cells, List.cons.injEq, and_true, Value.int.injEq, true_and] at hk
  subst hk
  exact ⟨n, rfl, hq⟩
theorem arg_bool (ht : P.underlying t = some .bool) (hv : Value.okWide P w r b0 t v) : ∃ b, v = .bool b := okWide_bool ht hv
theorem arg_string (ht : P.underlying t = some .string) (hv : Value.okWide P w r b0 t v) (hx : DataW.Trod enc P w base spare held t v dt p) (hw : (dt.weights P t).all (· ≤ reachBytes) = true) : ∃ s, v = .string s ∧ s.size ≤ 140737488351232 := by
  obtain ⟨s, rfl⟩ := okWide_string ht hv
  obtain ⟨y, hk, hq⟩ := (Rd.string ht).arg hx hw
  simp only [Kd.string, Kd.scalar, Value.cells, List.cons.injEq, and_true, Value.string.injEq] at hk
  subst hk
  exact ⟨s, rfl, hq⟩
end
theorem weights_at {H : Type} {P : Program} {ts : List TypeId} {ds : List (DataW H)} (h : (DataW.weightsEach P ts ds).all (· ≤ reachBytes) = true) {j : Nat} {t : TypeId} {d : DataW H} (ht : ts[j]? = some t) (hd : ds[j]? = some d) :
    (d.weights P t).all (· ≤ reachBytes) = true := List.all_eq_true.2 fun q hq => List.all_eq_true.1 h q (DataW.weights_mem_each ht hd q hq)
theorem trod_back {H : Type} {enc : TypeId × Value → H} {P : Program} {W W' : World} (hl : laidOutB P = true) {t : TypeId} (hr : P.readableRec t = true) (hrow : t < P.types.size) {v : Value} {d : DataW H} {ps : List MemPlace}
    (h : DataW.Trod enc P W 0 (fun _ => true) true t v d ps) (hb : Below W.heap.size W W') : DataW.Trod enc P W' 0 (fun b => decide (b < W.heap.size)) true t v d ps := by
  have hlt : ∀ x ∈ ps, x.block < W.heap.size := by
    obtain ⟨m, hm⟩ := h
    exact DataW.trod_lt m _ _ _ hm
  exact Below.trod hl hr hrow h hb hlt
theorem wf_range {k : IntKind} {n : Int} (h : (Lit.int k n).wf = true) : k.min ≤ n ∧ n ≤ k.max := by
  simpa [Lit.wf] using h
theorem wf_i64 {n : Int} (h : (Lit.int .i64 n).wf = true) : -9223372036854775808 ≤ n ∧ n ≤ 9223372036854775807 := wf_range h
theorem wf_u64 {n : Int} (h : (Lit.int .u64 n).wf = true) : 0 ≤ n ∧ n ≤ 18446744073709551615 := wf_range h
theorem wf_u8 {n : Int} (h : (Lit.int .u8 n).wf = true) : 0 ≤ n ∧ n ≤ 255 := wf_range h
end Go.Proofs.Ytdpijhpjicbecaa.H
