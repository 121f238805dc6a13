/- Lists of lists of entries: how they read, how they are made. Conditions: sizes. (gengst.py) -/
import Derived.Test.YtdpijhpjicbecaaGTak
namespace Go.Proofs.Ytdpijhpjicbecaa.H
open Go Go.RowKit Go.Deep Go.Shelf Go.Proofs Go.Proofs.YtdpijhpjicbecaaW.PrintWords
set_option linter.unusedVariables false
set_option linter.unusedSimpArgs false
abbrev kEntry : Kd Ent := Kd.pair Kd.string (Kd.pair (Kd.int .u64) (Kd.pair Kd.bool Kd.string))
def QEntry (e : Ent) : Prop := e.1.size ≤ 140737488351232 ∧ (Lit.int .u64 e.2.1).wf = true ∧ True ∧ e.2.2.2.size ≤ 140737488351232
set_option maxRecDepth 100000 in
theorem rd_entry : Rd kEntry Try.prog 53 QEntry :=
  Rd.struct Try.underlying53 (by kernel_rfl) (.cons (Rd.string Try.underlying9) rfl (by kernel_rfl) (.cons (Rd.int Try.underlying51) rfl (by kernel_rfl) (.cons (Rd.bool Try.underlying4) rfl (by kernel_rfl) (.one (Rd.string Try.underlying9) rfl (by kernel_rfl)))))
theorem form_entry {w : World} {y : Ent} {c : List Value} (h : kEntry.K w y c) : c = encE y := by
  obtain ⟨c1, c2, rfl, h1, c3, c4, rfl, h2, c5, c6, rfl, h3, h4⟩ := h
  simp only [Kd.string, Kd.int, Kd.bool, Kd.scalar] at h1 h2 h3 h4
  subst h1; subst h2; subst h3; subst h4
  rfl
theorem rd_entries : Rd (Kd.slice 53 kEntry) Try.prog 27 (fun xs => xs.length * Try.prog.bytesOf 53 ≤ 140737488351232 ∧ ∀ x ∈ xs, QEntry x) := Rd.slice Try.underlying27 (by kernel_rfl) rd_entry
theorem sl_entries {w : World} {A : Option Addr} {l : List Ent} (h : kEntry.C w A l.length l) : Sl encE 4 w A l := Sl.of_C (fun _ _ _ hk => form_entry hk) rfl (fun _ => by simp [encE]) h
theorem Sl.of_C2 {α β : Type} {d : Kd β} {enc : α → List Value} {sz : Nat} {w : World} {A : Option Addr} {l : List β} {Q : α → β → Prop} (henc : ∀ y c, d.K w y c → ∃ x, c = enc x ∧ Q x y) (hsz : d.sz = sz) (hpos : ∀ x, 0 < (enc x).length) (h : d.C w A l.length l) :
    ∃ L : List α, L.length = l.length ∧ Sl enc sz w A L ∧ ∀ (i : Nat) (x : α), L[i]? = some x → ∃ y, l[i]? = some y ∧ Q x y := by
  obtain ⟨h1, h2, h3⟩ := h
  rcases l with _ | ⟨y0, l0⟩
  · exact ⟨[], rfl, Sl.nil _ _ _ _, fun i x hx => by simp at hx⟩
  · obtain ⟨ad, rfl, hc⟩ := h3 (by simp)
    obtain ⟨L, hL, hq⟩ := rows_choose (Q := fun i x => ∃ y, (y0 :: l0)[i]? = some y ∧ Q x y ∧ ∀ i' u, (enc x)[i']? = some u → w.cell? (ad.add (i * d.sz + i')) = some u) (y0 :: l0).length (fun i hi => by
      obtain ⟨y, hy⟩ := getElem?_of_lt hi
      obtain ⟨c, hcl, hk, hcell⟩ := hc i y hy
      obtain ⟨x, rfl, hx⟩ := henc y c hk
      exact ⟨x, y, hy, hx, hcell⟩)
    refine ⟨L, hL, ⟨by rw [hL]; exact h2, ?_⟩, fun i x hx => ?_⟩
    · obtain ⟨x, hx⟩ := getElem?_of_lt (l := L) (i := 0) (by rw [hL]; simp)
      obtain ⟨_, _, _, hcell⟩ := hq 0 x hx
      have h0 := hcell 0 ((enc x)[0]'(hpos x)) (List.getElem?_eq_getElem (hpos x))
      have hspot : ad.spot = none := by
        have := World.cell?_spot h0
        simpa [Addr.add] using this
      obtain ⟨b, o, spot⟩ := ad
      simp only at hspot
      subst hspot
      refine .inr ⟨b, o, rfl, ?_, fun i x hx j u hu => ?_⟩
      · have := World.block_lt_of_cell? w _ h0
        simpa [Addr.add] using this
      · obtain ⟨_, _, _, hcell'⟩ := hq i x hx
        have := hcell' j u hu
        rw [hsz, add_at, ← Nat.add_assoc] at this
        exact this
    · obtain ⟨y, hy, hx', _⟩ := hq i x hx
      exact ⟨y, hy, hx'⟩
/-- A list in a slice of listes: its row, its capacity, its writes. -/
abbrev HE := Option Addr × Nat × List Ent
def encHE (h : HE) : List Value := [.slice h.1 h.2.2.length h.2.1]
theorem okHE : EncOk encHE 1 := fun x => ⟨rfl, by simp [encHE, Value.oneCell']⟩
/-- A slice of listes at A, each list in its row. -/
def Sl2 (w : World) (A : Option Addr) (L : List HE) : Prop := Sl encHE 1 w A L ∧ ∀ h ∈ L, Sl encE 4 w h.1 h.2.2
theorem Sl2.later {w w' : World} {A : Option Addr} {L : List HE} (h : Sl2 w A L) (hb : Below w.heap.size w w') : Sl2 w' A L := ⟨h.1.later hb, fun x hx => (h.2 x hx).later hb⟩
theorem rd_lists : Rd (Kd.slice 27 (Kd.slice 53 kEntry)) Try.prog 22 (fun xs => xs.length * Try.prog.bytesOf 27 ≤ 140737488351232 ∧ ∀ x ∈ xs, x.length * Try.prog.bytesOf 53 ≤ 140737488351232 ∧ ∀ y ∈ x, QEntry y) := Rd.slice Try.underlying22 (by kernel_rfl) rd_entries
theorem form_entries {w : World} {y : List Ent} {c : List Value} (h : (Kd.slice 53 kEntry).K w y c) : ∃ x : HE, c = encHE x ∧ (x.2.2 = y ∧ Sl encE 4 w x.1 x.2.2) := by
  obtain ⟨A, c', rfl, _, h2⟩ := h
  exact ⟨(A, c', y), rfl, rfl, sl_entries h2⟩
theorem sl_lists {w : World} {A : Option Addr} {l : List (List Ent)} (h : (Kd.slice 53 kEntry).C w A l.length l) : ∃ L : List HE, L.map (·.2.2) = l ∧ Sl2 w A L := by
  obtain ⟨L, hL, hs, hq⟩ := Sl.of_C2 (fun y c hk => form_entries hk) rfl (fun _ => by simp [encHE]) h
  refine ⟨L, List.ext_getElem? fun i => ?_, hs, fun x hx => ?_⟩
  · rw [List.getElem?_map]
    cases e : L[i]? with
    | none =>
      rw [List.getElem?_eq_none_iff] at e
      rw [Option.map_none, List.getElem?_eq_none (by omega)]
    | some x =>
      obtain ⟨y, hy, hxy, _⟩ := hq i x e
      rw [Option.map_some, hy, hxy]
  · obtain ⟨i, hi⟩ := List.getElem?_of_mem hx
    obtain ⟨y, _, _, h3⟩ := hq i x hi
    exact h3
end Go.Proofs.Ytdpijhpjicbecaa.H
namespace Go.Proofs.Ytdpijhpjicbecaa.H
open Go Go.RowKit Go.Deep Go.Shelf Go.Proofs Go.Proofs.YtdpijhpjicbecaaW.PrintWords
set_option linter.unusedVariables false
set_option linter.unusedSimpArgs false
theorem infoEE : (Try.prog.info? 27).map (fun i => (i.zero, i.size, i.bytes)) = some (some (.slice none 0 0), 1, 24) := by kernel_rfl
theorem uSlEE : Try.prog.underlying 22 = some (.slice 27) := Try.underlying22
theorem Sl.grown {α : Type} {enc : α → List Value} {sz : Nat} {w w' : World} {A : Option Addr} {l : List α} {row : Option Nat} (h : Sl enc sz w A l) (hg : w.grownBy w' row) (hn : ∀ b o, A = some ⟨b, o, none⟩ → row ≠ some b) : Sl enc sz w' A l :=
  h.upd (Upd.of_grown (S := fun k => row = some k) hg (fun k hk => hk)) hn
theorem ownBlock_of {α : Type} {enc : α → List Value} {e : TypeId} {sz : Nat} {w : World} {base : Nat} {A : Option Addr} {n c : Nat} {l : List α} (h : Own enc e sz w base (.slice A n c) l) : ∀ b o, A = some ⟨b, o, none⟩ → base ≤ b ∧ b < w.heap.size := by
  intro b o hA
  subst hA
  have h2 := h.2
  rcases h2 with ⟨h0, _⟩ | ⟨g, cap, cur, h0, hb, hh, _⟩
  · cases h0
  · injection h0 with h1
    injection h1 with h1
    injection h1 with h1
    subst h1
    exact ⟨hb, (Array.getElem?_eq_some_iff.1 hh).1⟩
/-- Listes made so far: each stays where it lies, beside the row that holds them. -/
structure MadeE (w : World) (base : Nat) (v : Value) (L : List HE) : Prop where
  own : Own encHE 27 1 w base v L
  rows : ∀ h ∈ L, Sl encE 4 w h.1 h.2.2
  far : ∀ h ∈ L, ∀ b o, h.1 = some ⟨b, o, none⟩ → base ≤ b ∧ b < w.heap.size ∧ v.ownBlock ≠ some b
theorem MadeE.nil (w : World) (base : Nat) : MadeE w base (.slice none 0 0) [] := ⟨Own.nil _ _ _ _ _, fun h hh => by simp at hh, fun h hh => by simp at hh⟩
theorem MadeE.later {w w' : World} {base : Nat} {v : Value} {L : List HE} (h : MadeE w base v L) (hb : Below w.heap.size w w') : MadeE w' base v L :=
  ⟨h.own.below hb, fun x hx => (h.rows x hx).later hb, fun x hx b o e => ⟨(h.far x hx b o e).1, Nat.lt_of_lt_of_le (h.far x hx b o e).2.1 hb.size, (h.far x hx b o e).2.2⟩⟩
theorem MadeE.sl2 {w : World} {base : Nat} {A : Option Addr} {n c : Nat} {L : List HE} (h : MadeE w base (.slice A n c) L) : n = L.length ∧ Sl2 w A L := by
  obtain ⟨A', c', e, _, hs, _⟩ := h.own.slice (fun x => (okHE x).1)
  injection e with e1 e2 e3
  subst e1
  exact ⟨e2, hs, h.rows⟩
/-- One list more (x, in a row of its own at or behind base and beside v's row) by append. -/
theorem MadeE.snoc {w w' : World} {base : Nat} {v v' : Value} {L : List HE} {x : HE} (h : MadeE w base v L) (hx : Sl encE 4 w x.1 x.2.2) (hx2 : ∀ b o, x.1 = some ⟨b, o, none⟩ → base ≤ b ∧ b < w.heap.size ∧ v.ownBlock ≠ some b)
    (ho : Own encHE 27 1 w' base v' (L ++ [x])) (hg : w.grownBy w' v.ownBlock) (ha : v'.ownBlock = v.ownBlock ∨ ∃ k, v'.ownBlock = some k ∧ w.heap.size ≤ k) : MadeE w' base v' (L ++ [x]) := by
  have key : ∀ y ∈ L ++ [x], Sl encE 4 w y.1 y.2.2 ∧ ∀ b o, y.1 = some ⟨b, o, none⟩ → base ≤ b ∧ b < w.heap.size ∧ v.ownBlock ≠ some b := by
    intro y hy
    rcases List.mem_append.1 hy with hy | hy
    · exact ⟨h.rows y hy, h.far y hy⟩
    · rw [List.mem_singleton.1 hy]
      exact ⟨hx, hx2⟩
  refine ⟨ho, fun y hy => (key y hy).1.grown hg (fun b o e => ((key y hy).2 b o e).2.2), fun y hy b o e => ?_⟩
  obtain ⟨k1, k2, k3⟩ := (key y hy).2 b o e
  refine ⟨k1, Nat.lt_of_lt_of_le k2 hg.size, ?_⟩
  rcases ha with ha | ⟨k, ha, hk⟩
  · rw [ha]; exact k3
  · rw [ha]
    intro e
    injection e with e
    omega
end Go.Proofs.Ytdpijhpjicbecaa.H
