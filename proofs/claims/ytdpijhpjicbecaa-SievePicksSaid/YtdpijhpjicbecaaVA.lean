/- SievePicks, first part: the function that tells of below, and how Below comes in. Conditions: sizes. -/
import Derived.Test.YtdpijhpjicbecaaV9
namespace Go.Proofs.Ytdpijhpjicbecaa.H
open Go Go.RowKit Go.Deep Go.Shelf Go.Proofs Go.Proofs.YtdpijhpjicbecaaW.PrintWords
set_option linter.unusedVariables false
set_option linter.unusedSimpArgs false
attribute [local go_sem] Oper.semAt_some
/-- What is stored stands there already. -/
theorem bel_same {W : World} {b : Nat} {v : Value} {t : TypeId} (h : W.heap[b]? = some (.cells #[v] t (0, 0))) (n : Nat) : Below n W (W.setCell ⟨b, 0, none⟩ v) :=
  ⟨rfl, rfl, rfl, by simp [World.setCell], fun k _ => by
    by_cases e : k = b
    · subst e
      rw [blk_set h 0 v, h]
      rfl
    · exact Below.heap_setCell _ _ _ _ (by intro e2; exact e e2)⟩
set_option maxHeartbeats 1600000 in
set_option maxRecDepth 100000 in
theorem asks8_c (bo bl bb : Nat) (A : Option Addr) (c : Nat) (l : List Ent) (b : Bw) (x : Ent) (w : World) (ho : w.heap[bo]? = some (.cells #[.bool false] 4 (0, 0))) (hl : w.heap[bl]? = some (.cells #[.slice A l.length c] 27 (0, 0))) (hb : w.heap[bb]? = some (.cells b.cells 60 (0, 0)))
    (hs : Sl encE 4 w A l) (hbat : b.at w) (hx : l[0]? = some x) :
    Calls Try.prog 30 #[.string x.1, .pointer (some ⟨bo, 0, none⟩), .pointer (some ⟨bl, 0, none⟩), .pointer (some ⟨bb, 0, none⟩)] w fun e w' => e = .returned (.bool (b.has x.1)) ∧ Below w.heap.size w w' := by
  obtain ⟨b1, o1, rfl, _, hc1⟩ := hs.at hx
  have y0 : w.cell? ⟨b1, o1, none⟩ = some (.string x.1) := by have := hc1 0 _ rfl; simpa using this
  have hn0 : 0 < l.length := by cases l with | nil => cases hx | cons _ _ => simp
  obtain ⟨n, hn⟩ : ∃ n, l.length = n := ⟨_, rfl⟩
  have hm := hs.1
  rw [hn] at hl hn0 hm
  have i1 : (0 : Int) < n := by omega
  have i2 : ((n : Int) == 0) = false := by rw [beq_eq_false_iff_ne]; omega
  have i3 : ¬ (n : Int) = 0 := by omega
  have c0 : w.cell? ⟨bo, 0, none⟩ = some (.bool false) := (blk_cell ho 0).trans rfl
  have f0 : w.frozen? ⟨bo, 0, none⟩ = false := blk_frozen ho 0
  have cl : w.cell? ⟨bl, 0, none⟩ = some (.slice (some ⟨b1, o1, none⟩) n c) := (blk_cell hl 0).trans rfl
  obtain ⟨W1, hW1⟩ : ∃ Z, w.setCell ⟨bo, 0, none⟩ (.bool false) = Z := ⟨_, rfl⟩
  have hb1 : Below w.heap.size w W1 := by rw [← hW1]; exact bel_same ho _
  have HH := Lib.hid (has_c b x.1 W1 ⟨hbat.1.later hb1, hbat.2.later hb1⟩)
  have hb2 := blk_below hb hb1
  obtain ⟨bA, bc, ks, bB, bd, bh, nt⟩ := b
  obtain ⟨bf, hbf⟩ : ∃ f, Bw.has ⟨bA, bc, ks, bB, bd, bh, nt⟩ = f := ⟨_, rfl⟩
  rw [hbf] at HH ⊢
  unfold Bw.cells at HH hb2
  dsimp only at HH hb2
  obtain ⟨n1, hn1⟩ : ∃ n, ks.length = n := ⟨_, rfl⟩
  obtain ⟨n2, hn2⟩ : ∃ n, bh.length = n := ⟨_, rfl⟩
  rw [hn1, hn2] at HH hb2
  have e0 : W1.cell? ⟨bb, 0, none⟩ = some (.slice bA n1 bc) := (blk_cell hb2 0).trans rfl
  have e1 : W1.cell? ⟨bb, 1, none⟩ = some (.slice bB n2 bd) := (blk_cell hb2 1).trans rfl
  have e2 : W1.cell? ⟨bb, 2, none⟩ = some (.bool nt) := (blk_cell hb2 2).trans rfl
  have HB1 := Lib.hid hb1
  clear hc1 ho hl hb hs hbat hx hb2 hbf hn hn1 hn2 hb1
  go_enter Try.func30, Try.ntmps30
  go_wp2_with fail
  try rw [hW1]
  refine HH.out.mono ?_
  rintro _ W2 ⟨rfl, hb3⟩
  have HB2 := Lib.hid (HB1.out.trans (hb3.mono HB1.out.size))
  clear hb3 hW1
  go_wp2
  go_ret
  exact ⟨rfl, HB2.out⟩
abbrev kHull : Kd (ByteArray × ByteArray) := Kd.pair Kd.string Kd.string
abbrev kBelow : Kd (List ByteArray × List (ByteArray × ByteArray) × Bool) := Kd.pair (Kd.slice 9 Kd.string) (Kd.pair (Kd.slice 103 kHull) Kd.bool)
set_option maxRecDepth 100000 in
theorem rd_hull : Rd kHull Try.prog 103 (fun y => y.1.size ≤ 140737488351232 ∧ y.2.size ≤ 140737488351232) :=
  Rd.struct Try.underlying103 (by kernel_rfl) (.cons (Rd.string Try.underlying9) rfl (by kernel_rfl) (.one (Rd.string Try.underlying9) rfl (by kernel_rfl)))
set_option maxRecDepth 100000 in
theorem rd_below : Rd kBelow Try.prog 60 (fun y => (y.1.length * Try.prog.bytesOf 9 ≤ 140737488351232 ∧ ∀ x ∈ y.1, x.size ≤ 140737488351232) ∧ (y.2.1.length * Try.prog.bytesOf 103 ≤ 140737488351232 ∧ ∀ x ∈ y.2.1, x.1.size ≤ 140737488351232 ∧ x.2.size ≤ 140737488351232) ∧ True) :=
  Rd.struct Try.underlying60 (by kernel_rfl) (.cons (Rd.slice Try.underlying57 (by kernel_rfl) (Rd.string Try.underlying9)) rfl (by kernel_rfl) (.cons (Rd.slice Try.underlying58 (by kernel_rfl) rd_hull) rfl (by kernel_rfl) (.one (Rd.bool Try.underlying4) rfl (by kernel_rfl))))
theorem form_hull {w : World} {y : ByteArray × ByteArray} {c : List Value} (h : kHull.K w y c) : c = encHu y := by
  obtain ⟨c1, c2, rfl, h1, h2⟩ := h
  simp only [Kd.string, Kd.scalar] at h1 h2
  subst h1; subst h2
  rfl
theorem form_text {w : World} {y : ByteArray} {c : List Value} (h : Kd.string.K w y c) : c = encX y := by
  simp only [Kd.string, Kd.scalar] at h
  subst h
  rfl
theorem form_below {w : World} {y : List ByteArray × List (ByteArray × ByteArray) × Bool} {c : List Value} (h : kBelow.K w y c) : ∃ b : Bw, c = b.cells.toList ∧ b.at w ∧ b.ks = y.1 ∧ b.hs = y.2.1 := by
  obtain ⟨c1, c2, e, h1, c3, c4, rfl, h2, h3⟩ := h
  obtain ⟨A, k, rfl, _, ha⟩ := h1
  obtain ⟨B, d, rfl, _, hb⟩ := h2
  simp only [Kd.bool, Kd.scalar] at h3
  subst h3
  refine ⟨⟨A, k, y.1, B, d, y.2.1, y.2.2⟩, e, ⟨Sl.of_C (fun _ _ _ hk => form_text hk) rfl (fun _ => by simp [encX]) ha, Sl.of_C (fun _ _ _ hk => form_hull hk) rfl (fun _ => by simp [encHu]) hb⟩, rfl, rfl⟩
end Go.Proofs.Ytdpijhpjicbecaa.H
