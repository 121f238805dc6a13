/- Room.Writes: a copy of a list with marks behind it, noted in a room (out of the key seat's text, genrw.py). Conditions: sizes; the room is empty. -/
import Derived.Test.YtjbbobhjomhnmaaRoom2
namespace Go.Proofs.Ytjbbobhjomhnmaa.H
open Go Go.RowKit Go.Deep Go.Shelf Go.Proofs Go.Proofs.YtjbbobhjomhnmaaW.PrintWords
set_option linter.unusedVariables false
set_option linter.unusedSimpArgs false
theorem infoSW : (Try.prog.info? 87).map (fun i => (i.zero, i.size, i.bytes)) = some (some (.slice none 0 0), 1, 24) := by kernel_rfl
theorem uSlSW : Try.prog.underlying 32 = some (.slice 87) := Try.underlying32
/-- w' is w but for block g and what is new. -/
structure Kb (g : Nat) (w w' : World) : Prop where
  os : w'.os = w.os
  tape : w'.tape = w.tape
  output : w'.output = w.output
  size : w.heap.size ≤ w'.heap.size
  block : ∀ k, k < w.heap.size → k ≠ g → w'.heap[k]? = w.heap[k]?
theorem Kb.of_below {g : Nat} {w w' : World} (h : Below w.heap.size w w') : Kb g w w' := ⟨h.os, h.tape, h.output, h.size, fun k hk _ => h.block k hk⟩
theorem Kb.trans {g : Nat} {a b c : World} (h : Kb g a b) (k : Kb g b c) : Kb g a c :=
  ⟨k.os.trans h.os, k.tape.trans h.tape, k.output.trans h.output, Nat.le_trans h.size k.size, fun i hi hn => (k.block i (Nat.lt_of_lt_of_le hi h.size) hn).trans (h.block i hi hn)⟩
theorem Kb.setCell (w : World) (g j : Nat) (v : Value) : Kb g w (w.setCell ⟨g, j, none⟩ v) := ⟨rfl, rfl, rfl, by simp [World.setCell], fun k hk hn => Below.heap_setCell _ _ _ _ hn⟩
theorem Kb.below {g : Nat} {W w w' : World} (h : Below W.heap.size W w) (hg : W.heap.size ≤ g) (k : Kb g w w') : Below W.heap.size W w' :=
  ⟨k.os.trans h.os, k.tape.trans h.tape, k.output.trans h.output, Nat.le_trans h.size k.size, fun i hi => (k.block i (Nat.lt_of_lt_of_le hi h.size) (by omega)).trans (h.block i hi)⟩
def wordB (i : Nat) : ByteArray := if i % 2 = 0 then ⟨#[60, 111, 110, 101, 62]⟩ else ⟨#[60, 116, 119, 111, 62]⟩
theorem word_c (i : Nat) (hi : i < 1000) (w : World) : Calls Try.prog 106 #[.int .i64 i] w fun e w' => e = .returned (.string (wordB i)) ∧ w = w' := by
  by_cases h : i % 2 = 0
  · have h1 : ((i : Int) % 2 == 0) = true := by simp; omega
    have H := Lib.hid h
    clear h
    go_enter Try.func106, Try.ntmps106
    go_wp2
    go_ret
    exact ⟨by simp [wordB, H.out], rfl⟩
  · have h1 : ((i : Int) % 2 == 0) = false := by simp; omega
    go_enter Try.func106, Try.ntmps106
    go_wp2
    go_ret
    exact ⟨by simp [wordB, h], rfl⟩
def markW (i : Nat) : Wri := (wordB i, false, ⟨#[]⟩)
def marks (n : Nat) : List Wri := (List.range n).map markW
theorem marks_snoc (n : Nat) : marks (n + 1) = marks n ++ [markW n] := by simp [marks, List.range_succ]
theorem marks_len (n : Nat) : (marks n).length = n := by simp [marks]
/-- A room that holds the copy f of l alone, seen through block g. -/
def RoomV (w : World) (g : Nat) (l : List Wri) (f cf p cp q cq : Nat) : Prop :=
  w.heap[g]? = some (.cells #[.slice none 0 0, .slice none 0 0, .slice none 0 0, .slice none 0 0, .slice none 0 0, .slice none 0 0, .slice none 0 0, .slice none 0 0, .slice none 0 0, .slice none 0 0, .slice none 0 0, .slice none 0 0,
    .slice (some ⟨p, 0, none⟩) 1 cp, .slice (some ⟨q, 0, none⟩) 1 cq, .slice none 0 0, .slice none 0 0, .slice none 0 0, .slice none 0 0, .slice none 0 0, .slice none 0 0, .slice none 0 0, .slice none 0 0, .slice none 0 0, .slice none 0 0, .slice none 0 0, .slice none 0 0, .slice none 0 0, .slice none 0 0] 41 (0, 0)) ∧
  w.cell? ⟨p, 0, none⟩ = some (.slice (some ⟨f, 0, none⟩) (l.length + 40) cf) ∧ w.cell? ⟨q, 0, none⟩ = some (.int .i64 l.length) ∧ Sl encW 3 w (some ⟨f, 0, none⟩) (l ++ marks 40) ∧ l.length + 40 ≤ cf ∧ ∃ cs, w.heap[f]? = some (.cells cs 89 (0, 0))
set_option maxHeartbeats 6400000 in
set_option maxRecDepth 100000 in
theorem layWrites_c (g : Nat) (A : Option Addr) (c : Nat) (l : List Wri) (hn : l.length ≤ 100000) (w : World) (hs : Sl encW 3 w A l)
    (hg : w.heap[g]? = some (.cells (Array.replicate 28 (.slice none 0 0)) 41 (0, 0))) :
    Calls Try.prog 122 #[.pointer (some ⟨g, 0, none⟩), .slice A l.length c, .int .i64 40] w fun e w' => ∃ f cf p cp q cq, e = .returned (.slice (some ⟨f, 0, none⟩) l.length (l.length + 40)) ∧ RoomV w' g l f cf p cp q cq ∧ Kb g w w' ∧ (w.heap.size ≤ f ∧ w.heap.size ≤ p ∧ w.heap.size ≤ q) := by
  have HG := Lib.hid hg
  clear hg
  have HS := Lib.hid hs
  clear hs
  have glt : g < w.heap.size := by
    rcases Nat.lt_or_ge g w.heap.size with h | h
    · exact h
    · have := HG.out; rw [Array.getElem?_eq_none h] at this; cases this
  go_enter Try.func122, Try.ntmps122
  go_wp2_with (at_builtin; refine wpList_app rfl (.tmp 10) (.tmp 11) rfl uSlW infoW rfl (by decide) (by decide) okW (.slice (some ⟨w.heap.size, 0, none⟩) 0 0) [] rfl (base := w.heap.size) ?c1 A c l rfl ?c2 ?c3 ?c4 ?_)
  case c1 => exact ⟨by simp, .inr ⟨w.heap.size, 0, #[], rfl, Nat.le_refl _, heap_alloc_new w _, Nat.le_refl _, by unfold maxLen; omega, rfl, rfl⟩⟩
  case c2 => exact HS.out.later ((Below.refl _ _).alloc (Nat.le_refl _) _)
  case c3 => simp; omega
  case c4 => simp
  intro v1 w1 hown1 hg1 hat1
  have hB1 : Below w.heap.size w w1 := ((Below.refl _ _).alloc (Nat.le_refl _) _).grown hg1 (by simp) (by simp [Value.ownBlock])
  have HO1 := Lib.hid hown1
  clear hown1 hg1 hat1
  go_wp2_with fail
  go_loopg [7, 8] 40 (fun gk v7 v8 wr => ∃ i : Nat, gk = 40 - i ∧ i ≤ 40 ∧ v8 = .int .i64 i ∧ Own encW 89 3 wr w.heap.size v7 (l ++ marks i) ∧ Below w.heap.size w wr)
  case atStart => exact ⟨0, by omega, by omega, rfl, by simpa [marks] using HO1.out, hB1⟩
  case round =>
    obtain ⟨i, hgk, hi, rfl, ho, hB⟩ := hrel
    have HGK := Lib.hid hgk
    have HO := Lib.hid ho
    have HB := Lib.hid hB
    clear hgk ho hB
    by_cases hlt : i < 40
    · have hz := HB.out.size
      have hms := marks_snoc i
      have hml := marks_len i
      have HM := Lib.hid hms
      have HL := Lib.hid hml
      clear hms hml
      go_wp2_with (first | (go_at_call 106; refine (word_c i (by omega) _).mono ?_; rintro e w2 ⟨rfl, rfl⟩) | (at_builtin; refine wpList_app rfl (.tmp 18) (.tmp 22) rfl uSlW infoW rfl (by decide) (by decide) okW u7 (l ++ marks i) rfl (base := w.heap.size) ?c1 (some ⟨wr.heap.size, 0, none⟩) 1 [markW i] rfl ?c2 ?c3 ?c4 ?_))
      case c1 => exact HO.out.below ((Below.refl _ _).alloc (Nat.le_refl _) _)
      case c2 => exact Sl.one okW wr (markW i) 89 rfl
      case c3 => rw [List.length_append, HL.out]; simp; omega
      case c4 => simp; omega
      intro v2 w2 hown2 hg2 _
      have hB2 : Below w.heap.size w w2 := (HB.out.alloc hz _).grown hg2 (by simp; omega) (fun k hk => (HO.out.block_lt hk).1)
      have hown3 : Own encW 89 3 w2 w.heap.size v2 (l ++ marks (i + 1)) := by rw [HM.out]; exact hown2
      have HO3 := Lib.hid hown3
      clear hown2 hown3 hg2
      go_wp2
      go_roundg (40 - (i + 1))
      case measure => have := HGK.out; omega
      case rel => exact ⟨i + 1, rfl, by omega, by go_num, HO3.out, hB2⟩
    · have hi40 : i = 40 := by omega
      subst hi40
      have hz := HB.out.size
      obtain ⟨A2, cf, rfl, hcf, hsl, hne⟩ := HO.out.slice (fun x => (okW x).1)
      obtain ⟨f, rfl, hfb, hfl⟩ := hne (by simp [marks])
      have HBK := Lib.hid (show ∃ cs, wr.heap[f]? = some (.cells cs 89 (0, 0)) from by
        rcases HO.out.2 with ⟨hv, hn⟩ | ⟨g', cap, cur, hv, _, hh, _⟩
        · cases hv
        · injection hv with hv
          injection hv with hv
          injection hv with hv _
          subst hv
          exact ⟨cur, hh⟩)
      have hll : (l ++ marks 40).length = l.length + 40 := by rw [List.length_append, marks_len]
      rw [hll] at hcf ⊢
      have HSL := Lib.hid hsl
      clear hsl hne hll
      have hblk : wr.heap[g]? = some (.cells (Array.replicate 28 (.slice none 0 0)) 41 (0, 0)) := (HB.out.block g glt).trans HG.out
      have c12 : wr.cell? ⟨g, 12, none⟩ = some (.slice none 0 0) := (blk_cell hblk 12).trans rfl
      have HK := Lib.hid hblk
      clear hblk
      go_wp2_with (at_builtin; refine wpList_app rfl (.tmp 28) (.tmp 30) rfl uSlSW infoSW rfl (by decide) (by decide) okS (.slice none 0 0) [] rfl (base := w.heap.size) ?c1 (some ⟨wr.heap.size, 0, none⟩) 1 [(some ⟨f, 0, none⟩, l.length + 40, cf)] rfl ?c2 ?c3 ?c4 ?_)
      case c1 => exact Own.nil _ _ _ _ _
      case c2 => exact Sl.one okS wr (some ⟨f, 0, none⟩, l.length + 40, cf) 87 rfl
      case c3 => simp
      case c4 => simp; omega
      intro v2 w2 hown2 hg2 _
      have hw2 : Below wr.heap.size wr w2 := ((Below.refl _ _).alloc (Nat.le_refl _) _).grown hg2 (by simp) (by simp [Value.ownBlock])
      have HWW2 := Lib.hid hw2
      have hB2 : Below w.heap.size w w2 := HB.out.trans (hw2.mono hz)
      obtain ⟨p, cp, rfl, hpb, hpl, hpc⟩ := Own.single hown2 (u := .slice (some ⟨f, 0, none⟩) (l.length + 40) cf) rfl
      have hblk2 := blk_below HK.out hw2
      have hs2 := HSL.out.later hw2
      have hf2 : f < w2.heap.size := Nat.lt_of_lt_of_le hfl hw2.size
      have d12 : w2.cell? ⟨g, 12, none⟩ = some (.slice none 0 0) := (blk_cell hblk2 12).trans rfl
      have d13 : w2.cell? ⟨g, 13, none⟩ = some (.slice none 0 0) := (blk_cell hblk2 13).trans rfl
      have f12 : w2.frozen? ⟨g, 12, none⟩ = false := blk_frozen hblk2 12
      have HK2 := Lib.hid hblk2
      have HS2 := Lib.hid hs2
      have HP := Lib.hid hpc
      have HB2 := Lib.hid hB2
      have hgw2 : g < w2.heap.size := by have := hB2.size; omega
      clear hown2 hg2 hblk2 hs2 hw2 hpc hB2 c12
      go_wp2_with (at_builtin; refine wpList_app rfl (.tmp 38) (.tmp 41) rfl uSlIx infoIx rfl (by decide) (by decide) okI (.slice none 0 0) [] rfl (base := w.heap.size) ?c1 (some ⟨w2.heap.size, 0, none⟩) 1 [(l.length : Int)] rfl ?c2 ?c3 ?c4 ?_)
      case c1 => exact Own.nil _ _ _ _ _
      case c2 => simpa using Sl.one okI (w2.setCell ⟨g, 12, none⟩ (.slice (some ⟨p, 0, none⟩) 1 cp)) (l.length : Int) 3 rfl
      case c3 => simp
      case c4 => have := HB2.out.size; simp; omega
      intro v3 w3 hown3 hg3 _
      have hx3 : Below (w2.setCell ⟨g, 12, none⟩ (.slice (some ⟨p, 0, none⟩) 1 cp)).heap.size (w2.setCell ⟨g, 12, none⟩ (.slice (some ⟨p, 0, none⟩) 1 cp)) w3 := ((Below.refl _ _).alloc (Nat.le_refl _) _).grown hg3 (by simp) (by simp [Value.ownBlock])
      obtain ⟨q, cq, rfl, hqb, hql, hqc⟩ := Own.single hown3 (u := .int .i64 (l.length : Int)) rfl
      have hblkx := blk_set HK2.out 12 (.slice (some ⟨p, 0, none⟩) 1 cp)
      have hblk3 := blk_below hblkx hx3
      have hpg : g ≠ p := by omega
      have hqg : g ≠ q := by omega
      have hfg : g ≠ f := by omega
      have HBK3 := Lib.hid (show ∃ cs, w3.heap[f]? = some (.cells cs 89 (0, 0)) from by
        obtain ⟨cs, h⟩ := HBK.out
        exact ⟨cs, blk_below (blk_far (blk_below h HWW2.out) hfg.symm _) hx3⟩)
      have hp3 : w3.cell? ⟨p, 0, none⟩ = some (.slice (some ⟨f, 0, none⟩) (l.length + 40) cf) := by
        rw [hx3.cell (by simpa using hpl), World.cell?_setCell_other _ _ _ _ (by intro e; injection e with e1; exact hpg e1)]
        exact HP.out
      have hs3 : Sl encW 3 w3 (some ⟨f, 0, none⟩) (l ++ marks 40) := by
        refine Sl.later ?_ hx3
        exact HS2.out.setOther (by intro b o h; injection h with h; injection h with h1; rw [← h1]; exact Ne.symm hfg) _ _
      have d13' : w3.cell? ⟨g, 13, none⟩ = some (.slice none 0 0) := (blk_cell hblk3 13).trans rfl
      have f13 : w3.frozen? ⟨g, 13, none⟩ = false := blk_frozen hblk3 13
      have hk4 : Kb g w (w3.setCell ⟨g, 13, none⟩ (.slice (some ⟨q, 0, none⟩) 1 cq)) :=
        (((Kb.of_below HB2.out).trans (Kb.setCell w2 g 12 _)).trans (Kb.of_below hx3)).trans (Kb.setCell w3 g 13 _)
      have hblk4 := blk_set hblk3 13 (.slice (some ⟨q, 0, none⟩) 1 cq)
      have hp4 : (w3.setCell ⟨g, 13, none⟩ (.slice (some ⟨q, 0, none⟩) 1 cq)).cell? ⟨p, 0, none⟩ = some (.slice (some ⟨f, 0, none⟩) (l.length + 40) cf) := by
        rw [World.cell?_setCell_other _ _ _ _ (by intro e; injection e with e1; exact hpg e1)]
        exact hp3
      have hq4 : (w3.setCell ⟨g, 13, none⟩ (.slice (some ⟨q, 0, none⟩) 1 cq)).cell? ⟨q, 0, none⟩ = some (.int .i64 (l.length : Int)) := by
        rw [World.cell?_setCell_other _ _ _ _ (by intro e; injection e with e1; exact hqg e1)]
        exact hqc
      have hs4 := hs3.setOther (by intro b o h; injection h with h; injection h with h1; rw [← h1]; exact Ne.symm hfg) 13 (.slice (some ⟨q, 0, none⟩) 1 cq)
      have HR : Hid (RoomV (w3.setCell ⟨g, 13, none⟩ (.slice (some ⟨q, 0, none⟩) 1 cq)) g l f cf p cp q cq) := Lib.hid ⟨hblk4.trans rfl, hp4, hq4, hs4, hcf, by obtain ⟨cs, h⟩ := HBK3.out; exact ⟨cs, blk_far h hfg.symm _⟩⟩
      have HK4 := Lib.hid hk4
      have HFPQ := Lib.hid (show w.heap.size ≤ f ∧ w.heap.size ≤ p ∧ w.heap.size ≤ q from ⟨hfb, hpb, hqb⟩)
      clear hown3 hg3 hx3 hblkx hblk3 hp3 hs3 hblk4 hp4 hq4 hs4 hk4 d12 f12 d13 hqc
      have s0 : (0 : Int) ≤ (l.length : Int) := by omega
      have s1 : (l.length : Int) ≤ (l.length : Int) + 40 := by omega
      have s2 : (l.length : Int) + 40 ≤ (cf : Int) := by omega
      go_wp2
      go_ret
      exact ⟨f, cf, p, cp, q, cq, by simp, HR.out, HK4.out, HFPQ.out⟩
theorem writes_c (g : Nat) (A : Option Addr) (c : Nat) (l : List Wri) (hn : l.length ≤ 100000) (w : World) (hs : Sl encW 3 w A l)
    (hg : w.heap[g]? = some (.cells (Array.replicate 28 (.slice none 0 0)) 41 (0, 0))) :
    Calls Try.prog 115 #[.pointer (some ⟨g, 0, none⟩), .slice A l.length c] w fun e w' => ∃ f cf p cp q cq, e = .returned (.slice (some ⟨f, 0, none⟩) l.length (l.length + 40)) ∧ RoomV w' g l f cf p cp q cq ∧ Kb g w w' ∧ (w.heap.size ≤ f ∧ w.heap.size ≤ p ∧ w.heap.size ≤ q) := by
  have HG := Lib.hid hg
  have HS := Lib.hid hs
  clear hg hs
  go_enter Try.func115, Try.ntmps115
  go_wp2_with fail
  refine (layWrites_c g A c l hn w HS.out HG.out).mono ?_
  rintro e w1 ⟨f, cf, p, cp, q, cq, rfl, hr, hk, hfpq⟩
  have HFPQ := Lib.hid hfpq
  have HR := Lib.hid hr
  have HK := Lib.hid hk
  clear hr hk hfpq
  go_wp2
  go_ret
  exact ⟨f, cf, p, cp, q, cq, by simp, HR.out, HK.out, HFPQ.out⟩
/-- What was lent reads as the list. -/
theorem RoomV.lent {w : World} {g : Nat} {l : List Wri} {f cf p cp q cq : Nat} (h : RoomV w g l f cf p cp q cq) : Sl encW 3 w (some ⟨f, 0, none⟩) l := by
  have := h.2.2.2.1.take_ l.length
  simpa using this
theorem RoomV.later {w w' : World} {g : Nat} {l : List Wri} {f cf p cp q cq : Nat} (h : RoomV w g l f cf p cp q cq) (hb : Below w.heap.size w w') : RoomV w' g l f cf p cp q cq := by
  obtain ⟨h1, h2, h3, h4, h5, cs, h6⟩ := h
  exact ⟨blk_below h1 hb, (hb.cell (p := ⟨p, 0, none⟩) (World.block_lt_of_cell? w _ h2)).trans h2, (hb.cell (p := ⟨q, 0, none⟩) (World.block_lt_of_cell? w _ h3)).trans h3, h4.later hb, h5, cs, blk_below h6 hb⟩
theorem RoomV.upd {w w' : World} {g : Nat} {l : List Wri} {f cf p cp q cq : Nat} {T : Nat → Prop} (h : RoomV w g l f cf p cp q cq) (hu : Upd T w w') (hT : ∀ k, (k = g ∨ k = f ∨ k = p ∨ k = q) → ¬ T k) : RoomV w' g l f cf p cp q cq := by
  obtain ⟨h1, h2, h3, h4, h5, cs, h6⟩ := h
  refine ⟨hu.heap h1 (hT g (.inl rfl)), hu.cell h2 (hT p (.inr (.inr (.inl rfl)))), hu.cell h3 (hT q (.inr (.inr (.inr rfl)))), h4.upd hu (fun b o e => ?_), h5, cs, hu.heap h6 (hT f (.inr (.inl rfl)))⟩
  injection e with e
  injection e with e1
  rw [← e1]
  exact hT f (.inr (.inl rfl))
theorem Kb.upd {g : Nat} {w w' : World} (k : Kb g w w') : Upd (fun j => j = g) w w' := ⟨k.os, k.tape, k.output, k.size, fun i hi hn => k.block i hi hn⟩
end Go.Proofs.Ytjbbobhjomhnmaa.H
