/- pile.Line: contracts of its methods, and of what they call. Conditions: fewer than 2^40 stand in it. -/
import Derived.Test.YtabnpacponkmhaaHRow
import Derived.WalkLawsBesides
import Derived.Deep.RegionHeld3
import Derived.Deep.LoopGhost
import Derived.BigQuiet
import Derived.Deep.QuietTactic
import Derived.Lib.Hide
import Derived.LoopN
namespace Go.Proofs.Ytabnpacponkmhaa.H
open Go.RowKit Go.Deep Go.Proofs.YtabnpacponkmhaaW.PrintWords
set_option linter.unusedVariables false
set_option linter.unusedSimpArgs false
theorem infoInt : (Try.prog.info? 3).map (fun i => (i.zero, i.size, i.bytes)) = some (some (.int .i64 0), 1, 8) := by kernel_rfl
theorem uSlInt : Try.prog.underlying 25 = some (.slice 3) := Try.underlying25
/-- A line: its struct's block g, its list's block; both in S. -/
def LineIs (w : World) (g : Nat) (S : Nat → Prop) (l : List Int) : Prop :=
  ∃ v, w.heap[g]? = some (.cells #[v] 66 (0, 0)) ∧ Own encI 3 1 w 0 v l ∧ S g ∧ ∀ k, v.ownBlock = some k → S k ∧ k ≠ g
theorem LineIs.upd {w w' : World} {g : Nat} {S T : Nat → Prop} {l : List Int} (h : LineIs w g S l) (u : Upd T w w') (hd : ∀ k, S k → ¬ T k) : LineIs w' g S l := by
  obtain ⟨v, hb, ho, hg, hk⟩ := h
  exact ⟨v, u.heap hb (hd g hg), ho.upd u (fun k e => hd k (hk k e).1), hg, hk⟩
theorem LineIs.mono {w : World} {g : Nat} {S S' : Nat → Prop} {l : List Int} (h : LineIs w g S l) (hs : ∀ k, S k → S' k) : LineIs w g S' l := by
  obtain ⟨v, hb, ho, hg, hk⟩ := h
  exact ⟨v, hb, ho, hs _ hg, fun k e => ⟨hs _ (hk k e).1, (hk k e).2⟩⟩
theorem LineIs.lt {w : World} {g : Nat} {S : Nat → Prop} {l : List Int} (h : LineIs w g S l) : g < w.heap.size := by
  obtain ⟨v, hb, _⟩ := h
  exact blk_lt hb
/-- Only blocks that are there count. -/
theorem LineIs.tight {w : World} {g : Nat} {S : Nat → Prop} {l : List Int} (h : LineIs w g S l) : LineIs w g (fun k => S k ∧ k < w.heap.size) l := by
  obtain ⟨v, hb, ho, hg, hk⟩ := h
  exact ⟨v, hb, ho, ⟨hg, blk_lt hb⟩, fun k e => ⟨⟨(hk k e).1, (ho.block_lt e).2⟩, (hk k e).2⟩⟩
theorem newLine_c (w : World) : Calls Try.prog 8 #[] w fun e w' => e = .returned (.pointer (some ⟨w.heap.size, 0, none⟩)) ∧ LineIs w' w.heap.size (fun k => k = w.heap.size) [] ∧ Below w.heap.size w w' := by
  go_enter Try.func8, Try.ntmps8
  go_wp2
  go_ret
  exact ⟨rfl, ⟨.slice none 0 0, heap_alloc_new w _, Own.nil _ _ _ _ _, rfl, by simp [Value.ownBlock]⟩, (Below.refl _ _).alloc (Nat.le_refl _) _⟩
/-- The place of x, or -1. -/
def ix (l : List Int) (x : Int) : Int := if x ∈ l then (l.idxOf x : Int) else -1
theorem ix_at {l : List Int} {x : Int} {k : Nat} (h : l[k]? = some x) (hn : x ∉ l.take k) : ix l x = k := by
  have hk := (List.getElem?_eq_some_iff.1 h).1
  have hm : x ∈ l := List.mem_of_getElem? h
  have e : l = l.take k ++ x :: l.drop (k + 1) := by
    have : l[k] = x := by rw [List.getElem?_eq_getElem hk] at h; exact Option.some.inj h
    rw [← this, ← List.drop_eq_getElem_cons hk, List.take_append_drop]
  have hi : l.idxOf x = k := by
    conv => lhs; rw [e]
    rw [List.idxOf_append, if_neg hn, List.idxOf_cons_self, List.length_take]
    omega
  simp [ix, hm, hi]
theorem ix_none {l : List Int} {x : Int} (h : x ∉ l) : ix l x = -1 := by simp [ix, h]
theorem not_mem_take_succ {l : List Int} {x y : Int} {k : Nat} (h : l[k]? = some y) (hn : x ∉ l.take k) (hy : x ≠ y) : x ∉ l.take (k + 1) := by
  rw [take_succ_of h, List.mem_append, List.mem_singleton]
  rintro (h' | h')
  · exact hn h'
  · exact hy h'
theorem index_c (A : Option Addr) (c : Nat) (l : List Int) (x : Int) (w : World) (hs : Sl encI 1 w A l) :
    Calls Try.prog 33 #[.slice A l.length c, .int .i64 x] w fun e w' => e = .returned (.int .i64 (ix l x)) ∧ w = w' := by
  have hm := hs.1
  go_enter Try.func33, Try.ntmps33
  go_wp2
  go_loopg [8] l.length (fun gk v8 wr => ∃ k : Nat, gk = l.length - k ∧ k ≤ l.length ∧ v8 = .int .i64 k ∧ x ∉ l.take k ∧ w = wr)
  case atStart => exact ⟨0, by omega, by omega, rfl, by simp, rfl⟩
  case round =>
    obtain ⟨k, hg, hk, rfl, hn, rfl⟩ := hrel
    have HG := Lib.hid hg
    have HN := Lib.hid hn
    clear hg hn
    by_cases hlt : k < l.length
    · obtain ⟨y, hy⟩ := getElem?_of_lt hlt
      obtain ⟨b, o, rfl, hbl, hc⟩ := hs.at hy
      have c0 : w.cell? ⟨b, o + k, none⟩ = some (.int .i64 y) := by simpa using hc 0 _ rfl
      have HY := Lib.hid hy
      have HS := Lib.hid hs
      clear hy hc hs
      by_cases e : x = y
      · have e1 : (x == y) = true := by simpa using e
        have hfin := ix_at (by rw [HY.out, ← e]) HN.out
        have HF := Lib.hid hfin
        clear e hfin
        go_wp2
        go_ret
        exact ⟨by rw [HF.out]; simp, rfl⟩
      · have e1 : (x == y) = false := by simpa using e
        have HE := Lib.hid (not_mem_take_succ HY.out HN.out e)
        clear e
        go_wp2
        go_roundg (l.length - (k + 1))
        case measure => have := HG.out; omega
        case rel => exact ⟨k + 1, rfl, by omega, by go_num, HE.out, rfl⟩
    · have hkk : k = l.length := by omega
      subst hkk
      have hfin := ix_none (l := l) (x := x) (by have := HN.out; rwa [List.take_length] at this)
      have HF := Lib.hid hfin
      clear hfin hs
      go_wp2
      go_ret
      exact ⟨by rw [HF.out]; simp, rfl⟩
theorem contains_c (A : Option Addr) (c : Nat) (l : List Int) (x : Int) (w : World) (hs : Sl encI 1 w A l) :
    Calls Try.prog 32 #[.slice A l.length c, .int .i64 x] w fun e w' => e = .returned (.bool (decide (x ∈ l))) ∧ w = w' := by
  by_cases h : x ∈ l
  · have hi : 0 ≤ ix l x := by simp [ix, h]
    go_enter Try.func32, Try.ntmps32
    go_wp2_with (go_at_call 33; refine (index_c _ _ _ _ _ hs).mono ?_; rintro e w' ⟨rfl, rfl⟩)
    go_ret
    exact ⟨by simp [h], rfl⟩
  · have hi : ix l x < 0 := by simp [ix, h]
    go_enter Try.func32, Try.ntmps32
    go_wp2_with (go_at_call 33; refine (index_c _ _ _ _ _ hs).mono ?_; rintro e w' ⟨rfl, rfl⟩)
    go_ret
    exact ⟨by simp [h]; omega, rfl⟩
theorem first_c (g : Nat) (S : Nat → Prop) (l : List Int) (w : World) (h : LineIs w g S l) :
    Calls Try.prog 13 #[.pointer (some ⟨g, 0, none⟩)] w fun e w' => e = .returned (.tuple #[.int .i64 (l.headD 0), .bool (decide (l ≠ []))]) ∧ w = w' := by
  obtain ⟨v, hb, ho, hg, hk⟩ := h
  have c0 : w.cell? ⟨g, 0, none⟩ = some v := (blk_cell hb 0).trans rfl
  obtain ⟨A, c, rfl, hlc, hs, hne⟩ := ho.slice (fun x => (okI x).1)
  clear ho hk hb
  rcases l with _ | ⟨x, l⟩
  · have HS := Lib.hid hs
    clear hs hne
    go_enter Try.func13, Try.ntmps13
    go_wp2
    go_ret2
    exact ⟨by simp, rfl⟩
  · obtain ⟨b, o, rfl, hbl, hc⟩ := hs.at (i := 0) (x := x) rfl
    have c1 : w.cell? ⟨b, o, none⟩ = some (.int .i64 x) := by simpa using hc 0 _ rfl
    have HS := Lib.hid hs
    have hlen : 0 < (x :: l).length := by simp
    clear hs hne hc
    go_enter Try.func13, Try.ntmps13
    go_wp2
    go_ret2
    exact ⟨by simp, rfl⟩
end Go.Proofs.Ytabnpacponkmhaa.H
