/- What LineFair keeps, and place. Conditions: none but of lengths. -/
import Derived.Test.YtabnpacponkmhaaHLine2
namespace Go.Proofs.Ytabnpacponkmhaa.H
open Go.RowKit Go.Deep Go.Proofs.YtabnpacponkmhaaW.PrintWords
set_option linter.unusedVariables false
set_option linter.unusedSimpArgs false
abbrev OpT := Int × Int × Bool
def encOp (o : OpT) : List Value := [.int .i64 o.1, .int .i64 o.2.1, .bool o.2.2]
abbrev kOp : Kd OpT := Kd.pair (Kd.int .i64) (Kd.pair (Kd.int .i64) Kd.bool)
def QOp (y : OpT) : Prop := (Lit.int .i64 y.1).wf = true ∧ (Lit.int .i64 y.2.1).wf = true ∧ True
theorem rd_op : Rd kOp Try.prog 27 QOp :=
  Rd.struct Try.underlying27 (by kernel_rfl) (.cons (Rd.int Try.underlying3) rfl (by kernel_rfl) (.cons (Rd.int Try.underlying3) rfl (by kernel_rfl) (.one (Rd.bool Try.underlying4) rfl (by kernel_rfl))))
theorem form_op {w : World} {y : OpT} {cs : List Value} (h : kOp.K w y cs) : cs = encOp y := by
  obtain ⟨c0, c1, rfl, h0, c2, c3, rfl, h2, h3⟩ := h
  simp only [Kd.int, Kd.bool, Kd.scalar] at h0 h2 h3
  subst h0 h2 h3
  rfl
theorem rd_ops : Rd (Kd.slice 27 kOp) Try.prog 22 (fun xs => xs.length * Try.prog.bytesOf 27 ≤ 140737488351232 ∧ ∀ x ∈ xs, QOp x) := Rd.slice Try.underlying22 (by kernel_rfl) rd_op
theorem sl_ops {w : World} {A : Option Addr} {l : List OpT} (h : kOp.C w A l.length l) : Sl encOp 3 w A l := Sl.of_C (fun _ _ _ hk => form_op hk) rfl (fun _ => by simp [encOp]) h
theorem place_c (A : Option Addr) (c : Nat) (l : List Int) (x : Int) (w : World) (hs : Sl encI 1 w A l) :
    Calls Try.prog 9 #[.slice A l.length c, .int .i64 x] w fun e w' => e = .returned (.int .i64 (ix l x)) ∧ w = w' := by
  have hm := hs.1
  go_enter Try.func9, Try.ntmps9
  go_wp2
  go_loopg [5] l.length (fun gk v8 wr => ∃ k : Nat, gk = l.length - k ∧ k ≤ l.length ∧ v8 = .int .i64 k ∧ x ∉ l.take k ∧ w = wr)
  case atStart => exact ⟨0, by omega, by omega, rfl, by simp, rfl⟩
  case round =>
    obtain ⟨k, hg, hk, rfl, hn, rfl⟩ := hrel
    have HG := Lib.hid hg
    have HN := Lib.hid hn
    clear hg hn
    by_cases hlt : k < l.length
    · obtain ⟨y, hy⟩ := getElem?_of_lt hlt
      obtain ⟨b, o, rfl, hbl, hc⟩ := hs.at hy
      have c0 : w.cell? ⟨b, o + k, none⟩ = some (.int .i64 y) := by simpa using hc 0 _ rfl
      have HY := Lib.hid hy
      have HS := Lib.hid hs
      clear hy hc hs
      by_cases e : y = x
      · have e1 : (y == x) = true := by simpa using e
        have hfin := ix_at (by rw [HY.out, e]) HN.out
        have HF := Lib.hid hfin
        clear e hfin
        go_wp2
        go_ret
        exact ⟨by rw [HF.out]; simp, rfl⟩
      · have e1 : (y == x) = false := by simpa using e
        have HE := Lib.hid (not_mem_take_succ HY.out HN.out (fun h => e h.symm))
        clear e
        go_wp2
        go_roundg (l.length - (k + 1))
        case measure => have := HG.out; omega
        case rel => exact ⟨k + 1, rfl, by omega, by go_num, HE.out, rfl⟩
    · have hkk : k = l.length := by omega
      subst hkk
      have hfin := ix_none (l := l) (x := x) (by have := HN.out; rwa [List.take_length] at this)
      have HF := Lib.hid hfin
      clear hfin hs
      go_wp2
      go_ret
      exact ⟨by rw [HF.out]; simp, rfl⟩
/-- The line g holds m; v4, v5 are rows of the call's own, and none lies in another. -/
structure Fair (w0 w : World) (g : Nat) (v4 v5 : Value) (m l s : List Int) : Prop where
  below : Below w0.heap.size w0 w
  who : Own encI 3 1 w w0.heap.size v4 l
  since : Own encI 3 1 w w0.heap.size v5 s
  apart : ∀ k, v4.ownBlock = some k → v5.ownBlock ≠ some k
  line : ∃ S, LineIs w g S m ∧ ∀ k, S k → w0.heap.size ≤ k ∧ k < w.heap.size ∧ v4.ownBlock ≠ some k ∧ v5.ownBlock ≠ some k
theorem Fair.line_ {w0 w : World} {g : Nat} {v4 v5 : Value} {m l s : List Int} (h : Fair w0 w g v4 v5 m l s) :
    ∃ S, LineIs w g S m ∧ (∀ w' m', LineIs w' g (New S w) m' → Upd S w w' → Fair w0 w' g v4 v5 m' l s) := by
  obtain ⟨hb, hw, hs, ha, S, hl, hS⟩ := h
  refine ⟨S, hl, fun w' m' hl' hu => ⟨Upd.below hb hu (fun k hk => (hS k hk).1), hw.upd hu (fun k hk hs => (hS k hs).2.2.1 hk), hs.upd hu (fun k hk hs => (hS k hs).2.2.2 hk), ha, _, hl'.tight, ?_⟩⟩
  rintro k ⟨hk | hk, hlt⟩
  · exact ⟨(hS k hk).1, hlt, (hS k hk).2.2⟩
  · refine ⟨Nat.le_trans hb.size hk, hlt, fun e => ?_, fun e => ?_⟩
    · have := (hw.block_lt e).2; omega
    · have := (hs.block_lt e).2; omega
/-- The line's blocks lie apart from what comes next. -/
theorem Fair.line2 {w0 w : World} {g : Nat} {v4 v5 : Value} {m l s : List Int} (h : Fair w0 w g v4 v5 m l s) :
    ∃ S, LineIs w g S m ∧ (∀ k, S k → k < w.heap.size) ∧ (∀ w' m', LineIs w' g (New S w) m' → Upd S w w' → Fair w0 w' g v4 v5 m' l s) := by
  obtain ⟨hb, hw, hs, ha, S, hl, hS⟩ := h
  refine ⟨S, hl, fun k hk => (hS k hk).2.1, fun w' m' hl' hu => ⟨Upd.below hb hu (fun k hk => (hS k hk).1), hw.upd hu (fun k hk hs => (hS k hs).2.2.1 hk), hs.upd hu (fun k hk hs => (hS k hs).2.2.2 hk), ha, _, hl'.tight, ?_⟩⟩
  rintro k ⟨hk | hk, hlt⟩
  · exact ⟨(hS k hk).1, hlt, (hS k hk).2.2⟩
  · refine ⟨Nat.le_trans hb.size hk, hlt, fun e => ?_, fun e => ?_⟩
    · have := (hw.block_lt e).2; omega
    · have := (hs.block_lt e).2; omega
theorem tail_sl {w : World} {b c k : Nat} {l : List Int} (h : Sl encI 1 w (some ⟨b, 0, none⟩) l) (hk : k < l.length) (hc : l.length ≤ c) : Sl encI 1 w (if c = k + 1 then some ⟨b, 0, none⟩ else some ⟨b, k + 1, none⟩) (l.drop (k + 1)) := by
  split
  · have e : l.drop (k + 1) = [] := List.drop_eq_nil_of_le (by omega)
    rw [e]; exact Sl.nil _ _ _ _
  · simpa using h.drop_ (k + 1)
theorem own_sl {w : World} {base : Nat} {A : Option Addr} {n c : Nat} {l : List Int} (h : Own encI 3 1 w base (.slice A n c) l) : Sl encI 1 w A l := by
  obtain ⟨A', c', hv, _, hs, _⟩ := h.slice (fun x => (okI x).1)
  injection hv with h1 h2 h3
  subst h1
  exact hs
/-- A cell of a block that is none of the rows' stays through an append. -/
theorem cell_grown {w w' : World} {v : Value} {q j : Nat} {u : Value} (hc : w.cell? ⟨q, j, none⟩ = some u) (hg : w.grownBy w' v.ownBlock) (hn : ∀ k, v.ownBlock = some k → k ≠ q) : w'.cell? ⟨q, j, none⟩ = some u :=
  (Upd.of_grown (S := fun k => v.ownBlock = some k) hg (fun k hk => hk)).cell hc (fun h => hn q h rfl)
theorem cell_alloc {w : World} {q j : Nat} {u : Value} (o : Obj) (hc : w.cell? ⟨q, j, none⟩ = some u) : (w.alloc o).cell? ⟨q, j, none⟩ = some u :=
  (Upd.alloc (S := fun _ => False) w o).cell hc (fun h => h)
theorem Fair.later {w0 w w' : World} {g : Nat} {v4 v5 : Value} {m l s : List Int} (h : Fair w0 w g v4 v5 m l s) (hb' : Below w.heap.size w w') : Fair w0 w' g v4 v5 m l s := by
  obtain ⟨S, hl, hf⟩ := h.line_
  exact hf w' m ((hl.upd (T := fun _ => False) (Upd.of_below hb') (fun _ _ h => h)).mono (fun k hk => .inl hk)) (Upd.of_below hb')
theorem Fair.who' {w0 w w' : World} {g : Nat} {v4 v4' v5 : Value} {m l l' s : List Int} (h : Fair w0 w g v4 v5 m l s) (ho : Own encI 3 1 w' w0.heap.size v4' l') (hg : w.grownBy w' v4.ownBlock) (ha : v4'.ownBlock = v4.ownBlock ∨ v4'.ownBlock = some w.heap.size) : Fair w0 w' g v4' v5 m l' s := by
  obtain ⟨hb, hw, hs, hx, S, hl, hS⟩ := h
  have hu : Upd (fun k => v4.ownBlock = some k) w w' := Upd.of_grown hg (fun k hk => hk)
  have hz := hu.size
  refine ⟨Upd.below hb hu (fun k hk => (hw.block_lt hk).1), ho, hs.upd hu (fun k hk h4 => hx k h4 hk), ?_, S, hl.upd hu (fun k hk h4 => (hS k hk).2.2.1 h4), ?_⟩
  · intro k hk h5
    rcases ha with e | e
    · exact hx k (by rw [← e]; exact hk) h5
    · rw [e] at hk; injection hk with hk; have := (hs.block_lt h5).2; omega
  · intro k hk
    refine ⟨(hS k hk).1, Nat.lt_of_lt_of_le (hS k hk).2.1 hz, fun h4 => ?_, (hS k hk).2.2.2⟩
    rcases ha with e | e
    · exact (hS k hk).2.2.1 (by rw [← e]; exact h4)
    · rw [e] at h4; injection h4 with h4; have := (hS k hk).2.1; omega
theorem Fair.since' {w0 w w' : World} {g : Nat} {v4 v5' v5 : Value} {m l s s' : List Int} (h : Fair w0 w g v4 v5 m l s) (ho : Own encI 3 1 w' w0.heap.size v5' s') (hg : w.grownBy w' v5.ownBlock) (ha : v5'.ownBlock = v5.ownBlock ∨ v5'.ownBlock = some w.heap.size) : Fair w0 w' g v4 v5' m l s' := by
  obtain ⟨hb, hw, hs, hx, S, hl, hS⟩ := h
  have hu : Upd (fun k => v5.ownBlock = some k) w w' := Upd.of_grown hg (fun k hk => hk)
  have hz := hu.size
  refine ⟨Upd.below hb hu (fun k hk => (hs.block_lt hk).1), hw.upd hu (fun k hk h5 => hx k hk h5), ho, ?_, S, hl.upd hu (fun k hk h5 => (hS k hk).2.2.2 h5), ?_⟩
  · intro k hk h5
    rcases ha with e | e
    · exact hx k hk (by rw [← e]; exact h5)
    · rw [e] at h5; injection h5 with h5; have := (hw.block_lt hk).2; omega
  · intro k hk
    refine ⟨(hS k hk).1, Nat.lt_of_lt_of_le (hS k hk).2.1 hz, (hS k hk).2.2.1, fun h5 => ?_⟩
    rcases ha with e | e
    · exact (hS k hk).2.2.2 (by rw [← e]; exact h5)
    · rw [e] at h5; injection h5 with h5; have := (hS k hk).2.1; omega
/-- What the two lists are: nobody twice; since rises, below i. -/
structure Sound (l s : List Int) (i : Nat) : Prop where
  nd : l.Nodup
  len : s.length = l.length
  up : s.Pairwise (· < ·)
  lt : ∀ x ∈ s, x < i
  short : l.length ≤ i
theorem Sound.nil : Sound [] [] 0 := ⟨List.nodup_nil, rfl, List.Pairwise.nil, by simp, Nat.le_refl _⟩
theorem Sound.next {l s : List Int} {i : Nat} (h : Sound l s i) : Sound l s (i + 1) := ⟨h.nd, h.len, h.up, fun x hx => by have := h.lt x hx; omega, by have := h.short; omega⟩
theorem Sound.join {l s : List Int} {i : Nat} {x : Int} (h : Sound l s i) (hx : x ∉ l) : Sound (l ++ [x]) (s ++ [(i : Int)]) (i + 1) := by
  refine ⟨?_, by simp [h.len], ?_, ?_, by simp; exact h.short⟩
  · rw [List.nodup_append]
    exact ⟨h.nd, by simp, fun a ha b hb e => by simp at hb; subst hb; subst e; exact hx ha⟩
  · rw [List.pairwise_append]
    exact ⟨h.up, by simp, fun a ha b hb => by simp at hb; subst hb; exact h.lt a ha⟩
  · intro y hy
    simp at hy
    rcases hy with hy | rfl
    · have := h.lt y hy; omega
    · omega
theorem Sound.leave {l s : List Int} {i k : Nat} (h : Sound l s i) : Sound (l.take k ++ l.drop (k + 1)) (s.take k ++ s.drop (k + 1)) (i + 1) := by
  have e : ∀ l : List Int, l.take k ++ l.drop (k + 1) = l.eraseIdx k := fun l => (List.eraseIdx_eq_take_drop_succ ..).symm
  rw [e, e]
  have s1 : (l.eraseIdx k).Sublist l := List.eraseIdx_sublist ..
  have s2 : (s.eraseIdx k).Sublist s := List.eraseIdx_sublist ..
  refine ⟨s1.nodup h.nd, ?_, h.up.sublist s2, fun x hx => ?_, ?_⟩
  · simp only [List.length_eraseIdx, h.len]
  · have := h.lt x (s2.subset hx); omega
  · have := s1.length_le; have := h.short; omega
theorem Sound.place {l s : List Int} {i k : Nat} {x : Int} (h : Sound l s i) (hk : l[k]? = some x) : ix l x = k := by
  refine ix_at hk ?_
  intro hm
  have := h.nd
  have hlt := (List.getElem?_eq_some_iff.1 hk).1
  have e : l = l.take k ++ l.drop k := (List.take_append_drop ..).symm
  rw [e, List.nodup_append] at this
  refine this.2.2 x hm x ?_ rfl
  rw [List.mem_iff_getElem?]
  exact ⟨0, by rw [List.getElem?_drop]; simpa using hk⟩
theorem Sound.first {l s : List Int} {i k : Nat} {x : Int} (h : Sound l s i) (hk : l[k]? = some x) : ix (l.take k) x = -1 := by
  refine ix_none ?_
  intro hm
  have := h.nd
  have e : l = l.take k ++ l.drop k := (List.take_append_drop ..).symm
  rw [e, List.nodup_append] at this
  refine this.2.2 x hm x ?_ rfl
  rw [List.mem_iff_getElem?]
  exact ⟨0, by rw [List.getElem?_drop]; simpa using hk⟩
theorem Sound.rises {l s : List Int} {i k : Nat} {x y : Int} (h : Sound l s i) (hk : s[k]? = some x) (hk' : s[k + 1]? = some y) : x < y := by
  have h1 := List.getElem?_eq_some_iff.1 hk
  have h2 := List.getElem?_eq_some_iff.1 hk'
  have := List.pairwise_iff_getElem.1 h.up k (k + 1) h1.1 h2.1 (by omega)
  rw [h1.2, h2.2] at this
  exact this
end Go.Proofs.Ytabnpacponkmhaa.H
