/- skip.List: Put as a whole; New. Conditions: sizes. -/
import Derived.Test.YtjbbobhjomhnmaaSk5
namespace Go.Proofs.Ytjbbobhjomhnmaa.H
open Go.RowKit Go.Deep Go.Shelf Go.Proofs Go.Proofs.YtjbbobhjomhnmaaW.PrintWords
set_option linter.unusedVariables false
set_option linter.unusedSimpArgs false
theorem put_c (g : Nat) (S : Nat → Prop) (l : List Nd) (draws : List Int) (e : Ent) (w : World) (h : SkIs w g S l draws) (hl : l.length < 2932031007319) :
    Calls Try.prog 26 #[.pointer (some ⟨g, 0, none⟩), .agg (encE e).toArray] w fun en w' =>
      (en = .returned (.bool false) ∧ Below w.heap.size w w' ∧ ∃ x ∈ l, samE x.e e) ∨
      (en = .returned (.bool true) ∧ Upd S w w' ∧ (∀ x ∈ l, ¬ samE x.e e) ∧ ∃ b pre post, w.heap.size ≤ b ∧ l = pre ++ post ∧ SkIs w' g (fun k => S k ∨ k = b) (pre ++ ⟨b, e, hgt draws l.length⟩ :: post) draws) := by
  obtain ⟨pre, post, rfl, h1, h2⟩ := split_at l h.order e
  refine (put1_c g S pre post draws e w h hl h1 h2).mono ?_
  rintro en w' (⟨rfl, hb, y, c, rfl, hy⟩ | ⟨rfl, hu, hn, b, hb, hs⟩)
  · exact .inl ⟨rfl, hb, y, by simp, (eqE_iff _ _).1 hy⟩
  · refine .inr ⟨rfl, hu, fun x hx hs => ?_, b, pre, post, hb, rfl, hs⟩
    rcases List.mem_append.1 hx with hx | hx
    · exact ltE_irrefl (samE_lt_l hs (h1 x hx))
    · exact ltE_irrefl (samE_lt_r hs (post_gt h.order h2 hn x hx))
theorem infoB : (Try.prog.info? 5).map (fun i => (i.zero, i.size, i.bytes)) = some (some (.int .u8 0), 1, 1) := by kernel_rfl
theorem uSlB : Try.prog.underlying 22 = some (.slice 5) := Try.underlying22
theorem okB : EncOk encB 1 := fun x => ⟨rfl, by simp [encB, Value.oneCell']⟩
theorem own_empty {α : Type} {enc : α → List Value} {sz : Nat} {base : Nat} (w : World) (e : TypeId) (hb : base ≤ w.heap.size) : Own enc e sz (w.alloc (.cells #[] e)) base (.slice (some ⟨w.heap.size, 0, none⟩) 0 0) [] :=
  ⟨by simp, .inr ⟨w.heap.size, 0, #[], rfl, hb, heap_alloc_new _ _, Nat.le_refl _, by simp [maxLen], by simp, by simp⟩⟩
theorem own_slice {α : Type} {enc : α → List Value} {e : TypeId} {sz : Nat} {w : World} {base : Nat} {v : Value} {l : List α} (h : Own enc e sz w base v l) : ∃ A c, v = .slice A l.length c := by
  rcases h.2 with ⟨hv, hn⟩ | ⟨g, cap, cur, hv, _⟩
  · exact ⟨_, _, by rw [hn]; exact hv⟩
  · exact ⟨_, _, hv⟩
set_option maxHeartbeats 1600000 in
set_option maxRecDepth 100000 in
theorem clone_c (A : Option Addr) (c : Nat) (l : List Int) (w : World) (hs : Sl encB 1 w A l) (hl : l.length < 140737488351233) :
    Calls Try.prog 58 #[.slice A l.length c] w fun e w' => ∃ v, e = .returned v ∧ Own encB 5 1 w' w.heap.size v l ∧ Below w.heap.size w w' := by
  have HS := Lib.hid hs
  clear hs
  rcases A with _ | a
  · have hnil : ∀ w : World, (binOp .eql 22 (.slice none l.length c) (.slice none 0 0)).run Try.prog w = .ok (.bool true) w := fun _ => rfl
    go_enter Try.func58, Try.ntmps58
    go_wp2
    go_ret
    have hl0 : l = [] := by
      rcases HS.out.2 with h | ⟨b, o, h, _⟩
      · exact h
      · cases h
    subst hl0
    exact ⟨_, rfl, Own.nil _ _ _ _ _, Below.refl _ _⟩
  · have hnil : ∀ w : World, (binOp .eql 22 (.slice (some a) l.length c) (.slice none 0 0)).run Try.prog w = .ok (.bool false) w := fun _ => rfl
    go_enter Try.func58, Try.ntmps58
    go_wp2_with (at_builtin; refine wpList_app rfl (.tmp 5) (.tmp 6) rfl uSlB infoB rfl (by decide) (by decide) okB (.slice (some ⟨w.heap.size, 0, none⟩) 0 0) [] rfl (base := w.heap.size) ?c1 (some a) c l rfl ?c2 ?c3 ?c4 ?_)
    case c1 => exact own_empty w _ (Nat.le_refl _)
    case c2 => exact HS.out.later ((Below.refl _ _).alloc (Nat.le_refl _) _)
    case c3 => simp; omega
    case c4 => simp
    intro v1 w1 ho1 hg1 hat1
    have hb1 : Below w.heap.size w w1 := ((Below.refl _ _).alloc (Nat.le_refl _) _).grown hg1 (by simp) (by intro k hk; simp [Value.ownBlock] at hk; omega)
    have HO := Lib.hid ho1
    have HB := Lib.hid hb1
    clear ho1 hg1 hat1 hb1
    go_wp2
    go_ret
    exact ⟨v1, rfl, by simpa using HO.out, HB.out⟩
/-- A new list. -/
theorem nodes_new {w : World} {g : Nat} {cs : Array Value} {t : TypeId} (h : w.heap[g]? = some (.cells cs t (0, 0))) (hc : ∀ i, i < 12 → cs[5 + i]? = some (.pointer none)) : NodesAt w g [] :=
  ⟨fun i hi => (blk_cell h _).trans (hc i hi), fun a x c hl => by simp at hl⟩
set_option maxHeartbeats 1600000 in
set_option maxRecDepth 100000 in
theorem new_c (A : Option Addr) (c : Nat) (l : List Int) (w : World) (hs : Sl encB 1 w A l) (hl : l.length < 140737488351233) (hby : ∀ x ∈ l, U8 x) :
    Calls Try.prog 13 #[.slice A l.length c] w fun e w' => ∃ g, e = .returned (.pointer (some ⟨g, 0, none⟩)) ∧ w.heap.size ≤ g ∧ SkIs w' g (fun k => w.heap.size ≤ k ∧ k < w'.heap.size) [] l ∧ Below w.heap.size w w' := by
  have HC := Lib.hid (clone_c A c l w hs hl)
  have HBY := Lib.hid hby
  clear hs hby
  go_enter Try.func13, Try.ntmps13
  go_wp2_with (go_at_call 58; refine HC.out.mono ?_; rintro en w2 ⟨v, rfl, hown, hb⟩; obtain ⟨A2, c2, rfl⟩ := own_slice hown)
  go_ret
  obtain ⟨_, _, hv, _, hsl, hbl⟩ := hown.slice (fun _ => rfl)
  injection hv with hv1 _ hv2
  subst hv1; subst hv2
  have hle := hb.size
  refine ⟨w2.heap.size, rfl, hle, ⟨nodes_new (heap_alloc_new _ _) ?_, List.Pairwise.nil, ⟨_, A2, c2, heap_alloc_new _ _, rfl, rfl, ?_, ?_⟩, by simp, by simp, ⟨⟨hle, by simp⟩, by simp⟩, HBY.out⟩, hb.alloc hle _⟩
  · intro i hi
    rcases (by omega : i = 0 ∨ i = 1 ∨ i = 2 ∨ i = 3 ∨ i = 4 ∨ i = 5 ∨ i = 6 ∨ i = 7 ∨ i = 8 ∨ i = 9 ∨ i = 10 ∨ i = 11) with rfl | rfl | rfl | rfl | rfl | rfl | rfl | rfl | rfl | rfl | rfl | rfl <;> rfl
  · exact hsl.later ((Below.refl _ _).alloc (Nat.le_refl _) _)
  · intro b o hne hA
    subst hA
    have := hown.block_lt (k := b) rfl
    exact ⟨⟨this.1, by simp; omega⟩, by omega, by simp⟩
end Go.Proofs.Ytjbbobhjomhnmaa.H
