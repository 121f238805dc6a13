/- skip.List as a list of entries and heights: the calls' contracts. Conditions: sizes. -/
import Derived.Test.YtjbbobhjomhnmaaSk12
namespace Go.Proofs.Ytjbbobhjomhnmaa.H
open Go Go.RowKit Go.Deep Go.Shelf Go.Proofs Go.Proofs.YtjbbobhjomhnmaaW.PrintWords
set_option linter.unusedVariables false
set_option linter.unusedSimpArgs false
abbrev EH := Ent × Nat
def hasL (L : List EH) (e : Ent) : Bool := L.any (fun y => decide (cmpEE y.1 e = 0))
def insL (L : List EH) (x : EH) : List EH := L.filter (fun y => decide (ltE y.1 x.1)) ++ x :: L.filter (fun y => !decide (ltE y.1 x.1))
def putS (draws : List Int) (L : List EH) (e : Ent) : List EH := if hasL L e = true then L else insL L (e, hgt draws L.length)
def ehs (l : List Nd) : List EH := l.map (fun x => (x.e, x.high))
theorem ehs_len (l : List Nd) : (ehs l).length = l.length := by simp [ehs]
/-- The list at g. -/
def SkL (w : World) (g : Nat) (S : Nat → Prop) (draws : List Int) (L : List EH) : Prop := ∃ l, SkIs w g S l draws ∧ ehs l = L ∧ ∀ k, S k → k < w.heap.size
theorem SkIs.upd {w w' : World} {g : Nat} {S T : Nat → Prop} {l : List Nd} {draws : List Int} (h : SkIs w g S l draws) (hu : Upd T w w') (hT : ∀ k, S k → ¬ T k) : SkIs w' g S l draws := by
  obtain ⟨cs, A, c, hr, h17, h18, hs, hd⟩ := h.row
  have hg : w'.heap[g]? = w.heap[g]? := hu.block g (blk_lt hr) (hT g h.own.1)
  have hx : ∀ x ∈ l, w'.heap[x.b]? = w.heap[x.b]? := fun x hx => by
    obtain ⟨cs, hc⟩ := h.rows x hx
    exact hu.block _ (blk_lt hc) (hT _ (h.own.2 x hx))
  have mv : ∀ {b o : Nat} {v : Value}, w'.heap[b]? = w.heap[b]? → w.cell? ⟨b, o, none⟩ = some v → w'.cell? ⟨b, o, none⟩ = some v := fun {b o v} hb hv => (World.cell?_of_block (w := w) (a := ⟨b, o, none⟩) hb).trans hv
  refine ⟨⟨fun k hk => mv hg (h.nodes.head k hk), fun a x c hl => ?_⟩, h.order, ⟨cs, A, c, hg.trans hr, h17, h18, ?_, hd⟩, fun x hx' => by obtain ⟨cs, hc⟩ := h.rows x hx'; exact ⟨cs, (hx x hx').trans hc⟩, h.apart, h.own, h.bytes⟩
  · obtain ⟨h1, h2, h3, h4, h5⟩ := h.nodes.node a x c hl
    have hxm := hx x (by rw [hl]; simp)
    exact ⟨fun i v hv => mv hxm (h1 i v hv), mv hxm h2, h3, h4, fun k hk => mv hxm (h5 k hk)⟩
  · rcases Classical.em (draws = []) with rfl | hne
    · exact Sl.nil _ _ _ _
    · exact hs.upd hu (fun b o hA => hT b (hd b o hne hA).1)
theorem SkL.upd {w w' : World} {g : Nat} {S T : Nat → Prop} {draws : List Int} {L : List EH} (h : SkL w g S draws L) (hu : Upd T w w') (hT : ∀ k, S k → ¬ T k) : SkL w' g S draws L := by
  obtain ⟨l, h1, h2, h3⟩ := h
  exact ⟨l, h1.upd hu hT, h2, fun k hk => Nat.lt_of_lt_of_le (h3 k hk) hu.size⟩
theorem SkL.later {w w' : World} {g : Nat} {S : Nat → Prop} {draws : List Int} {L : List EH} (h : SkL w g S draws L) (hb : Below w.heap.size w w') : SkL w' g S draws L := by
  obtain ⟨l, h1, h2, h3⟩ := h
  exact ⟨l, h1.later hb, h2, fun k hk => Nat.lt_of_lt_of_le (h3 k hk) hb.size⟩
theorem SkL.drew {w : World} {g : Nat} {S : Nat → Prop} {draws : List Int} {L : List EH} (h : SkL w g S draws L) : SkL w.drew g S draws L := h.upd (Upd.drew (S := fun _ => False) w) (fun _ _ h => h)
theorem SkL.g_lt {w : World} {g : Nat} {S : Nat → Prop} {draws : List Int} {L : List EH} (h : SkL w g S draws L) : g < w.heap.size := by
  obtain ⟨l, h1, h2, h3⟩ := h
  exact h1.lt.1
theorem SkL.lt {w : World} {g : Nat} {S : Nat → Prop} {draws : List Int} {L : List EH} (h : SkL w g S draws L) : ∀ k, S k → k < w.heap.size := by
  obtain ⟨l, h1, h2, h3⟩ := h
  exact h3
theorem SkL.sorted {w : World} {g : Nat} {S : Nat → Prop} {draws : List Int} {L : List EH} (h : SkL w g S draws L) : L.Pairwise (fun x y => ltE x.1 y.1) := by
  obtain ⟨l, h1, rfl, _⟩ := h
  exact List.pairwise_map.2 h1.order
theorem ehs_fst (l : List Nd) : (ehs l).map (·.1) = l.map (·.e) := by simp [ehs]
theorem insL_split {pre post : List Nd} {e : Ent} {h : Nat} (h1 : ∀ x ∈ pre, ltE x.e e) (h2 : ∀ x ∈ post, ¬ ltE x.e e) : insL (ehs (pre ++ post)) (e, h) = ehs pre ++ (e, h) :: ehs post := by
  unfold insL ehs
  rw [List.map_append, List.filter_append, List.filter_append]
  rw [List.filter_eq_self.2 (show ∀ a ∈ pre.map (fun x => (x.e, x.high)), decide (ltE a.1 e) = true from fun a ha => by obtain ⟨x, hx, rfl⟩ := List.mem_map.1 ha; simpa using h1 x hx),
    List.filter_eq_nil_iff.2 (show ∀ a ∈ post.map (fun x => (x.e, x.high)), ¬ decide (ltE a.1 e) = true from fun a ha => by obtain ⟨x, hx, rfl⟩ := List.mem_map.1 ha; simpa using h2 x hx),
    List.filter_eq_nil_iff.2 (show ∀ a ∈ pre.map (fun x => (x.e, x.high)), ¬ (!decide (ltE a.1 e)) = true from fun a ha => by obtain ⟨x, hx, rfl⟩ := List.mem_map.1 ha; simpa using h1 x hx),
    List.filter_eq_self.2 (show ∀ a ∈ post.map (fun x => (x.e, x.high)), (!decide (ltE a.1 e)) = true from fun a ha => by obtain ⟨x, hx, rfl⟩ := List.mem_map.1 ha; simpa using h2 x hx)]
  simp
theorem hasL_ehs (l : List Nd) (e : Ent) : hasL (ehs l) e = true ↔ ∃ x ∈ l, samE x.e e := by
  unfold hasL ehs
  simp only [List.any_map, List.any_eq_true, Function.comp, decide_eq_true_eq]
  exact ⟨fun ⟨x, hx, h⟩ => ⟨x, hx, (eqE_iff _ _).1 h⟩, fun ⟨x, hx, h⟩ => ⟨x, hx, (eqE_iff _ _).2 h⟩⟩
theorem put_L (g : Nat) (S : Nat → Prop) (draws : List Int) (L : List EH) (e : Ent) (w : World) (h : SkL w g S draws L) (hl : L.length < 2932031007319) :
    Calls Try.prog 26 #[.pointer (some ⟨g, 0, none⟩), .agg (encE e).toArray] w fun en w' => en = .returned (.bool (!hasL L e)) ∧ Upd S w w' ∧ ∃ S', Grow S S' w ∧ SkL w' g S' draws (putS draws L e) := by
  obtain ⟨l, hs, rfl, hlt⟩ := h
  obtain ⟨pre, post, rfl, h1, h2⟩ := split_at l hs.order e
  refine (put1_c g S pre post draws e w hs (by rw [ehs_len] at hl; exact hl) h1 h2).mono ?_
  rintro en w' (⟨rfl, hb, y, c, rfl, hy⟩ | ⟨rfl, hu, hn, b, hb, hs'⟩)
  · have hh : hasL (ehs (pre ++ y :: c)) e = true := (hasL_ehs _ _).2 ⟨y, by simp, (eqE_iff _ _).1 hy⟩
    refine ⟨by rw [hh]; rfl, Upd.of_below hb, S, Grow.refl _ _, ?_⟩
    unfold putS
    rw [if_pos hh]
    exact ⟨_, hs.later hb, rfl, fun k hk => Nat.lt_of_lt_of_le (hlt k hk) hb.size⟩
  · have hh : ¬ hasL (ehs (pre ++ post)) e = true := fun hh => by
      obtain ⟨x, hx, hs2⟩ := (hasL_ehs _ _).1 hh
      rcases List.mem_append.1 hx with hx | hx
      · exact ltE_irrefl (samE_lt_l hs2 (h1 x hx))
      · exact ltE_irrefl (samE_lt_r hs2 (post_gt hs.order h2 hn x hx))
    refine ⟨by rw [Bool.eq_false_iff.2 hh]; rfl, hu, fun k => S k ∨ k = b, fun k hk => by rcases hk with h | rfl; exact .inl h; exact .inr hb, ?_⟩
    unfold putS
    rw [if_neg hh, ehs_len, insL_split h1 h2]
    refine ⟨_, hs', by simp [ehs], fun k hk => ?_⟩
    rcases hk with hk | rfl
    · exact Nat.lt_of_lt_of_le (hlt k hk) hu.size
    · exact hs'.lt.2 ⟨k, e, hgt draws (pre ++ post).length⟩ (by simp)
theorem new_L (A : Option Addr) (c : Nat) (l : List Int) (w : World) (hs : Sl encB 1 w A l) (hl : l.length < 140737488351233) (hby : ∀ x ∈ l, U8 x) :
    Calls Try.prog 13 #[.slice A l.length c] w fun e w' => ∃ g S, e = .returned (.pointer (some ⟨g, 0, none⟩)) ∧ (∀ k, S k → w.heap.size ≤ k) ∧ SkL w' g S l [] ∧ Below w.heap.size w w' :=
  (new_c A c l w hs hl hby).mono fun e w' ⟨g, he, hg, hsk, hb⟩ => ⟨g, _, he, fun k hk => hk.1, ⟨[], hsk, rfl, fun k hk => hk.2⟩, hb⟩
def allE (L : List EH) : List Ent := L.map (·.1)
def allH (L : List EH) : List Int := L.map (fun x => (x.2 : Int))
theorem from_L (g : Nat) (S : Nat → Prop) (draws : List Int) (L : List EH) (k : ByteArray) (q : Int) (w0 w : World) (h : SkL w0 g S draws L) (hb0 : Below w0.heap.size w0 w) :
    Calls Try.prog 17 #[.pointer (some ⟨g, 0, none⟩), .string k, .int .u64 q] w fun e w' => ∃ f, e = .returned f ∧ IterV Try.prog f encA w0.heap.size (notAhead k q (allE L)) w' ∧ Below w.heap.size w w' := by
  obtain ⟨l, hs, rfl, hlt⟩ := h
  rw [show allE (ehs l) = l.map (·.e) from ehs_fst l]
  exact from_v g S l draws k q w0 w hs hb0
theorem seek_L (g : Nat) (S : Nat → Prop) (draws : List Int) (L : List EH) (k : ByteArray) (q : Int) (w : World) (h : SkL w g S draws L) :
    Calls Try.prog 29 #[.pointer (some ⟨g, 0, none⟩), .string k, .int .u64 q] w fun e w' =>
      e = .returned (.tuple #[.agg (encE ((notAhead k q (allE L)).headD zeroE)).toArray, .bool (!(notAhead k q (allE L)).isEmpty)]) ∧ Below w.heap.size w w' := by
  obtain ⟨l, hs, rfl, hlt⟩ := h
  rw [show allE (ehs l) = l.map (·.e) from ehs_fst l]
  exact seek_c g S l draws k q w hs
theorem len_L (g : Nat) (S : Nat → Prop) (draws : List Int) (L : List EH) (w : World) (h : SkL w g S draws L) : Calls Try.prog 24 #[.pointer (some ⟨g, 0, none⟩)] w fun e w' => e = .returned (.int .i64 L.length) ∧ w = w' := by
  obtain ⟨l, hs, rfl, hlt⟩ := h
  rw [ehs_len]
  exact len_c g S l draws w hs
theorem towers_L (g : Nat) (S : Nat → Prop) (draws : List Int) (L : List EH) (w : World) (h : SkL w g S draws L) (hl : L.length < 2932031007319) :
    Calls Try.prog 27 #[.pointer (some ⟨g, 0, none⟩)] w fun e w' => ∃ v, e = .returned v ∧ Own encI 3 1 w' w.heap.size v (allH L) ∧ Below w.heap.size w w' := by
  obtain ⟨l, hs, rfl, hlt⟩ := h
  rw [show allH (ehs l) = highs l by simp [allH, ehs, highs]]
  exact towers_c g S l draws w hs (by rw [ehs_len] at hl; exact hl)
end Go.Proofs.Ytjbbobhjomhnmaa.H
