/- pile.Heap of merge's sources: New, Push, Pop (gensheap.py). Conditions: fewer than 2^40 stand in it. -/
import Derived.Test.YtdpijhpjicbecaaSHeap
namespace Go.Proofs.Ytdpijhpjicbecaa.H
open Go.RowKit Go.Deep Go.Proofs Go.Proofs.YtdpijhpjicbecaaW.PrintWords
set_option linter.unusedVariables false
set_option linter.unusedSimpArgs false
variable {D : Nat → Prop}
theorem Stays.since {S : Nat → Prop} (w : World) : Stays (New S w) (fun W => Upd S w W) := fun w1 w2 h u => h.step u (fun i hi => hi)
theorem LessI.weaken {F : Nat} {caps : Array Value} {E E' : World → Prop} {lt : Cu D → Cu D → Bool} (h : LessI F caps E lt) (he : ∀ W, E' W → E W) : LessI F caps E' lt := ⟨h.ent, fun w x y e => h.run w x y (he w e)⟩
theorem LessI.since {F : Nat} {caps : Array Value} {E : World → Prop} {lt : Cu D → Cu D → Bool} {S : Nat → Prop} {w : World} (h : LessI F caps E lt) (hE : E w) (hS : Stays S E) : LessI F caps (fun W => Upd S w W) lt := h.weaken (fun W u => hS w W hE u)
theorem newHeap_c (F : Nat) (caps : Array Value) (w : World) : Calls Try.prog 60 #[.func (.func F) #[] caps] w fun e w' => e = .returned (.pointer (some ⟨w.heap.size, 0, none⟩)) ∧ HeapIs w' w.heap.size (fun k => k = w.heap.size) (.func (.func F) #[] caps) ([] : List (Cu D)) ∧ Below w.heap.size w w' := by
  go_enter Try.func60, Try.ntmps60
  go_wp2
  go_ret
  exact ⟨rfl, ⟨.slice none 0 0, heap_alloc_new w _, Own.nil _ _ _ _ _, rfl, by simp [Value.ownBlock]⟩, (Below.refl _ _).alloc (Nat.le_refl _) _⟩
set_option maxHeartbeats 1600000 in
theorem push_c (g : Nat) (S : Nat → Prop) (F : Nat) (caps : Array Value) (E : World → Prop) (lt : Cu D → Cu D → Bool) (hL : LessI F caps E lt) (l : List (Cu D)) (x : Cu D) (hl : l.length < 1000000000000) (w : World)
    (h : HeapIs w g S (.func (.func F) #[] caps) l) (hE : E w) (hS : Stays S E) :
    Calls Try.prog 63 #[.pointer (some ⟨g, 0, none⟩), .iface 91 (.pointer (some ⟨x.1, 0, none⟩))] w fun e w' => e = .returned (.tuple #[]) ∧ HeapIs w' g (New S w) (.func (.func F) #[] caps) (pushL lt l x) ∧ Upd S w w' := by
  obtain ⟨A, c, hb, ho, hs, hlc, hg, hk, _⟩ := h.parts
  have c1 : w.cell? ⟨g, 1, none⟩ = some (.slice A l.length c) := (blk_cell hb 1).trans rfl
  have HO := Lib.hid ho
  have HK := Lib.hid hk
  have HB := Lib.hid hb
  have hlt := blk_lt HB.out
  have HL := Lib.hid (hL.since hE hS)
  have hmf : ∀ (fn : Fn) (first cap : Array Value) (w : World), (Instr.makeFunc fn first cap).run Try.prog w = .ok (.func fn first cap) w := fun _ _ _ _ => rfl
  clear ho hk hs hb h hL hE
  have e1 : (l ++ [x]).length - 1 = l.length := by simp
  have E1 := Lib.hid e1
  clear e1
  go_enter Try.func63, Try.ntmps63
  go_wp2_with (at_builtin; refine wpList_app rfl (.tmp 8) (.tmp 10) rfl uSlU infoU rfl (by decide) (by decide) okU (.slice A l.length c) l rfl (base := 0) ?c1 (some ⟨w.heap.size, 0, none⟩) 1 [x] rfl ?c2 ?c3 ?c4 ?_)
  case c1 => exact HO.out.below ((Below.refl _ _).alloc (Nat.le_refl _) _)
  case c2 => exact Sl.one okU w x _ rfl
  case c3 => simp; omega
  case c4 => exact Nat.zero_le _
  intro v1 w1 ho1 hg1 hat1
  have hu1 : Upd S w w1 := (Upd.alloc w _).trans (Upd.of_grown hg1 (fun k hk => (HK.out k hk).1))
  have hbx : w1.heap[g]? = some (.cells #[.func (.func F) #[] caps, .slice A l.length c] 109 (0, 0)) := by
    have hgg := hg1.block g (by simp; omega) (by intro e; exact (HK.out g e.symm).2 rfl)
    rw [hgg]
    exact (((Below.refl w.heap.size w).alloc (Nat.le_refl _) _).block g hlt).trans HB.out
  have f1 : w1.frozen? ⟨g, 1, none⟩ = false := blk_frozen hbx 1
  have d1 : w1.cell? ⟨g, 1, none⟩ = some (.slice A l.length c) := (blk_cell hbx 1).trans rfl
  have hb2 := blk_set hbx 1 v1
  have hv1 : ∀ k, v1.ownBlock = some k → New S w k ∧ k ≠ g := by
    intro k hk
    rcases hat1 with h | h
    · have := HK.out k (by rw [← h]; exact hk)
      exact ⟨.inl this.1, this.2⟩
    · rw [h] at hk
      injection hk with hk
      try simp at hk
      exact ⟨.inr (by omega), by omega⟩
  obtain ⟨A1, k1, rfl, hk1, hs1, hne1⟩ := ho1.slice (fun x => (okU x).1)
  obtain ⟨b1, rfl, _, _⟩ := hne1 (by simp)
  have hset : HeapIs (w1.setCell ⟨g, 1, none⟩ (.slice (some ⟨b1, 0, none⟩) (l ++ [x]).length k1)) g (New S w) (.func (.func F) #[] caps) (l ++ [x]) :=
    ⟨_, hb2.trans rfl, ho1.upd (Upd.setCell (S := fun k => k = g) w1 1 _ rfl) (fun k hk => (hv1 k hk).2), .inl hg, hv1⟩
  have hus : Upd S w (w1.setCell ⟨g, 1, none⟩ (.slice (some ⟨b1, 0, none⟩) (l ++ [x]).length k1)) := hu1.trans (Upd.setCell w1 1 _ hg)
  have hcell : (w1.setCell ⟨g, 1, none⟩ (.slice (some ⟨b1, 0, none⟩) (l ++ [x]).length k1)).cell? ⟨g, 1, none⟩ = some (.slice (some ⟨b1, 0, none⟩) (l ++ [x]).length k1) := World.cell?_setCell_same _ _ _ d1
  have hup := up_c g (New S w) F caps (fun W => Upd S w W) lt HL.out (l ++ [x]) b1 _ k1 rfl (by simp) (by simp; omega) _ hset hcell hus (Stays.since w)
  have e2 : (l ++ [x]).length = l.length + 1 := by simp
  rw [E1.out] at hup
  rw [e2] at hup
  rw [e2] at hus
  have HUP := Lib.hid hup
  have HU := Lib.hid hus
  clear ho1 hg1 hat1 hu1 hbx hb2 hv1 hset hus hs1 hne1 hup e2 hcell
  go_wp2_with (go_at_call 79; refine HUP.out.mono ?_; rintro e w2 ⟨rfl, hh2, hu2⟩)
  go_end0
  exact ⟨rfl, hh2, HU.out.step hu2 (fun i hi => hi)⟩
theorem Own.take1 {α : Type} {enc : α → List Value} (he : EncOk enc 1) {e : TypeId} {w : World} {base : Nat} {A : Option Addr} {n c : Nat} {l : List α} (h : Own enc e 1 w base (.slice A n c) l) (hn : n = l.length) (k : Nat) (hk : k ≤ l.length) :
    Own enc e 1 w base (.slice A k c) (l.take k) := by
  subst hn
  obtain ⟨h1, h2⟩ := h
  have e1 : (l.take k).flatMap enc = (l.flatMap enc).take k := by
    have hsplit : l.flatMap enc = (l.take k).flatMap enc ++ (l.drop k).flatMap enc := by rw [← List.flatMap_append, List.take_append_drop]
    rw [hsplit, List.take_left' (by rw [flat_len he, List.length_take, Nat.min_eq_left hk, Nat.mul_one])]
  refine ⟨by rw [flat_len he], ?_⟩
  rcases h2 with ⟨hv, h0⟩ | ⟨g, cap, cur, hv, hb, hh, hn, hm, hcs, htk⟩
  · injection hv with h1 h2 h3
    subst h1
    have : k = 0 := by omega
    subst this
    exact .inl ⟨by rw [h3], by simp⟩
  · injection hv with h1 h2 h3
    subst h1; subst h3
    have hlk : (l.take k).length = k := by rw [List.length_take, Nat.min_eq_left hk]
    refine .inr ⟨g, c, cur, by rw [hlk], hb, hh, by rw [hlk]; omega, hm, hcs, ?_⟩
    rw [hlk, e1, ← htk, List.take_take, Nat.mul_one, Nat.mul_one, Nat.min_eq_left hk]
theorem rot_eq {α : Type} (x : α) (r : List α) (z none : α) (hz : (x :: r)[r.length]? = some z) (hr : r ≠ []) : (((x :: r).set 0 z).set r.length none).take r.length = rot (x :: r) := by
  have hne : r.getLast? = some z := by
    rw [List.getLast?_eq_getElem?, ← hz]
    obtain ⟨n, hn⟩ : ∃ n, r.length = n + 1 := ⟨r.length - 1, by have := List.length_pos_iff.2 hr; omega⟩
    rw [hn]
    rfl
  have hpos := List.length_pos_iff.2 hr
  obtain ⟨n, hn⟩ : ∃ n, r.length = n + 1 := ⟨r.length - 1, by omega⟩
  simp only [rot, hne, List.set_cons_zero, hn, List.set_cons_succ, List.take_succ_cons]
  rw [List.take_set_of_le (Nat.le_refl _), List.dropLast_eq_take, hn, Nat.add_sub_cancel]
theorem rot_eq' {α : Type} (x : α) (r : List α) (z none : α) (hz : (x :: r)[r.length]? = some z) : (((x :: r).set 0 z).set r.length none).take r.length = rot (x :: r) := by
  by_cases hr : r = []
  · subst hr; rfl
  · exact rot_eq x r z none hz hr
theorem Own.spare {α : Type} {enc : α → List Value} {e : TypeId} {w : World} {base g c n : Nat} {l : List α} (h : Own enc e 1 w base (.slice (some ⟨g, 0, none⟩) n c) l) (hn : n = l.length) (i : Nat) (v : Value) (hi : n ≤ i) :
    Own enc e 1 (w.setCell ⟨g, i, none⟩ v) base (.slice (some ⟨g, 0, none⟩) n c) l := by
  subst hn
  obtain ⟨h1, h2⟩ := h
  refine ⟨h1, ?_⟩
  rcases h2 with ⟨hv, h0⟩ | ⟨g', cap, cur, hv, hb, hh, hn, hm, hcs, htk⟩
  · cases hv
  · injection hv with e1 e2 e3
    injection e1 with e1
    injection e1 with e1 _ _
    subst e1
    subst e3
    refine .inr ⟨g, c, cur.setIfInBounds i v, rfl, hb, ?_, hn, hm, ?_, ?_⟩
    · have := blk_set hh i v
      simpa using this
    · simpa using hcs
    · rw [Array.toList_setIfInBounds, List.take_set_of_le (by omega)]; exact htk
theorem HeapIs.popped {w : World} {g b c : Nat} {S : Nat → Prop} {f : Value} {x z : Cu D} {r : List (Cu D)} (h : HeapIs w g S f (x :: r)) (hw : w.cell? ⟨g, 1, none⟩ = some (.slice (some ⟨b, 0, none⟩) (r.length + 1) c)) (hz : (x :: r)[r.length]? = some z) :
    ∃ w2, ((w.setCell ⟨b, 0, none⟩ (.iface 91 (.pointer (some ⟨z.1, 0, none⟩)))).setCell ⟨b, r.length, none⟩ .nilIface).drew = w2 ∧ w2.cell? ⟨g, 1, none⟩ = some (.slice (some ⟨b, 0, none⟩) (r.length + 1) c) ∧ w2.frozen? ⟨g, 1, none⟩ = false ∧
      HeapIs (w2.setCell ⟨g, 1, none⟩ (.slice (some ⟨b, 0, none⟩) r.length c)) g S f (rot (x :: r)) ∧ Upd S w (w2.setCell ⟨g, 1, none⟩ (.slice (some ⟨b, 0, none⟩) r.length c)) ∧
      (w2.setCell ⟨g, 1, none⟩ (.slice (some ⟨b, 0, none⟩) r.length c)).cell? ⟨g, 1, none⟩ = some (.slice (some ⟨b, 0, none⟩) r.length c) := by
  obtain ⟨b', hA, hSb, hbg, hlt, _, _⟩ := h.cells hw (by simp)
  injection hA with hA; injection hA with h1 h2; subst h1
  obtain ⟨v, hb, ho, hg, hk⟩ := h
  have c1 : w.cell? ⟨g, 1, none⟩ = some v := (blk_cell hb 1).trans rfl
  rw [c1] at hw
  injection hw with hw
  subst hw
  have u : Upd (fun k => k = b) w ((w.setCell ⟨b, 0, none⟩ (.iface 91 (.pointer (some ⟨z.1, 0, none⟩)))).setCell ⟨b, r.length, none⟩ .nilIface).drew := ((Upd.setCell (S := fun k => k = b) w 0 _ rfl).trans (Upd.setCell (S := fun k => k = b) _ r.length _ rfl)).trans (Upd.drew _)
  have o3 : Own encU 89 1 ((w.setCell ⟨b, 0, none⟩ (.iface 91 (.pointer (some ⟨z.1, 0, none⟩)))).setCell ⟨b, r.length, none⟩ .nilIface).drew 0 (.slice (some ⟨b, 0, none⟩) r.length c) (rot (x :: r)) := by
    have o1 := (Own.set1 (f := fun x : Cu D => .iface 91 (.pointer (some ⟨x.1, 0, none⟩))) (fun _ => rfl) ho rfl 0 z).take1 okU (by simp) r.length (by simp)
    have e1 : ((x :: r).set 0 z).take r.length = rot (x :: r) := by rw [← rot_eq' x r z z hz, List.take_set_of_le (Nat.le_refl _)]
    rw [e1] at o1
    exact (o1.spare (by rw [(rot_perm x r).length_eq]) r.length .nilIface (Nat.le_refl _)).below ((Below.refl _ _).drew)
  have hbx := u.heap hb (fun e => hbg e.symm)
  generalize ((w.setCell ⟨b, 0, none⟩ (.iface 91 (.pointer (some ⟨z.1, 0, none⟩)))).setCell ⟨b, r.length, none⟩ .nilIface).drew = w2 at *
  have d1 : w2.cell? ⟨g, 1, none⟩ = some (.slice (some ⟨b, 0, none⟩) (r.length + 1) c) := (blk_cell hbx 1).trans rfl
  refine ⟨w2, rfl, d1, blk_frozen hbx 1, ⟨_, (blk_set hbx 1 _).trans rfl, o3.upd (Upd.setCell (S := fun k => k = g) w2 1 _ rfl) (fun k e => by injection e with e; subst e; exact hbg), hg, ?_⟩, (u.mono (fun k hk => by rw [hk]; exact hSb)).trans (Upd.setCell w2 1 _ hg), World.cell?_setCell_same _ _ _ d1⟩
  intro k e
  injection e with e
  subst e
  exact ⟨hSb, hbg⟩
set_option maxHeartbeats 1600000 in
theorem pop_none (g : Nat) (S : Nat → Prop) (f : Value) (w : World) (h : HeapIs w g S f ([] : List (Cu D))) :
    Calls Try.prog 64 #[.pointer (some ⟨g, 0, none⟩)] w fun e w' => e = .returned (.tuple #[.nilIface, .bool false]) ∧ w = w' := by
  obtain ⟨A, c, hb, _⟩ := h.parts
  have c1 : w.cell? ⟨g, 1, none⟩ = some (.slice A 0 c) := (blk_cell hb 1).trans rfl
  clear hb h
  go_enter Try.func64, Try.ntmps64
  go_wp2
  go_ret2
  exact ⟨rfl, rfl⟩
set_option maxHeartbeats 1600000 in
theorem pop_some (g : Nat) (S : Nat → Prop) (F : Nat) (caps : Array Value) (E : World → Prop) (lt : Cu D → Cu D → Bool) (hL : LessI F caps E lt) (x : Cu D) (r : List (Cu D)) (hl : r.length < 1000000000000) (w : World)
    (h : HeapIs w g S (.func (.func F) #[] caps) (x :: r)) (hE : E w) (hS : Stays S E) :
    Calls Try.prog 64 #[.pointer (some ⟨g, 0, none⟩)] w fun e w' => e = .returned (.tuple #[.iface 91 (.pointer (some ⟨x.1, 0, none⟩)), .bool true]) ∧ HeapIs w' g S (.func (.func F) #[] caps) (popL lt (x :: r)) ∧ Upd S w w' := by
  obtain ⟨A, c, hb, ho, hs, hlc, hg, hk, hne⟩ := h.parts
  obtain ⟨b, rfl, hSb, hbg, hblt⟩ := hne (by simp)
  have c1 : w.cell? ⟨g, 1, none⟩ = some (.slice (some ⟨b, 0, none⟩) (r.length + 1) c) := (blk_cell hb 1).trans rfl
  have f1 : w.frozen? ⟨g, 1, none⟩ = false := blk_frozen hb 1
  obtain ⟨_, hA, _, _, _, hcells, hfroz⟩ := h.cells (A := some ⟨b, 0, none⟩) (c := c) c1 (by simp)
  injection hA with hA; injection hA with h1 h2; subst h1
  have d0 := hcells 0 (by simp)
  have g0 := hfroz 0
  have dl := hcells r.length (by simp)
  have gl := hfroz r.length
  obtain ⟨z, hz⟩ : ∃ z, (x :: r)[r.length]? = some z := ⟨_, List.getElem?_eq_getElem (by simp)⟩
  have hz' : (x :: r)[r.length]'(by simp) = z := by rw [List.getElem?_eq_getElem (by simp)] at hz; exact Option.some.inj hz
  rw [hz'] at dl
  simp only [List.getElem_cons_zero] at d0
  have hmf : ∀ (fn : Fn) (first cap : Array Value) (w : World), (Instr.makeFunc fn first cap).run Try.prog w = .ok (.func fn first cap) w := fun _ _ _ _ => rfl
  have hlc' : r.length + 1 ≤ c := by simpa using hlc
  have HZ := Lib.hid hz
  have HH := Lib.hid h
  have HL := Lib.hid hL
  have HS := Lib.hid hS
  have HE := Lib.hid hE
  clear hcells hfroz hz hz' ho hs hk hne hb h hL hS hE hlc
  have i1 : (0 : Int) < (r.length : Int) + 1 := by omega
  have i2 : (0 : Int) ≤ (r.length : Int) := by omega
  have i3 : (r.length : Int) < (r.length : Int) + 1 := by omega
  have i4 : ((r.length : Int) + 1 == 0) = false := by simp; omega
  go_enter Try.func64, Try.ntmps64
  go_wp2
  go_quiet (fail)
  go_wp2
  have hU1 : Upd S w (w.drewN nq) := Upd.drewN w nq
  have hH1 : HeapIs (w.drewN nq) g S (.func (.func F) #[] caps) (x :: r) := HH.out.upd (Upd.drewN (S := fun _ => False) w nq) (fun _ _ h => h)
  have c1' : (w.drewN nq).cell? ⟨g, 1, none⟩ = some (.slice (some ⟨b, 0, none⟩) (r.length + 1) c) := c1
  have f1' : (w.drewN nq).frozen? ⟨g, 1, none⟩ = false := f1
  have d0' : (w.drewN nq).cell? ⟨b, 0, none⟩ = some (.iface 91 (.pointer (some ⟨x.1, 0, none⟩))) := d0
  have g0' : (w.drewN nq).frozen? ⟨b, 0, none⟩ = false := g0
  have dl' : (w.drewN nq).cell? ⟨b, r.length, none⟩ = some (.iface 91 (.pointer (some ⟨z.1, 0, none⟩))) := dl
  have gl' : (w.drewN nq).frozen? ⟨b, r.length, none⟩ = false := gl
  have HH1 := Lib.hid hH1
  have HU1 := Lib.hid hU1
  clear hU1 hH1 c1 f1 d0 g0 dl gl
  generalize w.drewN nq = w1 at *
  by_cases hr : r = []
  · subst hr
    have e : x = z := by have := HZ.out; simpa using this
    subst e
    go_region
    obtain ⟨w2, hw2, k1, k2, k3, k4, k5⟩ := HH1.out.popped c1' HZ.out
    have HD := Lib.hid (down_c g S F caps E lt HL.out (rot (x :: [])) (some ⟨b, 0, none⟩) 0 c (rot_perm x []).length_eq.symm (by rw [(rot_perm x []).length_eq]; first | omega | simp) _ k3 (by rw [(rot_perm x []).length_eq]; exact k5) (HS.out w _ HE.out (HU1.out.trans k4)) HS.out)
    have HK := Lib.hid (HU1.out.trans k4)
    clear k3 k4 k5 c1' f1' d0' g0' dl' gl'
    first | rw [hw2] | (simp only [List.length_nil] at hw2; rw [hw2])
    clear hw2
    go_wp2_with (go_at_call 81; refine HD.out.mono ?_; rintro e w3 ⟨rfl, hh3, hu3⟩)
    go_ret2
    exact ⟨rfl, hh3, HK.out.trans hu3⟩
  · have hr0 : ¬ (0 = r.length) := by have := List.length_pos_iff.2 hr; omega
    have hr1 : ¬ (r.length = 0) := fun e => hr0 e.symm
    clear hr
    go_region
    obtain ⟨w2, hw2, k1, k2, k3, k4, k5⟩ := HH1.out.popped c1' HZ.out
    have HD := Lib.hid (down_c g S F caps E lt HL.out (rot (x :: r)) (some ⟨b, 0, none⟩) r.length c (rot_perm x r).length_eq.symm (by rw [(rot_perm x r).length_eq]; first | omega | simp) _ k3 (by rw [(rot_perm x r).length_eq]; exact k5) (HS.out w _ HE.out (HU1.out.trans k4)) HS.out)
    have HK := Lib.hid (HU1.out.trans k4)
    clear k3 k4 k5 c1' f1' d0' g0' dl' gl'
    first | rw [hw2] | (simp only [List.length_nil] at hw2; rw [hw2])
    clear hw2
    go_wp2_with (go_at_call 81; refine HD.out.mono ?_; rintro e w3 ⟨rfl, hh3, hu3⟩)
    go_ret2
    exact ⟨rfl, hh3, HK.out.trans hu3⟩
end Go.Proofs.Ytdpijhpjicbecaa.H
