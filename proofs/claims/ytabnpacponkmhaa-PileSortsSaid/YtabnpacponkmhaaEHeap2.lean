/- pile.Heap of entries: New, Push, Pop, Len (geneheap.py). Conditions: fewer than 2^40 stand in it. -/
import Derived.Test.YtabnpacponkmhaaEHeap
namespace Go.Proofs.Ytabnpacponkmhaa.H
open Go.RowKit Go.Deep Go.Proofs Go.Proofs.YtabnpacponkmhaaW.PrintWords
set_option linter.unusedVariables false
set_option linter.unusedSimpArgs false
theorem LessE.weaken {F : Nat} {caps : Array Value} {E E' : World → Prop} {lt : Ent → Ent → Bool} (h : LessE F caps E lt) (he : ∀ W, E' W → E W) : LessE F caps E' lt := ⟨h.ent, fun w x y e => h.run w x y (he w e)⟩
theorem LessE.since {F : Nat} {caps : Array Value} {E : World → Prop} {lt : Ent → Ent → Bool} {S : Nat → Prop} {w : World} (h : LessE F caps E lt) (hE : E w) (hS : Stays S E) : LessE F caps (fun W => Upd S w W) lt := h.weaken (fun W u => hS w W hE u)
theorem newHeapE_c (F : Nat) (caps : Array Value) (w : World) : Calls Try.prog 18 #[.func (.func F) #[] caps] w fun e w' => e = .returned (.pointer (some ⟨w.heap.size, 0, none⟩)) ∧ HeapE w' w.heap.size (fun k => k = w.heap.size) (.func (.func F) #[] caps) [] ∧ Below w.heap.size w w' := by
  go_enter Try.func18, Try.ntmps18
  go_wp2
  go_ret
  exact ⟨rfl, ⟨.slice none 0 0, heap_alloc_new w _, Own.nil _ _ _ _ _, rfl, by simp [Value.ownBlock]⟩, (Below.refl _ _).alloc (Nat.le_refl _) _⟩
theorem lenE_c (g : Nat) (S : Nat → Prop) (f : Value) (l : List Ent) (w : World) (h : HeapE w g S f l) :
    Calls Try.prog 23 #[.pointer (some ⟨g, 0, none⟩)] w fun e w' => e = .returned (.int .i64 (l.length : Nat)) ∧ w = w' := by
  obtain ⟨A, c, hb, _⟩ := h.parts
  have c1 : w.cell? ⟨g, 1, none⟩ = some (.slice A l.length c) := (blk_cell hb 1).trans rfl
  clear hb h
  go_enter Try.func23, Try.ntmps23
  go_wp2
  go_ret
  exact ⟨by simp, rfl⟩
set_option maxHeartbeats 1600000 in
theorem pushE_c (g : Nat) (S : Nat → Prop) (F : Nat) (caps : Array Value) (E : World → Prop) (lt : Ent → Ent → Bool) (hL : LessE F caps E lt) (l : List Ent) (x : Ent) (hl : l.length < 1000000000000) (w : World)
    (h : HeapE w g S (.func (.func F) #[] caps) l) (hE : E w) (hS : Stays S E) :
    Calls Try.prog 20 #[.pointer (some ⟨g, 0, none⟩), .agg #[.string x.1, .int .u64 x.2.1, .bool x.2.2.1, .string x.2.2.2]] w fun e w' => e = .returned (.tuple #[]) ∧ HeapE w' g (New S w) (.func (.func F) #[] caps) (pushL lt l x) ∧ Upd S w w' := by
  obtain ⟨A, c, hb, ho, hs, hlc, hg, hk, _⟩ := h.parts
  have c1 : w.cell? ⟨g, 1, none⟩ = some (.slice A l.length c) := (blk_cell hb 1).trans rfl
  have HO := Lib.hid ho
  have HK := Lib.hid hk
  have HB := Lib.hid hb
  have hlt := blk_lt HB.out
  have HL := Lib.hid (hL.since hE hS)
  have hmf : ∀ (fn : Fn) (first cap : Array Value) (w : World), (Instr.makeFunc fn first cap).run Try.prog w = .ok (.func fn first cap) w := fun _ _ _ _ => rfl
  clear ho hk hs hb h hL hE
  have e1 : (l ++ [x]).length - 1 = l.length := by simp
  have E1 := Lib.hid e1
  clear e1
  go_enter Try.func20, Try.ntmps20
  obtain ⟨w2, hw2⟩ : ∃ Z, w.alloc (.cells #[.string x.1, .int .u64 x.2.1, .bool x.2.2.1, .string x.2.2.2] 51) = Z := ⟨_, rfl⟩
  have hb2 : Below w.heap.size w w2 := by rw [← hw2]; exact (Below.refl _ _).alloc (Nat.le_refl _) _
  have r2 : w2.heap[w.heap.size]? = some (.cells #[.string x.1, .int .u64 x.2.1, .bool x.2.2.1, .string x.2.2.2] 51 (0, 0)) := by rw [← hw2]; exact heap_alloc_new _ _
  have HB2 := Lib.hid hb2
  have y0 : w2.cell? ⟨w.heap.size, 0, none⟩ = some (.string x.1) := (blk_cell r2 0).trans rfl
  have y1 : w2.cell? ⟨w.heap.size, 1, none⟩ = some (.int .u64 x.2.1) := (blk_cell r2 1).trans rfl
  have y2 : w2.cell? ⟨w.heap.size, 2, none⟩ = some (.bool x.2.2.1) := (blk_cell r2 2).trans rfl
  have y3 : w2.cell? ⟨w.heap.size, 3, none⟩ = some (.string x.2.2.2) := (blk_cell r2 3).trans rfl
  have c1' : w2.cell? ⟨g, 1, none⟩ = some (.slice A l.length c) := (hb2.cell (p := ⟨g, 1, none⟩) hlt).trans c1
  have n1' : g ≠ w2.heap.size := by have := hb2.size; omega
  have zc := fun o => (((Below.refl w2.heap.size w2).alloc (Nat.le_refl _) o).cell (p := ⟨g, 1, none⟩) (Nat.lt_of_lt_of_le hlt hb2.size)).trans c1'
  clear hb2 r2 c1
  go_wp2_with fail
  try rw [hw2]
  go_region_law (refine step_app rfl (.tmp 8) (.tmp 10) rfl uSlEx infoEx rfl (by decide) (by decide) okE (.slice A l.length c) l (by simp [Act.eval, Act.put]) (base := 0) ?c1 (some ⟨w2.heap.size, 0, none⟩) 1 [x] (by simp [Act.eval, Act.put]) ?c2 ?c3 ?c4 ?_; (case c1 => first | exact HO.out.below ((HB2.out.drew).alloc HB2.out.size _) | exact HO.out.below ((HB2.out.alloc HB2.out.size _).drew)); (case c2 => first | exact Sl.one okE w2.drew x _ rfl | exact Sl.one okE w2 x _ rfl); (case c3 => simp; omega); (case c4 => exact Nat.zero_le _); intro v1 w1 ho1 hg1 hat1; obtain ⟨A1, k1, rfl, hk1, hs1, hne1⟩ := ho1.slice (fun x => (okE x).1); obtain ⟨b1, rfl, _, _⟩ := hne1 (by simp); have hu1 : Upd S w w1 := ((Upd.of_below (HB2.out.drew.alloc HB2.out.size _)).trans (Upd.of_grown hg1 (fun k hk => (HK.out k hk).1))); have hbx : w1.heap[g]? = some (.cells #[.func (.func F) #[] caps, .slice A l.length c] 71 (0, 0)) := (Upd.of_grown (S := fun k => (Value.slice A l.length c).ownBlock = some k) hg1 (fun k e => e)).heap ((Upd.of_below (S := fun _ => False) (HB2.out.drew.alloc HB2.out.size _)).heap HB.out (fun h => h)) (fun e => (HK.out g e).2 rfl); have f1 : w1.frozen? ⟨g, 1, none⟩ = false := blk_frozen hbx 1; have d1 : w1.cell? ⟨g, 1, none⟩ = some (.slice A l.length c) := (blk_cell hbx 1).trans rfl)
  all_goals
    have hb2 := blk_set hbx 1 (.slice (some ⟨b1, 0, none⟩) (l ++ [x]).length k1)
    have hsz2 := HB2.out.size
    have hv1 : ∀ k, (Value.slice (some ⟨b1, 0, none⟩) (l ++ [x]).length k1).ownBlock = some k → New S w k ∧ k ≠ g := by
      intro k hk
      rcases hat1 with h | h
      · have := HK.out k (by rw [← h]; exact hk)
        exact ⟨.inl this.1, this.2⟩
      · rw [h] at hk
        injection hk with hk
        try simp at hk
        exact ⟨.inr (by omega), by omega⟩
    have hset : HeapE (w1.setCell ⟨g, 1, none⟩ (.slice (some ⟨b1, 0, none⟩) (l ++ [x]).length k1)) g (New S w) (.func (.func F) #[] caps) (l ++ [x]) :=
      ⟨_, hb2.trans rfl, ho1.upd (Upd.setCell (S := fun k => k = g) w1 1 _ rfl) (fun k hk => (hv1 k hk).2), .inl hg, hv1⟩
    have hus : Upd S w (w1.setCell ⟨g, 1, none⟩ (.slice (some ⟨b1, 0, none⟩) (l ++ [x]).length k1)) := hu1.trans (Upd.setCell w1 1 _ hg)
    have hcell : (w1.setCell ⟨g, 1, none⟩ (.slice (some ⟨b1, 0, none⟩) (l ++ [x]).length k1)).cell? ⟨g, 1, none⟩ = some (.slice (some ⟨b1, 0, none⟩) (l ++ [x]).length k1) := World.cell?_setCell_same _ _ _ d1
    have hup := upE_c g (New S w) F caps (fun W => Upd S w W) lt HL.out (l ++ [x]) b1 _ k1 rfl (by simp) (by simp; omega) _ hset hcell hus (Stays.since w)
    have e2 : (l ++ [x]).length = l.length + 1 := by simp
    rw [E1.out] at hup
    rw [e2] at hup
    rw [e2] at hus
    have HUP := Lib.hid hup
    have HU := Lib.hid hus
    clear ho1 hg1 hat1 hu1 hbx hb2 hv1 hset hus hs1 hne1 hup e2 hcell
    go_wp2_with (go_at_call 39; refine HUP.out.mono ?_; rintro e w2 ⟨rfl, hh2, hu2⟩)
    go_end0
    exact ⟨rfl, hh2, HU.out.step hu2 (fun i hi => hi)⟩
end Go.Proofs.Ytabnpacponkmhaa.H
