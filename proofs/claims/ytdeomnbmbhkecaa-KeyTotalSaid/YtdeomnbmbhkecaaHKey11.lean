/- The law KeyTotal, walked. No conditions but bounds. -/
import Derived.Test.YtdeomnbmbhkecaaHKey10
namespace Go.Proofs.Ytdeomnbmbhkecaa.H
open Go.RowKit Go.Deep Go.Proofs.YtdeomnbmbhkecaaW.PrintWords
set_option linter.unusedVariables false
set_option linter.unusedSimpArgs false
theorem box3a (w : World) (c0 c1 c2 : Array Value) (t u v : TypeId) (i : Nat) : (((w.alloc (.cells c0 t)).alloc (.cells c1 u)).alloc (.cells c2 v)).cell? ⟨w.heap.size, i, none⟩ = c0[i]? := by
  rw [World.cell?_alloc_lt _ _ _ (by simp; omega)]
  exact box2a _ _ _ _ _ _
theorem box3b (w : World) (c0 c1 c2 : Array Value) (t u v : TypeId) (i : Nat) : (((w.alloc (.cells c0 t)).alloc (.cells c1 u)).alloc (.cells c2 v)).cell? ⟨w.heap.size + 1, i, none⟩ = c1[i]? := by
  rw [World.cell?_alloc_lt _ _ _ (by simp)]
  exact box2b _ _ _ _ _ _
theorem box3c (w : World) (c0 c1 c2 : Array Value) (t u v : TypeId) (i : Nat) : (((w.alloc (.cells c0 t)).alloc (.cells c1 u)).alloc (.cells c2 v)).cell? ⟨w.heap.size + 2, i, none⟩ = c2[i]? := by
  have := heap_alloc_new ((w.alloc (.cells c0 t)).alloc (.cells c1 u)) (.cells c2 v)
  simp only [World.size_alloc] at this
  exact cell_of_row _ _ _ _ _ _ this
/-- The four answers, told as numbers. -/
def Asks (s s' s'' : ByteArray) (m m' m'' : Int) (x y z : Int) : Prop := cmpE s.toList s'.toList m m' = x ∧ cmpE s'.toList s''.toList m' m'' = y ∧ cmpE s.toList s''.toList m m'' = z ∧ cmpE s'.toList s.toList m' m = -x
set_option maxHeartbeats 6400000 in
set_option maxRecDepth 100000 in
theorem total_walk (s s' s'' : ByteArray) (m m' m'' : Int) (d d' d'' : Bool) (v v' v'' : ByteArray) (w : World) (x y z : Int) (h : Asks s s' s'' m m' m'' x y z)
    (hx : x = 0 ∧ (s.toList == s'.toList) = true ∧ (m == m') = true ∨ (x = -1 ∨ x = 1) ∧ (s.toList == s'.toList) = false ∨ (x = -1 ∨ x = 1) ∧ (s.toList == s'.toList) = true ∧ (m == m') = false)
    (hy : (x = -1 ∧ y = -1 ∧ z = -1) ∨ (x = -1 ∧ y = 0 ∧ z = -1) ∨ (x = -1 ∧ y = 1 ∧ (z = -1 ∨ z = 0 ∨ z = 1)) ∨ (x = 0 ∧ (y = -1 ∨ y = 0 ∨ y = 1) ∧ z = y) ∨ (x = 1 ∧ y = 1 ∧ z = 1) ∨ (x = 1 ∧ y = 0 ∧ z = 1) ∨ (x = 1 ∧ y = -1 ∧ (z = -1 ∨ z = 0 ∨ z = 1))) :
    Calls Try.prog 13 #[.agg #[.string s, .int .u64 m, .bool d, .string v], .agg #[.string s', .int .u64 m', .bool d', .string v'], .agg #[.string s'', .int .u64 m'', .bool d'', .string v'']] w fun e w' => e = .returned (.bool true) ∧ Below w.heap.size w w' := by
  have q1 : ∀ W : World, Calls Try.prog 31 #[.agg #[.string s, .int .u64 m, .bool d, .string v], .agg #[.string s', .int .u64 m', .bool d', .string v']] W fun e w' => e = .returned (.int .i64 x) ∧ Below W.heap.size W w' := fun W => by
    have := compare_c s m d v s' m' d' v' W
    rw [h.1] at this
    exact this
  have q2 : ∀ W : World, Calls Try.prog 31 #[.agg #[.string s', .int .u64 m', .bool d', .string v'], .agg #[.string s'', .int .u64 m'', .bool d'', .string v'']] W fun e w' => e = .returned (.int .i64 y) ∧ Below W.heap.size W w' := fun W => by
    have := compare_c s' m' d' v' s'' m'' d'' v'' W
    rw [h.2.1] at this
    exact this
  have q3 : ∀ W : World, Calls Try.prog 31 #[.agg #[.string s, .int .u64 m, .bool d, .string v], .agg #[.string s'', .int .u64 m'', .bool d'', .string v'']] W fun e w' => e = .returned (.int .i64 z) ∧ Below W.heap.size W w' := fun W => by
    have := compare_c s m d v s'' m'' d'' v'' W
    rw [h.2.2.1] at this
    exact this
  have q4 : ∀ W : World, Calls Try.prog 31 #[.agg #[.string s', .int .u64 m', .bool d', .string v'], .agg #[.string s, .int .u64 m, .bool d, .string v]] W fun e w' => e = .returned (.int .i64 (-x)) ∧ Below W.heap.size W w' := fun W => by
    have := compare_c s' m' d' v' s m d v W
    rw [h.2.2.2] at this
    exact this
  clear h
  have Q1 := Lib.hid q1
  have Q2 := Lib.hid q2
  have Q3 := Lib.hid q3
  have Q4 := Lib.hid q4
  have HY := Lib.hid hy
  have HX := Lib.hid hx
  clear q1 q2 q3 q4 hy hx
  go_enter Try.func13, Try.ntmps13
  go_wp2_with fail
  refine (known_c _).mono ?_
  rintro e W ⟨rfl, hb⟩
  have z0 : w.heap.size + 2 < W.heap.size := by have := hb.size; simp at this; omega
  have hB0 : Below w.heap.size w W := ((((Below.refl _ _).alloc (Nat.le_refl _) _).alloc (by simp) _).alloc (by simp; omega) _).trans (hb.mono (by simp; omega))
  have a0 : W.cell? ⟨w.heap.size, 0, none⟩ = some (.string s) := (hb.cell (by simp <;> omega)).trans (box3a _ _ _ _ _ _ _ _)
  have a1 : W.cell? ⟨w.heap.size, 1, none⟩ = some (.int .u64 m) := (hb.cell (by simp <;> omega)).trans (box3a _ _ _ _ _ _ _ _)
  have a2 : W.cell? ⟨w.heap.size, 2, none⟩ = some (.bool d) := (hb.cell (by simp <;> omega)).trans (box3a _ _ _ _ _ _ _ _)
  have a3 : W.cell? ⟨w.heap.size, 3, none⟩ = some (.string v) := (hb.cell (by simp <;> omega)).trans (box3a _ _ _ _ _ _ _ _)
  have b0 : W.cell? ⟨w.heap.size + 1, 0, none⟩ = some (.string s') := (hb.cell (by simp <;> omega)).trans (box3b _ _ _ _ _ _ _ _)
  have b1 : W.cell? ⟨w.heap.size + 1, 1, none⟩ = some (.int .u64 m') := (hb.cell (by simp <;> omega)).trans (box3b _ _ _ _ _ _ _ _)
  have b2 : W.cell? ⟨w.heap.size + 1, 2, none⟩ = some (.bool d') := (hb.cell (by simp <;> omega)).trans (box3b _ _ _ _ _ _ _ _)
  have b3 : W.cell? ⟨w.heap.size + 1, 3, none⟩ = some (.string v') := (hb.cell (by simp <;> omega)).trans (box3b _ _ _ _ _ _ _ _)
  have c0 : W.cell? ⟨w.heap.size + 1 + 1, 0, none⟩ = some (.string s'') := (hb.cell (by simp <;> omega)).trans (box3c _ _ _ _ _ _ _ _)
  have c1 : W.cell? ⟨w.heap.size + 1 + 1, 1, none⟩ = some (.int .u64 m'') := (hb.cell (by simp <;> omega)).trans (box3c _ _ _ _ _ _ _ _)
  have c2 : W.cell? ⟨w.heap.size + 1 + 1, 2, none⟩ = some (.bool d'') := (hb.cell (by simp <;> omega)).trans (box3c _ _ _ _ _ _ _ _)
  have c3 : W.cell? ⟨w.heap.size + 1 + 1, 3, none⟩ = some (.string v'') := (hb.cell (by simp <;> omega)).trans (box3c _ _ _ _ _ _ _ _)
  clear hb
  have HB := Lib.hid hB0
  clear hB0
  go_wp2_with fail
  go_region_held3 (fun w' => w.heap.size + 2 < w'.heap.size ∧ Below w.heap.size w w' ∧ w'.cell? ⟨w.heap.size, 0, none⟩ = some (.string s) ∧ w'.cell? ⟨w.heap.size, 1, none⟩ = some (.int .u64 m) ∧ w'.cell? ⟨w.heap.size, 2, none⟩ = some (.bool d) ∧ w'.cell? ⟨w.heap.size, 3, none⟩ = some (.string v) ∧
      w'.cell? ⟨w.heap.size + 1, 0, none⟩ = some (.string s') ∧ w'.cell? ⟨w.heap.size + 1, 1, none⟩ = some (.int .u64 m') ∧ w'.cell? ⟨w.heap.size + 1, 2, none⟩ = some (.bool d') ∧ w'.cell? ⟨w.heap.size + 1, 3, none⟩ = some (.string v') ∧
      w'.cell? ⟨w.heap.size + 1 + 1, 0, none⟩ = some (.string s'') ∧ w'.cell? ⟨w.heap.size + 1 + 1, 1, none⟩ = some (.int .u64 m'') ∧ w'.cell? ⟨w.heap.size + 1 + 1, 2, none⟩ = some (.bool d'') ∧ w'.cell? ⟨w.heap.size + 1 + 1, 3, none⟩ = some (.string v''))
    (first | (exact ⟨z0, HB.out.drew, a0, a1, a2, a3, b0, b1, b2, b3, c0, c1, c2, c3⟩) | assumption | (go_split_ands; refine ⟨by have := hb.size; omega, Below.trans (by assumption) (hb.mono (by omega)), ?_, ?_, ?_, ?_, ?_, ?_, ?_, ?_, ?_, ?_, ?_, ?_⟩ <;> (rw [hb.cell (by simp; omega)]; assumption)))
    (first | (go_at_call_of 31 (s''); first | (go_at_call_of 31 (s); go_at_call_of 31 (v); refine (Q3.out _).mono ?_; rintro e w2 ⟨rfl, hb⟩) | (refine (Q2.out _).mono ?_; rintro e w2 ⟨rfl, hb⟩)) | (go_at_call 31; refine (Q1.out _).mono ?_; rintro e w2 ⟨rfl, hb⟩))
  rename_i hH
  obtain ⟨z1, hB1, a0', a1', a2', a3', b0', b1', b2', b3', _⟩ := hH
  clear a0 a1 a2 a3 b0 b1 b2 b3 c0 c1 c2 c3 Q1 Q2 Q3 HB z0
  have HB := Lib.hid hB1
  clear hB1
  have hy := HY.out
  have hx := HX.out
  clear HY HX
  rcases hx with ⟨rfl, k1, k2⟩ | ⟨hx, k1⟩ | ⟨hx, k1, k2⟩
  · obtain ⟨hy1, rfl⟩ : (y = -1 ∨ y = 0 ∨ y = 1) ∧ z = y := by omega
    rcases hy1 with rfl | rfl | rfl
    all_goals
      go_wp2_with fail
      refine (Q4.out _).mono ?_
      rintro e w3 ⟨rfl, hb⟩
      have d0 : w3.cell? ⟨w.heap.size, 0, none⟩ = some (.string s) := (hb.cell (by simp <;> omega)).trans a0'
      have d1 : w3.cell? ⟨w.heap.size, 1, none⟩ = some (.int .u64 m) := (hb.cell (by simp <;> omega)).trans a1'
      have d2 : w3.cell? ⟨w.heap.size + 1, 0, none⟩ = some (.string s') := (hb.cell (by simp <;> omega)).trans b0'
      have d3 : w3.cell? ⟨w.heap.size + 1, 1, none⟩ = some (.int .u64 m') := (hb.cell (by simp <;> omega)).trans b1'
      have hfin : Below w.heap.size w w3 := HB.out.trans (hb.mono (by omega))
      clear hb a0' a1' a2' a3' b0' b1' b2' b3'
      go_wp2
      go_ret
      exact ⟨by simp, hfin⟩
  · rcases hy with ⟨rfl, rfl, rfl⟩ | ⟨rfl, rfl, rfl⟩ | ⟨rfl, rfl, rfl | rfl | rfl⟩ | ⟨rfl, _⟩ | ⟨rfl, rfl, rfl⟩ | ⟨rfl, rfl, rfl⟩ | ⟨rfl, rfl, rfl | rfl | rfl⟩
    all_goals try (exact absurd hx (by decide))
    all_goals
      go_wp2_with fail
      refine (Q4.out _).mono ?_
      rintro e w3 ⟨rfl, hb⟩
      have d0 : w3.cell? ⟨w.heap.size, 0, none⟩ = some (.string s) := (hb.cell (by simp <;> omega)).trans a0'
      have d1 : w3.cell? ⟨w.heap.size, 1, none⟩ = some (.int .u64 m) := (hb.cell (by simp <;> omega)).trans a1'
      have d2 : w3.cell? ⟨w.heap.size + 1, 0, none⟩ = some (.string s') := (hb.cell (by simp <;> omega)).trans b0'
      have d3 : w3.cell? ⟨w.heap.size + 1, 1, none⟩ = some (.int .u64 m') := (hb.cell (by simp <;> omega)).trans b1'
      have hfin : Below w.heap.size w w3 := HB.out.trans (hb.mono (by omega))
      clear hb a0' a1' a2' a3' b0' b1' b2' b3'
      go_wp2
      go_ret
      exact ⟨by simp, hfin⟩
  · rcases hy with ⟨rfl, rfl, rfl⟩ | ⟨rfl, rfl, rfl⟩ | ⟨rfl, rfl, rfl | rfl | rfl⟩ | ⟨rfl, _⟩ | ⟨rfl, rfl, rfl⟩ | ⟨rfl, rfl, rfl⟩ | ⟨rfl, rfl, rfl | rfl | rfl⟩
    all_goals try (exact absurd hx (by decide))
    all_goals
      go_wp2_with fail
      refine (Q4.out _).mono ?_
      rintro e w3 ⟨rfl, hb⟩
      have d0 : w3.cell? ⟨w.heap.size, 0, none⟩ = some (.string s) := (hb.cell (by simp <;> omega)).trans a0'
      have d1 : w3.cell? ⟨w.heap.size, 1, none⟩ = some (.int .u64 m) := (hb.cell (by simp <;> omega)).trans a1'
      have d2 : w3.cell? ⟨w.heap.size + 1, 0, none⟩ = some (.string s') := (hb.cell (by simp <;> omega)).trans b0'
      have d3 : w3.cell? ⟨w.heap.size + 1, 1, none⟩ = some (.int .u64 m') := (hb.cell (by simp <;> omega)).trans b1'
      have hfin : Below w.heap.size w w3 := HB.out.trans (hb.mono (by omega))
      clear hb a0' a1' a2' a3' b0' b1' b2' b3'
      go_wp2
      go_ret
      exact ⟨by simp, hfin⟩
/-- The law KeyTotal. -/
theorem keyTotal_c (s s' s'' : ByteArray) (m m' m'' : Int) (d d' d'' : Bool) (v v' v'' : ByteArray) (w : World) :
    Calls Try.prog 13 #[.agg #[.string s, .int .u64 m, .bool d, .string v], .agg #[.string s', .int .u64 m', .bool d', .string v'], .agg #[.string s'', .int .u64 m'', .bool d'', .string v'']] w fun e w' => e = .returned (.bool true) ∧ Below w.heap.size w w' := by
  obtain ⟨x, y, z, h1, h2, h3, hy⟩ := cmpE_three s.toList s'.toList s''.toList m m' m''
  refine total_walk s s' s'' m m' m'' d d' d'' v v' v'' w x y z ⟨h1, h2, h3, by rw [cmpE_flip, h1]⟩ ?_ hy
  rcases cmpE_cases s.toList s'.toList m m' with ⟨h, k⟩ | ⟨⟨h, h'⟩, k⟩ | ⟨h, k⟩
  · have hx : x = -1 := by rw [← h1, k]
    by_cases e : s.toList = s'.toList
    · refine .inr (.inr ⟨.inl hx, by simp [e], ?_⟩)
      rw [beq_eq_false_iff_ne]
      rintro rfl
      rw [e] at h
      exact ahd_irrefl h
    · exact .inr (.inl ⟨.inl hx, by simp [e]⟩)
  · exact .inl ⟨by rw [← h1, k], by simp [h], by simp [h']⟩
  · have hx : x = 1 := by rw [← h1, k]
    by_cases e : s.toList = s'.toList
    · refine .inr (.inr ⟨.inr hx, by simp [e], ?_⟩)
      rw [beq_eq_false_iff_ne]
      rintro rfl
      rw [e] at h
      exact ahd_irrefl h
    · exact .inr (.inl ⟨.inr hx, by simp [e]⟩)
end Go.Proofs.Ytdeomnbmbhkecaa.H
