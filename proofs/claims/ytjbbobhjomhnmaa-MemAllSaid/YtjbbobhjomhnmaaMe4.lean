/- mem.Table.From's iterator; All. No conditions. -/
import Derived.Test.YtjbbobhjomhnmaaMeA
import Derived.Test.YtjbbobhjomhnmaaMe0
namespace Go.Proofs.Ytjbbobhjomhnmaa.H
open Go Go.RowKit Go.Deep Go.Shelf Go.Proofs Go.Proofs.YtjbbobhjomhnmaaW.PrintWords
set_option linter.unusedVariables false
set_option linter.unusedSimpArgs false
attribute [local go_sem] Oper.semAt_some
def skipB (q : Int) (gl : Option ByteArray) (e : Ent) : Bool := decide (q < e.2.1) || (match gl with | none => false | some k => decide (e.1.toList = k.toList))
def thinS (q : Int) (s : Option ByteArray × List Ent) (e : Ent) : Option ByteArray × List Ent := if skipB q s.1 e = true then s else (some e.1, s.2 ++ [e])
def thinF (q : Int) (l : List Ent) : Option ByteArray × List Ent := l.foldl (thinS q) (none, [])
/-- The first of each key, at or below a number. -/
def thin (q : Int) (l : List Ent) : List Ent := (thinF q l).2
theorem thinF_snoc (q : Int) (p : List Ent) (x : Ent) : thinF q (p ++ [x]) = thinS q (thinF q p) x := by
  unfold thinF
  rw [List.foldl_append]
  rfl
theorem thinS_prefix (q : Int) (s : Option ByteArray × List Ent) (e : Ent) : s.2 <+: (thinS q s e).2 := by
  unfold thinS
  split
  · exact List.prefix_refl _
  · exact ⟨[e], rfl⟩
theorem thin_prefix {q : Int} {p l : List Ent} (h : p <+: l) : thin q p <+: thin q l := by
  obtain ⟨r, rfl⟩ := h
  unfold thin thinF
  rw [List.foldl_append]
  generalize p.foldl (thinS q) (none, []) = s
  induction r generalizing s with
  | nil => exact List.prefix_refl _
  | cons e r ih => exact (thinS_prefix q s e).trans (ih _)
theorem thinF_skip {q : Int} {p : List Ent} {x : Ent} (h : skipB q (thinF q p).1 x = true) : thinF q (p ++ [x]) = thinF q p := by
  rw [thinF_snoc]
  unfold thinS
  rw [if_pos h]
theorem thinF_yield {q : Int} {p : List Ent} {x : Ent} (h : skipB q (thinF q p).1 x = false) : thinF q (p ++ [x]) = (some x.1, thin q p ++ [x]) := by
  rw [thinF_snoc]
  unfold thinS
  rw [if_neg (by rw [h]; decide)]
  rfl
/-- What the caller of mem.From's iterator has, and the iterator's own three blocks. -/
structure FromSt (J : List Ent → (Nat → Prop) → World → Prop) (q : Int) (clo : Obj) (b4 b5 b6 : Nat) (p : List Ent) (S : Nat → Prop) (W : World) : Prop where
  ex : ∃ T, (∀ k, S k ↔ T k ∨ k = b4 ∨ k = b5 ∨ k = b6) ∧ (¬ T b4 ∧ ¬ T b5 ∧ ¬ T b6) ∧ J (thin q p) T W
  r4 : W.heap[b4]? = some clo
  r5 : W.heap[b5]? = some (.cells #[.bool (thinF q p).1.isSome] 4 (0, 0))
  r6 : W.heap[b6]? = some (.cells #[.string ((thinF q p).1.getD ⟨#[]⟩)] 9 (0, 0))
theorem FromSt.skip {J : List Ent → (Nat → Prop) → World → Prop} {q : Int} {clo : Obj} {b4 b5 b6 : Nat} {p : List Ent} {x : Ent} {S : Nat → Prop} {W : World} (h : FromSt J q clo b4 b5 b6 p S W) (hs : skipB q (thinF q p).1 x = true) : FromSt J q clo b4 b5 b6 (p ++ [x]) S W := by
  obtain ⟨T, h1, h2, h3⟩ := h.ex
  have e := thinF_skip hs
  refine ⟨⟨T, h1, h2, ?_⟩, h.r4, ?_, ?_⟩
  · unfold thin at *
    rw [e]
    exact h3
  · rw [e]; exact h.r5
  · rw [e]; exact h.r6
theorem fromSt_foot {J : List Ent → (Nat → Prop) → World → Prop} (h : Foot J) (q : Int) (clo : Obj) (b4 b5 b6 : Nat) : Foot (FromSt J q clo b4 b5 b6) := by
  refine ⟨fun {s S W k} h1 hk => ?_, fun {s S W W'} h1 hs => ?_⟩
  · obtain ⟨T, hS, _, hj⟩ := h1.ex
    rcases (hS k).1 hk with hk | rfl | rfl | rfl
    · exact h.lt hj hk
    · exact blk_lt h1.r4
    · exact blk_lt h1.r5
    · exact blk_lt h1.r6
  · obtain ⟨T, hS, hn, hj⟩ := h1.ex
    exact ⟨⟨T, hS, hn, h.move hj (hs.mono fun k hk => (hS k).2 (.inl hk))⟩, (hs.block _ ((hS _).2 (.inr (.inl rfl)))).trans h1.r4, (hs.block _ ((hS _).2 (.inr (.inr (.inl rfl))))).trans h1.r5, (hs.block _ ((hS _).2 (.inr (.inr (.inr rfl))))).trans h1.r6⟩
/-- With a box more. -/
theorem foot_box {I : List Ent → (Nat → Prop) → World → Prop} (h : Foot I) (p : List Ent) (x : Ent) (X : Nat → Act) (t : TypeId) :
    Foot (fun (a : Act) S W => ∃ b7 S0, W.heap[b7]? = some (.cells (encE x).toArray t (0, 0)) ∧ I p S0 W ∧ (∀ k, S k ↔ S0 k ∨ k = b7) ∧ ¬ S0 b7 ∧ a = X b7) := by
  refine ⟨fun {a S W k} h1 hk => ?_, fun {a S W W'} h1 hs => ?_⟩
  · obtain ⟨b7, S0, r, hi, hS, _, _⟩ := h1
    rcases (hS k).1 hk with hk | rfl
    · exact h.lt hi hk
    · exact blk_lt r
  · obtain ⟨b7, S0, r, hi, hS, hn, ha⟩ := h1
    exact ⟨b7, S0, (hs.block _ ((hS _).2 (.inr rfl))).trans r, h.move hi (hs.mono fun k hk => (hS k).2 (.inl hk)), hS, hn, ha⟩
theorem ldTp (b j t : Nat) (W : World) (h : W.cell? ⟨b, j, none⟩ = some (.pointer (some ⟨t, 0, none⟩))) : (Instr.loadAt 81 (.pointer (some ⟨b, j, none⟩))).run Try.prog W = .ok (.pointer (some ⟨t, 0, none⟩)) W := by
  go_simp
theorem ldLp' (b j g : Nat) (W : World) (h : W.cell? ⟨b, j, none⟩ = some (.pointer (some ⟨g, 0, none⟩))) : (Instr.loadAt 43 (.pointer (some ⟨b, j, none⟩))).run Try.prog W = .ok (.pointer (some ⟨g, 0, none⟩)) W := by
  go_simp
set_option maxHeartbeats 3200000 in
set_option maxRecDepth 100000 in
theorem mfrom1_it (w0 W : World) (t g : Nat) (S : Nat → Prop) (draws : List Int) (m : MemV) (k : ByteArray) (q : Int) (hb : Below w0.heap.size w0 W) (hM : MemIs w0 t g S draws m)
    (B1 B2 B3 : Nat) (c1 : w0.cell? ⟨B1, 0, none⟩ = some (.pointer (some ⟨t, 0, none⟩))) (c2 : w0.cell? ⟨B2, 0, none⟩ = some (.string k)) (c3 : w0.cell? ⟨B3, 0, none⟩ = some (.int .u64 q)) :
    IterT Try.prog 93 #[.pointer (some ⟨B1, 0, none⟩), .pointer (some ⟨B2, 0, none⟩), .pointer (some ⟨B3, 0, none⟩)] encA w0.heap.size (thin q (notAhead k 18446744073709551615 (allE m.L))) W := by
  obtain ⟨raw, hraw⟩ : ∃ raw, notAhead k 18446744073709551615 (allE m.L) = raw := ⟨_, rfl⟩
  rw [hraw]
  intro fn cap J Jx T hJ hJx hT h0 hY
  obtain ⟨W2, hW2⟩ : ∃ W2, ((W.alloc (.cells #[.func fn #[] cap] 72)).alloc (.cells #[.bool false] 4)).alloc (.cells #[.string ⟨#[]⟩] 9) = W2 := ⟨_, rfl⟩
  have hb2 : Below W.heap.size W W2 := by rw [← hW2]; exact (((Below.refl _ _).alloc (Nat.le_refl _) _).alloc (by simp) _).alloc (by simp; omega) _
  have r4 : W2.heap[W.heap.size]? = some (.cells #[.func fn #[] cap] 72 (0, 0)) := by rw [← hW2]; exact blk_alloc (blk_alloc (heap_alloc_new _ _) _) _
  have r5 : W2.heap[W.heap.size + 1]? = some (.cells #[.bool false] 4 (0, 0)) := by rw [← hW2]; exact blk_alloc (by simpa using heap_alloc_new (W.alloc (.cells #[.func fn #[] cap] 72)) (.cells #[.bool false] 4)) _
  have r6 : W2.heap[W.heap.size + 1 + 1]? = some (.cells #[.string ⟨#[]⟩] 9 (0, 0)) := by rw [← hW2]; simpa using heap_alloc_new ((W.alloc (.cells #[.func fn #[] cap] 72)).alloc (.cells #[.bool false] 4)) (.cells #[.string ⟨#[]⟩] 9)
  have hle : w0.heap.size ≤ W.heap.size := hb.size
  have hw2 : Below w0.heap.size w0 W2 := hb.trans (hb2.mono hle)
  have HMW := Lib.hid (hM.later hw2)
  have HY := Lib.hid hY
  have HJ := Lib.hid hJ
  have HJX := Lib.hid hJx
  have H0 := Lib.hid h0
  have HT := Lib.hid hT
  have HB := Lib.hid hb
  have HB2 := Lib.hid hb2
  have HW0 := Lib.hid hw2
  have R4 := Lib.hid r4
  have R5 := Lib.hid r5
  have R6 := Lib.hid r6
  have HC3 := Lib.hid c3
  obtain ⟨⟨t0, t1, t2, t3⟩, _⟩ := (hM.later hw2).cells
  have d1 := cell_later hw2 c1
  have d2 := cell_later hw2 c2
  have hfrom := (fun (W3 : World) (h3 : Below W2.heap.size W2 W3) => from_L g S draws m.L k 18446744073709551615 w0 W3 hM.list (hw2.trans (h3.mono hw2.size)))
  simp only [hraw] at hfrom
  have HFROM := Lib.hid hfrom
  clear hraw hfrom hM hY hJ hJx h0 hT hb hb2 hw2 r4 r5 r6 c1 c2 c3
  have HWE := Lib.hid hW2
  clear hW2
  refine (callsIn_wide (n := 8)).1 ?_
  refine callsIn_of_wp_marks Try.func93 rfl trivial ?_ rfl
  simp only [Try.ntmps93, List.size_toArray, List.length_cons, List.length_nil, Nat.reduceAdd, Nat.reduceSub, Array.replicate_succ, Array.replicate_zero, List.push_toArray, List.append_toArray, List.nil_append, List.cons_append]
  gi_wp2
  rw [HWE.out]
  refine wpIn_wide.2 ?_
  refine wp_region_calmB 5 (by kernel_rfl) (by kernel_rfl) ?_
  simp only [List.take_succ_cons, List.take_zero, List.drop_succ_cons, List.drop_zero]
  refine chain0 ?_
  refine @chain _ _ _ _ _ _ _ _ 8 (.pointer (some ⟨t, 0, none⟩)) (by rfl) (by rfl) (by exact fun W2 hW => run_lw (by rfl) (by exact eval_base (by kernel_rfl) (by rfl)) (fun W hW => ldTp _ _ _ _ (cell_later hW d1)) hW) ?_
  refine @chain _ _ _ _ _ _ _ _ 9 (.pointer (some ⟨t, 0, none⟩)) (by rfl) (by rfl) (by exact fun W2 hW => run_nc (by rfl) (by exact eval_look (by kernel_rfl) (by kernel_rfl)) hW) ?_
  refine @chain _ _ _ _ _ _ _ _ 10 (.pointer (some ⟨t, 0, none⟩)) (by rfl) (by rfl) (by exact fun W2 hW => run_fa (p := .pointer (some ⟨t, 0, none⟩)) (by rfl) (by exact eval_look (by kernel_rfl) (by kernel_rfl)) (fun W => by first | kernel_rfl | go_simp) hW) ?_
  refine @chain _ _ _ _ _ _ _ _ 11 (.pointer (some ⟨g, 0, none⟩)) (by rfl) (by rfl) (by exact fun W2 hW => run_lw (by rfl) (by exact eval_look (by kernel_rfl) (by kernel_rfl)) (fun W hW => ldLp' _ _ _ _ (cell_later hW t0)) hW) ?_
  refine @chain _ _ _ _ _ _ _ _ 12 (.string k) (by rfl) (by rfl) (by exact fun W2 hW => run_lw (by rfl) (by exact eval_base (by kernel_rfl) (by rfl)) (fun W hW => ldS _ _ _ _ (cell_later hW d2)) hW) ?_
  refine calm_nil (fun W3 hW3 => ?_)
  refine Eq.mpr (congrArg (fun a => wpList _ _ _ _ a W3) (show _ = (⟨#[Value.func fn #[] cap, Value.pointer (some ⟨B1, 0, none⟩), Value.pointer (some ⟨B2, 0, none⟩), Value.pointer (some ⟨B3, 0, none⟩), Value.pointer (some ⟨W.heap.size, 0, none⟩), Value.pointer (some ⟨W.heap.size + 1, 0, none⟩), Value.pointer (some ⟨W.heap.size + 1 + 1, 0, none⟩), undef, Value.pointer (some ⟨t, 0, none⟩), Value.pointer (some ⟨t, 0, none⟩), Value.pointer (some ⟨t, 0, none⟩), Value.pointer (some ⟨g, 0, none⟩), Value.string k, undef, undef, undef, undef, undef, undef, undef, undef, undef, undef, undef, undef, undef, undef, undef, undef, undef, undef, undef, undef, undef], []⟩ : Act) by kernel_rfl)) ?_
  have HW3 := Lib.hid hW3
  clear hW3

  have HFR := Lib.hid (HFROM.out W3 HW3.out)
  go_wp2_with fail
  refine HFR.out.mono ?_
  rintro e w4 ⟨f, rfl, hit, hb4⟩
  obtain ⟨gf, lb, rfl, henter, hseq⟩ := hit
  have hb24 : Below W2.heap.size W2 w4 := HW3.out.trans (hb4.mono HW3.out.size)
  have hlt : ∀ k, T k → k < W.heap.size := fun k hk => HJ.out.lt H0.out hk
  have hleW : W.heap.size + 1 + 1 < W2.heap.size := blk_lt R6.out
  have hle4 : W2.heap.size ≤ w4.heap.size := hb24.size
  have hle0 : w0.heap.size ≤ W.heap.size := HB.out.size
  have hWw4 : Below W.heap.size W w4 := HB2.out.trans (hb24.mono HB2.out.size)
  have hst0 : FromSt J q (.cells #[.func fn #[] cap] 72 (0, 0)) W.heap.size (W.heap.size + 1) (W.heap.size + 1 + 1) [] (fun k => T k ∨ k = W.heap.size ∨ k = W.heap.size + 1 ∨ k = W.heap.size + 1 + 1) w4 :=
    ⟨⟨T, fun _ => Iff.rfl, ⟨fun h => by have := hlt _ h; omega, fun h => by have := hlt _ h; omega, fun h => by have := hlt _ h; omega⟩, HJ.out.move H0.out (Same.of_below hWw4 hlt)⟩, blk_below R4.out hb24, blk_below R5.out hb24, blk_below R6.out hb24⟩
  have hUW : ∀ (S' T1 : Nat → Prop) (W' : World), Grow (fun k => T k ∨ k = W.heap.size ∨ k = W.heap.size + 1 ∨ k = W.heap.size + 1 + 1) S' w4 → Upd (fun k => T k ∨ k = W.heap.size ∨ k = W.heap.size + 1 ∨ k = W.heap.size + 1 + 1) w4 W' → (∀ k, S' k ↔ T1 k ∨ k = W.heap.size ∨ k = W.heap.size + 1 ∨ k = W.heap.size + 1 + 1) → Grow T T1 W ∧ Upd T W W' := fun S' T1 W' hg hu hS => by
    refine ⟨fun k hk => ?_, (Upd.of_below hWw4).step hu (fun k hk => ?_)⟩
    · rcases hg k ((hS k).2 (.inl hk)) with h | h
      · rcases h with h | h
        · exact .inl h
        · exact .inr (by omega)
      · exact .inr (by omega)
    · rcases hk with h | h
      · exact .inl h
      · exact .inr (by omega)
  go_wp2
  gi_wp2
  refine rangeT (gf := gf) (lb := lb) rfl henter (encs := encA) (n₀ := w0.heap.size) (l := raw) hseq (fun _ => rfl)
    (FromSt J q (.cells #[.func fn #[] cap] 72 (0, 0)) W.heap.size (W.heap.size + 1) (W.heap.size + 1 + 1))
    (fun c p S' W' => (∃ T1, (∀ k, S' k ↔ T1 k ∨ k = W.heap.size ∨ k = W.heap.size + 1 ∨ k = W.heap.size + 1 + 1) ∧ Jx (thin q p) T1 W' ∧ W'.heap.size > W.heap.size + 1 + 1) ∧ c = .ret)
    (fun p x => fun a' S' W' => ∃ b7 S0, W'.heap[b7]? = some (.cells (encE x).toArray 53 (0, 0)) ∧ FromSt J q (.cells #[.func fn #[] cap] 72 (0, 0)) W.heap.size (W.heap.size + 1) (W.heap.size + 1 + 1) p S0 W' ∧ (∀ k, S' k ↔ S0 k ∨ k = b7) ∧ ¬ S0 b7 ∧ a' = ({ tmps := #[.func fn #[] cap, .pointer (some ⟨B1, 0, none⟩), .pointer (some ⟨B2, 0, none⟩), .pointer (some ⟨B3, 0, none⟩), .pointer (some ⟨W.heap.size, 0, none⟩), .pointer (some ⟨W.heap.size + 1, 0, none⟩), .pointer (some ⟨W.heap.size + 1 + 1, 0, none⟩), .pointer (some ⟨b7, 0, none⟩), .pointer (some ⟨t, 0, none⟩), .pointer (some ⟨t, 0, none⟩), .pointer (some ⟨t, 0, none⟩), .pointer (some ⟨g, 0, none⟩), .string k, .func (.func gf) #[] lb, .agg (encE x).toArray, undef, undef, undef, undef, undef, undef, undef, undef, undef, undef, undef, undef, undef, undef, undef, undef, undef, undef, undef], defers := [] } : Act))
    (fromSt_foot HJ.out q _ _ _ _)
    (fun c => ⟨fun {s S' W' k'} h hk => by
        obtain ⟨⟨T1, hS, hj, hsz⟩, _⟩ := h
        rcases (hS k').1 hk with hk | rfl | rfl | rfl
        · exact HJX.out.lt hj hk
        · omega
        · omega
        · omega,
      fun {s S' W' W''} h hs => by
        obtain ⟨⟨T1, hS, hj, hsz⟩, hc⟩ := h
        exact ⟨⟨T1, hS, HJX.out.move hj (hs.mono fun k' hk => (hS k').2 (.inl hk)), Nat.lt_of_lt_of_le hsz hs.size⟩, hc⟩⟩)
    (fun p x => foot_box (fromSt_foot HJ.out q _ _ _ _) p x (fun b7 => _) _)
    _ (fun k hk => by
      rcases hk with h | h | h | h
      · exact HT.out k h
      · omega
      · omega
      · omega) (Nat.le_trans hle0 hWw4.size) hst0 ?assign ?body ?done ?stop
  case assign =>
    intro lp p x T1 W' K hi hg hu hp hK
    have r8 := heap_alloc_new W' (.cells #[.string ⟨#[]⟩, .int .u64 0, .bool false, .string ⟨#[]⟩] 53)
    have hst := store4 r8 x
    have r9 := setRow_heap _ _ _ (encE x).toArray _ _ r8
    have hlt1 := fun k hk => (fromSt_foot HJ.out q _ _ _ _).lt (k := k) hi hk
    dsimp only [encA]
    gi_wp2
    refine hK _ (fun k => T1 k ∨ k = W'.heap.size) _ (fun k hk => by rcases hk with h | rfl; exact .inl h; exact .inr (Nat.le_refl _)) ?_ ⟨W'.heap.size, T1, r9, ?_, fun _ => Iff.rfl, (fun h => Nat.lt_irrefl _ (hlt1 _ h)), rfl⟩
    · exact (Upd.alloc _ _).step (upd_setRow (S := fun k => k = W'.heap.size) _ _ rfl) (fun k hk => .inr (by omega))
    · exact ((fromSt_foot HJ.out q _ _ _ _).move hi (same_alloc _ _ hlt1)) |> fun h => (fromSt_foot HJ.out q _ _ _ _).move h (same_setRow _ _ (fun h2 => Nat.lt_irrefl _ (hlt1 _ h2)))
  case body =>
    rintro lp p x a' S' W' ⟨b7, S0, r7, hst, hS', hn7, rfl⟩ hg hu hp
    obtain ⟨T1, hS, ⟨n4, n5, n6⟩, hj⟩ := hst.ex
    have hS0T : ∀ k, S0 k → S' k := fun k hk => (hS' k).2 (.inl hk)
    have hgb : Grow T T1 W ∧ Upd T W W' := by
      refine ⟨fun k hk => ?_, (Upd.of_below hWw4).step hu (fun k hk => ?_)⟩
      · rcases hg k (hS0T k ((hS k).2 (.inl hk))) with h | h
        · rcases h with h | h
          · exact .inl h
          · exact .inr (by omega)
        · exact .inr (by omega)
      · rcases hk with h | h
        · exact .inl h
        · exact .inr (by omega)
    have hbW : Below w0.heap.size w0 W' := HB.out.trans (hgb.2.bel HT.out hle0)
    have ux := boxEnt (e := x) r7
    have x0 := ux 0 _ rfl
    have x1 := ux 1 _ rfl
    have x2 := ux 2 _ rfl
    have x3 := ux 3 _ rfl
    have y3 : W'.cell? ⟨B3, 0, none⟩ = some (.int .u64 q) := (hbW.cell (p := ⟨B3, 0, none⟩) (World.block_lt_of_cell? w0 ⟨B3, 0, none⟩ HC3.out)).trans HC3.out
    have y4 : W'.cell? ⟨W.heap.size, 0, none⟩ = some (.func fn #[] cap) := (blk_cell hst.r4 0).trans rfl
    have HST := Lib.hid hst
    have HS := Lib.hid hS
    have HS' := Lib.hid hS'
    have HN := Lib.hid (show ¬ T1 W.heap.size ∧ ¬ T1 (W.heap.size + 1) ∧ ¬ T1 (W.heap.size + 1 + 1) from ⟨n4, n5, n6⟩)
    have HJ1 := Lib.hid hj
    have HGB := Lib.hid hgb
    have HP := Lib.hid hp
    have HSK := Lib.hid (show skipB q (thinF q p).1 x = true → postT (FromSt J q (.cells #[.func fn #[] cap] 72 (0, 0)) W.heap.size (W.heap.size + 1) (W.heap.size + 1 + 1)) (fun c p S' W' => (∃ T1, (∀ k, S' k ↔ T1 k ∨ k = W.heap.size ∨ k = W.heap.size + 1 ∨ k = W.heap.size + 1 + 1) ∧ Jx (thin q p) T1 W' ∧ W'.heap.size > W.heap.size + 1 + 1) ∧ c = .ret) (p ++ [x]) S' W' .normal ⟨#[], []⟩ W' from fun hs => ⟨S0, fun k hk => .inl (hS0T k hk), Upd.refl _ _, hst.skip hs⟩)
    obtain ⟨gl, hgl⟩ : ∃ gl, (thinF q p).1 = gl := ⟨_, rfl⟩
    have r5 := hst.r5
    have r6 := hst.r6
    rw [hgl] at r5 r6 HSK
    have HGL := Lib.hid hgl
    have y5 : W'.cell? ⟨W.heap.size + 1, 0, none⟩ = some (.bool gl.isSome) := (blk_cell r5 0).trans rfl
    have y6 : W'.cell? ⟨W.heap.size + 1 + 1, 0, none⟩ = some (.string (gl.getD ⟨#[]⟩)) := (blk_cell r6 0).trans rfl
    have HR5 := Lib.hid r5
    have HR6 := Lib.hid r6
    have HR7 := Lib.hid r7
    clear hst hS hS' n4 n5 n6 hj hgb hp hgl r5 r6 r7 ux hg hu hS0T hbW
    by_cases hq : q < x.2.1
    · have hs := HSK.out (by unfold skipB; rw [decide_eq_true hq]; rfl)
      clear HSK
      gi_wp2
      exact hs
    · cases gl with
      | none =>
        have hsk : skipB q none x = false := by unfold skipB; rw [decide_eq_false hq]; rfl
        simp only [Option.isSome_none] at y5
        have HTY := Lib.hid (thinF_yield (q := q) (p := p) (x := x) (by rw [HGL.out]; exact hsk))
        have hpre : thin q p ++ [x] <+: thin q raw := by
          have := thin_prefix (q := q) HP.out
          unfold thin at this ⊢
          rw [HTY.out] at this
          exact this
        have hcall := (HY.out (thin q p) x T1 W' HJ1.out HGB.out.1 HGB.out.2 hpre).mono fun e W1 h => h.bool

        have FACT := Lib.hid (show ∀ (b : Bool) (T3 : Nat → Prop) (W3 : World), Grow T1 T3 W' → Upd T1 W' W3 → (b = true → J (thin q p ++ [x]) T3 W3) → (b = false → Jx (thin q p ++ [x]) T3 W3) →
            (W3.heap[W.heap.size + 1]? = some (.cells #[.bool false] 4 (0, 0)) ∧ W3.heap[W.heap.size + 1 + 1]? = some (.cells #[.string ⟨#[]⟩] 9 (0, 0)) ∧ W3.heap[b7]? = some (.cells (encE x).toArray 53 (0, 0))) ∧
            (b = false → ∃ T', Grow S' T' W' ∧ Upd S' W' W3 ∧ ((∃ T1, (∀ k, T' k ↔ T1 k ∨ k = W.heap.size ∨ k = W.heap.size + 1 ∨ k = W.heap.size + 1 + 1) ∧ Jx (thin q (p ++ [x])) T1 W3 ∧ W3.heap.size > W.heap.size + 1 + 1))) ∧
            (b = true → ∀ W4, Upd (fun k => k = W.heap.size + 1 ∨ k = W.heap.size + 1 + 1) W3 W4 → W4.heap[W.heap.size + 1]? = some (.cells #[.bool true] 4 (0, 0)) → W4.heap[W.heap.size + 1 + 1]? = some (.cells #[.string x.1] 9 (0, 0)) →
              ∃ T', Grow S' T' W' ∧ Upd S' W' W4 ∧ FromSt J q (.cells #[.func fn #[] cap] 72 (0, 0)) W.heap.size (W.heap.size + 1) (W.heap.size + 1 + 1) (p ++ [x]) T' W4) from fun b T3 W3 hg3 hu3 hq1 hq2 => by
          obtain ⟨n4, n5, n6⟩ := HN.out
          have hsub : ∀ k, T1 k → S' k := fun k hk => (HS'.out k).2 (.inl ((HS.out k).2 (.inl hk)))
          have hn7 : ¬ T1 b7 := fun h => hn7 ((HS.out b7).2 (.inl h))
          have hl4 := blk_lt HST.out.r4
          have hl5 := blk_lt HR5.out
          have hl6 := blk_lt HR6.out
          have hbox : ∀ k, (k = W.heap.size ∨ k = W.heap.size + 1 ∨ k = W.heap.size + 1 + 1) → S' k := fun k hk => (HS'.out k).2 (.inl ((HS.out k).2 (.inr hk)))
          have hgr : Grow S' (fun k => T3 k ∨ k = W.heap.size ∨ k = W.heap.size + 1 ∨ k = W.heap.size + 1 + 1) W' := fun k hk => by
            rcases hk with h | h
            · rcases hg3 k h with h | h
              · exact .inl (hsub k h)
              · exact .inr h
            · exact .inl (hbox k h)
          refine ⟨⟨hu3.heap HR5.out n5, hu3.heap HR6.out n6, hu3.heap HR7.out hn7⟩, fun hb => ⟨_, hgr, hu3.mono hsub, ⟨T3, fun _ => Iff.rfl, by unfold thin at hq2 ⊢; rw [HTY.out]; exact hq2 hb, Nat.lt_of_lt_of_le hl6 hu3.size⟩⟩, fun hb W4 hu4 q5 q6 => ?_⟩
          have m4 := hg3.not n4 hl4
          have m5 := hg3.not n5 hl5
          have m6 := hg3.not n6 hl6
          refine ⟨_, hgr, (hu3.mono hsub).step hu4 (fun k hk => .inl (hbox k (.inr hk))), ⟨T3, fun _ => Iff.rfl, ⟨m4, m5, m6⟩, ?_⟩, ?_, ?_, ?_⟩
          · unfold thin at hq1 ⊢
            rw [HTY.out]
            refine HJ.out.move (hq1 hb) (hu4.same (fun k hk => ⟨HJ.out.lt (hq1 hb) hk, fun e => ?_⟩))
            rcases e with rfl | rfl
            · exact m5 hk
            · exact m6 hk
          · exact hu4.heap (hu3.heap HST.out.r4 n4) (fun e => by omega)
          · rw [HTY.out]; exact q5
          · rw [HTY.out]; exact q6)

        clear HSK hsk hpre
        rcases hcall with ⟨l2, rfl, rfl, fn2, tmps2, assign2, body2, hy, hC⟩ | ⟨f2, rfl, henter2, hC⟩
        · have HC := Lib.hid (RoundIn.wide (m := 8 - 1 - 1 - 1) hC)
          clear hC
          dsimp only [encA, encE] at hy
          gi_wp2
          refine (RoundIn.inR HC.out).mono ?_
          rintro e W3 ⟨b, T3, rfl, hg3, hu3, hq1, hq2⟩
          have HW := Lib.hid (FACT.out b T3 W3 hg3 hu3 hq1 hq2)
          clear hg3 hu3 hq1 hq2
          cases b with
          | false =>
            gi_wp2
            first | exact (HW.out.2.1 rfl).imp fun _ h => ⟨h.1, h.2.1, h.2.2, rfl⟩ | exact (HW.out.2.1 trivial).imp fun _ h => ⟨h.1, h.2.1, h.2.2, rfl⟩
          | true =>
            gi_wp2
            obtain ⟨q5, q6, q7⟩ := HW.out.1
            have v5 : W3.cell? ⟨W.heap.size + 1, 0, none⟩ = some (.bool false) := (blk_cell q5 0).trans rfl
            have v6 : W3.cell? ⟨W.heap.size + 1 + 1, 0, none⟩ = some (.string ⟨#[]⟩) := (blk_cell q6 0).trans rfl
            have v7 : W3.cell? ⟨b7, 0, none⟩ = some (.string x.1) := boxEnt (e := x) q7 0 _ rfl
            have g5 : W3.frozen? ⟨W.heap.size + 1, 0, none⟩ = false := blk_frozen q5 0
            have g6 : W3.frozen? ⟨W.heap.size + 1 + 1, 0, none⟩ = false := blk_frozen q6 0
            have hmx : Try.prog.follows .mixedOrders = true := by kernel_rfl
            have hne : W.heap.size + 1 + 1 ≠ W.heap.size + 1 := by omega
            have hs5 : b7 ≠ W.heap.size + 1 := fun e => hn7 (by rw [e]; exact (HS.out _).2 (.inr (.inr (.inl rfl))))
            have hs6 : b7 ≠ W.heap.size + 1 + 1 := fun e => hn7 (by rw [e]; exact (HS.out _).2 (.inr (.inr (.inr rfl))))
            have hs5' : W.heap.size + 1 ≠ b7 := fun e => hs5 e.symm
            have hs6' : W.heap.size + 1 + 1 ≠ b7 := fun e => hs6 e.symm
            have Q5 := Lib.hid q5
            have Q6 := Lib.hid q6
            clear q5 q6 q7 x0 x1 x2 x3 y3 y4 y5 y6
            gi_region_with_o fail
            all_goals gi_wp2
            all_goals first | exact HW.out.2.2 rfl _ (((Upd.drew W3).trans (Upd.setCell _ _ _ (.inl rfl))).trans (Upd.setCell _ _ _ (.inr rfl))) (blk_far (blk_set (w := W3.drew) (show W3.drew.heap[W.heap.size + 1]? = _ from Q5.out) 0 (.bool true)) (p := ⟨W.heap.size + 1 + 1, 0, none⟩) hne.symm _) (blk_set (blk_far (w := W3.drew) (show W3.drew.heap[W.heap.size + 1 + 1]? = _ from Q6.out) (p := ⟨W.heap.size + 1, 0, none⟩) hne _) 0 (.string x.1)) | exact HW.out.2.2 trivial _ (((Upd.drew W3).trans (Upd.setCell _ _ _ (.inl rfl))).trans (Upd.setCell _ _ _ (.inr rfl))) (blk_far (blk_set (w := W3.drew) (show W3.drew.heap[W.heap.size + 1]? = _ from Q5.out) 0 (.bool true)) (p := ⟨W.heap.size + 1 + 1, 0, none⟩) hne.symm _) (blk_set (blk_far (w := W3.drew) (show W3.drew.heap[W.heap.size + 1 + 1]? = _ from Q6.out) (p := ⟨W.heap.size + 1, 0, none⟩) hne _) 0 (.string x.1)) | exact HW.out.2.2 _ (((Upd.drew W3).trans (Upd.setCell _ _ _ (.inl rfl))).trans (Upd.setCell _ _ _ (.inr rfl))) (blk_far (blk_set (w := W3.drew) (show W3.drew.heap[W.heap.size + 1]? = _ from Q5.out) 0 (.bool true)) (p := ⟨W.heap.size + 1 + 1, 0, none⟩) hne.symm _) (blk_set (blk_far (w := W3.drew) (show W3.drew.heap[W.heap.size + 1 + 1]? = _ from Q6.out) (p := ⟨W.heap.size + 1, 0, none⟩) hne _) 0 (.string x.1))
        · have HC := Lib.hid hC
          clear hC
          gi_wp2_with (first | (refine ⟨trivial, ?_⟩; gi_at_fn f2; refine (CallsIn.inRound lp (callsIn_wide.2 HC.out)).mono ?_; rintro e W3 ⟨b, T3, rfl, hg3, hu3, hq1, hq2⟩; have HW := Lib.hid (FACT.out b T3 W3 hg3 hu3 hq1 hq2); clear hg3 hu3 hq1 hq2; cases b))
          · first | exact (HW.out.2.1 rfl).imp fun _ h => ⟨h.1, h.2.1, h.2.2, rfl⟩ | exact (HW.out.2.1 trivial).imp fun _ h => ⟨h.1, h.2.1, h.2.2, rfl⟩
          · skip
            obtain ⟨q5, q6, q7⟩ := HW.out.1
            have v5 : W3.cell? ⟨W.heap.size + 1, 0, none⟩ = some (.bool false) := (blk_cell q5 0).trans rfl
            have v6 : W3.cell? ⟨W.heap.size + 1 + 1, 0, none⟩ = some (.string ⟨#[]⟩) := (blk_cell q6 0).trans rfl
            have v7 : W3.cell? ⟨b7, 0, none⟩ = some (.string x.1) := boxEnt (e := x) q7 0 _ rfl
            have g5 : W3.frozen? ⟨W.heap.size + 1, 0, none⟩ = false := blk_frozen q5 0
            have g6 : W3.frozen? ⟨W.heap.size + 1 + 1, 0, none⟩ = false := blk_frozen q6 0
            have hmx : Try.prog.follows .mixedOrders = true := by kernel_rfl
            have hne : W.heap.size + 1 + 1 ≠ W.heap.size + 1 := by omega
            have hs5 : b7 ≠ W.heap.size + 1 := fun e => hn7 (by rw [e]; exact (HS.out _).2 (.inr (.inr (.inl rfl))))
            have hs6 : b7 ≠ W.heap.size + 1 + 1 := fun e => hn7 (by rw [e]; exact (HS.out _).2 (.inr (.inr (.inr rfl))))
            have hs5' : W.heap.size + 1 ≠ b7 := fun e => hs5 e.symm
            have hs6' : W.heap.size + 1 + 1 ≠ b7 := fun e => hs6 e.symm
            have Q5 := Lib.hid q5
            have Q6 := Lib.hid q6
            clear q5 q6 q7 x0 x1 x2 x3 y3 y4 y5 y6
            gi_region_with_o fail
            all_goals gi_wp2
            all_goals first | exact HW.out.2.2 rfl _ (((Upd.drew W3).trans (Upd.setCell _ _ _ (.inl rfl))).trans (Upd.setCell _ _ _ (.inr rfl))) (blk_far (blk_set (w := W3.drew) (show W3.drew.heap[W.heap.size + 1]? = _ from Q5.out) 0 (.bool true)) (p := ⟨W.heap.size + 1 + 1, 0, none⟩) hne.symm _) (blk_set (blk_far (w := W3.drew) (show W3.drew.heap[W.heap.size + 1 + 1]? = _ from Q6.out) (p := ⟨W.heap.size + 1, 0, none⟩) hne _) 0 (.string x.1)) | exact HW.out.2.2 trivial _ (((Upd.drew W3).trans (Upd.setCell _ _ _ (.inl rfl))).trans (Upd.setCell _ _ _ (.inr rfl))) (blk_far (blk_set (w := W3.drew) (show W3.drew.heap[W.heap.size + 1]? = _ from Q5.out) 0 (.bool true)) (p := ⟨W.heap.size + 1 + 1, 0, none⟩) hne.symm _) (blk_set (blk_far (w := W3.drew) (show W3.drew.heap[W.heap.size + 1 + 1]? = _ from Q6.out) (p := ⟨W.heap.size + 1, 0, none⟩) hne _) 0 (.string x.1)) | exact HW.out.2.2 _ (((Upd.drew W3).trans (Upd.setCell _ _ _ (.inl rfl))).trans (Upd.setCell _ _ _ (.inr rfl))) (blk_far (blk_set (w := W3.drew) (show W3.drew.heap[W.heap.size + 1]? = _ from Q5.out) 0 (.bool true)) (p := ⟨W.heap.size + 1 + 1, 0, none⟩) hne.symm _) (blk_set (blk_far (w := W3.drew) (show W3.drew.heap[W.heap.size + 1 + 1]? = _ from Q6.out) (p := ⟨W.heap.size + 1, 0, none⟩) hne _) 0 (.string x.1))
      | some kk =>
        simp only [Option.isSome_some, Option.getD_some] at y5 y6
        by_cases hkk : x.1.toList = kk.toList
        · have hs := HSK.out (by unfold skipB; rw [decide_eq_false hq]; simp [hkk])
          clear HSK
          gi_wp2
          exact hs
        · have hkk' : (x.1.toList == kk.toList) = false := by simpa using hkk
          have hsk : skipB q (some kk) x = false := by unfold skipB; rw [decide_eq_false hq]; simp [hkk]
          have HTY := Lib.hid (thinF_yield (q := q) (p := p) (x := x) (by rw [HGL.out]; exact hsk))
          have hpre : thin q p ++ [x] <+: thin q raw := by
            have := thin_prefix (q := q) HP.out
            unfold thin at this ⊢
            rw [HTY.out] at this
            exact this
          have hcall := (HY.out (thin q p) x T1 W' HJ1.out HGB.out.1 HGB.out.2 hpre).mono fun e W1 h => h.bool

          have FACT := Lib.hid (show ∀ (b : Bool) (T3 : Nat → Prop) (W3 : World), Grow T1 T3 W' → Upd T1 W' W3 → (b = true → J (thin q p ++ [x]) T3 W3) → (b = false → Jx (thin q p ++ [x]) T3 W3) →
              (W3.heap[W.heap.size + 1]? = some (.cells #[.bool true] 4 (0, 0)) ∧ W3.heap[W.heap.size + 1 + 1]? = some (.cells #[.string kk] 9 (0, 0)) ∧ W3.heap[b7]? = some (.cells (encE x).toArray 53 (0, 0))) ∧
              (b = false → ∃ T', Grow S' T' W' ∧ Upd S' W' W3 ∧ ((∃ T1, (∀ k, T' k ↔ T1 k ∨ k = W.heap.size ∨ k = W.heap.size + 1 ∨ k = W.heap.size + 1 + 1) ∧ Jx (thin q (p ++ [x])) T1 W3 ∧ W3.heap.size > W.heap.size + 1 + 1))) ∧
              (b = true → ∀ W4, Upd (fun k => k = W.heap.size + 1 ∨ k = W.heap.size + 1 + 1) W3 W4 → W4.heap[W.heap.size + 1]? = some (.cells #[.bool true] 4 (0, 0)) → W4.heap[W.heap.size + 1 + 1]? = some (.cells #[.string x.1] 9 (0, 0)) →
                ∃ T', Grow S' T' W' ∧ Upd S' W' W4 ∧ FromSt J q (.cells #[.func fn #[] cap] 72 (0, 0)) W.heap.size (W.heap.size + 1) (W.heap.size + 1 + 1) (p ++ [x]) T' W4) from fun b T3 W3 hg3 hu3 hq1 hq2 => by
            obtain ⟨n4, n5, n6⟩ := HN.out
            have hsub : ∀ k, T1 k → S' k := fun k hk => (HS'.out k).2 (.inl ((HS.out k).2 (.inl hk)))
            have hn7 : ¬ T1 b7 := fun h => hn7 ((HS.out b7).2 (.inl h))
            have hl4 := blk_lt HST.out.r4
            have hl5 := blk_lt HR5.out
            have hl6 := blk_lt HR6.out
            have hbox : ∀ k, (k = W.heap.size ∨ k = W.heap.size + 1 ∨ k = W.heap.size + 1 + 1) → S' k := fun k hk => (HS'.out k).2 (.inl ((HS.out k).2 (.inr hk)))
            have hgr : Grow S' (fun k => T3 k ∨ k = W.heap.size ∨ k = W.heap.size + 1 ∨ k = W.heap.size + 1 + 1) W' := fun k hk => by
              rcases hk with h | h
              · rcases hg3 k h with h | h
                · exact .inl (hsub k h)
                · exact .inr h
              · exact .inl (hbox k h)
            refine ⟨⟨hu3.heap HR5.out n5, hu3.heap HR6.out n6, hu3.heap HR7.out hn7⟩, fun hb => ⟨_, hgr, hu3.mono hsub, ⟨T3, fun _ => Iff.rfl, by unfold thin at hq2 ⊢; rw [HTY.out]; exact hq2 hb, Nat.lt_of_lt_of_le hl6 hu3.size⟩⟩, fun hb W4 hu4 q5 q6 => ?_⟩
            have m4 := hg3.not n4 hl4
            have m5 := hg3.not n5 hl5
            have m6 := hg3.not n6 hl6
            refine ⟨_, hgr, (hu3.mono hsub).step hu4 (fun k hk => .inl (hbox k (.inr hk))), ⟨T3, fun _ => Iff.rfl, ⟨m4, m5, m6⟩, ?_⟩, ?_, ?_, ?_⟩
            · unfold thin at hq1 ⊢
              rw [HTY.out]
              refine HJ.out.move (hq1 hb) (hu4.same (fun k hk => ⟨HJ.out.lt (hq1 hb) hk, fun e => ?_⟩))
              rcases e with rfl | rfl
              · exact m5 hk
              · exact m6 hk
            · exact hu4.heap (hu3.heap HST.out.r4 n4) (fun e => by omega)
            · rw [HTY.out]; exact q5
            · rw [HTY.out]; exact q6)

          clear HSK hsk hpre
          rcases hcall with ⟨l2, rfl, rfl, fn2, tmps2, assign2, body2, hy, hC⟩ | ⟨f2, rfl, henter2, hC⟩
          · have HC := Lib.hid (RoundIn.wide (m := 8 - 1 - 1 - 1) hC)
            clear hC
            dsimp only [encA, encE] at hy
            gi_wp2
            refine (RoundIn.inR HC.out).mono ?_
            rintro e W3 ⟨b, T3, rfl, hg3, hu3, hq1, hq2⟩
            have HW := Lib.hid (FACT.out b T3 W3 hg3 hu3 hq1 hq2)
            clear hg3 hu3 hq1 hq2
            cases b with
            | false =>
              gi_wp2
              first | exact (HW.out.2.1 rfl).imp fun _ h => ⟨h.1, h.2.1, h.2.2, rfl⟩ | exact (HW.out.2.1 trivial).imp fun _ h => ⟨h.1, h.2.1, h.2.2, rfl⟩
            | true =>
              gi_wp2
              obtain ⟨q5, q6, q7⟩ := HW.out.1
              have v5 : W3.cell? ⟨W.heap.size + 1, 0, none⟩ = some (.bool true) := (blk_cell q5 0).trans rfl
              have v6 : W3.cell? ⟨W.heap.size + 1 + 1, 0, none⟩ = some (.string kk) := (blk_cell q6 0).trans rfl
              have v7 : W3.cell? ⟨b7, 0, none⟩ = some (.string x.1) := boxEnt (e := x) q7 0 _ rfl
              have g5 : W3.frozen? ⟨W.heap.size + 1, 0, none⟩ = false := blk_frozen q5 0
              have g6 : W3.frozen? ⟨W.heap.size + 1 + 1, 0, none⟩ = false := blk_frozen q6 0
              have hmx : Try.prog.follows .mixedOrders = true := by kernel_rfl
              have hne : W.heap.size + 1 + 1 ≠ W.heap.size + 1 := by omega
              have hs5 : b7 ≠ W.heap.size + 1 := fun e => hn7 (by rw [e]; exact (HS.out _).2 (.inr (.inr (.inl rfl))))
              have hs6 : b7 ≠ W.heap.size + 1 + 1 := fun e => hn7 (by rw [e]; exact (HS.out _).2 (.inr (.inr (.inr rfl))))
              have hs5' : W.heap.size + 1 ≠ b7 := fun e => hs5 e.symm
              have hs6' : W.heap.size + 1 + 1 ≠ b7 := fun e => hs6 e.symm
              have Q5 := Lib.hid q5
              have Q6 := Lib.hid q6
              clear q5 q6 q7 x0 x1 x2 x3 y3 y4 y5 y6
              gi_region_with_o fail
              all_goals gi_wp2
              all_goals first | exact HW.out.2.2 rfl _ (((Upd.drew W3).trans (Upd.setCell _ _ _ (.inl rfl))).trans (Upd.setCell _ _ _ (.inr rfl))) (blk_far (blk_set (w := W3.drew) (show W3.drew.heap[W.heap.size + 1]? = _ from Q5.out) 0 (.bool true)) (p := ⟨W.heap.size + 1 + 1, 0, none⟩) hne.symm _) (blk_set (blk_far (w := W3.drew) (show W3.drew.heap[W.heap.size + 1 + 1]? = _ from Q6.out) (p := ⟨W.heap.size + 1, 0, none⟩) hne _) 0 (.string x.1)) | exact HW.out.2.2 trivial _ (((Upd.drew W3).trans (Upd.setCell _ _ _ (.inl rfl))).trans (Upd.setCell _ _ _ (.inr rfl))) (blk_far (blk_set (w := W3.drew) (show W3.drew.heap[W.heap.size + 1]? = _ from Q5.out) 0 (.bool true)) (p := ⟨W.heap.size + 1 + 1, 0, none⟩) hne.symm _) (blk_set (blk_far (w := W3.drew) (show W3.drew.heap[W.heap.size + 1 + 1]? = _ from Q6.out) (p := ⟨W.heap.size + 1, 0, none⟩) hne _) 0 (.string x.1)) | exact HW.out.2.2 _ (((Upd.drew W3).trans (Upd.setCell _ _ _ (.inl rfl))).trans (Upd.setCell _ _ _ (.inr rfl))) (blk_far (blk_set (w := W3.drew) (show W3.drew.heap[W.heap.size + 1]? = _ from Q5.out) 0 (.bool true)) (p := ⟨W.heap.size + 1 + 1, 0, none⟩) hne.symm _) (blk_set (blk_far (w := W3.drew) (show W3.drew.heap[W.heap.size + 1 + 1]? = _ from Q6.out) (p := ⟨W.heap.size + 1, 0, none⟩) hne _) 0 (.string x.1))
          · have HC := Lib.hid hC
            clear hC
            gi_wp2_with (first | (refine ⟨trivial, ?_⟩; gi_at_fn f2; refine (CallsIn.inRound lp (callsIn_wide.2 HC.out)).mono ?_; rintro e W3 ⟨b, T3, rfl, hg3, hu3, hq1, hq2⟩; have HW := Lib.hid (FACT.out b T3 W3 hg3 hu3 hq1 hq2); clear hg3 hu3 hq1 hq2; cases b))
            · first | exact (HW.out.2.1 rfl).imp fun _ h => ⟨h.1, h.2.1, h.2.2, rfl⟩ | exact (HW.out.2.1 trivial).imp fun _ h => ⟨h.1, h.2.1, h.2.2, rfl⟩
            · skip
              obtain ⟨q5, q6, q7⟩ := HW.out.1
              have v5 : W3.cell? ⟨W.heap.size + 1, 0, none⟩ = some (.bool true) := (blk_cell q5 0).trans rfl
              have v6 : W3.cell? ⟨W.heap.size + 1 + 1, 0, none⟩ = some (.string kk) := (blk_cell q6 0).trans rfl
              have v7 : W3.cell? ⟨b7, 0, none⟩ = some (.string x.1) := boxEnt (e := x) q7 0 _ rfl
              have g5 : W3.frozen? ⟨W.heap.size + 1, 0, none⟩ = false := blk_frozen q5 0
              have g6 : W3.frozen? ⟨W.heap.size + 1 + 1, 0, none⟩ = false := blk_frozen q6 0
              have hmx : Try.prog.follows .mixedOrders = true := by kernel_rfl
              have hne : W.heap.size + 1 + 1 ≠ W.heap.size + 1 := by omega
              have hs5 : b7 ≠ W.heap.size + 1 := fun e => hn7 (by rw [e]; exact (HS.out _).2 (.inr (.inr (.inl rfl))))
              have hs6 : b7 ≠ W.heap.size + 1 + 1 := fun e => hn7 (by rw [e]; exact (HS.out _).2 (.inr (.inr (.inr rfl))))
              have hs5' : W.heap.size + 1 ≠ b7 := fun e => hs5 e.symm
              have hs6' : W.heap.size + 1 + 1 ≠ b7 := fun e => hs6 e.symm
              have Q5 := Lib.hid q5
              have Q6 := Lib.hid q6
              clear q5 q6 q7 x0 x1 x2 x3 y3 y4 y5 y6
              gi_region_with_o fail
              all_goals gi_wp2
              all_goals first | exact HW.out.2.2 rfl _ (((Upd.drew W3).trans (Upd.setCell _ _ _ (.inl rfl))).trans (Upd.setCell _ _ _ (.inr rfl))) (blk_far (blk_set (w := W3.drew) (show W3.drew.heap[W.heap.size + 1]? = _ from Q5.out) 0 (.bool true)) (p := ⟨W.heap.size + 1 + 1, 0, none⟩) hne.symm _) (blk_set (blk_far (w := W3.drew) (show W3.drew.heap[W.heap.size + 1 + 1]? = _ from Q6.out) (p := ⟨W.heap.size + 1, 0, none⟩) hne _) 0 (.string x.1)) | exact HW.out.2.2 trivial _ (((Upd.drew W3).trans (Upd.setCell _ _ _ (.inl rfl))).trans (Upd.setCell _ _ _ (.inr rfl))) (blk_far (blk_set (w := W3.drew) (show W3.drew.heap[W.heap.size + 1]? = _ from Q5.out) 0 (.bool true)) (p := ⟨W.heap.size + 1 + 1, 0, none⟩) hne.symm _) (blk_set (blk_far (w := W3.drew) (show W3.drew.heap[W.heap.size + 1 + 1]? = _ from Q6.out) (p := ⟨W.heap.size + 1, 0, none⟩) hne _) 0 (.string x.1)) | exact HW.out.2.2 _ (((Upd.drew W3).trans (Upd.setCell _ _ _ (.inl rfl))).trans (Upd.setCell _ _ _ (.inr rfl))) (blk_far (blk_set (w := W3.drew) (show W3.drew.heap[W.heap.size + 1]? = _ from Q5.out) 0 (.bool true)) (p := ⟨W.heap.size + 1 + 1, 0, none⟩) hne.symm _) (blk_set (blk_far (w := W3.drew) (show W3.drew.heap[W.heap.size + 1 + 1]? = _ from Q6.out) (p := ⟨W.heap.size + 1, 0, none⟩) hne _) 0 (.string x.1))
  case done =>
    intro D S' W' hD hnD hg hu hst hK
    obtain ⟨T1, hS, hn, hj⟩ := hst.ex
    obtain ⟨hgT, huT⟩ := hUW S' T1 W' hg hu hS
    gi_wp2
    refine ⟨by simp, .inl ⟨_, _, rfl, run_takeDeferred hK, ?_⟩⟩
    have n1 : ¬ T1 D := fun h => hnD ((hS D).2 (.inl h))
    refine ⟨_, results_none rfl _ _ _, ⟨_, rfl⟩, T1, hgT, huT.step (upd_putObj (S := fun k => k = D) _ _ rfl) (fun k hk => .inr (by omega)), .inl (HJ.out.move hj (same_putObj _ _ n1))⟩
  case stop =>
    rintro D c p S' W' hD hnD hg hu hp ⟨⟨T1, hS, hj, _⟩, rfl⟩ hK
    obtain ⟨hgT, huT⟩ := hUW S' T1 W' hg hu hS
    gi_wp2
    refine ⟨by simp, .inl ⟨_, _, rfl, run_takeDeferred hK, ?_⟩⟩
    have n1 : ¬ T1 D := fun h => hnD ((hS D).2 (.inl h))
    refine ⟨_, results_none rfl _ _ _, ⟨_, rfl⟩, T1, hgT, huT.step (upd_putObj (S := fun k => k = D) _ _ rfl) (fun k hk => .inr (by omega)), .inr ⟨_, thin_prefix hp, HJX.out.move hj (same_putObj _ _ n1)⟩⟩
end Go.Proofs.Ytjbbobhjomhnmaa.H
