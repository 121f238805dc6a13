/- SkipAll: both pairs and the iterators that were kept. No conditions. -/
import Derived.Test.YtjbbobhjomhnmaaPr4
namespace Go.Proofs.Ytjbbobhjomhnmaa.H
open Go Go.RowKit Go.Deep Go.Shelf Go.Proofs Go.Proofs.YtjbbobhjomhnmaaW.PrintWords
set_option linter.unusedVariables false
set_option linter.unusedSimpArgs false
/-- An iterator that was kept: its blocks begin here; of the second list?; from where. -/
abbrev KL := Nat × Bool × Ent
def pick2 (s : Bool) (a b : Nat) : Nat := if s then b else a
def encL (ga ra gb rb : Nat) (x : KL) : List Value := [keptV x.1, .pointer (some ⟨pick2 x.2.1 ga gb, 0, none⟩), .pointer (some ⟨pick2 x.2.1 ra rb, 0, none⟩), .string x.2.2.1, .int .u64 x.2.2.2.1, .bool x.2.2.2.2.1, .string x.2.2.2.2.2]
theorem okL (ga ra gb rb : Nat) : EncOk (encL ga ra gb rb) 7 := fun x => ⟨rfl, by simp [encL, Value.oneCell']⟩
theorem infoL : (Try.prog.info? 61).map (fun i => (i.zero, i.size, i.bytes)) = some (some (.agg #[.nilFunc, .pointer none, .pointer none, .string ByteArray.empty, .int .u64 0, .bool false, .string ByteArray.empty]), 7, 72) := by kernel_rfl
theorem uSlL : Try.prog.underlying 50 = some (.slice 61) := Try.underlying50
structure AllIs (w0 W : World) (ga ra gb rb : Nat) (Sa Ra Sb Rb : Nat → Prop) (da db : List Int) (La Lb : List EH) (kv : Value) (ks : List KL) (T0 : Nat → Prop) : Prop where
  a : PairIs W ga ra Sa Ra da La
  b : PairIs W gb rb Sb Rb db Lb
  far : ∀ k, (Sa k ∨ Ra k) → ¬ (Sb k ∨ Rb k)
  row : Own (encL ga ra gb rb) 61 7 W w0.heap.size kv ks
  kept : ∀ x ∈ ks, KeptAt W x.1 (pick2 x.2.1 ga gb) x.2.2.1 x.2.2.2.1
  kfar : ∀ x ∈ ks, ∀ k, (k = x.1 ∨ k = x.1 + 1 ∨ k = x.1 + 1 + 1) → k < W.heap.size ∧ ¬ ((Sa k ∨ Ra k) ∨ (Sb k ∨ Rb k)) ∧ kv.ownBlock ≠ some k
  rfar : ∀ k, kv.ownBlock = some k → ¬ ((Sa k ∨ Ra k) ∨ (Sb k ∨ Rb k))
  low : ∀ k, ((Sa k ∨ Ra k) ∨ (Sb k ∨ Rb k)) → T0 k ∨ w0.heap.size ≤ k
  upd : Upd T0 w0 W
section
variable {w0 W W' : World} {ga ra gb rb : Nat} {Sa Ra Sb Rb S' R' : Nat → Prop} {da db : List Int} {La Lb L' : List EH} {kv kv' : Value} {ks : List KL} {T0 : Nat → Prop}
theorem AllIs.lt (h : AllIs w0 W ga ra gb rb Sa Ra Sb Rb da db La Lb kv ks T0) : ∀ k, ((Sa k ∨ Ra k) ∨ (Sb k ∨ Rb k)) → k < W.heap.size := fun k hk => by
  rcases hk with (hk | hk) | (hk | hk)
  · exact h.a.sk.lt k hk
  · exact h.a.rf.lt k hk
  · exact h.b.sk.lt k hk
  · exact h.b.rf.lt k hk
theorem AllIs.later (h : AllIs w0 W ga ra gb rb Sa Ra Sb Rb da db La Lb kv ks T0) (hb : Below W.heap.size W W') : AllIs w0 W' ga ra gb rb Sa Ra Sb Rb da db La Lb kv ks T0 :=
  ⟨h.a.later hb, h.b.later hb, h.far, h.row.below hb, fun x hx => (h.kept x hx).later hb, fun x hx k hk => ⟨Nat.lt_of_lt_of_le (h.kfar x hx k hk).1 hb.size, (h.kfar x hx k hk).2⟩, h.rfar, h.low, h.upd.trans (Upd.of_below hb)⟩
/-- The first plays. -/
theorem AllIs.playA (h : AllIs w0 W ga ra gb rb Sa Ra Sb Rb da db La Lb kv ks T0) (hu : Upd (fun k => Sa k ∨ Ra k) W W') (hS : Grow Sa S' W) (hR : Grow Ra R' W) (hp : PairIs W' ga ra S' R' da L') : AllIs w0 W' ga ra gb rb S' R' Sb Rb da db L' Lb kv ks T0 := by
  have gr : ∀ k, (S' k ∨ R' k) → (Sa k ∨ Ra k) ∨ W.heap.size ≤ k := fun k hk => by
    rcases hk with hk | hk
    · exact (hS k hk).imp .inl id
    · exact (hR k hk).imp .inr id
  refine ⟨hp, h.b.upd hu (fun k hk hn => h.far k hn hk), fun k hk hn => ?_, h.row.upd hu (fun k hk hn => h.rfar k hk (.inl hn)), fun x hx => (h.kept x hx).upd hu ⟨fun hn => (h.kfar x hx _ (.inl rfl)).2.1 (.inl hn), fun hn => (h.kfar x hx _ (.inr (.inl rfl))).2.1 (.inl hn), fun hn => (h.kfar x hx _ (.inr (.inr rfl))).2.1 (.inl hn)⟩, fun x hx k hk => ?_, fun k hk hn => ?_, fun k hk => ?_, h.upd.step hu (fun k hk => h.low k (.inl hk))⟩
  · rcases gr k hk with h1 | h1
    · exact h.far k h1 hn
    · have := h.lt k (.inr hn); omega
  · obtain ⟨k1, k2, k3⟩ := h.kfar x hx k hk
    refine ⟨Nat.lt_of_lt_of_le k1 hu.size, fun hn => ?_, k3⟩
    rcases hn with hn | hn
    · rcases gr k hn with h1 | h1
      · exact k2 (.inl h1)
      · omega
    · exact k2 (.inr hn)
  · rcases hn with hn | hn
    · rcases gr k hn with h1 | h1
      · exact h.rfar k hk (.inl h1)
      · have := (h.row.block_lt hk).2; omega
    · exact h.rfar k hk (.inr hn)
  · rcases hk with hk | hk
    · rcases gr k hk with h1 | h1
      · exact h.low k (.inl h1)
      · have := h.upd.size; exact .inr (by omega)
    · exact h.low k (.inr hk)
/-- The second plays. -/
theorem AllIs.playB (h : AllIs w0 W ga ra gb rb Sa Ra Sb Rb da db La Lb kv ks T0) (hu : Upd (fun k => Sb k ∨ Rb k) W W') (hS : Grow Sb S' W) (hR : Grow Rb R' W) (hp : PairIs W' gb rb S' R' db L') : AllIs w0 W' ga ra gb rb Sa Ra S' R' da db La L' kv ks T0 := by
  have gr : ∀ k, (S' k ∨ R' k) → (Sb k ∨ Rb k) ∨ W.heap.size ≤ k := fun k hk => by
    rcases hk with hk | hk
    · exact (hS k hk).imp .inl id
    · exact (hR k hk).imp .inr id
  refine ⟨h.a.upd hu (fun k hk hn => h.far k hk hn), hp, fun k hk hn => ?_, h.row.upd hu (fun k hk hn => h.rfar k hk (.inr hn)), fun x hx => (h.kept x hx).upd hu ⟨fun hn => (h.kfar x hx _ (.inl rfl)).2.1 (.inr hn), fun hn => (h.kfar x hx _ (.inr (.inl rfl))).2.1 (.inr hn), fun hn => (h.kfar x hx _ (.inr (.inr rfl))).2.1 (.inr hn)⟩, fun x hx k hk => ?_, fun k hk hn => ?_, fun k hk => ?_, h.upd.step hu (fun k hk => h.low k (.inr hk))⟩
  · rcases gr k hn with h1 | h1
    · exact h.far k hk h1
    · have := h.lt k (.inl hk); omega
  · obtain ⟨k1, k2, k3⟩ := h.kfar x hx k hk
    refine ⟨Nat.lt_of_lt_of_le k1 hu.size, fun hn => ?_, k3⟩
    rcases hn with hn | hn
    · exact k2 (.inl hn)
    · rcases gr k hn with h1 | h1
      · exact k2 (.inr h1)
      · omega
  · rcases hn with hn | hn
    · exact h.rfar k hk (.inl hn)
    · rcases gr k hn with h1 | h1
      · exact h.rfar k hk (.inr h1)
      · have := (h.row.block_lt hk).2; omega
  · rcases hk with hk | hk
    · exact h.low k (.inl hk)
    · rcases gr k hk with h1 | h1
      · exact h.low k (.inr h1)
      · have := h.upd.size; exact .inr (by omega)
/-- One more is kept. -/
theorem AllIs.keep (h : AllIs w0 W ga ra gb rb Sa Ra Sb Rb da db La Lb kv ks T0) (x : KL) (hx : KeptAt W x.1 (pick2 x.2.1 ga gb) x.2.2.1 x.2.2.2.1) (hxf : ∀ k, (k = x.1 ∨ k = x.1 + 1 ∨ k = x.1 + 1 + 1) → k < W.heap.size ∧ ¬ ((Sa k ∨ Ra k) ∨ (Sb k ∨ Rb k)) ∧ kv.ownBlock ≠ some k)
    (ho : Own (encL ga ra gb rb) 61 7 W' w0.heap.size kv' (ks ++ [x])) (hg : W.grownBy W' kv.ownBlock) (ha : kv'.ownBlock = kv.ownBlock ∨ ∃ k, kv'.ownBlock = some k ∧ W.heap.size ≤ k) : AllIs w0 W' ga ra gb rb Sa Ra Sb Rb da db La Lb kv' (ks ++ [x]) T0 := by
  have hu : Upd (fun k => kv.ownBlock = some k) W W' := Upd.of_grown hg (fun k e => e)
  have key : ∀ y ∈ ks ++ [x], KeptAt W y.1 (pick2 y.2.1 ga gb) y.2.2.1 y.2.2.2.1 ∧ ∀ k, (k = y.1 ∨ k = y.1 + 1 ∨ k = y.1 + 1 + 1) → k < W.heap.size ∧ ¬ ((Sa k ∨ Ra k) ∨ (Sb k ∨ Rb k)) ∧ kv.ownBlock ≠ some k := fun y hy => by
    rcases List.mem_append.1 hy with hy | hy
    · exact ⟨h.kept y hy, h.kfar y hy⟩
    · rw [List.mem_singleton.1 hy]; exact ⟨hx, hxf⟩
  refine ⟨h.a.upd hu (fun k hk hn => h.rfar k hn (.inl hk)), h.b.upd hu (fun k hk hn => h.rfar k hn (.inr hk)), h.far, ho, fun y hy => (key y hy).1.upd hu ⟨((key y hy).2 _ (.inl rfl)).2.2, ((key y hy).2 _ (.inr (.inl rfl))).2.2, ((key y hy).2 _ (.inr (.inr rfl))).2.2⟩, fun y hy k hk => ?_, fun k hk hn => ?_, h.low, h.upd.step hu (fun k hk => .inr (h.row.block_lt hk).1)⟩
  · obtain ⟨k1, k2, k3⟩ := (key y hy).2 k hk
    refine ⟨Nat.lt_of_lt_of_le k1 hu.size, k2, fun e => ?_⟩
    rcases ha with ha | ⟨j, ha, hj⟩
    · rw [ha] at e; exact k3 e
    · rw [ha] at e
      injection e with e
      omega
  · rcases ha with ha | ⟨j, ha, hj⟩
    · rw [ha] at hk; exact h.rfar k hk hn
    · rw [ha] at hk
      injection hk with hk
      have := h.lt k hn
      omega
end
section
variable {P : Program} {S : World → Prop} {a : Act} {o : Oper} {W : World}
theorem srun_bd {t : TypeId} {parts : Array (Nat × Operand)} {ps : Array (Nat × Value)} {v : Value} (ho : o.op = .build t parts) (hp : (parts.map fun x => (x.1, a.eval x.2)) = ps) (hf : ∀ W, (Instr.build t ps).run P W = .ok v W) (hW : S W) : StepRes P S v ((execOp a.eval o).run P W) := by
  have e : (execOp a.eval o).run P W = .ok (.value v) W := by
    subst hp
    simp only [execOp, ho, Sem.run_bind, Sem.run_pure]
    rw [show (parts.map fun x => match x with | (i, y) => (i, a.eval y)) = parts.map fun x => (x.1, a.eval x.2) from rfl, hf]
    rfl
  rw [e]
  exact ⟨rfl, hW⟩
theorem srun_bsT {t e : TypeId} {n : Nat} {parts : Array (Nat × Operand)} {ps : Array (Nat × Value)} {cs : Array Value} {S2 : Value → World → Prop} (ho : o.op = .buildSlice t n parts) (hp : (parts.map fun x => (x.1, a.eval x.2)) = ps) (hf : ∀ W, (Instr.buildSlice t n ps).run P W = .ok (.slice (some ⟨W.heap.size, 0, none⟩) n n) (W.alloc (.cells cs e))) (hS : S2 (.slice (some ⟨W.heap.size, 0, none⟩) n n) (W.alloc (.cells cs e))) :
    StepResT P S2 ((execOp a.eval o).run P W) := by
  have e : (execOp a.eval o).run P W = .ok (.value (.slice (some ⟨W.heap.size, 0, none⟩) n n)) (W.alloc (.cells cs e)) := by
    subst hp
    simp only [execOp, ho, Sem.run_bind, Sem.run_pure]
    rw [show (parts.map fun x => match x with | (i, y) => (i, a.eval y)) = parts.map fun x => (x.1, a.eval x.2) from rfl, hf]
    rfl
  rw [e]
  exact hS
end
abbrev lateV (b g r : Nat) (e : Ent) : Array Value := #[keptV b, .pointer (some ⟨g, 0, none⟩), .pointer (some ⟨r, 0, none⟩), .string e.1, .int .u64 e.2.1, .bool e.2.2.1, .string e.2.2.2]
theorem buildLate_run (b g r : Nat) (e : Ent) (W : World) : (Instr.build 61 #[(0, keptV b), (1, .agg #[.pointer (some ⟨g, 0, none⟩), .pointer (some ⟨r, 0, none⟩)]), (2, .agg (encE e).toArray)]).run Try.prog W = .ok (.agg (lateV b g r e)) W := by
  unfold encE
  go_simp
theorem sliceLate_run (b g r : Nat) (e : Ent) (W : World) : (Instr.buildSlice 50 1 #[(0, .agg (lateV b g r e))]).run Try.prog W = .ok (.slice (some ⟨W.heap.size, 0, none⟩) 1 1) (W.alloc (.cells (lateV b g r e) 61)) := by
  go_simp
/-- From's call and the list of one, on the way to keep what was answered. -/
def KeepR (w : World) (g r : Nat) (e : Ent) (s : Option (Nat × Option Nat)) (W : World) : Prop := Below w.heap.size w W ∧ match s with
  | none => True
  | some (b, none) => KeptAt W b g e.1 e.2.1 ∧ w.heap.size ≤ b
  | some (b, some bs) => KeptAt W b g e.1 e.2.1 ∧ w.heap.size ≤ b ∧ W.heap[bs]? = some (.cells (lateV b g r e) 61 (0, 0)) ∧ w.heap.size ≤ bs
def leN (a b : Option (Nat × Option Nat)) : Prop := a = none ∨ a = b ∨ ∃ k, a = some (k, none) ∧ ∃ j, b = some (k, some j)
theorem leN_refl (a : Option (Nat × Option Nat)) : leN a a := .inr (.inl rfl)
theorem leN_trans (a b c : Option (Nat × Option Nat)) (h : leN a b) (k : leN b c) : leN a c := by
  rcases h with rfl | rfl | ⟨x, rfl, j, rfl⟩
  · exact .inl rfl
  · exact k
  · rcases k with k | rfl | ⟨y, k, _⟩
    · cases k
    · exact .inr (.inr ⟨x, rfl, j, rfl⟩)
    · cases k
theorem keepR_c {w : World} {g r : Nat} {e : Ent} {W : World} (hW : KeepR w g r e none W) :
    Calls Try.prog 17 #[.pointer (some ⟨g, 0, none⟩), .string e.1, .int .u64 e.2.1] W fun en W' => ∃ v, en = .returned v ∧ ∃ s', (∃ b, v = keptV b ∧ s' = some (b, none)) ∧ KeepR w g r e s' W' :=
  (keep_c g e.1 e.2.1 W).mono fun en W' ⟨he, hk, hb⟩ => ⟨_, he, _, ⟨_, rfl, rfl⟩, hW.1.trans (hb.mono hW.1.size), hk, hW.1.size⟩
theorem keepR_bs {w : World} {g r b : Nat} {e : Ent} {W : World} (hW : KeepR w g r e (some (b, none)) W) :
    ∃ s', (∃ bs, Value.slice (some ⟨W.heap.size, 0, none⟩) 1 1 = .slice (some ⟨bs, 0, none⟩) 1 1 ∧ s' = some (b, some bs)) ∧ KeepR w g r e s' (W.alloc (.cells (lateV b g r e) 61)) :=
  ⟨_, ⟨W.heap.size, rfl, rfl⟩, hW.1.alloc hW.1.size _, hW.2.1.later ((Below.refl _ _).alloc (Nat.le_refl _) _), hW.2.2, heap_alloc_new _ _, hW.1.size⟩
theorem late_now {w0 W : World} {ga ra gb rb : Nat} {Sa Ra Sb Rb : Nat → Prop} {da db : List Int} {La Lb : List EH} {kv : Value} {ks : List KL} {T0 : Nat → Prop} (h : AllIs w0 W ga ra gb rb Sa Ra Sb Rb da db La Lb kv ks T0) (ha : La.length < 2932031007319) (hb : Lb.length < 2932031007319) {x : KL} (hx : x ∈ ks) :
    Calls Try.prog 19 #[.agg #[keptV x.1, .pointer (some ⟨pick2 x.2.1 ga gb, 0, none⟩), .pointer (some ⟨pick2 x.2.1 ra rb, 0, none⟩), .string x.2.2.1, .int .u64 x.2.2.2.1, .bool x.2.2.2.2.1, .string x.2.2.2.2.2]] W fun en w' => en = .returned (.bool true) ∧ Below W.heap.size W w' := by
  have hk := h.kept x hx
  obtain ⟨b, s, e⟩ := x
  cases s with
  | false => exact now5_c e h.a ha hk
  | true => exact now5_c e h.b hb hk
end Go.Proofs.Ytjbbobhjomhnmaa.H
