/- skip.List: Put (printed by gensk5.py). Conditions: sizes. -/
import Derived.Test.YtjbbobhjomhnmaaSkB
import Derived.Test.YtjbbobhjomhnmaaSkO
import Derived.BigRegion
namespace Go.Proofs.Ytjbbobhjomhnmaa.H
open Go.RowKit Go.Deep Go.Shelf Go.Proofs Go.Proofs.YtjbbobhjomhnmaaW.PrintWords
set_option linter.unusedVariables false
set_option linter.unusedSimpArgs false
theorem SkIs.later {w W : World} {g : Nat} {S : Nat → Prop} {l : List Nd} {draws : List Int} (h : SkIs w g S l draws) (hb : Below w.heap.size w W) : SkIs W g S l draws := by
  obtain ⟨cs, A, c, hr, h17, h18, hs, hd⟩ := h.row
  exact ⟨h.nodes.later hb, h.order, ⟨cs, A, c, blk_below hr hb, h17, h18, hs.later hb, hd⟩, fun x hx => by obtain ⟨cs, hc⟩ := h.rows x hx; exact ⟨cs, blk_below hc hb⟩, h.apart, h.own, h.bytes⟩
theorem height_m {g : Nat} {S : Nat → Prop} {l : List Nd} {draws : List Int} {w : World} {m : Nat} (h : SkIs w g S l draws) (hm : l.length = m) (hl : m < 2932031007319) : Calls Try.prog 85 #[.pointer (some ⟨g, 0, none⟩)] w fun e w' => e = .returned (.int .i64 (hgt draws m)) ∧ Below w.heap.size w w' := by
  subst hm
  exact height_c g S l draws w h hl
theorem blk_setRow {w : World} {g g' : Nat} {o : Obj} (h : w.heap[g]? = some o) (hne : g ≠ g') (cs : Array Value) : (w.setRow g' cs).heap[g]? = some o := by
  rw [setRow_other w g' g cs hne]; exact h
theorem nodes_at {w : World} {g : Nat} {pre post : List Nd} (hN : NodesAt w g (pre ++ post)) {h : Nat} (h12 : h < 12) : w.cell? ⟨atB g (prv h pre), 5 + h, none⟩ = some (ptrV (nxt h post)) := by
  cases hp : prv h pre with
  | none =>
    have hlow : ∀ y ∈ pre, ¬ h < y.high := by
      intro y hy hh
      unfold prv at hp
      rw [List.getLast?_eq_none_iff, List.filter_eq_nil_iff] at hp
      exact hp y hy (by simpa using hh)
    have := hN.head h h12
    rw [nxt_none hlow] at this
    exact this
  | some p =>
    obtain ⟨h1, a, c, h2, h3⟩ := prv_split hp
    have := (hN.node a p (c ++ post) (by rw [h2]; simp)).2.2.2.2 h h1
    rw [nxt_none h3] at this
    exact this
theorem run_b2 {P : Program} {w W : World} {a : Act} {o : Oper} {t : TypeId} {x y : Operand} {u v r : Value} (ho : o.op = .build t #[(0, x), (1, y)]) (hx : a.eval x = u) (hy : a.eval y = v) (hf : ∀ W, (Instr.build t #[(0, u), (1, v)]).run P W = .ok r W)
    (hW : Below w.heap.size w W) : CalmRes P w r ((execOp a.eval o).run P W) := by
  simp only [execOp, ho, List.map_toArray, List.map_cons, List.map_nil, hx, hy, Sem.run_bind, Sem.run_pure, hf, Result.andThen_ok]
  exact ⟨rfl, hW⟩
theorem eql_run (t : TypeId) (x y : Operand) (r : Int) (b : Bool) (h : decide (r = 0) = b) (W : World) : (do eqGuard .eql t x y (.int .i64 r) (.int .i64 0); binOp .eql t (.int .i64 r) (.int .i64 0) : Sem Value).run Try.prog W = .ok (.bool b) W := by
  subst h
  go_simp
  first | done | exact Bool.eq_iff_iff.2 (by simp)
/-- The round's cells, and what the region's walk wants. -/
theorem NodesAt.set18 {w : World} {g : Nat} {l : List Nd} (hN : NodesAt w g l) (hg : ∀ x ∈ l, x.b ≠ g) (v : Value) : NodesAt (w.setCell ⟨g, 18, none⟩ v) g l := by
  refine ⟨fun h hh => by rw [set_other (by rintro e; injection e with e1 e2; omega)]; exact hN.head h hh, fun a x c hl => ?_⟩
  have hx : x.b ≠ g := hg x (by rw [hl]; simp)
  have mv : ∀ o, (w.setCell ⟨g, 18, none⟩ v).cell? ⟨x.b, o, none⟩ = w.cell? ⟨x.b, o, none⟩ := fun o => set_other (by rintro e; injection e with e1 e2; exact hx e1.symm)
  obtain ⟨q1, q2, q3, q4, q5⟩ := hN.node a x c hl
  exact ⟨fun i u hu => by rw [mv]; exact q1 i u hu, by rw [mv]; exact q2, q3, q4, fun h hh => by rw [mv]; exact q5 h hh⟩
theorem LRow.set18 {w : World} {g : Nat} {d n : Value} (h : LRow w g d n) (v : Value) : LRow (w.setCell ⟨g, 18, none⟩ v) g d v := by
  obtain ⟨cs, hc, h1, h2⟩ := h
  refine ⟨_, blk_set hc 18 v, by rw [Array.getElem?_setIfInBounds_ne (by omega)]; exact h1, ?_⟩
  have := (Array.getElem?_eq_some_iff.1 h2).1
  simp [this]
theorem ptr_some (o : Option Nd) : ∃ q : Option Addr, ptrV o = .pointer q := by cases o <;> exact ⟨_, rfl⟩
/-- What Put's loop keeps. -/
structure PutAt (w W : World) (g : Nat) (S : Nat → Prop) (pre : List Nd) (x : Nd) (post : List Nd) (P : Nat) (d n : Value) (k : Nat) : Prop where
  mid : MidAt W g pre x post k
  upd : Upd S w W
  new : ∃ cs, W.heap[x.b]? = some (.cells cs 119 (0, 0)) ∧ cs.size = 17
  path : W.heap[P]? = some (.cells (pathC fun i => atV g (prv i pre)) 117 (0, 0))
  rows : ∀ y ∈ pre ++ post, NRow W y.b
  list : LRow W g d n
theorem PutAt.drew {w W : World} {g : Nat} {S : Nat → Prop} {pre : List Nd} {x : Nd} {post : List Nd} {P : Nat} {d n : Value} {k : Nat} (h : PutAt w W g S pre x post P d n k) : PutAt w W.drew g S pre x post P d n k :=
  ⟨⟨h.mid.head, h.mid.pres, h.mid.new, h.mid.posts⟩, h.upd.trans (Upd.drew _), h.new, h.path, h.rows, h.list⟩
theorem PutAt.step {w W : World} {g : Nat} {S : Nat → Prop} {pre : List Nd} {x : Nd} {post : List Nd} {P : Nat} {d n : Value} {k : Nat} (h : PutAt w W g S pre x post P d n k) (hk : k < x.high) (hA : Apart g pre x post) (hx : S x.b) (hg : S g) (hp : ∀ y ∈ pre, S y.b) (hP : ¬ S P) : PutAt w (put2 W g pre x post k) g S pre x post P d n (k + 1) := by
  obtain ⟨cs, h1, h2⟩ := h.new
  have k12 : k < 12 := Nat.lt_of_lt_of_le hk h.mid.new.2.1
  have hc : W.cell? ⟨x.b, 5 + k, none⟩ = some cs[5 + k] := (blk_cell h1 _).trans (Array.getElem?_eq_getElem (by omega))
  have hu := put2_upd (w := W) (post := post) (k := k) hx hg hp
  refine ⟨h.mid.step hk hA hc, h.upd.trans hu, ?_, hu.heap h.path hP, fun y hy => put2_NRow (h.rows y hy), put2_LRow h.list k12⟩
  unfold put2
  refine ⟨_, blk_far (blk_set h1 _ _) (by have := hA.at k; exact fun e => this e.symm) _, by simp [h2]⟩
/-- What Put's loop writes to. -/
def PutS (g : Nat) (pre : List Nd) (X : Nat) : Nat → Prop := fun k => k = g ∨ k = X ∨ ∃ y ∈ pre, k = y.b
theorem SkIs.lt {w : World} {g : Nat} {S : Nat → Prop} {l : List Nd} {draws : List Int} (h : SkIs w g S l draws) : g < w.heap.size ∧ ∀ x ∈ l, x.b < w.heap.size := by
  obtain ⟨cs, A, c, hr, _⟩ := h.row
  exact ⟨blk_lt hr, fun x hx => by obtain ⟨cs, hc⟩ := h.rows x hx; exact blk_lt hc⟩
theorem put_apart {w : World} {g : Nat} {S : Nat → Prop} {pre post : List Nd} {draws : List Int} (hS : SkIs w g S (pre ++ post) draws) (e : Ent) (h : Nat) : Apart g pre ⟨w.heap.size, e, h⟩ post := by
  refine Apart.of hS.apart (fun y hy => ?_) ?_
  · have := hS.lt.2 y hy; show y.b ≠ w.heap.size; omega
  · have := hS.lt.1; show w.heap.size ≠ g; omega
theorem put_start {w : World} {g : Nat} {S : Nat → Prop} {pre post : List Nd} {draws : List Int} (hS : SkIs w g S (pre ++ post) draws) (e : Ent) {h : Nat} {d n : Value} {P : Nat} (hL : LRow w g d n) (hP : w.heap[P]? = some (.cells (pathC fun i => atV g (prv i pre)) 117 (0, 0))) (hh : 1 ≤ h ∧ h ≤ 12) :
    PutAt (w.alloc (.cells #[.string e.1, .int .u64 e.2.1, .bool e.2.2.1, .string e.2.2.2, .int .i64 (h : Nat), .pointer none, .pointer none, .pointer none, .pointer none, .pointer none, .pointer none, .pointer none, .pointer none, .pointer none, .pointer none, .pointer none, .pointer none] 119)) (w.alloc (.cells #[.string e.1, .int .u64 e.2.1, .bool e.2.2.1, .string e.2.2.2, .int .i64 (h : Nat), .pointer none, .pointer none, .pointer none, .pointer none, .pointer none, .pointer none, .pointer none, .pointer none, .pointer none, .pointer none, .pointer none, .pointer none] 119)) g (PutS g pre w.heap.size) pre ⟨w.heap.size, e, h⟩ post P d n 0 := by
  have hb : Below w.heap.size w (w.alloc (.cells #[.string e.1, .int .u64 e.2.1, .bool e.2.2.1, .string e.2.2.2, .int .i64 (h : Nat), .pointer none, .pointer none, .pointer none, .pointer none, .pointer none, .pointer none, .pointer none, .pointer none, .pointer none, .pointer none, .pointer none, .pointer none] 119)) := (Below.refl _ _).alloc (Nat.le_refl _) _
  have hx := heap_alloc_new w (.cells #[.string e.1, .int .u64 e.2.1, .bool e.2.2.1, .string e.2.2.2, .int .i64 (h : Nat), .pointer none, .pointer none, .pointer none, .pointer none, .pointer none, .pointer none, .pointer none, .pointer none, .pointer none, .pointer none, .pointer none, .pointer none] 119)
  refine ⟨MidAt.start (hS.later hb).nodes ⟨fun i v hv => ?_, (blk_cell hx 4).trans rfl⟩ hh.2 hh.1, Upd.refl _ _, ⟨_, hx, rfl⟩, blk_below hP hb, fun y hy => ?_, ?_⟩
  · refine (blk_cell hx i).trans ?_
    have hi : i < 4 := by have := (List.getElem?_eq_some_iff.1 hv).1; simpa [encE] using this
    rcases (by omega : i = 0 ∨ i = 1 ∨ i = 2 ∨ i = 3) with rfl | rfl | rfl | rfl <;> simpa [encE] using hv
  · obtain ⟨cs, hc⟩ := hS.rows y hy
    exact ⟨cs, blk_below hc hb⟩
  · obtain ⟨cs, hc, h1, h2⟩ := hL
    exact ⟨cs, blk_below hc hb, h1, h2⟩
theorem LRow.below {w W : World} {g : Nat} {d n : Value} (h : LRow w g d n) (hb : Below w.heap.size w W) : LRow W g d n := by
  obtain ⟨cs, hc, h1, h2⟩ := h
  exact ⟨cs, blk_below hc hb, h1, h2⟩
theorem put_T {w W5 : World} {g : Nat} {S : Nat → Prop} {pre post : List Nd} {draws : List Int} {P : Nat} (hS : SkIs w g S (pre ++ post) draws) (hP : w.heap.size ≤ P ∧ P < W5.heap.size) : ¬ PutS g pre W5.heap.size P := by
  have h := hS.lt
  rintro (e | e | ⟨y, hy, e⟩)
  · omega
  · omega
  · have := h.2 y (List.mem_append_left _ hy)
    omega
theorem put_frozen {W : World} {g : Nat} {pre post : List Nd} {d n : Value} (hr : ∀ y ∈ pre ++ post, NRow W y.b) (hl : LRow W g d n) (h o : Nat) : W.frozen? ⟨atB g (prv h pre), o, none⟩ = false := by
  cases hp : prv h pre with
  | none => obtain ⟨cs, hc, _⟩ := hl; exact blk_frozen hc o
  | some p => obtain ⟨cs, hc⟩ := hr p (List.mem_append_left _ (prv_mem hp)); exact blk_frozen hc o
theorem put_fin {w w5 W : World} {g : Nat} {S : Nat → Prop} {pre post : List Nd} {draws : List Int} {A : Option Addr} {c P m h : Nat} {e : Ent} {o : Obj} (hS : SkIs w g S (pre ++ post) draws) (hsl : Sl encB 1 w A draws) (hA : ∀ b o, draws ≠ [] → A = some ⟨b, o, none⟩ → S b ∧ b ≠ g ∧ ∀ x ∈ pre ++ post, x.b ≠ b) (hm : (pre ++ post).length = m)
    (hb : Below w.heap.size w w5) (hU : PutAt (w5.alloc o) W g (PutS g pre w5.heap.size) pre ⟨w5.heap.size, e, h⟩ post P (.slice A draws.length c) (.int .i64 m) h) (h1 : ∀ x ∈ pre, ltE x.e e) (h2 : ∀ x ∈ post, ltE e x.e) :
    Upd S w (W.setCell ⟨g, 18, none⟩ (.int .i64 ((m : Int) + 1))) ∧ SkIs (W.setCell ⟨g, 18, none⟩ (.int .i64 ((m : Int) + 1))) g (fun k => S k ∨ k = w5.heap.size) (pre ++ ⟨w5.heap.size, e, h⟩ :: post) draws := by
  have hlt := hS.lt
  have hle := hb.size
  have uT : Upd (PutS g pre w5.heap.size) w (W.setCell ⟨g, 18, none⟩ (.int .i64 ((m : Int) + 1))) := (((Upd.of_below hb).trans (Upd.of_below ((Below.refl _ _).alloc (Nat.le_refl _) _))).trans hU.upd).trans (Upd.setCell _ _ _ (.inl rfl))
  have hmem : ∀ y ∈ pre ++ ⟨w5.heap.size, e, h⟩ :: post, y.b = w5.heap.size ∨ y ∈ pre ++ post := fun y hy => by
    rcases List.mem_append.1 hy with hy | hy
    · exact .inr (List.mem_append_left _ hy)
    · rcases List.mem_cons.1 hy with rfl | hy
      · exact .inl rfl
      · exact .inr (List.mem_append_right _ hy)
  have hne : ∀ y ∈ pre ++ ⟨w5.heap.size, e, h⟩ :: post, y.b ≠ g := fun y hy => by
    rcases hmem y hy with e1 | hy
    · omega
    · intro e1
      have := hS.apart
      rw [List.nodup_cons] at this
      exact this.1 (by rw [← e1]; exact List.mem_map_of_mem (f := (·.b)) hy)
  refine ⟨⟨uT.os, uT.tape, uT.output, uT.size, fun k hk hn => uT.block k hk ?_⟩, ?_⟩
  · rintro (rfl | rfl | ⟨y, hy, rfl⟩)
    · exact hn hS.own.1
    · omega
    · exact hn (hS.own.2 y (List.mem_append_left _ hy))
  · obtain ⟨cs, hc, q1, q2⟩ := hU.list.set18 (.int .i64 ((m : Int) + 1))
    refine ⟨hU.mid.finish.set18 hne _, ins_sorted hS.order h1 h2, ⟨cs, A, c, hc, q1, ?_, ?_, fun b o hd hAb => ?_⟩, fun y hy => ?_, ?_, ⟨.inl hS.own.1, fun y hy => ?_⟩, hS.bytes⟩
    · rw [q2]
      congr 2
      simp only [List.length_append, List.length_cons] at hm ⊢
      omega
    · rcases Classical.em (draws = []) with rfl | hd
      · exact Sl.nil _ _ _ _
      · refine hsl.upd uT (fun b o hAb => ?_)
        obtain ⟨s1, s2, s3⟩ := hA b o hd hAb
        have hbl : b < w.heap.size := by
          rcases hsl.2 with h0 | ⟨b', o', hA', hlt', _⟩
          · exact absurd h0 hd
          · rw [hAb] at hA'
            injection hA' with hA'
            injection hA' with hA'
            omega
        rintro (rfl | rfl | ⟨y, hy, rfl⟩)
        · exact s2 rfl
        · omega
        · exact s3 y (List.mem_append_left _ hy) rfl
    · obtain ⟨s1, s2, s3⟩ := hA b o hd hAb
      refine ⟨.inl s1, s2, fun y hy => ?_⟩
      rcases hmem y hy with e1 | hy
      · have hbl : b < w.heap.size := by
          rcases hsl.2 with h0 | ⟨b', o', hA', hlt', _⟩
          · exact absurd h0 hd
          · rw [hAb] at hA'
            injection hA' with hA'
            injection hA' with hA'
            omega
        omega
      · exact s3 y hy
    · rcases List.mem_append.1 hy with hy | hy
      · exact (hU.rows y (List.mem_append_left _ hy)).set _ _ rfl
      · rcases List.mem_cons.1 hy with rfl | hy
        · obtain ⟨cs, hc, _⟩ := hU.new
          exact NRow.set ⟨cs, hc⟩ _ _ rfl
        · exact (hU.rows y (List.mem_append_right _ hy)).set _ _ rfl
    · have := hS.apart
      have hx : w5.heap.size ∉ g :: (pre ++ post).map (·.b) := fun hx => by
        rcases List.mem_cons.1 hx with e1 | hx
        · omega
        · obtain ⟨y, hy, e1⟩ := List.mem_map.1 hx
          have := hlt.2 y hy
          omega
      rw [List.map_append, List.map_cons] at *
      have hp : (g :: (pre.map (·.b) ++ w5.heap.size :: post.map (·.b))).Perm (w5.heap.size :: g :: (pre.map (·.b) ++ post.map (·.b))) := (List.Perm.cons _ List.perm_middle).trans (List.Perm.swap _ _ _)
      rw [hp.nodup_iff, List.nodup_cons]
      exact ⟨hx, this⟩
    · rcases hmem y hy with e1 | hy
      · exact .inr e1
      · exact .inl (hS.own.2 y hy)
set_option maxHeartbeats 3200000 in
set_option maxRecDepth 100000 in
theorem put1_c (g : Nat) (S : Nat → Prop) (pre post : List Nd) (draws : List Int) (e : Ent) (w : World) (h : SkIs w g S (pre ++ post) draws) (hl : (pre ++ post).length < 2932031007319) (h1 : ∀ x ∈ pre, ltE x.e e) (h2 : ∀ x ∈ post, ¬ ltE x.e e) :
    Calls Try.prog 26 #[.pointer (some ⟨g, 0, none⟩), .agg (encE e).toArray] w fun en w' =>
      (en = .returned (.bool false) ∧ Below w.heap.size w w' ∧ ∃ y c, post = y :: c ∧ cmpEE y.e e = 0) ∨
      (en = .returned (.bool true) ∧ Upd S w w' ∧ (∀ y c, post = y :: c → cmpEE y.e e ≠ 0) ∧ ∃ b, w.heap.size ≤ b ∧ SkIs w' g (fun k => S k ∨ k = b) (pre ++ ⟨b, e, hgt draws (pre ++ post).length⟩ :: post) draws) := by
  obtain ⟨cs, A, c, hr, h17, h18, hsl, hdr⟩ := h.row
  have HSL := Lib.hid hsl
  have HDR := Lib.hid hdr
  have HLR := Lib.hid (show LRow w g (.slice A draws.length c) (.int .i64 (pre ++ post).length) from ⟨cs, hr, h17, h18⟩)
  clear hsl hdr hr h17 h18
  have HS := Lib.hid h
  have H1 := Lib.hid h1
  have H2 := Lib.hid h2
  have HC := Lib.hid (ahead_c g pre post e (w.alloc (.cells #[.string e.1, .int .u64 e.2.1, .bool e.2.2.1, .string e.2.2.2] 53)) (h.nodes.later ((Below.refl _ _).alloc (Nat.le_refl _) _)) h1 h2)
  have hb0 := boxEnt (e := e) (heap_alloc_new w (.cells #[.string e.1, .int .u64 e.2.1, .bool e.2.2.1, .string e.2.2.2] 53))
  have b0 := hb0 0 _ rfl
  have b1 := hb0 1 _ rfl
  have b2 := hb0 2 _ rfl
  have b3 := hb0 3 _ rfl
  clear h h1 h2 hb0
  unfold encE
  go_enter Try.func26, Try.ntmps26
  obtain ⟨m, hm⟩ : ∃ m, (pre ++ post).length = m := ⟨_, rfl⟩
  rw [hm]
  have HM := Lib.hid hm
  have HLM := Lib.hid (hm ▸ hl)
  replace HLR := Lib.hid (show LRow w g (.slice A draws.length c) (.int .i64 m) by rw [← hm]; exact HLR.out)
  clear hm hl
  go_wp2_with (first | (go_at_call 80; refine HC.out.mono ?_; rintro en w2 ⟨rfl, hb2⟩) | (
        refine wpList_store_row rfl 117 (.tmp 5) (.tmp 11) rfl w2.heap.size (pathC fun i => atV g (prv i pre)) (by rfl) (by rfl) 117 _ (heap_alloc_new _ _) (by kernel_rfl) (by rfl) (by kernel_rfl) ?_
        have hbw2 : Below w.heap.size w w2 := ((Below.refl _ _).alloc (Nat.le_refl _) _).trans (hb2.mono (by simp))
        have hba := hbw2.alloc hbw2.size (.cells #[.pointer none, .pointer none, .pointer none, .pointer none, .pointer none, .pointer none, .pointer none, .pointer none, .pointer none, .pointer none, .pointer none, .pointer none] 117)
        have hbW := below_setRow hba hbw2.size (pathC fun i => atV g (prv i pre))
        have hrow := setRow_heap (w2.alloc (.cells #[.pointer none, .pointer none, .pointer none, .pointer none, .pointer none, .pointer none, .pointer none, .pointer none, .pointer none, .pointer none, .pointer none, .pointer none] 117)) w2.heap.size _ (pathC fun i => atV g (prv i pre)) _ (0, 0) (heap_alloc_new _ _)
        have hbx : (w2.alloc (.cells #[.pointer none, .pointer none, .pointer none, .pointer none, .pointer none, .pointer none, .pointer none, .pointer none, .pointer none, .pointer none, .pointer none, .pointer none] 117)).heap[w.heap.size]? = some (.cells #[.string e.1, .int .u64 e.2.1, .bool e.2.2.1, .string e.2.2.2] 53 (0, 0)) := blk_alloc (blk_below (heap_alloc_new w _) hb2) _
        have hbx2 := blk_setRow hbx (show w.heap.size ≠ w2.heap.size by have := hb2.size; simp at this; omega) (pathC fun i => atV g (prv i pre))
        generalize (w2.alloc (.cells #[.pointer none, .pointer none, .pointer none, .pointer none, .pointer none, .pointer none, .pointer none, .pointer none, .pointer none, .pointer none, .pointer none, .pointer none] 117)).setRow w2.heap.size (pathC fun i => atV g (prv i pre)) = W at *
        have HSW := Lib.hid (HS.out.later hbW)
        have HPW := Lib.hid hrow
        have HR0 := Lib.hid (boxEnt hbx2)
        have HBW := Lib.hid hbW
        have c1 : W.cell? ⟨w2.heap.size, 0, none⟩ = some (.pointer (some ⟨atB g (prv 0 pre), 0, none⟩)) := (blk_cell hrow 0).trans rfl
        have c2 : W.cell? ⟨atB g (prv 0 pre), 5, none⟩ = some (ptrV (nxt 0 post)) := nodes_at HSW.out.nodes (by omega)
        have HPN := Lib.hid hbw2.size
        clear hbw2 hba hbW hrow hbx hbx2 hb2 HC b0 b1 b2 b3))
  rcases post with _ | ⟨y, c0⟩
  · simp only [show ptrV (nxt 0 ([] : List Nd)) = .pointer none from rfl] at *
    refine wp_region_calmB 10 (by kernel_rfl) (by kernel_rfl) ?_
    simp only [List.take_succ_cons, List.take_zero, List.drop_succ_cons, List.drop_zero]
    refine chain0 ?_
    refine @chain _ _ _ _ _ _ _ _ 18 (.pointer none) (by rfl) (by rfl) (by exact fun W2 hW => run_mv (by rfl) (by exact eval_base (by kernel_rfl) (by rfl)) hW) ?_
    refine @chain _ _ _ _ _ _ _ _ 19 (.bool false) (by rfl) (by rfl) (by exact fun W2 hW => run_bo (u := .pointer none) (v := .pointer none) (by rfl) (by exact eval_look (by kernel_rfl) (by kernel_rfl)) (by rfl) (fun W => by go_simp) hW) ?_
    refine @chain _ _ _ _ _ _ _ _ 20 (.bool false) (by rfl) (by rfl) (by exact fun W2 hW => run_mv (by rfl) (by exact eval_look (by kernel_rfl) (by kernel_rfl)) hW) ?_
    refine @chainK _ _ _ _ _ _ _ _ 21 (by kernel_rfl) (by rfl) ?_
    refine @chainK _ _ _ _ _ _ _ _ 22 (by kernel_rfl) (by rfl) ?_
    refine @chainK _ _ _ _ _ _ _ _ 23 (by kernel_rfl) (by rfl) ?_
    refine @chainK _ _ _ _ _ _ _ _ 24 (by kernel_rfl) (by rfl) ?_
    refine @chainK _ _ _ _ _ _ _ _ 25 (by kernel_rfl) (by rfl) ?_
    refine @chainK _ _ _ _ _ _ _ _ 26 (by kernel_rfl) (by rfl) ?_
    refine @chainK _ _ _ _ _ _ _ _ 27 (by kernel_rfl) (by rfl) ?_
    refine calm_nil (fun W2 hW2 => ?_)
    refine Eq.mpr (congrArg (fun a => wpList _ _ _ _ a W2) (show _ = (⟨#[.pointer (some ⟨g, 0, none⟩), .agg #[.string e.1, .int .u64 e.2.1, .bool e.2.2.1, .string e.2.2.2], undef, .pointer (some ⟨w.heap.size, 0, none⟩), .bool false, .pointer (some ⟨w2.heap.size, 0, none⟩), .pointer none, undef, undef, .pointer (some ⟨g, 0, none⟩), .agg #[.string e.1, .int .u64 e.2.1, .bool e.2.2.1, .string e.2.2.2], .agg (pathC fun i => atV g (prv i pre)), .pointer (some ⟨w2.heap.size, 0, none⟩), .pointer (some ⟨atB g (prv 0 pre), 0, none⟩), .pointer (some ⟨atB g (prv 0 pre), 0, none⟩), .pointer (some ⟨atB g (prv 0 pre), 5, none⟩), .pointer (some ⟨atB g (prv 0 pre), 5, none⟩), .pointer none, .pointer none, .bool false, .bool false, undef, undef, undef, undef, undef, undef, undef, undef, undef, undef, undef, undef, undef, undef, undef, undef, undef, undef, undef, undef, undef, undef, undef, undef, undef, undef, undef, undef, undef, undef, undef, undef, undef, undef, undef, undef, undef, undef, undef, undef, undef, undef, undef, undef, undef, undef, undef, undef, undef], []⟩ : Act) by kernel_rfl)) ?_
    have HW2 := Lib.hid hW2
    clear hW2
    have HS2 := Lib.hid (HSW.out.later HW2.out)
    have HR2 := Lib.hid (fun i v hv => cell_later HW2.out (HR0.out i v hv))
    have HP2 := Lib.hid ((HW2.out.block _ (blk_lt HPW.out)).trans HPW.out)
    go_wp2_with fail
    refine wp_region_calmB 4 (by kernel_rfl) (by kernel_rfl) ?_
    simp only [List.take_succ_cons, List.take_zero, List.drop_succ_cons, List.drop_zero]
    refine chain0 ?_
    refine @chain _ _ _ _ _ _ _ _ 29 (.agg (encE e).toArray) (by rfl) (by rfl) (by exact fun W4 hW => run_lw (by rfl) (by exact eval_base (by kernel_rfl) (by rfl)) (fun W hW => ldEnt _ _ _ (fun i v hv => cell_later hW (HR2.out i v hv))) hW) ?_
    refine @chain _ _ _ _ _ _ _ _ 30 (.pointer (some ⟨g, 0, none⟩)) (by rfl) (by rfl) (by exact fun W4 hW => run_mv (by rfl) (by exact eval_base (by kernel_rfl) (by rfl)) hW) ?_
    refine @chain _ _ _ _ _ _ _ _ 31 (.int .i64 (hgt draws m)) (by rfl) (by rfl) (by exact fun W4 hW => run_call (vs := #[.pointer (some ⟨g, 0, none⟩)]) (by rfl) (by kernel_rfl) (enters_of Try.func85 (by kernel_rfl) (by rfl)) (calm_b hW (height_m (HS2.out.later hW) HM.out HLM.out))) ?_
    refine @chain _ _ _ _ _ _ _ _ 32 (.agg #[.string e.1, .int .u64 e.2.1, .bool e.2.2.1, .string e.2.2.2, .int .i64 (hgt draws m), .pointer none, .pointer none, .pointer none, .pointer none, .pointer none, .pointer none, .pointer none, .pointer none, .pointer none, .pointer none, .pointer none, .pointer none]) (by rfl) (by rfl) (by exact fun W4 hW => run_b2 (u := .agg (encE e).toArray) (v := .int .i64 (hgt draws m)) (by rfl) (by exact eval_look (by kernel_rfl) (by kernel_rfl)) (by exact eval_look (by kernel_rfl) (by kernel_rfl)) (fun W => by first | kernel_rfl | go_simp) hW) ?_
    refine calm_nil (fun W5 hW5 => ?_)
    refine Eq.mpr (congrArg (fun a => wpList _ _ _ _ a W5) (show _ = (⟨#[.pointer (some ⟨g, 0, none⟩), .agg #[.string e.1, .int .u64 e.2.1, .bool e.2.2.1, .string e.2.2.2], undef, .pointer (some ⟨w.heap.size, 0, none⟩), .bool false, .pointer (some ⟨w2.heap.size, 0, none⟩), .pointer none, undef, undef, .pointer (some ⟨g, 0, none⟩), .agg #[.string e.1, .int .u64 e.2.1, .bool e.2.2.1, .string e.2.2.2], .agg (pathC fun i => atV g (prv i pre)), .pointer (some ⟨w2.heap.size, 0, none⟩), .pointer (some ⟨atB g (prv 0 pre), 0, none⟩), .pointer (some ⟨atB g (prv 0 pre), 0, none⟩), .pointer (some ⟨atB g (prv 0 pre), 5, none⟩), .pointer (some ⟨atB g (prv 0 pre), 5, none⟩), .pointer none, .pointer none, .bool false, .bool false, undef, undef, undef, undef, undef, undef, undef, .bool false, .agg (encE e).toArray, .pointer (some ⟨g, 0, none⟩), .int .i64 (hgt draws m), .agg #[.string e.1, .int .u64 e.2.1, .bool e.2.2.1, .string e.2.2.2, .int .i64 (hgt draws m), .pointer none, .pointer none, .pointer none, .pointer none, .pointer none, .pointer none, .pointer none, .pointer none, .pointer none, .pointer none, .pointer none, .pointer none], undef, undef, undef, undef, undef, undef, undef, undef, undef, undef, undef, undef, undef, undef, undef, undef, undef, undef, undef, undef, undef, undef, undef, undef, undef, undef, undef, undef, undef, undef, undef, undef, undef, undef, undef, undef, undef], []⟩ : Act) by kernel_rfl)) ?_
    have HW5 := Lib.hid hW5
    clear hW5
    have HNE := Lib.hid (show ∀ (y1 : Nd) (c1 : List Nd), [] = y1 :: c1 → cmpEE y1.e e ≠ 0 from fun y1 c1 h => by cases h)
    have HAP := Lib.hid (put_apart (HS2.out.later HW5.out) e (hgt draws m))
    have HB5 := Lib.hid (HBW.out.trans ((HW2.out.trans (HW5.out.mono HW2.out.size)).mono HBW.out.size))
    have HST := Lib.hid (put_start (HS2.out.later HW5.out) e (h := hgt draws m) (LRow.below (HLR.out) HB5.out) (blk_below HP2.out HW5.out) (hgt_in draws m))
    have HSZ := Lib.hid (show w.heap.size ≤ w2.heap.size ∧ w2.heap.size < W5.heap.size from ⟨HPN.out, Nat.lt_of_lt_of_le (blk_lt HP2.out) HW5.out.size⟩)
    have c4 : (W5.alloc (.cells #[.string e.1, .int .u64 e.2.1, .bool e.2.2.1, .string e.2.2.2, .int .i64 (hgt draws m), .pointer none, .pointer none, .pointer none, .pointer none, .pointer none, .pointer none, .pointer none, .pointer none, .pointer none, .pointer none, .pointer none, .pointer none] 119)).cell? ⟨W5.heap.size, 4, none⟩ = some (.int .i64 (hgt draws m)) := HST.out.mid.new.1.2
    clear c1 c2
    go_wp2_with fail
    clear c4
    generalize hWx : W5.alloc (.cells #[.string e.1, .int .u64 e.2.1, .bool e.2.2.1, .string e.2.2.2, .int .i64 (hgt draws m), .pointer none, .pointer none, .pointer none, .pointer none, .pointer none, .pointer none, .pointer none, .pointer none, .pointer none, .pointer none, .pointer none, .pointer none] 119) = W6 at *
    have hh12 : hgt draws m ≤ 12 := (hgt_in draws m).2
    generalize hhh : hgt draws m = hh at *
    go_loopw [38] (fun s38 wr => ∃ k : Nat, s38 = .int .i64 k ∧ k ≤ hh ∧ PutAt W6 wr g (PutS g pre W5.heap.size) pre ⟨W5.heap.size, e, hh⟩ ([]) w2.heap.size (.slice A draws.length c) (.int .i64 m) k) (fun s38 wr => hh - (intOf s38).toNat)
    case atStart => exact ⟨0, by rfl, by omega, HST.out⟩
    case round =>
      obtain ⟨k, rfl, hk, hat⟩ := hrel
      generalize wr = wq at *
      have HAT := Lib.hid hat
      clear hat HST
      by_cases hkh : k < hh
      · have k12 : k < 12 := by omega
        have i1 : (0 : Int) ≤ k := by omega
        have i2 : (k : Int) < 12 := by omega
        have i3 : (k : Int) < hh := by omega
        obtain ⟨q, hq⟩ := ptr_some (nxt k ([]))
        obtain ⟨cs, hcs, hcz⟩ := HAT.out.new
        have d1 : wq.cell? ⟨w2.heap.size, k, none⟩ = some (.pointer (some ⟨atB g (prv k pre), 0, none⟩)) := (blk_cell HAT.out.path k).trans (by rw [pathC_get, if_pos k12]; rfl)
        have d2 : wq.cell? ⟨atB g (prv k pre), 5 + k, none⟩ = some (.pointer q) := by rw [HAT.out.mid.cell (Nat.le_refl k) k12, hq]
        have d3 : wq.cell? ⟨W5.heap.size, 5 + k, none⟩ = some cs[5 + k] := (blk_cell hcs _).trans (Array.getElem?_eq_getElem (by omega))
        have d4 : wq.frozen? ⟨W5.heap.size, 5 + k, none⟩ = false := blk_frozen hcs _
        have d5 : wq.frozen? ⟨atB g (prv k pre), 5 + k, none⟩ = false := put_frozen HAT.out.rows HAT.out.list _ _
        have d6 : (wq.setCell ⟨W5.heap.size, 5 + k, none⟩ (.pointer q)).cell? ⟨atB g (prv k pre), 5 + k, none⟩ = some (.pointer q) := by
          rw [set_other (by rintro e1; injection e1 with e1 e2; exact HAP.out.at k e1.symm)]; exact d2
        have hstep := HAT.out.step hkh HAP.out (.inr (.inl rfl)) (.inl rfl) (fun y hy => .inr (.inr ⟨y, hy, rfl⟩)) (put_T HS.out HSZ.out)
        unfold put2 at hstep
        rw [hq] at hstep
        have HSTEP := Lib.hid hstep
        clear hstep
        go_wp2_with fail
        go_region
        go_wp2
        go_roundw
        case rel => exact ⟨k + 1, by first | rfl | simp, by omega, HSTEP.out.drew⟩
        case measure => simp [intOf]; omega
      · have hkk : k = hh := by omega
        subst hkk
        obtain ⟨cs, hcs, q17, q18⟩ := HAT.out.list
        have d1 : wq.cell? ⟨g, 18, none⟩ = some (.int .i64 m) := (blk_cell hcs 18).trans q18
        have d2 : wq.frozen? ⟨g, 18, none⟩ = false := blk_frozen hcs _
        have n1 : (m : Int) < 2932031007319 := by have := HLM.out; omega
        clear hcs q17 q18 cs
        go_wp2
        go_ret
        have hne := HNE.out
        have hfin := put_fin HS.out HSL.out HDR.out HM.out HB5.out (hWx ▸ HAT.out) H1.out (post_gt HS.out.order H2.out hne)
        exact .inr ⟨rfl, hfin.1, hne, W5.heap.size, HB5.out.size, by subst hhh; exact hfin.2⟩
  · have hyh : 0 < y.high := by
      have := (HSW.out.nodes.node pre y c0 rfl).2.2.2.1
      omega
    have hy0 : ptrV (nxt 0 (y :: c0)) = .pointer (some ⟨y.b, 0, none⟩) := by
      unfold nxt
      rw [List.find?_cons_of_pos (by simpa using hyh)]
      rfl
    simp only [hy0] at *
    have HY := Lib.hid (HSW.out.nodes.node pre y c0 rfl).1
    by_cases hlt : cmpEE y.e e = 0
    · have hdec : decide (cmpEE y.e e = 0) = true := by simpa using hlt
      refine wp_region_calmB 10 (by kernel_rfl) (by kernel_rfl) ?_
      simp only [List.take_succ_cons, List.take_zero, List.drop_succ_cons, List.drop_zero]
      refine chain0 ?_
      refine @chain _ _ _ _ _ _ _ _ 18 (.pointer (some ⟨y.b, 0, none⟩)) (by rfl) (by rfl) (by exact fun W2 hW => run_mv (by rfl) (by exact eval_base (by kernel_rfl) (by rfl)) hW) ?_
      refine @chain _ _ _ _ _ _ _ _ 19 (.bool true) (by rfl) (by rfl) (by exact fun W2 hW => run_bo (u := .pointer (some ⟨y.b, 0, none⟩)) (v := .pointer none) (by rfl) (by exact eval_look (by kernel_rfl) (by kernel_rfl)) (by rfl) (fun W => by go_simp) hW) ?_
      refine @chain _ _ _ _ _ _ _ _ 20 (.bool true) (by rfl) (by rfl) (by exact fun W2 hW => run_mv (by rfl) (by exact eval_look (by kernel_rfl) (by kernel_rfl)) hW) ?_
      refine @chainG _ _ _ _ _ _ _ _ 21 (.pointer (some ⟨y.b, 0, none⟩)) (by kernel_rfl) (by rfl) (by exact fun W2 hW => run_mv (by rfl) (by exact eval_base (by kernel_rfl) (by rfl)) hW) ?_
      refine @chainG _ _ _ _ _ _ _ _ 22 (.pointer (some ⟨y.b, 0, none⟩)) (by kernel_rfl) (by rfl) (by exact fun W2 hW => run_nc (by rfl) (by exact eval_look (by kernel_rfl) (by kernel_rfl)) hW) ?_
      refine @chainG _ _ _ _ _ _ _ _ 23 (.pointer (some ⟨y.b, 0, none⟩)) (by kernel_rfl) (by rfl) (by exact fun W2 hW => run_fa (p := .pointer (some ⟨y.b, 0, none⟩)) (by rfl) (by exact eval_look (by kernel_rfl) (by kernel_rfl)) (fun W => by first | kernel_rfl | go_simp) hW) ?_
      refine @chainG _ _ _ _ _ _ _ _ 24 (.agg (encE y.e).toArray) (by kernel_rfl) (by rfl) (by exact fun W2 hW => run_lw (by rfl) (by exact eval_look (by kernel_rfl) (by kernel_rfl)) (fun W hW => ldEnt _ _ _ (fun i v hv => cell_later hW (HY.out i v hv))) hW) ?_
      refine @chainG _ _ _ _ _ _ _ _ 25 (.agg (encE e).toArray) (by kernel_rfl) (by rfl) (by exact fun W2 hW => run_lw (by rfl) (by exact eval_base (by kernel_rfl) (by rfl)) (fun W hW => ldEnt _ _ _ (fun i v hv => cell_later hW (HR0.out i v hv))) hW) ?_
      refine @chainG _ _ _ _ _ _ _ _ 26 (.int .i64 (cmpEE y.e e)) (by kernel_rfl) (by rfl) (by exact fun W2 hW => run_call (vs := #[.agg (encE y.e).toArray, .agg (encE e).toArray]) (by rfl) (by kernel_rfl) (enters_of Try.func84 (by kernel_rfl) (by rfl)) (calm_b hW (compareE y.e e W2))) ?_
      refine @chainG _ _ _ _ _ _ _ _ 27 (.bool true) (by kernel_rfl) (by rfl) (by exact fun W2 hW => run_bo (u := .int .i64 (cmpEE y.e e)) (v := .int .i64 0) (by rfl) (by exact eval_look (by kernel_rfl) (by kernel_rfl)) (by rfl) (fun W => eql_run _ _ _ _ _ hdec W) hW) ?_
      refine calm_nil (fun W2 hW2 => ?_)
      refine Eq.mpr (congrArg (fun a => wpList _ _ _ _ a W2) (show _ = (⟨#[.pointer (some ⟨g, 0, none⟩), .agg #[.string e.1, .int .u64 e.2.1, .bool e.2.2.1, .string e.2.2.2], undef, .pointer (some ⟨w.heap.size, 0, none⟩), .bool false, .pointer (some ⟨w2.heap.size, 0, none⟩), .pointer (some ⟨y.b, 0, none⟩), undef, undef, .pointer (some ⟨g, 0, none⟩), .agg #[.string e.1, .int .u64 e.2.1, .bool e.2.2.1, .string e.2.2.2], .agg (pathC fun i => atV g (prv i pre)), .pointer (some ⟨w2.heap.size, 0, none⟩), .pointer (some ⟨atB g (prv 0 pre), 0, none⟩), .pointer (some ⟨atB g (prv 0 pre), 0, none⟩), .pointer (some ⟨atB g (prv 0 pre), 5, none⟩), .pointer (some ⟨atB g (prv 0 pre), 5, none⟩), .pointer (some ⟨y.b, 0, none⟩), .pointer (some ⟨y.b, 0, none⟩), .bool true, .bool true, .pointer (some ⟨y.b, 0, none⟩), .pointer (some ⟨y.b, 0, none⟩), .pointer (some ⟨y.b, 0, none⟩), .agg (encE y.e).toArray, .agg (encE e).toArray, .int .i64 (cmpEE y.e e), .bool true, undef, undef, undef, undef, undef, undef, undef, undef, undef, undef, undef, undef, undef, undef, undef, undef, undef, undef, undef, undef, undef, undef, undef, undef, undef, undef, undef, undef, undef, undef, undef, undef, undef, undef, undef, undef, undef, undef, undef, undef, undef, undef], []⟩ : Act) by kernel_rfl)) ?_
      go_wp2
      go_ret
      exact .inl ⟨rfl, HBW.out.trans (hW2.mono HBW.out.size), y, c0, rfl, hlt⟩
    · have hdec : decide (cmpEE y.e e = 0) = false := by simpa using hlt
      refine wp_region_calmB 10 (by kernel_rfl) (by kernel_rfl) ?_
      simp only [List.take_succ_cons, List.take_zero, List.drop_succ_cons, List.drop_zero]
      refine chain0 ?_
      refine @chain _ _ _ _ _ _ _ _ 18 (.pointer (some ⟨y.b, 0, none⟩)) (by rfl) (by rfl) (by exact fun W2 hW => run_mv (by rfl) (by exact eval_base (by kernel_rfl) (by rfl)) hW) ?_
      refine @chain _ _ _ _ _ _ _ _ 19 (.bool true) (by rfl) (by rfl) (by exact fun W2 hW => run_bo (u := .pointer (some ⟨y.b, 0, none⟩)) (v := .pointer none) (by rfl) (by exact eval_look (by kernel_rfl) (by kernel_rfl)) (by rfl) (fun W => by go_simp) hW) ?_
      refine @chain _ _ _ _ _ _ _ _ 20 (.bool true) (by rfl) (by rfl) (by exact fun W2 hW => run_mv (by rfl) (by exact eval_look (by kernel_rfl) (by kernel_rfl)) hW) ?_
      refine @chainG _ _ _ _ _ _ _ _ 21 (.pointer (some ⟨y.b, 0, none⟩)) (by kernel_rfl) (by rfl) (by exact fun W2 hW => run_mv (by rfl) (by exact eval_base (by kernel_rfl) (by rfl)) hW) ?_
      refine @chainG _ _ _ _ _ _ _ _ 22 (.pointer (some ⟨y.b, 0, none⟩)) (by kernel_rfl) (by rfl) (by exact fun W2 hW => run_nc (by rfl) (by exact eval_look (by kernel_rfl) (by kernel_rfl)) hW) ?_
      refine @chainG _ _ _ _ _ _ _ _ 23 (.pointer (some ⟨y.b, 0, none⟩)) (by kernel_rfl) (by rfl) (by exact fun W2 hW => run_fa (p := .pointer (some ⟨y.b, 0, none⟩)) (by rfl) (by exact eval_look (by kernel_rfl) (by kernel_rfl)) (fun W => by first | kernel_rfl | go_simp) hW) ?_
      refine @chainG _ _ _ _ _ _ _ _ 24 (.agg (encE y.e).toArray) (by kernel_rfl) (by rfl) (by exact fun W2 hW => run_lw (by rfl) (by exact eval_look (by kernel_rfl) (by kernel_rfl)) (fun W hW => ldEnt _ _ _ (fun i v hv => cell_later hW (HY.out i v hv))) hW) ?_
      refine @chainG _ _ _ _ _ _ _ _ 25 (.agg (encE e).toArray) (by kernel_rfl) (by rfl) (by exact fun W2 hW => run_lw (by rfl) (by exact eval_base (by kernel_rfl) (by rfl)) (fun W hW => ldEnt _ _ _ (fun i v hv => cell_later hW (HR0.out i v hv))) hW) ?_
      refine @chainG _ _ _ _ _ _ _ _ 26 (.int .i64 (cmpEE y.e e)) (by kernel_rfl) (by rfl) (by exact fun W2 hW => run_call (vs := #[.agg (encE y.e).toArray, .agg (encE e).toArray]) (by rfl) (by kernel_rfl) (enters_of Try.func84 (by kernel_rfl) (by rfl)) (calm_b hW (compareE y.e e W2))) ?_
      refine @chainG _ _ _ _ _ _ _ _ 27 (.bool false) (by kernel_rfl) (by rfl) (by exact fun W2 hW => run_bo (u := .int .i64 (cmpEE y.e e)) (v := .int .i64 0) (by rfl) (by exact eval_look (by kernel_rfl) (by kernel_rfl)) (by rfl) (fun W => eql_run _ _ _ _ _ hdec W) hW) ?_
      refine calm_nil (fun W2 hW2 => ?_)
      refine Eq.mpr (congrArg (fun a => wpList _ _ _ _ a W2) (show _ = (⟨#[.pointer (some ⟨g, 0, none⟩), .agg #[.string e.1, .int .u64 e.2.1, .bool e.2.2.1, .string e.2.2.2], undef, .pointer (some ⟨w.heap.size, 0, none⟩), .bool false, .pointer (some ⟨w2.heap.size, 0, none⟩), .pointer (some ⟨y.b, 0, none⟩), undef, undef, .pointer (some ⟨g, 0, none⟩), .agg #[.string e.1, .int .u64 e.2.1, .bool e.2.2.1, .string e.2.2.2], .agg (pathC fun i => atV g (prv i pre)), .pointer (some ⟨w2.heap.size, 0, none⟩), .pointer (some ⟨atB g (prv 0 pre), 0, none⟩), .pointer (some ⟨atB g (prv 0 pre), 0, none⟩), .pointer (some ⟨atB g (prv 0 pre), 5, none⟩), .pointer (some ⟨atB g (prv 0 pre), 5, none⟩), .pointer (some ⟨y.b, 0, none⟩), .pointer (some ⟨y.b, 0, none⟩), .bool true, .bool true, .pointer (some ⟨y.b, 0, none⟩), .pointer (some ⟨y.b, 0, none⟩), .pointer (some ⟨y.b, 0, none⟩), .agg (encE y.e).toArray, .agg (encE e).toArray, .int .i64 (cmpEE y.e e), .bool false, undef, undef, undef, undef, undef, undef, undef, undef, undef, undef, undef, undef, undef, undef, undef, undef, undef, undef, undef, undef, undef, undef, undef, undef, undef, undef, undef, undef, undef, undef, undef, undef, undef, undef, undef, undef, undef, undef, undef, undef, undef, undef], []⟩ : Act) by kernel_rfl)) ?_
      have HW2 := Lib.hid hW2
      clear hW2
      have HS2 := Lib.hid (HSW.out.later HW2.out)
      have HR2 := Lib.hid (fun i v hv => cell_later HW2.out (HR0.out i v hv))
      have HP2 := Lib.hid ((HW2.out.block _ (blk_lt HPW.out)).trans HPW.out)
      go_wp2_with fail
      refine wp_region_calmB 4 (by kernel_rfl) (by kernel_rfl) ?_
      simp only [List.take_succ_cons, List.take_zero, List.drop_succ_cons, List.drop_zero]
      refine chain0 ?_
      refine @chain _ _ _ _ _ _ _ _ 29 (.agg (encE e).toArray) (by rfl) (by rfl) (by exact fun W4 hW => run_lw (by rfl) (by exact eval_base (by kernel_rfl) (by rfl)) (fun W hW => ldEnt _ _ _ (fun i v hv => cell_later hW (HR2.out i v hv))) hW) ?_
      refine @chain _ _ _ _ _ _ _ _ 30 (.pointer (some ⟨g, 0, none⟩)) (by rfl) (by rfl) (by exact fun W4 hW => run_mv (by rfl) (by exact eval_base (by kernel_rfl) (by rfl)) hW) ?_
      refine @chain _ _ _ _ _ _ _ _ 31 (.int .i64 (hgt draws m)) (by rfl) (by rfl) (by exact fun W4 hW => run_call (vs := #[.pointer (some ⟨g, 0, none⟩)]) (by rfl) (by kernel_rfl) (enters_of Try.func85 (by kernel_rfl) (by rfl)) (calm_b hW (height_m (HS2.out.later hW) HM.out HLM.out))) ?_
      refine @chain _ _ _ _ _ _ _ _ 32 (.agg #[.string e.1, .int .u64 e.2.1, .bool e.2.2.1, .string e.2.2.2, .int .i64 (hgt draws m), .pointer none, .pointer none, .pointer none, .pointer none, .pointer none, .pointer none, .pointer none, .pointer none, .pointer none, .pointer none, .pointer none, .pointer none]) (by rfl) (by rfl) (by exact fun W4 hW => run_b2 (u := .agg (encE e).toArray) (v := .int .i64 (hgt draws m)) (by rfl) (by exact eval_look (by kernel_rfl) (by kernel_rfl)) (by exact eval_look (by kernel_rfl) (by kernel_rfl)) (fun W => by first | kernel_rfl | go_simp) hW) ?_
      refine calm_nil (fun W5 hW5 => ?_)
      refine Eq.mpr (congrArg (fun a => wpList _ _ _ _ a W5) (show _ = (⟨#[.pointer (some ⟨g, 0, none⟩), .agg #[.string e.1, .int .u64 e.2.1, .bool e.2.2.1, .string e.2.2.2], undef, .pointer (some ⟨w.heap.size, 0, none⟩), .bool false, .pointer (some ⟨w2.heap.size, 0, none⟩), .pointer (some ⟨y.b, 0, none⟩), undef, undef, .pointer (some ⟨g, 0, none⟩), .agg #[.string e.1, .int .u64 e.2.1, .bool e.2.2.1, .string e.2.2.2], .agg (pathC fun i => atV g (prv i pre)), .pointer (some ⟨w2.heap.size, 0, none⟩), .pointer (some ⟨atB g (prv 0 pre), 0, none⟩), .pointer (some ⟨atB g (prv 0 pre), 0, none⟩), .pointer (some ⟨atB g (prv 0 pre), 5, none⟩), .pointer (some ⟨atB g (prv 0 pre), 5, none⟩), .pointer (some ⟨y.b, 0, none⟩), .pointer (some ⟨y.b, 0, none⟩), .bool true, .bool true, .pointer (some ⟨y.b, 0, none⟩), .pointer (some ⟨y.b, 0, none⟩), .pointer (some ⟨y.b, 0, none⟩), .agg (encE y.e).toArray, .agg (encE e).toArray, .int .i64 (cmpEE y.e e), .bool false, .bool false, .agg (encE e).toArray, .pointer (some ⟨g, 0, none⟩), .int .i64 (hgt draws m), .agg #[.string e.1, .int .u64 e.2.1, .bool e.2.2.1, .string e.2.2.2, .int .i64 (hgt draws m), .pointer none, .pointer none, .pointer none, .pointer none, .pointer none, .pointer none, .pointer none, .pointer none, .pointer none, .pointer none, .pointer none, .pointer none], undef, undef, undef, undef, undef, undef, undef, undef, undef, undef, undef, undef, undef, undef, undef, undef, undef, undef, undef, undef, undef, undef, undef, undef, undef, undef, undef, undef, undef, undef, undef, undef, undef, undef, undef, undef, undef], []⟩ : Act) by kernel_rfl)) ?_
      have HW5 := Lib.hid hW5
      clear hW5
      have HNE := Lib.hid (show ∀ (y1 : Nd) (c1 : List Nd), y :: c0 = y1 :: c1 → cmpEE y1.e e ≠ 0 from fun y1 c1 h => by cases h; exact hlt)
      have HAP := Lib.hid (put_apart (HS2.out.later HW5.out) e (hgt draws m))
      have HB5 := Lib.hid (HBW.out.trans ((HW2.out.trans (HW5.out.mono HW2.out.size)).mono HBW.out.size))
      have HST := Lib.hid (put_start (HS2.out.later HW5.out) e (h := hgt draws m) (LRow.below (HLR.out) HB5.out) (blk_below HP2.out HW5.out) (hgt_in draws m))
      have HSZ := Lib.hid (show w.heap.size ≤ w2.heap.size ∧ w2.heap.size < W5.heap.size from ⟨HPN.out, Nat.lt_of_lt_of_le (blk_lt HP2.out) HW5.out.size⟩)
      have c4 : (W5.alloc (.cells #[.string e.1, .int .u64 e.2.1, .bool e.2.2.1, .string e.2.2.2, .int .i64 (hgt draws m), .pointer none, .pointer none, .pointer none, .pointer none, .pointer none, .pointer none, .pointer none, .pointer none, .pointer none, .pointer none, .pointer none, .pointer none] 119)).cell? ⟨W5.heap.size, 4, none⟩ = some (.int .i64 (hgt draws m)) := HST.out.mid.new.1.2
      clear c1 c2
      go_wp2_with fail
      clear c4
      generalize hWx : W5.alloc (.cells #[.string e.1, .int .u64 e.2.1, .bool e.2.2.1, .string e.2.2.2, .int .i64 (hgt draws m), .pointer none, .pointer none, .pointer none, .pointer none, .pointer none, .pointer none, .pointer none, .pointer none, .pointer none, .pointer none, .pointer none, .pointer none] 119) = W6 at *
      have hh12 : hgt draws m ≤ 12 := (hgt_in draws m).2
      generalize hhh : hgt draws m = hh at *
      go_loopw [38] (fun s38 wr => ∃ k : Nat, s38 = .int .i64 k ∧ k ≤ hh ∧ PutAt W6 wr g (PutS g pre W5.heap.size) pre ⟨W5.heap.size, e, hh⟩ (y :: c0) w2.heap.size (.slice A draws.length c) (.int .i64 m) k) (fun s38 wr => hh - (intOf s38).toNat)
      case atStart => exact ⟨0, by rfl, by omega, HST.out⟩
      case round =>
        obtain ⟨k, rfl, hk, hat⟩ := hrel
        generalize wr = wq at *
        have HAT := Lib.hid hat
        clear hat HST
        by_cases hkh : k < hh
        · have k12 : k < 12 := by omega
          have i1 : (0 : Int) ≤ k := by omega
          have i2 : (k : Int) < 12 := by omega
          have i3 : (k : Int) < hh := by omega
          obtain ⟨q, hq⟩ := ptr_some (nxt k (y :: c0))
          obtain ⟨cs, hcs, hcz⟩ := HAT.out.new
          have d1 : wq.cell? ⟨w2.heap.size, k, none⟩ = some (.pointer (some ⟨atB g (prv k pre), 0, none⟩)) := (blk_cell HAT.out.path k).trans (by rw [pathC_get, if_pos k12]; rfl)
          have d2 : wq.cell? ⟨atB g (prv k pre), 5 + k, none⟩ = some (.pointer q) := by rw [HAT.out.mid.cell (Nat.le_refl k) k12, hq]
          have d3 : wq.cell? ⟨W5.heap.size, 5 + k, none⟩ = some cs[5 + k] := (blk_cell hcs _).trans (Array.getElem?_eq_getElem (by omega))
          have d4 : wq.frozen? ⟨W5.heap.size, 5 + k, none⟩ = false := blk_frozen hcs _
          have d5 : wq.frozen? ⟨atB g (prv k pre), 5 + k, none⟩ = false := put_frozen HAT.out.rows HAT.out.list _ _
          have d6 : (wq.setCell ⟨W5.heap.size, 5 + k, none⟩ (.pointer q)).cell? ⟨atB g (prv k pre), 5 + k, none⟩ = some (.pointer q) := by
            rw [set_other (by rintro e1; injection e1 with e1 e2; exact HAP.out.at k e1.symm)]; exact d2
          have hstep := HAT.out.step hkh HAP.out (.inr (.inl rfl)) (.inl rfl) (fun y hy => .inr (.inr ⟨y, hy, rfl⟩)) (put_T HS.out HSZ.out)
          unfold put2 at hstep
          rw [hq] at hstep
          have HSTEP := Lib.hid hstep
          clear hstep
          go_wp2_with fail
          go_region
          go_wp2
          go_roundw
          case rel => exact ⟨k + 1, by first | rfl | simp, by omega, HSTEP.out.drew⟩
          case measure => simp [intOf]; omega
        · have hkk : k = hh := by omega
          subst hkk
          obtain ⟨cs, hcs, q17, q18⟩ := HAT.out.list
          have d1 : wq.cell? ⟨g, 18, none⟩ = some (.int .i64 m) := (blk_cell hcs 18).trans q18
          have d2 : wq.frozen? ⟨g, 18, none⟩ = false := blk_frozen hcs _
          have n1 : (m : Int) < 2932031007319 := by have := HLM.out; omega
          clear hcs q17 q18 cs
          go_wp2
          go_ret
          have hne := HNE.out
          have hfin := put_fin HS.out HSL.out HDR.out HM.out HB5.out (hWx ▸ HAT.out) H1.out (post_gt HS.out.order H2.out hne)
          exact .inr ⟨rfl, hfin.1, hne, W5.heap.size, HB5.out.size, by subst hhh; exact hfin.2⟩
end Go.Proofs.Ytjbbobhjomhnmaa.H
