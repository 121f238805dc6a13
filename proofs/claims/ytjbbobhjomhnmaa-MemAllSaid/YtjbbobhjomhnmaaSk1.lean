/- skip.List: how it lies in memory; ahead. Conditions: the list is in order. -/
import Derived.Test.YtjbbobhjomhnmaaSkP
import Derived.Test.YtjbbobhjomhnmaaSkA
import Derived.Test.YtjbbobhjomhnmaaHRow
import Derived.Deep.WholeRow
import Derived.Shelf.Abstract
import Derived.Outline
import Derived.Laws.CopyOwn
namespace Go.Proofs.Ytjbbobhjomhnmaa.H
open Go.RowKit Go.Deep Go.Shelf Go.Proofs Go.Proofs.YtjbbobhjomhnmaaW.PrintWords
set_option linter.unusedVariables false
set_option linter.unusedSimpArgs false
theorem chainK {P : Program} {ops : Array Oper} {w : World} {a : Act} {l : List (Tmp × Value)} {o : Oper} {rest : List Oper} {Q : Act → Prop} {t : Tmp} (hg : Region.wanted o (yielded ops (putL a l).tmps) = false) (hd : o.dst = some t) (hr : calmList P ops w Q rest (putL a ((t, undef) :: l))) :
    calmList P ops w Q (o :: rest) (putL a l) :=
  ⟨undef, .inr ⟨hg, rfl⟩, by rw [hd]; rw [putL] at hr; exact hr⟩
theorem run_lw {P : Program} {w W : World} {a : Act} {o : Oper} {t : TypeId} {x : Operand} {u v : Value} (ho : o.op = .load t x) (hx : a.eval x = u) (hl : ∀ W : World, Below w.heap.size w W → (Instr.loadAt t u).run P W = .ok v W) (hW : Below w.heap.size w W) : CalmRes P w v ((execOp a.eval o).run P W) := by
  simp only [execOp, ho, hx, Sem.run_bind, Sem.run_pure, hl W hW, Result.andThen_ok]
  exact ⟨rfl, hW⟩
def ptrV : Option Nd → Value
  | some x => .pointer (some ⟨x.b, 0, none⟩)
  | none => .pointer none
/-- Where one stands: at a node, or ahead of all. -/
def atB (g : Nat) : Option Nd → Nat
  | some x => x.b
  | none => g
def atV (g : Nat) (o : Option Nd) : Value := .pointer (some ⟨atB g o, 0, none⟩)
structure NodesAt (w : World) (g : Nat) (l : List Nd) : Prop where
  head : ∀ h, h < 12 → w.cell? ⟨g, 5 + h, none⟩ = some (ptrV (nxt h l))
  node : ∀ a x c, l = a ++ x :: c → (∀ i v, (encE x.e)[i]? = some v → w.cell? ⟨x.b, i, none⟩ = some v) ∧ w.cell? ⟨x.b, 4, none⟩ = some (.int .i64 x.high) ∧ x.high ≤ 12 ∧ 1 ≤ x.high ∧ ∀ h, h < x.high → w.cell? ⟨x.b, 5 + h, none⟩ = some (ptrV (nxt h c))
theorem NodesAt.later {w W : World} {g : Nat} {l : List Nd} (h : NodesAt w g l) (hb : Below w.heap.size w W) : NodesAt W g l := by
  have mv : ∀ {b o : Nat} {v : Value}, w.cell? ⟨b, o, none⟩ = some v → W.cell? ⟨b, o, none⟩ = some v := fun {b o v} hv => (hb.cell (p := ⟨b, o, none⟩) (World.block_lt_of_cell? w ⟨b, o, none⟩ hv)).trans hv
  refine ⟨fun k hk => mv (h.head k hk), fun a x c hl => ?_⟩
  obtain ⟨h1, h2, h3, h4, h5⟩ := h.node a x c hl
  exact ⟨fun i v hv => mv (h1 i v hv), mv h2, h3, h4, fun k hk => mv (h5 k hk)⟩
/-- cur is where one stands; rest stands behind it. -/
def CurOk (pre : List Nd) (h : Nat) (cur : Option Nd) (rest : List Nd) : Prop :=
  (cur = none ∧ rest = pre) ∨ ∃ a x, cur = some x ∧ pre = a ++ x :: rest ∧ h < x.high
theorem CurOk.down {pre : List Nd} {h h' : Nat} {cur : Option Nd} {rest : List Nd} (hc : CurOk pre h cur rest) (hh : h' ≤ h) : CurOk pre h' cur rest := by
  rcases hc with hc | ⟨a, x, h1, h2, h3⟩
  · exact .inl hc
  · exact .inr ⟨a, x, h1, h2, by omega⟩
theorem CurOk.prv {pre : List Nd} {h : Nat} {cur : Option Nd} {rest : List Nd} (hc : CurOk pre h cur rest) (hr : ∀ y ∈ rest, ¬ h < y.high) : prv h pre = cur := by
  rcases hc with ⟨rfl, rfl⟩ | ⟨a, x, rfl, rfl, h3⟩
  · exact prv_none hr
  · exact prv_last h3 hr
theorem CurOk.cell {w : World} {g : Nat} {pre post : List Nd} {h : Nat} {cur : Option Nd} {rest : List Nd} (hN : NodesAt w g (pre ++ post)) (hc : CurOk pre h cur rest) (h12 : h < 12) : w.cell? ⟨atB g cur, 5 + h, none⟩ = some (ptrV (nxt h (rest ++ post))) := by
  rcases hc with ⟨rfl, rfl⟩ | ⟨a, x, rfl, rfl, h3⟩
  · exact hN.head h h12
  · obtain ⟨_, _, _, _, h5⟩ := hN.node a x (rest ++ post) (by simp)
    exact h5 h h3
theorem CurOk.next {pre : List Nd} {h : Nat} {cur : Option Nd} {rest : List Nd} {y : Nd} (hc : CurOk pre h cur rest) (hy : nxt h rest = some y) : ∃ c, CurOk pre h (some y) c ∧ c.length < rest.length := by
  obtain ⟨h1, a, c, h2, _⟩ := nxt_split hy
  subst h2
  refine ⟨c, ?_, by simp; omega⟩
  rcases hc with ⟨rfl, rfl⟩ | ⟨a', x, rfl, rfl, h3⟩
  · exact .inr ⟨a, y, rfl, rfl, h1⟩
  · exact .inr ⟨a' ++ x :: a, y, rfl, by simp, h1⟩
theorem nxt_in_list {pre post : List Nd} {h : Nat} {cur : Option Nd} {rest : List Nd} {y : Nd} (hc : CurOk pre h cur rest) (hy : nxt h (rest ++ post) = some y) : ∃ a c, pre ++ post = a ++ y :: c := by
  obtain ⟨_, a, c, h2, _⟩ := nxt_split hy
  rcases hc with ⟨rfl, rfl⟩ | ⟨a', x, rfl, rfl, h3⟩
  · exact ⟨a, c, h2⟩
  · exact ⟨a' ++ x :: a, c, by rw [List.append_assoc, List.cons_append, h2]; simp⟩
theorem low_none {h : Nat} {rest post : List Nd} (hn : nxt h (rest ++ post) = none) : ∀ y ∈ rest, ¬ h < y.high := fun y hy => by
  have := List.find?_eq_none.1 hn y (List.mem_append_left _ hy)
  simpa using this
theorem CurOk.mem {pre : List Nd} {h : Nat} {cur : Option Nd} {rest : List Nd} (hc : CurOk pre h cur rest) {z : Nd} (hz : z ∈ rest) : z ∈ pre := by
  rcases hc with ⟨rfl, rfl⟩ | ⟨a, x, rfl, rfl, _⟩
  · exact hz
  · exact List.mem_append_right _ (List.mem_cons_of_mem _ hz)
theorem nxt_mem {h : Nat} {l : List Nd} {y : Nd} (hn : nxt h l = some y) : y ∈ l := List.mem_of_find?_eq_some hn
theorem low_ge {pre post : List Nd} {h : Nat} {cur : Option Nd} {rest : List Nd} {y : Nd} {e : Ent} (hc : CurOk pre h cur rest) (h1 : ∀ x ∈ pre, ltE x.e e) (hn : nxt h (rest ++ post) = some y) (hy : ¬ ltE y.e e) : ∀ z ∈ rest, ¬ h < z.high := by
  intro z hz hh
  cases hq : nxt h rest with
  | none =>
    have := List.find?_eq_none.1 hq z hz
    simp at this
    omega
  | some u =>
    have := nxt_some hq post
    rw [hn] at this
    injection this with this
    subst this
    exact hy (h1 _ (hc.mem (nxt_mem hq)))
theorem in_rest {post : List Nd} {h : Nat} {rest : List Nd} {y : Nd} {e : Ent} (h2 : ∀ x ∈ post, ¬ ltE x.e e) (hn : nxt h (rest ++ post) = some y) (hy : ltE y.e e) : nxt h rest = some y := by
  cases hq : nxt h rest with
  | none =>
    have hlow : ∀ x ∈ rest, ¬ h < x.high := fun x hx => by
      have := List.find?_eq_none.1 hq x hx
      simpa using this
    rw [nxt_none hlow] at hn
    exact absurd hy (h2 _ (nxt_mem hn))
  | some u =>
    have := nxt_some hq post
    rw [hn] at this
    injection this with this
    rw [this]
theorem ldEnt (b : Nat) (y : Ent) (W : World) (h : ∀ i v, (encE y)[i]? = some v → W.cell? ⟨b, i, none⟩ = some v) : (Instr.loadAt 53 (.pointer (some ⟨b, 0, none⟩))).run Try.prog W = .ok (.agg (encE y).toArray) W := by
  have h0 := h 0 _ rfl
  have h1 := h 1 _ rfl
  have h2 := h 2 _ rfl
  have h3 := h 3 _ rfl
  unfold encE
  go_simp
theorem ldPtr (b j : Nat) (v : Option Nd) (W : World) (h : W.cell? ⟨b, j, none⟩ = some (ptrV v)) : (Instr.loadAt 116 (.pointer (some ⟨b, j, none⟩))).run Try.prog W = .ok (ptrV v) W := by
  go_simp
theorem cell_later {w W : World} {b o : Nat} {v : Value} (hb : Below w.heap.size w W) (hv : w.cell? ⟨b, o, none⟩ = some v) : W.cell? ⟨b, o, none⟩ = some v := (hb.cell (p := ⟨b, o, none⟩) (World.block_lt_of_cell? w ⟨b, o, none⟩ hv)).trans hv
theorem boxEnt {w : World} {b : Nat} {e : Ent} (h : w.heap[b]? = some (.cells #[.string e.1, .int .u64 e.2.1, .bool e.2.2.1, .string e.2.2.2] 53 (0, 0))) : ∀ i v, (encE e)[i]? = some v → w.cell? ⟨b, i, none⟩ = some v := fun i v hv => (blk_cell h i).trans (by simpa [encE] using hv)
theorem lss_run (t : TypeId) (x y : Operand) (r : Int) (b : Bool) (h : decide (r < 0) = b) (W : World) : (do eqGuard .lss t x y (.int .i64 r) (.int .i64 0); binOp .lss t (.int .i64 r) (.int .i64 0) : Sem Value).run Try.prog W = .ok (.bool b) W := by
  subst h
  go_simp
theorem compareE (x y : Ent) (w : World) : Calls Try.prog 84 #[.agg (encE x).toArray, .agg (encE y).toArray] w fun e w' => e = .returned (.int .i64 (cmpEE x y)) ∧ Below w.heap.size w w' := compare_c _ _ _ _ _ _ _ _ w
def pathC (f : Nat → Value) : Array Value := ((List.range 12).map f).toArray
theorem pathC_get (f : Nat → Value) (i : Nat) : (pathC f)[i]? = if i < 12 then some (f i) else none := by
  unfold pathC
  by_cases hi : i < 12
  · simp [hi]
  · simp [hi]
theorem pathC_set (f : Nat → Value) (h : Nat) (hh : h < 12) (v : Value) : (pathC f).setIfInBounds h v = pathC (fun i => if i = h then v else f i) := by
  apply Array.ext_getElem?
  intro i
  rw [Array.getElem?_setIfInBounds, pathC_get, pathC_get]
  by_cases e : h = i
  · subst e
    simp [hh, pathC]
  · rw [if_neg e]
    by_cases hi : i < 12
    · rw [if_pos hi, if_pos hi, if_neg (fun h2 => e h2.symm)]
    · rw [if_neg hi, if_neg hi]
set_option maxHeartbeats 3200000 in
set_option maxRecDepth 100000 in
theorem ahead_c (g : Nat) (pre post : List Nd) (e : Ent) (w : World) (hN : NodesAt w g (pre ++ post)) (h1 : ∀ x ∈ pre, ltE x.e e) (h2 : ∀ x ∈ post, ¬ ltE x.e e) :
    Calls Try.prog 80 #[.pointer (some ⟨g, 0, none⟩), .agg (encE e).toArray] w fun en w' => en = .returned (.agg (pathC fun i => atV g (prv i pre))) ∧ Below w.heap.size w w' := by
  have HN := Lib.hid hN
  have H1 := Lib.hid h1
  have H2 := Lib.hid h2
  clear hN h1 h2
  unfold encE
  go_enter Try.func80, Try.ntmps80
  go_wp2_with fail
  have hA : Below w.heap.size w (w.alloc (.cells #[.string e.1, .int .u64 e.2.1, .bool e.2.2.1, .string e.2.2.2] 53)) := (Below.refl _ _).alloc (Nat.le_refl _) _
  have hZ : (pathC fun _ => .pointer none) = #[.pointer none, .pointer none, .pointer none, .pointer none, .pointer none, .pointer none, .pointer none, .pointer none, .pointer none, .pointer none, .pointer none, (.pointer none : Value)] := rfl
  rw [← hZ]
  obtain ⟨W, hW⟩ : ∃ W, ((w.alloc (.cells #[.string e.1, .int .u64 e.2.1, .bool e.2.2.1, .string e.2.2.2] 53)).alloc (.cells (pathC fun _ => .pointer none) 117)).alloc (.cells (pathC fun _ => .pointer none) 117) = W := ⟨_, rfl⟩
  rw [hW]
  have HBW := Lib.hid (show Below w.heap.size w W by rw [← hW]; exact (hA.alloc (by simp) _).alloc (by simp; omega) _)
  have r0 : W.heap[w.heap.size]? = some (.cells #[.string e.1, .int .u64 e.2.1, .bool e.2.2.1, .string e.2.2.2] 53 (0, 0)) := by
    rw [← hW, heap_alloc_old _ _ (by simp; omega), heap_alloc_old _ _ (by simp), heap_alloc_new]
  have r1 : W.heap[w.heap.size + 1]? = some (.cells (pathC fun _ => .pointer none) 117 (0, 0)) := by
    rw [← hW, heap_alloc_old _ _ (by simp), heap_alloc2_new]
  have r2 : W.heap[w.heap.size + 1 + 1]? = some (.cells (pathC fun _ => .pointer none) 117 (0, 0)) := by
    rw [← hW]
    have := heap_alloc_new ((w.alloc (.cells #[.string e.1, .int .u64 e.2.1, .bool e.2.2.1, .string e.2.2.2] 53)).alloc (.cells (pathC fun _ => .pointer none) 117)) (.cells (pathC fun _ => .pointer none) 117)
    simpa using this
  have R0 := Lib.hid r0
  have R1 := Lib.hid r1
  have R2 := Lib.hid r2
  clear hA hZ hW r0 r1 r2
  go_loopw [6, 7] (fun s6 s7 wr => ∃ (k : Nat) (cur : Option Nd) (rest : List Nd) (f : Nat → Value), s7 = .int .i64 ((k : Int) - 1) ∧ s6 = atV g cur ∧ k ≤ 12 ∧ CurOk pre (k - 1) cur rest ∧ (∀ i, k ≤ i → i < 12 → f i = atV g (prv i pre)) ∧ Below w.heap.size w wr ∧
      wr.heap[w.heap.size]? = some (.cells #[.string e.1, .int .u64 e.2.1, .bool e.2.2.1, .string e.2.2.2] 53 (0, 0)) ∧ wr.heap[w.heap.size + 1]? = some (.cells (pathC fun _ => .pointer none) 117 (0, 0)) ∧ wr.heap[w.heap.size + 1 + 1]? = some (.cells (pathC f) 117 (0, 0))) (fun _ s7 _ => (intOf s7 + 1).toNat)
  case atStart => exact ⟨12, none, pre, _, by rfl, by rfl, by omega, .inl ⟨rfl, rfl⟩, fun i h1 h2 => by omega, HBW.out, R0.out, R1.out, R2.out⟩
  case round =>
    clear HBW R0 R1 R2
    obtain ⟨k, cur, rest, f, rfl, rfl, hk, hcur, hf, hbw, r0, r1, r2⟩ := hrel
    generalize wr = wq at *
    have HF := Lib.hid hf
    have HBW := Lib.hid hbw
    have R0 := Lib.hid r0
    have R1 := Lib.hid r1
    have R2 := Lib.hid r2
    have HC := Lib.hid hcur
    clear hf hbw r0 r1 r2 hcur
    by_cases hk0 : 0 < k
    · obtain ⟨h, rfl⟩ : ∃ h, k = h + 1 := ⟨k - 1, by omega⟩
      have hsim : (((h + 1 : Nat) : Int) - 1) = (h : Int) := by omega
      rw [hsim]
      have h12 : h < 12 := by omega
      have i1 : (0 : Int) ≤ h := by omega
      have i2 : (h : Int) < 12 := by omega
      clear hk hk0 hsim
      go_wp2_with fail
      go_loopg [6] rest.length (fun gk s6 wr => ∃ cur rest, gk = rest.length ∧ s6 = atV g cur ∧ CurOk pre h cur rest ∧ Below wq.heap.size wq wr)
      case atStart => exact ⟨cur, rest, rfl, rfl, HC.out, Below.refl _ _⟩
      case round =>
        clear HC
        obtain ⟨cur, rest, hg, rfl, hcur, hb⟩ := hrel
        generalize wr = wz at *
        have HC := Lib.hid hcur
        have HB := Lib.hid hb
        have HG := Lib.hid hg
        have hNw : NodesAt wz g (pre ++ post) := HN.out.later (HBW.out.trans (hb.mono HBW.out.size))
        have HNZ := Lib.hid hNw
        have hcell := hcur.cell hNw h12
        have HCL := Lib.hid hcell
        have hr0 := boxEnt ((hb.block _ (blk_lt R0.out)).trans R0.out)
        have HR0 := Lib.hid hr0
        clear hcur hb hg hNw hcell hr0
        go_wp2_with fail
        rcases hnx : nxt h (rest ++ post) with _ | y
        · skip
          refine wp_region_calmB 20 (by kernel_rfl) (by kernel_rfl) ?_
          simp only [List.take_succ_cons, List.take_zero, List.drop_succ_cons, List.drop_zero]
          refine chain0 ?_
          refine @chain _ _ _ _ _ _ _ _ 15 (.pointer (some ⟨atB g cur, 0, none⟩)) (by rfl) (by rfl) (by exact fun W2 hW => run_mv (by rfl) (by exact eval_base (by kernel_rfl) (by rfl)) hW) ?_
          refine @chain _ _ _ _ _ _ _ _ 16 (.int .i64 h) (by rfl) (by rfl) (by exact fun W2 hW => run_mv (by rfl) (by exact eval_base (by kernel_rfl) (by rfl)) hW) ?_
          refine @chain _ _ _ _ _ _ _ _ 17 (.pointer (some ⟨atB g cur, 0, none⟩)) (by rfl) (by rfl) (by exact fun W2 hW => run_nc (by rfl) (by exact eval_look (by kernel_rfl) (by kernel_rfl)) hW) ?_
          refine @chain _ _ _ _ _ _ _ _ 18 (.pointer (some ⟨atB g cur, 5, none⟩)) (by rfl) (by rfl) (by exact fun W2 hW => run_fa (p := .pointer (some ⟨atB g cur, 0, none⟩)) (by rfl) (by exact eval_look (by kernel_rfl) (by kernel_rfl)) (fun W => by first | kernel_rfl | go_simp) hW) ?_
          refine @chain _ _ _ _ _ _ _ _ 19 (.pointer (some ⟨atB g cur, 5 + h, none⟩)) (by rfl) (by rfl) (by exact fun W2 hW => run_ia (u := .pointer (some ⟨atB g cur, 5, none⟩)) (v := .int .i64 h) (by rfl) (by exact eval_look (by kernel_rfl) (by kernel_rfl)) (by exact eval_look (by kernel_rfl) (by kernel_rfl)) (fun W => by go_simp) hW) ?_
          refine @chain _ _ _ _ _ _ _ _ 20 (.pointer none) (by rfl) (by rfl) (by exact fun W2 hW => run_lw (by rfl) (by exact eval_look (by kernel_rfl) (by kernel_rfl)) (fun W hW => ldPtr _ _ none _ (cell_later hW (HCL.out.trans (by rw [hnx])))) hW) ?_
          refine @chain _ _ _ _ _ _ _ _ 21 (.bool false) (by rfl) (by rfl) (by exact fun W2 hW => run_bo (u := .pointer none) (v := .pointer none) (by rfl) (by exact eval_look (by kernel_rfl) (by kernel_rfl)) (by rfl) (fun W => by go_simp) hW) ?_
          refine @chain _ _ _ _ _ _ _ _ 22 (.bool false) (by rfl) (by rfl) (by exact fun W2 hW => run_mv (by rfl) (by exact eval_look (by kernel_rfl) (by kernel_rfl)) hW) ?_
          refine @chainK _ _ _ _ _ _ _ _ 23 (by kernel_rfl) (by rfl) ?_
          refine @chainK _ _ _ _ _ _ _ _ 24 (by kernel_rfl) (by rfl) ?_
          refine @chainK _ _ _ _ _ _ _ _ 25 (by kernel_rfl) (by rfl) ?_
          refine @chainK _ _ _ _ _ _ _ _ 26 (by kernel_rfl) (by rfl) ?_
          refine @chainK _ _ _ _ _ _ _ _ 27 (by kernel_rfl) (by rfl) ?_
          refine @chainK _ _ _ _ _ _ _ _ 28 (by kernel_rfl) (by rfl) ?_
          refine @chainK _ _ _ _ _ _ _ _ 29 (by kernel_rfl) (by rfl) ?_
          refine @chainK _ _ _ _ _ _ _ _ 30 (by kernel_rfl) (by rfl) ?_
          refine @chainK _ _ _ _ _ _ _ _ 31 (by kernel_rfl) (by rfl) ?_
          refine @chainK _ _ _ _ _ _ _ _ 32 (by kernel_rfl) (by rfl) ?_
          refine @chainK _ _ _ _ _ _ _ _ 33 (by kernel_rfl) (by rfl) ?_
          refine @chainK _ _ _ _ _ _ _ _ 34 (by kernel_rfl) (by rfl) ?_
          refine calm_nil (fun W2 hW2 => ?_)
          refine Eq.mpr (congrArg (fun a => wpList _ _ _ _ a W2) (show _ = (⟨#[.pointer (some ⟨g, 0, none⟩), .agg #[.string e.1, .int .u64 e.2.1, .bool e.2.2.1, .string e.2.2.2], undef, .pointer (some ⟨w.heap.size, 0, none⟩), .pointer (some ⟨w.heap.size + 1, 0, none⟩), .pointer (some ⟨w.heap.size + 1 + 1, 0, none⟩), .pointer (some ⟨atB g cur, 0, none⟩), .int .i64 h, .pointer (some ⟨g, 0, none⟩), .pointer (some ⟨g, 0, none⟩), .pointer (some ⟨g, 0, none⟩), .int .i64 h, .bool true, u13, u14, .pointer (some ⟨atB g cur, 0, none⟩), .int .i64 h, .pointer (some ⟨atB g cur, 0, none⟩), .pointer (some ⟨atB g cur, 5, none⟩), .pointer (some ⟨atB g cur, 5 + h, none⟩), .pointer none, .bool false, .bool false, undef, undef, undef, undef, undef, undef, undef, undef, undef, undef, undef, undef, u35, u36, u37, u38, u39, u40, u41, u42, u43, u44, undef], []⟩ : Act) by kernel_rfl)) ?_
          have HW := Lib.hid hW2
          clear hW2
          have hP := ((HW.out.block _ (Nat.lt_of_lt_of_le (blk_lt R2.out) HB.out.size)).trans (HB.out.block _ (blk_lt R2.out))).trans R2.out
          have f1 : W2.frozen? ⟨w.heap.size + 1 + 1, h, none⟩ = false := blk_frozen hP h
          have c1 : W2.cell? ⟨w.heap.size + 1 + 1, h, none⟩ = some (f h) := (blk_cell hP h).trans (by rw [pathC_get, if_pos h12])
          have HP := Lib.hid hP
          have HBQ := Lib.hid (HB.out.trans (HW.out.mono HB.out.size))
          have HLOW := Lib.hid (HC.out.prv (low_none hnx))
          clear hP
          go_wp2
          go_roundw
          case rel => exact ⟨h, cur, rest, fun i => if i = h then atV g cur else f i, by rfl, by rfl, by omega, HC.out.down (by omega), fun i h3 h4 => by (by_cases e : i = h; (subst e; simp only [if_pos]; rw [HLOW.out]); (simp only [if_neg e]; exact HF.out i (by omega) h4)), (HBW.out.trans (HBQ.out.mono HBW.out.size)).setCell (p := ⟨w.heap.size + 1 + 1, h, none⟩) (by show w.heap.size ≤ w.heap.size + 1 + 1; omega) _, blk_far ((HBQ.out.block _ (blk_lt R0.out)).trans R0.out) (p := ⟨w.heap.size + 1 + 1, h, none⟩) (by show w.heap.size ≠ w.heap.size + 1 + 1; omega) _, blk_far ((HBQ.out.block _ (blk_lt R1.out)).trans R1.out) (p := ⟨w.heap.size + 1 + 1, h, none⟩) (by show w.heap.size + 1 ≠ w.heap.size + 1 + 1; omega) _, by rw [← pathC_set f h h12]; exact blk_set HP.out h _⟩
          case measure => first | (simp [intOf]; done) | (simp [intOf]; omega)
        · have hy := HNZ.out
          obtain ⟨ya, yc, hyl⟩ : ∃ a c, pre ++ post = a ++ y :: c := nxt_in_list HC.out hnx
          have HY := Lib.hid (HNZ.out.node ya y yc hyl).1
          by_cases hlt : cmpEE y.e e < 0
          · have hdec : decide (cmpEE y.e e < 0) = true := by simpa using hlt
            refine wp_region_calmB 20 (by kernel_rfl) (by kernel_rfl) ?_
            simp only [List.take_succ_cons, List.take_zero, List.drop_succ_cons, List.drop_zero]
            refine chain0 ?_
            refine @chain _ _ _ _ _ _ _ _ 15 (.pointer (some ⟨atB g cur, 0, none⟩)) (by rfl) (by rfl) (by exact fun W2 hW => run_mv (by rfl) (by exact eval_base (by kernel_rfl) (by rfl)) hW) ?_
            refine @chain _ _ _ _ _ _ _ _ 16 (.int .i64 h) (by rfl) (by rfl) (by exact fun W2 hW => run_mv (by rfl) (by exact eval_base (by kernel_rfl) (by rfl)) hW) ?_
            refine @chain _ _ _ _ _ _ _ _ 17 (.pointer (some ⟨atB g cur, 0, none⟩)) (by rfl) (by rfl) (by exact fun W2 hW => run_nc (by rfl) (by exact eval_look (by kernel_rfl) (by kernel_rfl)) hW) ?_
            refine @chain _ _ _ _ _ _ _ _ 18 (.pointer (some ⟨atB g cur, 5, none⟩)) (by rfl) (by rfl) (by exact fun W2 hW => run_fa (p := .pointer (some ⟨atB g cur, 0, none⟩)) (by rfl) (by exact eval_look (by kernel_rfl) (by kernel_rfl)) (fun W => by first | kernel_rfl | go_simp) hW) ?_
            refine @chain _ _ _ _ _ _ _ _ 19 (.pointer (some ⟨atB g cur, 5 + h, none⟩)) (by rfl) (by rfl) (by exact fun W2 hW => run_ia (u := .pointer (some ⟨atB g cur, 5, none⟩)) (v := .int .i64 h) (by rfl) (by exact eval_look (by kernel_rfl) (by kernel_rfl)) (by exact eval_look (by kernel_rfl) (by kernel_rfl)) (fun W => by go_simp) hW) ?_
            refine @chain _ _ _ _ _ _ _ _ 20 (.pointer (some ⟨y.b, 0, none⟩)) (by rfl) (by rfl) (by exact fun W2 hW => run_lw (by rfl) (by exact eval_look (by kernel_rfl) (by kernel_rfl)) (fun W hW => ldPtr _ _ (some y) _ (cell_later hW (HCL.out.trans (by rw [hnx])))) hW) ?_
            refine @chain _ _ _ _ _ _ _ _ 21 (.bool true) (by rfl) (by rfl) (by exact fun W2 hW => run_bo (u := .pointer (some ⟨y.b, 0, none⟩)) (v := .pointer none) (by rfl) (by exact eval_look (by kernel_rfl) (by kernel_rfl)) (by rfl) (fun W => by go_simp) hW) ?_
            refine @chain _ _ _ _ _ _ _ _ 22 (.bool true) (by rfl) (by rfl) (by exact fun W2 hW => run_mv (by rfl) (by exact eval_look (by kernel_rfl) (by kernel_rfl)) hW) ?_
            refine @chainG _ _ _ _ _ _ _ _ 23 (.pointer (some ⟨atB g cur, 0, none⟩)) (by kernel_rfl) (by rfl) (by exact fun W2 hW => run_mv (by rfl) (by exact eval_base (by kernel_rfl) (by rfl)) hW) ?_
            refine @chainG _ _ _ _ _ _ _ _ 24 (.int .i64 h) (by kernel_rfl) (by rfl) (by exact fun W2 hW => run_mv (by rfl) (by exact eval_base (by kernel_rfl) (by rfl)) hW) ?_
            refine @chainG _ _ _ _ _ _ _ _ 25 (.pointer (some ⟨atB g cur, 0, none⟩)) (by kernel_rfl) (by rfl) (by exact fun W2 hW => run_nc (by rfl) (by exact eval_look (by kernel_rfl) (by kernel_rfl)) hW) ?_
            refine @chainG _ _ _ _ _ _ _ _ 26 (.pointer (some ⟨atB g cur, 5, none⟩)) (by kernel_rfl) (by rfl) (by exact fun W2 hW => run_fa (p := .pointer (some ⟨atB g cur, 0, none⟩)) (by rfl) (by exact eval_look (by kernel_rfl) (by kernel_rfl)) (fun W => by first | kernel_rfl | go_simp) hW) ?_
            refine @chainG _ _ _ _ _ _ _ _ 27 (.pointer (some ⟨atB g cur, 5 + h, none⟩)) (by kernel_rfl) (by rfl) (by exact fun W2 hW => run_ia (u := .pointer (some ⟨atB g cur, 5, none⟩)) (v := .int .i64 h) (by rfl) (by exact eval_look (by kernel_rfl) (by kernel_rfl)) (by exact eval_look (by kernel_rfl) (by kernel_rfl)) (fun W => by go_simp) hW) ?_
            refine @chainG _ _ _ _ _ _ _ _ 28 (.pointer (some ⟨y.b, 0, none⟩)) (by kernel_rfl) (by rfl) (by exact fun W2 hW => run_lw (by rfl) (by exact eval_look (by kernel_rfl) (by kernel_rfl)) (fun W hW => ldPtr _ _ (some y) _ (cell_later hW (HCL.out.trans (by rw [hnx])))) hW) ?_
            refine @chainG _ _ _ _ _ _ _ _ 29 (.pointer (some ⟨y.b, 0, none⟩)) (by kernel_rfl) (by rfl) (by exact fun W2 hW => run_nc (by rfl) (by exact eval_look (by kernel_rfl) (by kernel_rfl)) hW) ?_
            refine @chainG _ _ _ _ _ _ _ _ 30 (.pointer (some ⟨y.b, 0, none⟩)) (by kernel_rfl) (by rfl) (by exact fun W2 hW => run_fa (p := .pointer (some ⟨y.b, 0, none⟩)) (by rfl) (by exact eval_look (by kernel_rfl) (by kernel_rfl)) (fun W => by first | kernel_rfl | go_simp) hW) ?_
            refine @chainG _ _ _ _ _ _ _ _ 31 (.agg (encE y.e).toArray) (by kernel_rfl) (by rfl) (by exact fun W2 hW => run_lw (by rfl) (by exact eval_look (by kernel_rfl) (by kernel_rfl)) (fun W hW => ldEnt _ _ _ (fun i v hv => cell_later hW (HY.out i v hv))) hW) ?_
            refine @chainG _ _ _ _ _ _ _ _ 32 (.agg (encE e).toArray) (by kernel_rfl) (by rfl) (by exact fun W2 hW => run_lw (by rfl) (by exact eval_base (by kernel_rfl) (by rfl)) (fun W hW => ldEnt _ _ _ (fun i v hv => cell_later hW (HR0.out i v hv))) hW) ?_
            refine @chainG _ _ _ _ _ _ _ _ 33 (.int .i64 (cmpEE y.e e)) (by kernel_rfl) (by rfl) (by exact fun W2 hW => run_call (vs := #[.agg (encE y.e).toArray, .agg (encE e).toArray]) (by rfl) (by kernel_rfl) (enters_of Try.func84 (by kernel_rfl) (by rfl)) (calm_b hW (compareE y.e e W2))) ?_
            refine @chainG _ _ _ _ _ _ _ _ 34 (.bool true) (by kernel_rfl) (by rfl) (by exact fun W2 hW => run_bo (u := .int .i64 (cmpEE y.e e)) (v := .int .i64 0) (by rfl) (by exact eval_look (by kernel_rfl) (by kernel_rfl)) (by rfl) (fun W => lss_run _ _ _ _ _ hdec W) hW) ?_
            refine calm_nil (fun W2 hW2 => ?_)
            refine Eq.mpr (congrArg (fun a => wpList _ _ _ _ a W2) (show _ = (⟨#[.pointer (some ⟨g, 0, none⟩), .agg #[.string e.1, .int .u64 e.2.1, .bool e.2.2.1, .string e.2.2.2], undef, .pointer (some ⟨w.heap.size, 0, none⟩), .pointer (some ⟨w.heap.size + 1, 0, none⟩), .pointer (some ⟨w.heap.size + 1 + 1, 0, none⟩), .pointer (some ⟨atB g cur, 0, none⟩), .int .i64 h, .pointer (some ⟨g, 0, none⟩), .pointer (some ⟨g, 0, none⟩), .pointer (some ⟨g, 0, none⟩), .int .i64 h, .bool true, u13, u14, .pointer (some ⟨atB g cur, 0, none⟩), .int .i64 h, .pointer (some ⟨atB g cur, 0, none⟩), .pointer (some ⟨atB g cur, 5, none⟩), .pointer (some ⟨atB g cur, 5 + h, none⟩), .pointer (some ⟨y.b, 0, none⟩), .bool true, .bool true, .pointer (some ⟨atB g cur, 0, none⟩), .int .i64 h, .pointer (some ⟨atB g cur, 0, none⟩), .pointer (some ⟨atB g cur, 5, none⟩), .pointer (some ⟨atB g cur, 5 + h, none⟩), .pointer (some ⟨y.b, 0, none⟩), .pointer (some ⟨y.b, 0, none⟩), .pointer (some ⟨y.b, 0, none⟩), .agg (encE y.e).toArray, .agg (encE e).toArray, .int .i64 (cmpEE y.e e), .bool true, u35, u36, u37, u38, u39, u40, u41, u42, u43, u44, undef], []⟩ : Act) by kernel_rfl)) ?_
            have HW := Lib.hid hW2
            clear hW2
            have c2 : W2.cell? ⟨atB g cur, 5 + h, none⟩ = some (.pointer (some ⟨y.b, 0, none⟩)) := cell_later HW.out (HCL.out.trans (by rw [hnx]; rfl))
            obtain ⟨yc2, hyc, hylen⟩ := HC.out.next (in_rest H2.out hnx hlt)
            have HYC := Lib.hid hyc
            have HYL := Lib.hid hylen
            have HBQ := Lib.hid (HB.out.trans (HW.out.mono HB.out.size))
            clear hyc hylen hnx hlt hdec
            go_wp2
            go_roundg (yc2.length)
            case measure => have := HG.out; have := HYL.out; omega
            case rel => exact ⟨some y, yc2, rfl, by rfl, HYC.out, HBQ.out⟩
          · have hdec : decide (cmpEE y.e e < 0) = false := by simpa using hlt
            refine wp_region_calmB 20 (by kernel_rfl) (by kernel_rfl) ?_
            simp only [List.take_succ_cons, List.take_zero, List.drop_succ_cons, List.drop_zero]
            refine chain0 ?_
            refine @chain _ _ _ _ _ _ _ _ 15 (.pointer (some ⟨atB g cur, 0, none⟩)) (by rfl) (by rfl) (by exact fun W2 hW => run_mv (by rfl) (by exact eval_base (by kernel_rfl) (by rfl)) hW) ?_
            refine @chain _ _ _ _ _ _ _ _ 16 (.int .i64 h) (by rfl) (by rfl) (by exact fun W2 hW => run_mv (by rfl) (by exact eval_base (by kernel_rfl) (by rfl)) hW) ?_
            refine @chain _ _ _ _ _ _ _ _ 17 (.pointer (some ⟨atB g cur, 0, none⟩)) (by rfl) (by rfl) (by exact fun W2 hW => run_nc (by rfl) (by exact eval_look (by kernel_rfl) (by kernel_rfl)) hW) ?_
            refine @chain _ _ _ _ _ _ _ _ 18 (.pointer (some ⟨atB g cur, 5, none⟩)) (by rfl) (by rfl) (by exact fun W2 hW => run_fa (p := .pointer (some ⟨atB g cur, 0, none⟩)) (by rfl) (by exact eval_look (by kernel_rfl) (by kernel_rfl)) (fun W => by first | kernel_rfl | go_simp) hW) ?_
            refine @chain _ _ _ _ _ _ _ _ 19 (.pointer (some ⟨atB g cur, 5 + h, none⟩)) (by rfl) (by rfl) (by exact fun W2 hW => run_ia (u := .pointer (some ⟨atB g cur, 5, none⟩)) (v := .int .i64 h) (by rfl) (by exact eval_look (by kernel_rfl) (by kernel_rfl)) (by exact eval_look (by kernel_rfl) (by kernel_rfl)) (fun W => by go_simp) hW) ?_
            refine @chain _ _ _ _ _ _ _ _ 20 (.pointer (some ⟨y.b, 0, none⟩)) (by rfl) (by rfl) (by exact fun W2 hW => run_lw (by rfl) (by exact eval_look (by kernel_rfl) (by kernel_rfl)) (fun W hW => ldPtr _ _ (some y) _ (cell_later hW (HCL.out.trans (by rw [hnx])))) hW) ?_
            refine @chain _ _ _ _ _ _ _ _ 21 (.bool true) (by rfl) (by rfl) (by exact fun W2 hW => run_bo (u := .pointer (some ⟨y.b, 0, none⟩)) (v := .pointer none) (by rfl) (by exact eval_look (by kernel_rfl) (by kernel_rfl)) (by rfl) (fun W => by go_simp) hW) ?_
            refine @chain _ _ _ _ _ _ _ _ 22 (.bool true) (by rfl) (by rfl) (by exact fun W2 hW => run_mv (by rfl) (by exact eval_look (by kernel_rfl) (by kernel_rfl)) hW) ?_
            refine @chainG _ _ _ _ _ _ _ _ 23 (.pointer (some ⟨atB g cur, 0, none⟩)) (by kernel_rfl) (by rfl) (by exact fun W2 hW => run_mv (by rfl) (by exact eval_base (by kernel_rfl) (by rfl)) hW) ?_
            refine @chainG _ _ _ _ _ _ _ _ 24 (.int .i64 h) (by kernel_rfl) (by rfl) (by exact fun W2 hW => run_mv (by rfl) (by exact eval_base (by kernel_rfl) (by rfl)) hW) ?_
            refine @chainG _ _ _ _ _ _ _ _ 25 (.pointer (some ⟨atB g cur, 0, none⟩)) (by kernel_rfl) (by rfl) (by exact fun W2 hW => run_nc (by rfl) (by exact eval_look (by kernel_rfl) (by kernel_rfl)) hW) ?_
            refine @chainG _ _ _ _ _ _ _ _ 26 (.pointer (some ⟨atB g cur, 5, none⟩)) (by kernel_rfl) (by rfl) (by exact fun W2 hW => run_fa (p := .pointer (some ⟨atB g cur, 0, none⟩)) (by rfl) (by exact eval_look (by kernel_rfl) (by kernel_rfl)) (fun W => by first | kernel_rfl | go_simp) hW) ?_
            refine @chainG _ _ _ _ _ _ _ _ 27 (.pointer (some ⟨atB g cur, 5 + h, none⟩)) (by kernel_rfl) (by rfl) (by exact fun W2 hW => run_ia (u := .pointer (some ⟨atB g cur, 5, none⟩)) (v := .int .i64 h) (by rfl) (by exact eval_look (by kernel_rfl) (by kernel_rfl)) (by exact eval_look (by kernel_rfl) (by kernel_rfl)) (fun W => by go_simp) hW) ?_
            refine @chainG _ _ _ _ _ _ _ _ 28 (.pointer (some ⟨y.b, 0, none⟩)) (by kernel_rfl) (by rfl) (by exact fun W2 hW => run_lw (by rfl) (by exact eval_look (by kernel_rfl) (by kernel_rfl)) (fun W hW => ldPtr _ _ (some y) _ (cell_later hW (HCL.out.trans (by rw [hnx])))) hW) ?_
            refine @chainG _ _ _ _ _ _ _ _ 29 (.pointer (some ⟨y.b, 0, none⟩)) (by kernel_rfl) (by rfl) (by exact fun W2 hW => run_nc (by rfl) (by exact eval_look (by kernel_rfl) (by kernel_rfl)) hW) ?_
            refine @chainG _ _ _ _ _ _ _ _ 30 (.pointer (some ⟨y.b, 0, none⟩)) (by kernel_rfl) (by rfl) (by exact fun W2 hW => run_fa (p := .pointer (some ⟨y.b, 0, none⟩)) (by rfl) (by exact eval_look (by kernel_rfl) (by kernel_rfl)) (fun W => by first | kernel_rfl | go_simp) hW) ?_
            refine @chainG _ _ _ _ _ _ _ _ 31 (.agg (encE y.e).toArray) (by kernel_rfl) (by rfl) (by exact fun W2 hW => run_lw (by rfl) (by exact eval_look (by kernel_rfl) (by kernel_rfl)) (fun W hW => ldEnt _ _ _ (fun i v hv => cell_later hW (HY.out i v hv))) hW) ?_
            refine @chainG _ _ _ _ _ _ _ _ 32 (.agg (encE e).toArray) (by kernel_rfl) (by rfl) (by exact fun W2 hW => run_lw (by rfl) (by exact eval_base (by kernel_rfl) (by rfl)) (fun W hW => ldEnt _ _ _ (fun i v hv => cell_later hW (HR0.out i v hv))) hW) ?_
            refine @chainG _ _ _ _ _ _ _ _ 33 (.int .i64 (cmpEE y.e e)) (by kernel_rfl) (by rfl) (by exact fun W2 hW => run_call (vs := #[.agg (encE y.e).toArray, .agg (encE e).toArray]) (by rfl) (by kernel_rfl) (enters_of Try.func84 (by kernel_rfl) (by rfl)) (calm_b hW (compareE y.e e W2))) ?_
            refine @chainG _ _ _ _ _ _ _ _ 34 (.bool false) (by kernel_rfl) (by rfl) (by exact fun W2 hW => run_bo (u := .int .i64 (cmpEE y.e e)) (v := .int .i64 0) (by rfl) (by exact eval_look (by kernel_rfl) (by kernel_rfl)) (by rfl) (fun W => lss_run _ _ _ _ _ hdec W) hW) ?_
            refine calm_nil (fun W2 hW2 => ?_)
            refine Eq.mpr (congrArg (fun a => wpList _ _ _ _ a W2) (show _ = (⟨#[.pointer (some ⟨g, 0, none⟩), .agg #[.string e.1, .int .u64 e.2.1, .bool e.2.2.1, .string e.2.2.2], undef, .pointer (some ⟨w.heap.size, 0, none⟩), .pointer (some ⟨w.heap.size + 1, 0, none⟩), .pointer (some ⟨w.heap.size + 1 + 1, 0, none⟩), .pointer (some ⟨atB g cur, 0, none⟩), .int .i64 h, .pointer (some ⟨g, 0, none⟩), .pointer (some ⟨g, 0, none⟩), .pointer (some ⟨g, 0, none⟩), .int .i64 h, .bool true, u13, u14, .pointer (some ⟨atB g cur, 0, none⟩), .int .i64 h, .pointer (some ⟨atB g cur, 0, none⟩), .pointer (some ⟨atB g cur, 5, none⟩), .pointer (some ⟨atB g cur, 5 + h, none⟩), .pointer (some ⟨y.b, 0, none⟩), .bool true, .bool true, .pointer (some ⟨atB g cur, 0, none⟩), .int .i64 h, .pointer (some ⟨atB g cur, 0, none⟩), .pointer (some ⟨atB g cur, 5, none⟩), .pointer (some ⟨atB g cur, 5 + h, none⟩), .pointer (some ⟨y.b, 0, none⟩), .pointer (some ⟨y.b, 0, none⟩), .pointer (some ⟨y.b, 0, none⟩), .agg (encE y.e).toArray, .agg (encE e).toArray, .int .i64 (cmpEE y.e e), .bool false, u35, u36, u37, u38, u39, u40, u41, u42, u43, u44, undef], []⟩ : Act) by kernel_rfl)) ?_
            have HW := Lib.hid hW2
            clear hW2
            have hP := ((HW.out.block _ (Nat.lt_of_lt_of_le (blk_lt R2.out) HB.out.size)).trans (HB.out.block _ (blk_lt R2.out))).trans R2.out
            have f1 : W2.frozen? ⟨w.heap.size + 1 + 1, h, none⟩ = false := blk_frozen hP h
            have c1 : W2.cell? ⟨w.heap.size + 1 + 1, h, none⟩ = some (f h) := (blk_cell hP h).trans (by rw [pathC_get, if_pos h12])
            have HP := Lib.hid hP
            have HBQ := Lib.hid (HB.out.trans (HW.out.mono HB.out.size))
            have HLOW := Lib.hid (HC.out.prv (low_ge HC.out H1.out hnx hlt))
            clear hP
            go_wp2
            go_roundw
            case rel => exact ⟨h, cur, rest, fun i => if i = h then atV g cur else f i, by rfl, by rfl, by omega, HC.out.down (by omega), fun i h3 h4 => by (by_cases e : i = h; (subst e; simp only [if_pos]; rw [HLOW.out]); (simp only [if_neg e]; exact HF.out i (by omega) h4)), (HBW.out.trans (HBQ.out.mono HBW.out.size)).setCell (p := ⟨w.heap.size + 1 + 1, h, none⟩) (by show w.heap.size ≤ w.heap.size + 1 + 1; omega) _, blk_far ((HBQ.out.block _ (blk_lt R0.out)).trans R0.out) (p := ⟨w.heap.size + 1 + 1, h, none⟩) (by show w.heap.size ≠ w.heap.size + 1 + 1; omega) _, blk_far ((HBQ.out.block _ (blk_lt R1.out)).trans R1.out) (p := ⟨w.heap.size + 1 + 1, h, none⟩) (by show w.heap.size + 1 ≠ w.heap.size + 1 + 1; omega) _, by rw [← pathC_set f h h12]; exact blk_set HP.out h _⟩
            case measure => first | (simp [intOf]; done) | (simp [intOf]; omega)
    · have hk1 : k = 0 := by omega
      subst hk1
      have hpf : pathC f = pathC (fun i => atV g (prv i pre)) := by
        apply Array.ext_getElem?
        intro i
        rw [pathC_get, pathC_get]
        by_cases hi : i < 12
        · rw [if_pos hi, if_pos hi, HF.out i (by omega) hi]
        · rw [if_neg hi, if_neg hi]
      have R2' := Lib.hid (hpf ▸ R2.out : wq.heap[w.heap.size + 1 + 1]? = some (.cells (pathC (fun i => atV g (prv i pre))) 117 (0, 0)))
      clear R2 hpf
      go_wp2_with (first | (refine wpList_load_row rfl 117 (.tmp 5) rfl _ rfl _ _ _ _ R2'.out Try.underlying117 rfl (by kernel_rfl) ?_) | (refine wpList_store_row rfl 117 (.tmp 4) (.tmp 45) rfl (w.heap.size + 1) (pathC (fun i => atV g (prv i pre))) (by rfl) (by rfl) 117 _ R1.out (by kernel_rfl) (by rfl) (by kernel_rfl) ?_))
      have HRW := Lib.hid (setRow_heap wq (w.heap.size + 1) _ (pathC (fun i => atV g (prv i pre))) _ (0, 0) R1.out)
      have HBB := Lib.hid (below_setRow HBW.out (by omega : w.heap.size ≤ w.heap.size + 1) (pathC (fun i => atV g (prv i pre))))
      refine bodyPost_ret (results_cell_row rfl _ _ (w.heap.size + 1) 117 (pathC (fun i => atV g (prv i pre))) (0, 0) _ (by rfl) HRW.out Try.underlying117 rfl (by kernel_rfl)) rfl ?_
      exact ⟨rfl, HBB.out⟩
end Go.Proofs.Ytjbbobhjomhnmaa.H
