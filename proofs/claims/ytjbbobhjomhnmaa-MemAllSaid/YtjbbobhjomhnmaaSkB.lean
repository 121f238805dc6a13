/- skip.List: what it is; height, Len (printed by gensk2.py). No conditions but of sizes. | skip.List: what Put's loop does to the nodes, height by height. No conditions. | skip.List: one round of Put's loop, plain; rows of blocks. No conditions. | Bytes and entries that come in: how they read. No conditions. -/
import Derived.Test.YtjbbobhjomhnmaaSk1
namespace Go.Proofs.Ytjbbobhjomhnmaa.H
open Go.RowKit Go.Deep Go.Shelf Go.Proofs Go.Proofs.YtjbbobhjomhnmaaW.PrintWords
set_option linter.unusedVariables false
set_option linter.unusedSimpArgs false
def encB (x : Int) : List Value := [.int .u8 x]
def U8 (x : Int) : Prop := 0 ≤ x ∧ x ≤ 255
/-- The height of the n-th tower. -/
def hgt (draws : List Int) (n : Nat) : Nat := if draws = [] then 1 else 1 + (draws.getD (n % draws.length) 0).toNat % 12
theorem hgt_in (draws : List Int) (n : Nat) : 1 ≤ hgt draws n ∧ hgt draws n ≤ 12 := by unfold hgt; split <;> omega
/-- A skip list: its struct's block g, its nodes', its draws'; all in S. -/
structure SkIs (w : World) (g : Nat) (S : Nat → Prop) (l : List Nd) (draws : List Int) : Prop where
  nodes : NodesAt w g l
  order : l.Pairwise fun x y => ltE x.e y.e
  row : ∃ cs A c, w.heap[g]? = some (.cells cs 121 (0, 0)) ∧ cs[17]? = some (.slice A draws.length c) ∧ cs[18]? = some (.int .i64 l.length) ∧ Sl encB 1 w A draws ∧ (∀ b o, draws ≠ [] → A = some ⟨b, o, none⟩ → S b ∧ b ≠ g ∧ ∀ x ∈ l, x.b ≠ b)
  rows : ∀ x ∈ l, ∃ cs, w.heap[x.b]? = some (.cells cs 119 (0, 0))
  apart : (g :: l.map (·.b)).Nodup
  own : S g ∧ ∀ x ∈ l, S x.b
  bytes : ∀ x ∈ draws, U8 x
theorem run_ln {P : Program} {w W : World} {a : Act} {o : Oper} {x : Operand} {ts : Array TypeId} {u r : Value} (ho : o.op = .call { callee := .builtin .len, args := #[x], argTypes := ts }) (hx : a.eval x = u) (hf : ∀ W, (Builtin.len_ ts o.type #[u]).run P W = .ok r W) (hW : Below w.heap.size w W) :
    CalmRes P w r ((execOp a.eval o).run P W) := by
  unfold execOp
  simp only [ho, resolve, invoke, builtin, Sem.run_bind, Sem.run_pure, Result.andThen_ok, List.map_toArray, List.map_cons, List.map_nil, hx, hf]
  exact ⟨rfl, hW⟩
theorem rem_run (t : TypeId) (x y : Operand) (a b : Nat) (hb : 0 < b) (hb2 : (b : Int) ≤ 9223372036854775807) (W : World) : (do eqGuard .rem t x y (.int .i64 (a : Int)) (.int .i64 (b : Int)); binOp .rem t (.int .i64 (a : Int)) (.int .i64 (b : Int)) : Sem Value).run Try.prog W = .ok (.int .i64 ((a % b : Nat) : Int)) W := by
  have h1 : ¬ (b : Int) = 0 := by omega
  have h0 : ¬ b = 0 := by omega
  have hlt := Nat.mod_lt a hb
  have h2 : IntKind.i64.wrap ((a : Int).tmod (b : Int)) = ((a % b : Nat) : Int) := by
    have h3 : ((a % b : Nat) : Int) = (a : Int) % (b : Int) := by simp
    rw [Int.tmod_eq_emod_of_nonneg (by omega), IntKind.wrap_i64, ← h3]
    omega
  go_simp
  first | done | exact Int.tmod_eq_emod_of_nonneg (by omega) | rw [if_neg h0, h2] | rw [if_neg h1, h2] | simp [h0, h2]
theorem ldB (b j : Nat) (v : Int) (W : World) (h : W.cell? ⟨b, j, none⟩ = some (.int .u8 v)) : (Instr.loadAt 5 (.pointer (some ⟨b, j, none⟩))).run Try.prog W = .ok (.int .u8 v) W := by
  go_simp
theorem ldBs (A : Option Addr) (n c : Nat) (b j : Nat) (W : World) (h : W.cell? ⟨b, j, none⟩ = some (.slice A n c)) : (Instr.loadAt 22 (.pointer (some ⟨b, j, none⟩))).run Try.prog W = .ok (.slice A n c) W := by
  go_simp
theorem ldI (b j : Nat) (n : Int) (W : World) (h : W.cell? ⟨b, j, none⟩ = some (.int .i64 n)) : (Instr.loadAt 3 (.pointer (some ⟨b, j, none⟩))).run Try.prog W = .ok (.int .i64 n) W := by
  go_simp
theorem len_c (g : Nat) (S : Nat → Prop) (l : List Nd) (draws : List Int) (w : World) (h : SkIs w g S l draws) : Calls Try.prog 24 #[.pointer (some ⟨g, 0, none⟩)] w fun e w' => e = .returned (.int .i64 l.length) ∧ w = w' := by
  obtain ⟨cs, A, c, hr, h17, h18, _⟩ := h.row
  have c1 : w.cell? ⟨g, 18, none⟩ = some (.int .i64 l.length) := (blk_cell hr 18).trans h18
  clear h hr h17 h18
  obtain ⟨n, hn⟩ : ∃ n, l.length = n := ⟨_, rfl⟩
  rw [hn] at c1 ⊢
  clear hn
  go_enter Try.func24, Try.ntmps24
  go_wp2
  go_ret
  exact ⟨rfl, rfl⟩
set_option maxHeartbeats 1600000 in
set_option maxRecDepth 100000 in
theorem height_c (g : Nat) (S : Nat → Prop) (l : List Nd) (draws : List Int) (w : World) (h : SkIs w g S l draws) (hl : l.length < 2932031007319) : Calls Try.prog 85 #[.pointer (some ⟨g, 0, none⟩)] w fun e w' => e = .returned (.int .i64 (hgt draws l.length)) ∧ Below w.heap.size w w' := by
  obtain ⟨cs, A, c, hr, h17, h18, hs, _⟩ := h.row
  have c1 : w.cell? ⟨g, 18, none⟩ = some (.int .i64 l.length) := (blk_cell hr 18).trans h18
  have c2 : w.cell? ⟨g, 17, none⟩ = some (.slice A draws.length c) := (blk_cell hr 17).trans h17
  have hby := h.bytes
  clear h hr h17 h18
  obtain ⟨n, hn⟩ : ∃ n, l.length = n := ⟨_, rfl⟩
  rw [hn] at c1 hl ⊢
  clear hn
  by_cases hd : draws = []
  · have HE := Lib.hid (show hgt draws n = 1 by unfold hgt; rw [if_pos hd])
    subst hd
    clear hs hby
    go_enter Try.func85, Try.ntmps85
    go_wp2
    go_ret
    exact ⟨by rw [HE.out]; rfl, Below.refl _ _⟩
  · obtain ⟨m, hm⟩ : ∃ m, draws.length = m := ⟨_, rfl⟩
    have mp : 0 < m := by
      rcases Nat.eq_zero_or_pos m with h0 | h0
      · exact absurd (List.length_eq_zero_iff.1 (hm.trans h0)) hd
      · exact h0
    have hlt : n % m < m := Nat.mod_lt _ mp
    obtain ⟨x, hx⟩ := getElem?_of_lt (l := draws) (by rw [hm]; exact hlt : n % m < draws.length)
    have hbx := hby x (List.mem_of_getElem? hx)
    obtain ⟨y, hy⟩ : ∃ y : Nat, x = y := ⟨x.toNat, by have := hbx.1; omega⟩
    subst hy
    have hy2 : y ≤ 255 := by have := hbx.2; omega
    have HE := Lib.hid (show hgt draws n = 1 + y % 12 by
      unfold hgt
      rw [if_neg hd, hm, List.getD_eq_getElem?_getD, hx]
      simp)
    have hm2 := hs.1
    rw [hm] at c2 hm2
    obtain ⟨b3, o3, rfl, hb3, hc3⟩ := hs.at hx
    have c3 : w.cell? ⟨b3, o3 + n % m, none⟩ = some (.int .u8 y) := by simpa using hc3 0 _ rfl
    clear hs hby hbx hc3 hx hd hb3 hm
    have n1 : (m : Int) ≤ 9223372036854775807 := by omega
    have n2 : ((n % m : Nat) : Int) < m := by omega
    have n3 : (0 : Int) ≤ ((n % m : Nat) : Int) := by omega
    go_enter Try.func85, Try.ntmps85
    go_wp2_with fail
    refine wp_region_calmB 19 (by kernel_rfl) (by kernel_rfl) ?_
    simp only [List.take_succ_cons, List.take_zero, List.drop_succ_cons, List.drop_zero]
    refine chain0 ?_
    refine @chain _ _ _ _ _ _ _ _ 9 (.pointer (some ⟨g, 0, none⟩)) (by rfl) (by rfl) (by exact fun W2 hW => run_mv (by rfl) (by exact eval_base (by kernel_rfl) (by rfl)) hW) ?_
    refine @chain _ _ _ _ _ _ _ _ 10 (.pointer (some ⟨g, 0, none⟩)) (by rfl) (by rfl) (by exact fun W2 hW => run_nc (by rfl) (by exact eval_look (by kernel_rfl) (by kernel_rfl)) hW) ?_
    refine @chain _ _ _ _ _ _ _ _ 11 (.pointer (some ⟨g, 17, none⟩)) (by rfl) (by rfl) (by exact fun W2 hW => run_fa (p := .pointer (some ⟨g, 0, none⟩)) (by rfl) (by exact eval_look (by kernel_rfl) (by kernel_rfl)) (fun W => by first | kernel_rfl | go_simp) hW) ?_
    refine @chain _ _ _ _ _ _ _ _ 12 (.slice (some ⟨b3, o3, none⟩) m c) (by rfl) (by rfl) (by exact fun W2 hW => run_lw (by rfl) (by exact eval_look (by kernel_rfl) (by kernel_rfl)) (fun W hW => ldBs _ _ _ _ _ _ (cell_later hW c2)) hW) ?_
    refine @chain _ _ _ _ _ _ _ _ 13 (.pointer (some ⟨g, 0, none⟩)) (by rfl) (by rfl) (by exact fun W2 hW => run_mv (by rfl) (by exact eval_base (by kernel_rfl) (by rfl)) hW) ?_
    refine @chain _ _ _ _ _ _ _ _ 14 (.pointer (some ⟨g, 0, none⟩)) (by rfl) (by rfl) (by exact fun W2 hW => run_nc (by rfl) (by exact eval_look (by kernel_rfl) (by kernel_rfl)) hW) ?_
    refine @chain _ _ _ _ _ _ _ _ 15 (.pointer (some ⟨g, 18, none⟩)) (by rfl) (by rfl) (by exact fun W2 hW => run_fa (p := .pointer (some ⟨g, 0, none⟩)) (by rfl) (by exact eval_look (by kernel_rfl) (by kernel_rfl)) (fun W => by first | kernel_rfl | go_simp) hW) ?_
    refine @chain _ _ _ _ _ _ _ _ 16 (.int .i64 n) (by rfl) (by rfl) (by exact fun W2 hW => run_lw (by rfl) (by exact eval_look (by kernel_rfl) (by kernel_rfl)) (fun W hW => ldI _ _ _ _ (cell_later hW c1)) hW) ?_
    refine @chain _ _ _ _ _ _ _ _ 17 (.pointer (some ⟨g, 0, none⟩)) (by rfl) (by rfl) (by exact fun W2 hW => run_mv (by rfl) (by exact eval_base (by kernel_rfl) (by rfl)) hW) ?_
    refine @chain _ _ _ _ _ _ _ _ 18 (.pointer (some ⟨g, 0, none⟩)) (by rfl) (by rfl) (by exact fun W2 hW => run_nc (by rfl) (by exact eval_look (by kernel_rfl) (by kernel_rfl)) hW) ?_
    refine @chain _ _ _ _ _ _ _ _ 19 (.pointer (some ⟨g, 17, none⟩)) (by rfl) (by rfl) (by exact fun W2 hW => run_fa (p := .pointer (some ⟨g, 0, none⟩)) (by rfl) (by exact eval_look (by kernel_rfl) (by kernel_rfl)) (fun W => by first | kernel_rfl | go_simp) hW) ?_
    refine @chain _ _ _ _ _ _ _ _ 20 (.slice (some ⟨b3, o3, none⟩) m c) (by rfl) (by rfl) (by exact fun W2 hW => run_lw (by rfl) (by exact eval_look (by kernel_rfl) (by kernel_rfl)) (fun W hW => ldBs _ _ _ _ _ _ (cell_later hW c2)) hW) ?_
    refine @chain _ _ _ _ _ _ _ _ 21 (.int .i64 m) (by rfl) (by rfl) (by exact fun W2 hW => run_ln (u := .slice (some ⟨b3, o3, none⟩) m c) (by rfl) (by exact eval_look (by kernel_rfl) (by kernel_rfl)) (fun W => by go_simp) hW) ?_
    refine @chain _ _ _ _ _ _ _ _ 22 (.int .i64 ((n % m : Nat) : Int)) (by rfl) (by rfl) (by exact fun W2 hW => run_bo (u := .int .i64 n) (v := .int .i64 m) (by rfl) (by exact eval_look (by kernel_rfl) (by kernel_rfl)) (by exact eval_look (by kernel_rfl) (by kernel_rfl)) (fun W => rem_run _ _ _ n m mp n1 W) hW) ?_
    refine @chain _ _ _ _ _ _ _ _ 23 (.pointer (some ⟨b3, o3 + n % m, none⟩)) (by rfl) (by rfl) (by exact fun W2 hW => run_ia (u := .slice (some ⟨b3, o3, none⟩) m c) (v := .int .i64 ((n % m : Nat) : Int)) (by rfl) (by exact eval_look (by kernel_rfl) (by kernel_rfl)) (by exact eval_look (by kernel_rfl) (by kernel_rfl)) (fun W => by generalize n % m = k at *; go_simp) hW) ?_
    refine @chain _ _ _ _ _ _ _ _ 24 (.int .u8 y) (by rfl) (by rfl) (by exact fun W2 hW => run_lw (by rfl) (by exact eval_look (by kernel_rfl) (by kernel_rfl)) (fun W hW => ldB _ _ _ _ (cell_later hW c3)) hW) ?_
    refine @chain _ _ _ _ _ _ _ _ 25 (.int .i64 y) (by rfl) (by rfl) (by exact fun W2 hW => run_cv (u := .int .u8 y) (by rfl) (by exact eval_look (by kernel_rfl) (by kernel_rfl)) (fun W => by go_simp; try (rw [IntKind.wrap_i64]; omega)) hW) ?_
    refine @chain _ _ _ _ _ _ _ _ 26 (.int .i64 ((y % 12 : Nat) : Int)) (by rfl) (by rfl) (by exact fun W2 hW => run_bo (u := .int .i64 y) (v := .int .i64 12) (by rfl) (by exact eval_look (by kernel_rfl) (by kernel_rfl)) (by rfl) (fun W => rem_run _ _ _ y 12 (by omega) (by omega) W) hW) ?_
    refine @chain _ _ _ _ _ _ _ _ 27 (.int .i64 ((1 + y % 12 : Nat) : Int)) (by rfl) (by rfl) (by exact fun W2 hW => run_bo (u := .int .i64 1) (v := .int .i64 ((y % 12 : Nat) : Int)) (by rfl) (by rfl) (by exact eval_look (by kernel_rfl) (by kernel_rfl)) (fun W => by go_simp; try (rw [IntKind.wrap_i64]; omega)) hW) ?_
    refine calm_nil (fun W2 hW2 => ?_)
    refine Eq.mpr (congrArg (fun a => wpList _ _ _ _ a W2) (show _ = (⟨#[.pointer (some ⟨g, 0, none⟩), undef, .int .i64 0, .pointer (some ⟨g, 0, none⟩), .pointer (some ⟨g, 0, none⟩), .pointer (some ⟨g, 17, none⟩), .slice (some ⟨b3, o3, none⟩) m c, .int .i64 m, .bool ((m : Int) == 0), .pointer (some ⟨g, 0, none⟩), .pointer (some ⟨g, 0, none⟩), .pointer (some ⟨g, 17, none⟩), .slice (some ⟨b3, o3, none⟩) m c, .pointer (some ⟨g, 0, none⟩), .pointer (some ⟨g, 0, none⟩), .pointer (some ⟨g, 18, none⟩), .int .i64 n, .pointer (some ⟨g, 0, none⟩), .pointer (some ⟨g, 0, none⟩), .pointer (some ⟨g, 17, none⟩), .slice (some ⟨b3, o3, none⟩) m c, .int .i64 m, .int .i64 ((n % m : Nat) : Int), .pointer (some ⟨b3, o3 + n % m, none⟩), .int .u8 y, .int .i64 y, .int .i64 ((y % 12 : Nat) : Int), .int .i64 ((1 + y % 12 : Nat) : Int)], []⟩ : Act) by kernel_rfl)) ?_
    go_wp2
    go_ret
    exact ⟨by rw [HE.out]; rfl, hW2⟩
end Go.Proofs.Ytjbbobhjomhnmaa.H
namespace Go.Proofs.Ytjbbobhjomhnmaa.H
open Go.RowKit Go.Deep Go.Shelf Go.Proofs Go.Proofs.YtjbbobhjomhnmaaW.PrintWords
set_option linter.unusedVariables false
set_option linter.unusedSimpArgs false
def entAt (w : World) (x : Nd) : Prop := (∀ i v, (encE x.e)[i]? = some v → w.cell? ⟨x.b, i, none⟩ = some v) ∧ w.cell? ⟨x.b, 4, none⟩ = some (.int .i64 x.high)
/-- x is put in between pre and post at the heights below k. -/
structure MidAt (w : World) (g : Nat) (pre : List Nd) (x : Nd) (post : List Nd) (k : Nat) : Prop where
  head : ∀ h, h < 12 → w.cell? ⟨g, 5 + h, none⟩ = some (ptrV (if h < k then nxt h (pre ++ x :: post) else nxt h (pre ++ post)))
  pres : ∀ a y c, pre = a ++ y :: c → entAt w y ∧ y.high ≤ 12 ∧ 1 ≤ y.high ∧ ∀ h, h < y.high → w.cell? ⟨y.b, 5 + h, none⟩ = some (ptrV (if h < k then nxt h (c ++ x :: post) else nxt h (c ++ post)))
  new : entAt w x ∧ x.high ≤ 12 ∧ 1 ≤ x.high ∧ ∀ h, h < k → w.cell? ⟨x.b, 5 + h, none⟩ = some (ptrV (nxt h post))
  posts : ∀ a y c, post = a ++ y :: c → entAt w y ∧ y.high ≤ 12 ∧ 1 ≤ y.high ∧ ∀ h, h < y.high → w.cell? ⟨y.b, 5 + h, none⟩ = some (ptrV (nxt h c))
/-- The cell that Put's loop reads at height h. -/
theorem MidAt.cell {w : World} {g : Nat} {pre : List Nd} {x : Nd} {post : List Nd} {k h : Nat} (hM : MidAt w g pre x post k) (hk : k ≤ h) (h12 : h < 12) : w.cell? ⟨atB g (prv h pre), 5 + h, none⟩ = some (ptrV (nxt h post)) := by
  cases hp : prv h pre with
  | none =>
    have hlow : ∀ y ∈ pre, ¬ h < y.high := by
      intro y hy hh
      unfold prv at hp
      rw [List.getLast?_eq_none_iff, List.filter_eq_nil_iff] at hp
      exact hp y hy (by simpa using hh)
    have := hM.head h h12
    rw [if_neg (by omega), nxt_none hlow] at this
    exact this
  | some p =>
    obtain ⟨h1, a, c, h2, h3⟩ := prv_split hp
    have := (hM.pres a p c h2).2.2.2 h h1
    rw [if_neg (by omega), nxt_none h3] at this
    exact this
theorem MidAt.start {w : World} {g : Nat} {pre : List Nd} {x : Nd} {post : List Nd} (hN : NodesAt w g (pre ++ post)) (hx : entAt w x) (h1 : x.high ≤ 12) (h2 : 1 ≤ x.high) : MidAt w g pre x post 0 := by
  refine ⟨fun h hh => by rw [if_neg (by omega)]; exact hN.head h hh, fun a y c hl => ?_, ⟨hx, h1, h2, fun h hh => by omega⟩, fun a y c hl => ?_⟩
  · obtain ⟨q1, q2, q3, q4, q5⟩ := hN.node a y (c ++ post) (by rw [hl]; simp)
    exact ⟨⟨q1, q2⟩, q3, q4, fun h hh => by rw [if_neg (by omega)]; exact q5 h hh⟩
  · obtain ⟨q1, q2, q3, q4, q5⟩ := hN.node (pre ++ a) y c (by rw [hl]; simp)
    exact ⟨⟨q1, q2⟩, q3, q4, q5⟩
theorem nxt_skip {h : Nat} {c : List Nd} {x : Nd} {post : List Nd} (hx : ¬ h < x.high) : nxt h (c ++ x :: post) = nxt h (c ++ post) := by
  unfold nxt
  rw [List.find?_append, List.find?_append, List.find?_cons_of_neg (by simpa using hx)]
theorem nxt_hit {h : Nat} {c : List Nd} {x : Nd} {post : List Nd} (hc : ∀ y ∈ c, ¬ h < y.high) (hx : h < x.high) : nxt h (c ++ x :: post) = some x := by
  rw [nxt_none hc]
  unfold nxt
  rw [List.find?_cons_of_pos (by simpa using hx)]
theorem nxt_same {h : Nat} {c : List Nd} {x : Nd} {post : List Nd} (hc : ∃ y ∈ c, h < y.high) : nxt h (c ++ x :: post) = nxt h (c ++ post) := by
  cases hq : nxt h c with
  | none =>
    obtain ⟨y, hy, hh⟩ := hc
    have := List.find?_eq_none.1 hq y hy
    simp at this
    omega
  | some u => rw [nxt_some hq, nxt_some hq]
theorem MidAt.finish {w : World} {g : Nat} {pre : List Nd} {x : Nd} {post : List Nd} (hM : MidAt w g pre x post x.high) : NodesAt w g (pre ++ x :: post) := by
  refine ⟨fun h hh => ?_, fun a y c hl => ?_⟩
  · have := hM.head h hh
    by_cases hx : h < x.high
    · rwa [if_pos hx] at this
    · rwa [if_neg hx, ← nxt_skip (x := x) hx] at this
  · rcases List.append_eq_append_iff.1 hl with ⟨a', h1, h2⟩ | ⟨c', h1, h2⟩
    · -- y lies at x or behind
      cases a' with
      | nil =>
        simp only [List.nil_append, List.cons.injEq] at h2
        obtain ⟨rfl, rfl⟩ := h2
        exact ⟨hM.new.1.1, hM.new.1.2, hM.new.2.1, hM.new.2.2.1, hM.new.2.2.2⟩
      | cons z a' =>
        simp only [List.cons_append, List.cons.injEq] at h2
        obtain ⟨q1, q2, q3, q4⟩ := hM.posts a' y c h2.2
        exact ⟨q1.1, q1.2, q2, q3, q4⟩
    · cases c' with
      | nil =>
        simp only [List.nil_append, List.cons.injEq] at h2
        obtain ⟨rfl, rfl⟩ := h2
        exact ⟨hM.new.1.1, hM.new.1.2, hM.new.2.1, hM.new.2.2.1, hM.new.2.2.2⟩
      | cons z c' =>
        simp only [List.cons_append, List.cons.injEq] at h2
        obtain ⟨rfl, rfl⟩ := h2
        obtain ⟨q1, q2, q3, q4⟩ := hM.pres a y c' h1
        refine ⟨q1.1, q1.2, q2, q3, fun h hh => ?_⟩
        have := q4 h hh
        by_cases hx : h < x.high
        · rwa [if_pos hx] at this
        · rwa [if_neg hx, ← nxt_skip (x := x) hx] at this
end Go.Proofs.Ytjbbobhjomhnmaa.H
namespace Go.Proofs.Ytjbbobhjomhnmaa.H
open Go.RowKit Go.Deep Go.Shelf Go.Proofs Go.Proofs.YtjbbobhjomhnmaaW.PrintWords
set_option linter.unusedVariables false
set_option linter.unusedSimpArgs false
theorem set_other {w : World} {p q : Addr} {v : Value} (h : p ≠ q) : (w.setCell p v).cell? q = w.cell? q := World.cell?_setCell_other (h := h) ..
theorem set_same {w : World} {p : Addr} {v u : Value} (h : w.cell? p = some u) : (w.setCell p v).cell? p = some v := World.cell?_setCell_same (h := h) ..
theorem prv_skip {h : Nat} {c : List Nd} (hc : ∃ z ∈ c, h < z.high) : ∀ a : List Nd, prv h (a ++ c) = prv h c
  | [] => rfl
  | z :: a => by
    rw [List.cons_append, prv_cons (by obtain ⟨y, h1, h2⟩ := hc; exact ⟨y, List.mem_append_right _ h1, h2⟩)]
    exact prv_skip hc a
theorem prv_mem {h : Nat} {l : List Nd} {x : Nd} (hp : prv h l = some x) : x ∈ l := by
  obtain ⟨_, a, c, h2, _⟩ := prv_split hp
  rw [h2]; simp
/-- Blocks that lie apart. -/
structure Apart (g : Nat) (pre : List Nd) (x : Nd) (post : List Nd) : Prop where
  xg : x.b ≠ g
  pg : ∀ y ∈ pre, y.b ≠ g
  qg : ∀ y ∈ post, y.b ≠ g
  px : ∀ y ∈ pre, y.b ≠ x.b
  qx : ∀ y ∈ post, y.b ≠ x.b
  pq : ∀ y ∈ pre, ∀ z ∈ post, y.b ≠ z.b
  pp : (pre.map (·.b)).Nodup
theorem Apart.of {g : Nat} {pre post : List Nd} {x : Nd} (h : (g :: (pre ++ post).map (·.b)).Nodup) (hx : ∀ y ∈ pre ++ post, y.b ≠ x.b) (hg : x.b ≠ g) : Apart g pre x post := by
  rw [List.nodup_cons, List.map_append, List.nodup_append] at h
  obtain ⟨h1, h2, h3, h4⟩ := h
  have m1 : ∀ y ∈ pre, y.b ∈ pre.map (·.b) := fun y hy => List.mem_map_of_mem hy
  have m2 : ∀ y ∈ post, y.b ∈ post.map (·.b) := fun y hy => List.mem_map_of_mem hy
  exact ⟨hg, fun y hy e => h1 (by rw [← e]; exact List.mem_append_left _ (m1 y hy)), fun y hy e => h1 (by rw [← e]; exact List.mem_append_right _ (m2 y hy)),
    fun y hy => hx y (List.mem_append_left _ hy), fun y hy => hx y (List.mem_append_right _ hy), fun y hy z hz => h4 _ (m1 y hy) _ (m2 z hz), h2⟩
theorem Apart.at {g : Nat} {pre post : List Nd} {x : Nd} (hA : Apart g pre x post) (h : Nat) : atB g (prv h pre) ≠ x.b := by
  cases hp : prv h pre with
  | none => exact hA.xg.symm
  | some p => exact hA.px p (prv_mem hp)
/-- The two stores of a round. -/
def put2 (w : World) (g : Nat) (pre : List Nd) (x : Nd) (post : List Nd) (k : Nat) : World := (w.setCell ⟨x.b, 5 + k, none⟩ (ptrV (nxt k post))).setCell ⟨atB g (prv k pre), 5 + k, none⟩ (.pointer (some ⟨x.b, 0, none⟩))
theorem put2_far {w : World} {g : Nat} {pre post : List Nd} {x : Nd} {k : Nat} {b o : Nat} (h : o ≠ 5 + k ∨ (b ≠ x.b ∧ b ≠ atB g (prv k pre))) : (put2 w g pre x post k).cell? ⟨b, o, none⟩ = w.cell? ⟨b, o, none⟩ := by
  unfold put2
  rw [set_other (by rintro e; injection e with e1 e2; rcases h with h | h; exact h e2.symm; exact h.2 e1.symm), set_other (by rintro e; injection e with e1 e2; rcases h with h | h; exact h e2.symm; exact h.1 e1.symm)]
theorem MidAt.step {w : World} {g : Nat} {pre : List Nd} {x : Nd} {post : List Nd} {k : Nat} (hM : MidAt w g pre x post k) (hk : k < x.high) (hA : Apart g pre x post) {v : Value} (hc : w.cell? ⟨x.b, 5 + k, none⟩ = some v) : MidAt (put2 w g pre x post k) g pre x post (k + 1) := by
  have hk12 : k < 12 := Nat.lt_of_lt_of_le hk hM.new.2.1
  have hpc := hM.cell (Nat.le_refl k) hk12
  have hne := hA.at k
  have C2 : (put2 w g pre x post k).cell? ⟨x.b, 5 + k, none⟩ = some (ptrV (nxt k post)) := by
    unfold put2
    rw [set_other (by rintro e; injection e with e1 e2; exact hne e1), set_same hc]
  have C3 : (put2 w g pre x post k).cell? ⟨atB g (prv k pre), 5 + k, none⟩ = some (.pointer (some ⟨x.b, 0, none⟩)) := by
    unfold put2
    refine set_same (u := ptrV (nxt k post)) ?_
    rw [set_other (by rintro e; injection e with e1 e2; exact hne e1.symm)]
    exact hpc
  have E : ∀ {y : Nd}, entAt w y → entAt (put2 w g pre x post k) y := fun {y} h => by
    refine ⟨fun i u hu => ?_, ?_⟩
    · have hi : i < 4 := by have := (List.getElem?_eq_some_iff.1 hu).1; simpa [encE] using this
      rw [put2_far (.inl (by omega))]; exact h.1 i u hu
    · rw [put2_far (.inl (by omega))]; exact h.2
  have I : ∀ {h : Nat} {a b : Option Nd}, h ≠ k → (if h < k then a else b) = (if h < k + 1 then a else b) := fun {h a b} e => by
    by_cases h1 : h < k
    · rw [if_pos h1, if_pos (by omega)]
    · rw [if_neg h1, if_neg (by omega)]
  refine ⟨fun h hh => ?_, fun a y c hl => ?_, ⟨E hM.new.1, hM.new.2.1, hM.new.2.2.1, fun h hh => ?_⟩, fun a y c hl => ?_⟩
  · by_cases e : h = k
    · subst e
      rw [if_pos (by omega)]
      cases hp : prv h pre with
      | none =>
        have hlow : ∀ y ∈ pre, ¬ h < y.high := by
          intro y hy hh
          unfold prv at hp
          rw [List.getLast?_eq_none_iff, List.filter_eq_nil_iff] at hp
          exact hp y hy (by simpa using hh)
        rw [nxt_hit hlow hk]
        rw [hp] at C3
        exact C3
      | some p =>
        rw [put2_far (.inr ⟨hA.xg.symm, by rw [hp]; exact (hA.pg p (prv_mem hp)).symm⟩), hM.head h hh, if_neg (by omega), nxt_same ⟨p, prv_mem hp, (prv_split hp).1⟩]
    · rw [put2_far (.inl (by omega)), hM.head h hh, I e]
  · obtain ⟨q1, q2, q3, q4⟩ := hM.pres a y c hl
    refine ⟨E q1, q2, q3, fun h hh => ?_⟩
    by_cases e : h = k
    · subst e
      rw [if_pos (by omega)]
      by_cases hc2 : ∃ z ∈ c, h < z.high
      · have hp : prv h pre = prv h c := by
          rw [hl, show a ++ y :: c = (a ++ [y]) ++ c by simp]
          exact prv_skip hc2 _
        have hyp : y.b ≠ atB g (prv h pre) := by
          rw [hp]
          cases hpc2 : prv h c with
          | none => exact hA.pg y (by rw [hl]; simp)
          | some p =>
            have hm := prv_mem hpc2
            have := hA.pp
            rw [hl, List.map_append, List.nodup_append] at this
            obtain ⟨_, h5, _⟩ := this
            rw [List.map_cons, List.nodup_cons] at h5
            intro e2
            exact h5.1 (by rw [e2]; exact List.mem_map_of_mem (f := (·.b)) hm)
        rw [put2_far (.inr ⟨hA.px y (by rw [hl]; simp), hyp⟩), q4 h hh, if_neg (by omega), nxt_same hc2]
      · have hlow : ∀ z ∈ c, ¬ h < z.high := fun z hz hh2 => hc2 ⟨z, hz, hh2⟩
        have hp : prv h pre = some y := by rw [hl]; exact prv_last hh hlow
        rw [hp] at C3
        rw [nxt_hit hlow hk]
        exact C3
    · rw [put2_far (.inl (by omega)), q4 h hh, I e]
  · by_cases e : h = k
    · subst e; exact C2
    · rw [put2_far (.inl (by omega))]; exact hM.new.2.2.2 h (by omega)
  · obtain ⟨q1, q2, q3, q4⟩ := hM.posts a y c hl
    have hy : y ∈ post := by rw [hl]; simp
    refine ⟨E q1, q2, q3, fun h hh => ?_⟩
    rw [put2_far (.inr ⟨hA.qx y hy, ?_⟩)]
    · exact q4 h hh
    · cases hp : prv k pre with
      | none => exact hA.qg y hy
      | some p => exact (hA.pq p (prv_mem hp) y hy).symm
/-- A block's row. -/
def NRow (w : World) (b : Nat) : Prop := ∃ cs, w.heap[b]? = some (.cells cs 119 (0, 0))
theorem NRow.set {w : World} {b : Nat} (h : NRow w b) (p : Addr) (v : Value) (hp : p.spot = none) : NRow (w.setCell p v) b := by
  obtain ⟨cs, hc⟩ := h
  obtain ⟨pb, po, ps⟩ := p
  subst hp
  by_cases e : b = pb
  · subst e
    exact ⟨_, blk_set hc po v⟩
  · exact ⟨cs, blk_far hc e v⟩
/-- The list's struct: its draws and its length. -/
def LRow (w : World) (g : Nat) (d n : Value) : Prop := ∃ cs, w.heap[g]? = some (.cells cs 121 (0, 0)) ∧ cs[17]? = some d ∧ cs[18]? = some n
theorem LRow.set {w : World} {g : Nat} {d n : Value} (h : LRow w g d n) (b o : Nat) (v : Value) (ho : o < 17) : LRow (w.setCell ⟨b, o, none⟩ v) g d n := by
  obtain ⟨cs, hc, h1, h2⟩ := h
  by_cases e : g = b
  · subst e
    refine ⟨_, blk_set hc o v, ?_, ?_⟩ <;> rw [Array.getElem?_setIfInBounds_ne (by omega)] <;> assumption
  · exact ⟨cs, blk_far hc e v, h1, h2⟩
theorem put2_NRow {w : World} {g : Nat} {pre post : List Nd} {x : Nd} {k b : Nat} (h : NRow w b) : NRow (put2 w g pre x post k) b := (h.set _ _ rfl).set _ _ rfl
theorem put2_LRow {w : World} {g : Nat} {pre post : List Nd} {x : Nd} {k : Nat} {d n : Value} (h : LRow w g d n) (hk : k < 12) : LRow (put2 w g pre x post k) g d n := (h.set _ _ _ (by omega)).set _ _ _ (by omega)
theorem put2_upd {w : World} {g : Nat} {pre post : List Nd} {x : Nd} {k : Nat} {S : Nat → Prop} (hx : S x.b) (hg : S g) (hp : ∀ y ∈ pre, S y.b) : Upd S w (put2 w g pre x post k) := by
  unfold put2
  refine (Upd.setCell w _ _ hx).trans (Upd.setCell _ _ _ ?_)
  cases h : prv k pre with
  | none => exact hg
  | some p => exact hp p (prv_mem h)
theorem put2_cell {w : World} {g : Nat} {pre post : List Nd} {x : Nd} {k : Nat} {p : Addr} {v : Value} (h : w.cell? p = some v) : ∃ v', (put2 w g pre x post k).cell? p = some v' := by
  obtain ⟨v1, h1⟩ := cell?_setCell_some (p := ⟨x.b, 5 + k, none⟩) (x := ptrV (nxt k post)) h
  exact cell?_setCell_some h1
end Go.Proofs.Ytjbbobhjomhnmaa.H
namespace Go.Proofs.Ytjbbobhjomhnmaa.H
open Go.RowKit Go.Deep Go.Proofs.YtjbbobhjomhnmaaW.PrintWords
theorem rd_bytes : Rd (Kd.slice 5 (Kd.int .u8)) Try.prog 22 (fun xs => xs.length * Try.prog.bytesOf 5 ≤ 140737488351232 ∧ ∀ x ∈ xs, (Lit.int .u8 x).wf = true) := Rd.slice Try.underlying22 (by kernel_rfl) (Rd.int Try.underlying5)
theorem sl_bytes {w : World} {A : Option Addr} {l : List Int} (h : (Kd.int .u8).C w A l.length l) : Sl encB 1 w A l :=
  Sl.of_C (fun _ _ _ hk => by simpa [Kd.int, Kd.scalar, encB] using hk) rfl (fun _ => by simp [encB]) h
theorem bytes_ok {l : List Int} (h : l.length * Try.prog.bytesOf 5 ≤ 140737488351232 ∧ ∀ x ∈ l, (Lit.int .u8 x).wf = true) : l.length < 140737488351233 ∧ ∀ x ∈ l, U8 x := by
  rw [show Try.prog.bytesOf 5 = 1 by kernel_rfl] at h
  exact ⟨by omega, fun x hx => wf_u8 (h.2 x hx)⟩
abbrev kEntry : Kd Ent := Kd.pair Kd.string (Kd.pair (Kd.int .u64) (Kd.pair Kd.bool Kd.string))
def QEntry (e : Ent) : Prop := e.1.size ≤ 140737488351232 ∧ (Lit.int .u64 e.2.1).wf = true ∧ True ∧ e.2.2.2.size ≤ 140737488351232
set_option maxRecDepth 100000 in
theorem rd_entry : Rd kEntry Try.prog 53 QEntry :=
  Rd.struct Try.underlying53 (by kernel_rfl) (.cons (Rd.string Try.underlying9) rfl (by kernel_rfl) (.cons (Rd.int Try.underlying51) rfl (by kernel_rfl) (.cons (Rd.bool Try.underlying4) rfl (by kernel_rfl) (.one (Rd.string Try.underlying9) rfl (by kernel_rfl)))))
theorem form_entry {w : World} {y : Ent} {c : List Value} (h : kEntry.K w y c) : c = encE y := by
  obtain ⟨c1, c2, rfl, h1, c3, c4, rfl, h2, c5, c6, rfl, h3, h4⟩ := h
  simp only [Kd.string, Kd.int, Kd.bool, Kd.scalar] at h1 h2 h3 h4
  subst h1; subst h2; subst h3; subst h4
  rfl
theorem rd_entries : Rd (Kd.slice 53 kEntry) Try.prog 64 (fun xs => xs.length * Try.prog.bytesOf 53 ≤ 140737488351232 ∧ ∀ x ∈ xs, QEntry x) := Rd.slice Try.underlying64 (by kernel_rfl) rd_entry
theorem sl_entries {w : World} {A : Option Addr} {l : List Ent} (h : kEntry.C w A l.length l) : Sl encE 4 w A l := Sl.of_C (fun _ _ _ hk => form_entry hk) rfl (fun _ => by simp [encE]) h
theorem entries_ok {l : List Ent} (h : l.length * Try.prog.bytesOf 53 ≤ 140737488351232 ∧ ∀ x ∈ l, QEntry x) : l.length < 2932031007319 ∧ ∀ e ∈ l, e.2.1 ≤ 18446744073709551615 := by
  rw [show Try.prog.bytesOf 53 = 48 by kernel_rfl] at h
  exact ⟨by omega, fun e he => (wf_u64 (h.2 e he).2.1).2⟩
end Go.Proofs.Ytjbbobhjomhnmaa.H
