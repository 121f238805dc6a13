/- skip.List: what it is; height, Len (printed by gensk2.py). No conditions but of sizes. -/
import Derived.Test.YtjbbobhjomhnmaaSk1
namespace Go.Proofs.Ytjbbobhjomhnmaa.H
open Go.RowKit Go.Deep Go.Shelf Go.Proofs Go.Proofs.YtjbbobhjomhnmaaW.PrintWords
set_option linter.unusedVariables false
set_option linter.unusedSimpArgs false
def encB (x : Int) : List Value := [.int .u8 x]
def U8 (x : Int) : Prop := 0 ≤ x ∧ x ≤ 255
/-- The height of the n-th tower. -/
def hgt (draws : List Int) (n : Nat) : Nat := if draws = [] then 1 else 1 + (draws.getD (n % draws.length) 0).toNat % 12
theorem hgt_in (draws : List Int) (n : Nat) : 1 ≤ hgt draws n ∧ hgt draws n ≤ 12 := by unfold hgt; split <;> omega
/-- A skip list: its struct's block g, its nodes', its draws'; all in S. -/
structure SkIs (w : World) (g : Nat) (S : Nat → Prop) (l : List Nd) (draws : List Int) : Prop where
  nodes : NodesAt w g l
  order : l.Pairwise fun x y => ltE x.e y.e
  row : ∃ cs A c, w.heap[g]? = some (.cells cs 121 (0, 0)) ∧ cs[17]? = some (.slice A draws.length c) ∧ cs[18]? = some (.int .i64 l.length) ∧ Sl encB 1 w A draws ∧ (∀ b o, draws ≠ [] → A = some ⟨b, o, none⟩ → S b ∧ b ≠ g ∧ ∀ x ∈ l, x.b ≠ b)
  rows : ∀ x ∈ l, ∃ cs, w.heap[x.b]? = some (.cells cs 119 (0, 0))
  apart : (g :: l.map (·.b)).Nodup
  own : S g ∧ ∀ x ∈ l, S x.b
  bytes : ∀ x ∈ draws, U8 x
theorem run_ln {P : Program} {w W : World} {a : Act} {o : Oper} {x : Operand} {ts : Array TypeId} {u r : Value} (ho : o.op = .call { callee := .builtin .len, args := #[x], argTypes := ts }) (hx : a.eval x = u) (hf : ∀ W, (Builtin.len_ ts o.type #[u]).run P W = .ok r W) (hW : Below w.heap.size w W) :
    CalmRes P w r ((execOp a.eval o).run P W) := by
  unfold execOp
  simp only [ho, resolve, invoke, builtin, Sem.run_bind, Sem.run_pure, Result.andThen_ok, List.map_toArray, List.map_cons, List.map_nil, hx, hf]
  exact ⟨rfl, hW⟩
theorem rem_run (t : TypeId) (x y : Operand) (a b : Nat) (hb : 0 < b) (hb2 : (b : Int) ≤ 9223372036854775807) (W : World) : (do eqGuard .rem t x y (.int .i64 (a : Int)) (.int .i64 (b : Int)); binOp .rem t (.int .i64 (a : Int)) (.int .i64 (b : Int)) : Sem Value).run Try.prog W = .ok (.int .i64 ((a % b : Nat) : Int)) W := by
  have h1 : ¬ (b : Int) = 0 := by omega
  have h0 : ¬ b = 0 := by omega
  have hlt := Nat.mod_lt a hb
  have h2 : IntKind.i64.wrap ((a : Int).tmod (b : Int)) = ((a % b : Nat) : Int) := by
    have h3 : ((a % b : Nat) : Int) = (a : Int) % (b : Int) := by simp
    rw [Int.tmod_eq_emod_of_nonneg (by omega), IntKind.wrap_i64, ← h3]
    omega
  go_simp
  first | done | exact Int.tmod_eq_emod_of_nonneg (by omega) | rw [if_neg h0, h2] | rw [if_neg h1, h2] | simp [h0, h2]
theorem ldB (b j : Nat) (v : Int) (W : World) (h : W.cell? ⟨b, j, none⟩ = some (.int .u8 v)) : (Instr.loadAt 5 (.pointer (some ⟨b, j, none⟩))).run Try.prog W = .ok (.int .u8 v) W := by
  go_simp
theorem ldBs (A : Option Addr) (n c : Nat) (b j : Nat) (W : World) (h : W.cell? ⟨b, j, none⟩ = some (.slice A n c)) : (Instr.loadAt 22 (.pointer (some ⟨b, j, none⟩))).run Try.prog W = .ok (.slice A n c) W := by
  go_simp
theorem ldI (b j : Nat) (n : Int) (W : World) (h : W.cell? ⟨b, j, none⟩ = some (.int .i64 n)) : (Instr.loadAt 3 (.pointer (some ⟨b, j, none⟩))).run Try.prog W = .ok (.int .i64 n) W := by
  go_simp
theorem len_c (g : Nat) (S : Nat → Prop) (l : List Nd) (draws : List Int) (w : World) (h : SkIs w g S l draws) : Calls Try.prog 24 #[.pointer (some ⟨g, 0, none⟩)] w fun e w' => e = .returned (.int .i64 l.length) ∧ w = w' := by
  obtain ⟨cs, A, c, hr, h17, h18, _⟩ := h.row
  have c1 : w.cell? ⟨g, 18, none⟩ = some (.int .i64 l.length) := (blk_cell hr 18).trans h18
  clear h hr h17 h18
  obtain ⟨n, hn⟩ : ∃ n, l.length = n := ⟨_, rfl⟩
  rw [hn] at c1 ⊢
  clear hn
  go_enter Try.func24, Try.ntmps24
  go_wp2
  go_ret
  exact ⟨rfl, rfl⟩
set_option maxHeartbeats 1600000 in
set_option maxRecDepth 100000 in
theorem height_c (g : Nat) (S : Nat → Prop) (l : List Nd) (draws : List Int) (w : World) (h : SkIs w g S l draws) (hl : l.length < 2932031007319) : Calls Try.prog 85 #[.pointer (some ⟨g, 0, none⟩)] w fun e w' => e = .returned (.int .i64 (hgt draws l.length)) ∧ Below w.heap.size w w' := by
  obtain ⟨cs, A, c, hr, h17, h18, hs, _⟩ := h.row
  have c1 : w.cell? ⟨g, 18, none⟩ = some (.int .i64 l.length) := (blk_cell hr 18).trans h18
  have c2 : w.cell? ⟨g, 17, none⟩ = some (.slice A draws.length c) := (blk_cell hr 17).trans h17
  have hby := h.bytes
  clear h hr h17 h18
  obtain ⟨n, hn⟩ : ∃ n, l.length = n := ⟨_, rfl⟩
  rw [hn] at c1 hl ⊢
  clear hn
  by_cases hd : draws = []
  · have HE := Lib.hid (show hgt draws n = 1 by unfold hgt; rw [if_pos hd])
    subst hd
    clear hs hby
    go_enter Try.func85, Try.ntmps85
    go_wp2
    go_ret
    exact ⟨by rw [HE.out]; rfl, Below.refl _ _⟩
  · obtain ⟨m, hm⟩ : ∃ m, draws.length = m := ⟨_, rfl⟩
    have mp : 0 < m := by
      rcases Nat.eq_zero_or_pos m with h0 | h0
      · exact absurd (List.length_eq_zero_iff.1 (hm.trans h0)) hd
      · exact h0
    have hlt : n % m < m := Nat.mod_lt _ mp
    obtain ⟨x, hx⟩ := getElem?_of_lt (l := draws) (by rw [hm]; exact hlt : n % m < draws.length)
    have hbx := hby x (List.mem_of_getElem? hx)
    obtain ⟨y, hy⟩ : ∃ y : Nat, x = y := ⟨x.toNat, by have := hbx.1; omega⟩
    subst hy
    have hy2 : y ≤ 255 := by have := hbx.2; omega
    have HE := Lib.hid (show hgt draws n = 1 + y % 12 by
      unfold hgt
      rw [if_neg hd, hm, List.getD_eq_getElem?_getD, hx]
      simp)
    have hm2 := hs.1
    rw [hm] at c2 hm2
    obtain ⟨b3, o3, rfl, hb3, hc3⟩ := hs.at hx
    have c3 : w.cell? ⟨b3, o3 + n % m, none⟩ = some (.int .u8 y) := by simpa using hc3 0 _ rfl
    clear hs hby hbx hc3 hx hd hb3 hm
    have n1 : (m : Int) ≤ 9223372036854775807 := by omega
    have n2 : ((n % m : Nat) : Int) < m := by omega
    have n3 : (0 : Int) ≤ ((n % m : Nat) : Int) := by omega
    go_enter Try.func85, Try.ntmps85
    go_wp2_with fail
    refine wp_region_calmB 19 (by kernel_rfl) (by kernel_rfl) ?_
    simp only [List.take_succ_cons, List.take_zero, List.drop_succ_cons, List.drop_zero]
    refine chain0 ?_
    refine @chain _ _ _ _ _ _ _ _ 9 (.pointer (some ⟨g, 0, none⟩)) (by rfl) (by rfl) (by exact fun W2 hW => run_mv (by rfl) (by exact eval_base (by kernel_rfl) (by rfl)) hW) ?_
    refine @chain _ _ _ _ _ _ _ _ 10 (.pointer (some ⟨g, 0, none⟩)) (by rfl) (by rfl) (by exact fun W2 hW => run_nc (by rfl) (by exact eval_look (by kernel_rfl) (by kernel_rfl)) hW) ?_
    refine @chain _ _ _ _ _ _ _ _ 11 (.pointer (some ⟨g, 17, none⟩)) (by rfl) (by rfl) (by exact fun W2 hW => run_fa (p := .pointer (some ⟨g, 0, none⟩)) (by rfl) (by exact eval_look (by kernel_rfl) (by kernel_rfl)) (fun W => by first | kernel_rfl | go_simp) hW) ?_
    refine @chain _ _ _ _ _ _ _ _ 12 (.slice (some ⟨b3, o3, none⟩) m c) (by rfl) (by rfl) (by exact fun W2 hW => run_lw (by rfl) (by exact eval_look (by kernel_rfl) (by kernel_rfl)) (fun W hW => ldBs _ _ _ _ _ _ (cell_later hW c2)) hW) ?_
    refine @chain _ _ _ _ _ _ _ _ 13 (.pointer (some ⟨g, 0, none⟩)) (by rfl) (by rfl) (by exact fun W2 hW => run_mv (by rfl) (by exact eval_base (by kernel_rfl) (by rfl)) hW) ?_
    refine @chain _ _ _ _ _ _ _ _ 14 (.pointer (some ⟨g, 0, none⟩)) (by rfl) (by rfl) (by exact fun W2 hW => run_nc (by rfl) (by exact eval_look (by kernel_rfl) (by kernel_rfl)) hW) ?_
    refine @chain _ _ _ _ _ _ _ _ 15 (.pointer (some ⟨g, 18, none⟩)) (by rfl) (by rfl) (by exact fun W2 hW => run_fa (p := .pointer (some ⟨g, 0, none⟩)) (by rfl) (by exact eval_look (by kernel_rfl) (by kernel_rfl)) (fun W => by first | kernel_rfl | go_simp) hW) ?_
    refine @chain _ _ _ _ _ _ _ _ 16 (.int .i64 n) (by rfl) (by rfl) (by exact fun W2 hW => run_lw (by rfl) (by exact eval_look (by kernel_rfl) (by kernel_rfl)) (fun W hW => ldI _ _ _ _ (cell_later hW c1)) hW) ?_
    refine @chain _ _ _ _ _ _ _ _ 17 (.pointer (some ⟨g, 0, none⟩)) (by rfl) (by rfl) (by exact fun W2 hW => run_mv (by rfl) (by exact eval_base (by kernel_rfl) (by rfl)) hW) ?_
    refine @chain _ _ _ _ _ _ _ _ 18 (.pointer (some ⟨g, 0, none⟩)) (by rfl) (by rfl) (by exact fun W2 hW => run_nc (by rfl) (by exact eval_look (by kernel_rfl) (by kernel_rfl)) hW) ?_
    refine @chain _ _ _ _ _ _ _ _ 19 (.pointer (some ⟨g, 17, none⟩)) (by rfl) (by rfl) (by exact fun W2 hW => run_fa (p := .pointer (some ⟨g, 0, none⟩)) (by rfl) (by exact eval_look (by kernel_rfl) (by kernel_rfl)) (fun W => by first | kernel_rfl | go_simp) hW) ?_
    refine @chain _ _ _ _ _ _ _ _ 20 (.slice (some ⟨b3, o3, none⟩) m c) (by rfl) (by rfl) (by exact fun W2 hW => run_lw (by rfl) (by exact eval_look (by kernel_rfl) (by kernel_rfl)) (fun W hW => ldBs _ _ _ _ _ _ (cell_later hW c2)) hW) ?_
    refine @chain _ _ _ _ _ _ _ _ 21 (.int .i64 m) (by rfl) (by rfl) (by exact fun W2 hW => run_ln (u := .slice (some ⟨b3, o3, none⟩) m c) (by rfl) (by exact eval_look (by kernel_rfl) (by kernel_rfl)) (fun W => by go_simp) hW) ?_
    refine @chain _ _ _ _ _ _ _ _ 22 (.int .i64 ((n % m : Nat) : Int)) (by rfl) (by rfl) (by exact fun W2 hW => run_bo (u := .int .i64 n) (v := .int .i64 m) (by rfl) (by exact eval_look (by kernel_rfl) (by kernel_rfl)) (by exact eval_look (by kernel_rfl) (by kernel_rfl)) (fun W => rem_run _ _ _ n m mp n1 W) hW) ?_
    refine @chain _ _ _ _ _ _ _ _ 23 (.pointer (some ⟨b3, o3 + n % m, none⟩)) (by rfl) (by rfl) (by exact fun W2 hW => run_ia (u := .slice (some ⟨b3, o3, none⟩) m c) (v := .int .i64 ((n % m : Nat) : Int)) (by rfl) (by exact eval_look (by kernel_rfl) (by kernel_rfl)) (by exact eval_look (by kernel_rfl) (by kernel_rfl)) (fun W => by generalize n % m = k at *; go_simp) hW) ?_
    refine @chain _ _ _ _ _ _ _ _ 24 (.int .u8 y) (by rfl) (by rfl) (by exact fun W2 hW => run_lw (by rfl) (by exact eval_look (by kernel_rfl) (by kernel_rfl)) (fun W hW => ldB _ _ _ _ (cell_later hW c3)) hW) ?_
    refine @chain _ _ _ _ _ _ _ _ 25 (.int .i64 y) (by rfl) (by rfl) (by exact fun W2 hW => run_cv (u := .int .u8 y) (by rfl) (by exact eval_look (by kernel_rfl) (by kernel_rfl)) (fun W => by go_simp; try (rw [IntKind.wrap_i64]; omega)) hW) ?_
    refine @chain _ _ _ _ _ _ _ _ 26 (.int .i64 ((y % 12 : Nat) : Int)) (by rfl) (by rfl) (by exact fun W2 hW => run_bo (u := .int .i64 y) (v := .int .i64 12) (by rfl) (by exact eval_look (by kernel_rfl) (by kernel_rfl)) (by rfl) (fun W => rem_run _ _ _ y 12 (by omega) (by omega) W) hW) ?_
    refine @chain _ _ _ _ _ _ _ _ 27 (.int .i64 ((1 + y % 12 : Nat) : Int)) (by rfl) (by rfl) (by exact fun W2 hW => run_bo (u := .int .i64 1) (v := .int .i64 ((y % 12 : Nat) : Int)) (by rfl) (by rfl) (by exact eval_look (by kernel_rfl) (by kernel_rfl)) (fun W => by go_simp; try (rw [IntKind.wrap_i64]; omega)) hW) ?_
    refine calm_nil (fun W2 hW2 => ?_)
    refine Eq.mpr (congrArg (fun a => wpList _ _ _ _ a W2) (show _ = (⟨#[.pointer (some ⟨g, 0, none⟩), undef, .int .i64 0, .pointer (some ⟨g, 0, none⟩), .pointer (some ⟨g, 0, none⟩), .pointer (some ⟨g, 17, none⟩), .slice (some ⟨b3, o3, none⟩) m c, .int .i64 m, .bool ((m : Int) == 0), .pointer (some ⟨g, 0, none⟩), .pointer (some ⟨g, 0, none⟩), .pointer (some ⟨g, 17, none⟩), .slice (some ⟨b3, o3, none⟩) m c, .pointer (some ⟨g, 0, none⟩), .pointer (some ⟨g, 0, none⟩), .pointer (some ⟨g, 18, none⟩), .int .i64 n, .pointer (some ⟨g, 0, none⟩), .pointer (some ⟨g, 0, none⟩), .pointer (some ⟨g, 17, none⟩), .slice (some ⟨b3, o3, none⟩) m c, .int .i64 m, .int .i64 ((n % m : Nat) : Int), .pointer (some ⟨b3, o3 + n % m, none⟩), .int .u8 y, .int .i64 y, .int .i64 ((y % 12 : Nat) : Int), .int .i64 ((1 + y % 12 : Nat) : Int)], []⟩ : Act) by kernel_rfl)) ?_
    go_wp2
    go_ret
    exact ⟨by rw [HE.out]; rfl, hW2⟩
end Go.Proofs.Ytjbbobhjomhnmaa.H
