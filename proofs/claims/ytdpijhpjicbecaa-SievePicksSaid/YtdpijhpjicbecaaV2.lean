/- The sieve: Pick, the program's and the document's. Conditions: sizes. -/
import Derived.Test.YtdpijhpjicbecaaVLd
namespace Go.Proofs.Ytdpijhpjicbecaa.H
open Go Go.RowKit Go.Deep Go.Shelf Go.Proofs Go.Proofs.YtdpijhpjicbecaaW.PrintWords
set_option linter.unusedVariables false
set_option linter.unusedSimpArgs false
attribute [local go_sem] Oper.semAt_some
def newE (p e : Ent) : Ent := if p.2.1 < e.2.1 then e else p
/-- The newest of some entries: of equal numbers the first. -/
def bestL : List Ent → Option Ent
  | [] => none
  | x :: l => some (l.foldl newE x)
theorem best_snoc {l : List Ent} {p e : Ent} (h : bestL l = some p) : bestL (l ++ [e]) = some (newE p e) := by
  cases l with
  | nil => cases h
  | cons x l =>
    injection h with h
    simp only [bestL, List.cons_append, List.foldl_append, List.foldl_cons, List.foldl_nil, h]
theorem best_one (x : Ent) : bestL [x] = some x := rfl
/-- What stays of one key's entries. -/
def pickL (b : ByteArray → Bool) (l : List Ent) : Option Ent := match bestL l with
  | none => none
  | some e => if e.2.2.1 && !b e.1 then none else some e
def pickV (o : Option Ent) : Value := .tuple #[.agg (encE (o.getD zeroE)).toArray, .bool o.isSome]
/-- An entry's four cells, one behind the other. -/
def putE (W : World) (b : Nat) (e : Ent) : World := (((W.setCell ⟨b, 0, none⟩ (.string e.1)).setCell ⟨b, 1, none⟩ (.int .u64 e.2.1)).setCell ⟨b, 2, none⟩ (.bool e.2.2.1)).setCell ⟨b, 3, none⟩ (.string e.2.2.2)
theorem put4_row {W : World} {b : Nat} {v0 v1 v2 v3 : Value} {t : TypeId} (h : W.heap[b]? = some (.cells #[v0, v1, v2, v3] t (0, 0))) (e : Ent) : (putE W b e).heap[b]? = some (.cells (encE e).toArray t (0, 0)) :=
  blk_set (blk_set (blk_set (blk_set h 0 _) 1 _) 2 _) 3 _
theorem upd_put4 (W : World) (b : Nat) (e : Ent) : Upd (fun k => k = b) W (putE W b e) :=
  (((Upd.setCell (S := fun k => k = b) (g := b) W 0 (.string e.1) rfl).trans (Upd.setCell (S := fun k => k = b) (g := b) _ 1 (.int .u64 e.2.1) rfl)).trans (Upd.setCell (S := fun k => k = b) (g := b) _ 2 (.bool e.2.2.1) rfl)).trans (Upd.setCell (S := fun k => k = b) (g := b) _ 3 (.string e.2.2.2) rfl)
theorem four {W : World} {b : Nat} {v0 v1 v2 v3 : Value} {t : TypeId} (h : W.heap[b]? = some (.cells #[v0, v1, v2, v3] t (0, 0))) :
    W.cell? ⟨b, 0, none⟩ = some v0 ∧ W.cell? ⟨b, 1, none⟩ = some v1 ∧ W.cell? ⟨b, 2, none⟩ = some v2 ∧ W.cell? ⟨b, 3, none⟩ = some v3 ∧ W.frozen? ⟨b, 0, none⟩ = false ∧ W.frozen? ⟨b, 1, none⟩ = false ∧ W.frozen? ⟨b, 2, none⟩ = false ∧ W.frozen? ⟨b, 3, none⟩ = false :=
  ⟨(blk_cell h 0).trans rfl, (blk_cell h 1).trans rfl, (blk_cell h 2).trans rfl, (blk_cell h 3).trans rfl, blk_frozen h 0, blk_frozen h 1, blk_frozen h 2, blk_frozen h 3⟩
set_option maxHeartbeats 12800000 in
set_option maxRecDepth 100000 in
theorem refPick_c (A : Option Addr) (c : Nat) (l : List Ent) (b : Bw) (w : World) (hs : Sl encE 4 w A l) (hb : b.at w) :
    Calls Try.prog 33 #[.slice A l.length c, .agg b.cells] w fun e w' => e = .returned (pickV (pickL b.has l)) ∧ Below w.heap.size w w' := by
  have hm := hs.1
  have HS := Lib.hid hs
  have HBW := Lib.hid hb
  obtain ⟨n, hn⟩ : ∃ n, l.length = n := ⟨_, rfl⟩
  rw [hn] at hm ⊢
  have HN := Lib.hid hn
  clear hs hb hn
  obtain ⟨bA, bc, ks, bB, bd, bh, nt⟩ := b
  obtain ⟨n1, hn1⟩ : ∃ n, ks.length = n := ⟨_, rfl⟩
  obtain ⟨n2, hn2⟩ : ∃ n, bh.length = n := ⟨_, rfl⟩
  have HHS := Lib.hid (fun (key : ByteArray) (W : World) (hb : Below w.heap.size w W) => has_c ⟨bA, bc, ks, bB, bd, bh, nt⟩ key W ⟨HBW.out.1.later hb, HBW.out.2.later hb⟩)
  obtain ⟨bf, hbf⟩ : ∃ f, Bw.has ⟨bA, bc, ks, bB, bd, bh, nt⟩ = f := ⟨_, rfl⟩
  rw [hbf] at HHS ⊢
  unfold Bw.cells at HHS ⊢
  dsimp only at HHS ⊢
  rw [hn1, hn2] at HHS ⊢
  clear hbf HBW hn1 hn2
  go_enter Try.func33, Try.ntmps33
  go_wp2_with fail
  obtain ⟨W3, hW3⟩ : ∃ Z, (w.alloc (.cells #[.slice bA n1 bc, .slice bB n2 bd, .bool nt] 60)).alloc (.cells #[.string ⟨#[]⟩, .int .u64 0, .bool false, .string ⟨#[]⟩] 53) = Z := ⟨_, rfl⟩
  have k1 : W3.heap[w.heap.size]? = some (.cells #[.slice bA n1 bc, .slice bB n2 bd, .bool nt] 60 (0, 0)) := by rw [← hW3]; exact blk_alloc (heap_alloc_new _ _) _
  have k2 : W3.heap[w.heap.size + 1]? = some (.cells #[.string ⟨#[]⟩, .int .u64 0, .bool false, .string ⟨#[]⟩] 53 (0, 0)) := by rw [← hW3]; simpa using heap_alloc_new (w.alloc (.cells #[.slice bA n1 bc, .slice bB n2 bd, .bool nt] 60)) (.cells #[.string ⟨#[]⟩, .int .u64 0, .bool false, .string ⟨#[]⟩] 53)
  have hb3 : Below w.heap.size w W3 := by rw [← hW3]; exact ((Below.refl _ _).alloc (Nat.le_refl _) _).alloc (by simp) _
  rw [hW3]
  clear hW3
  go_loopw [6, 7] (fun s6 s7 wr => ∃ k : Nat, s7 = .int .i64 k ∧ k ≤ n ∧ Below W3.heap.size W3 wr ∧ ((s6 = .int .i64 (-1) ∧ k = 0) ∨ ∃ (p : Nat) (e : Ent), s6 = .int .i64 p ∧ p < k ∧ l[p]? = some e ∧ bestL (l.take k) = some e)) (fun s6 s7 wr => n - (intOf s7).toNat)
  case atStart => exact ⟨0, rfl, by omega, Below.refl _ _, .inl ⟨rfl, rfl⟩⟩
  case round =>
    obtain ⟨k, rfl, hk, hb4, hc⟩ := hrel
    generalize wr = W4 at *
    have HB4 := Lib.hid hb4
    have HBW := Lib.hid (hb3.trans (hb4.mono hb3.size))
    have HK2 := Lib.hid (blk_below k2 hb4)
    have hk1 := blk_below k1 hb4
    have c0 : W4.cell? ⟨w.heap.size, 0, none⟩ = some (.slice bA n1 bc) := (blk_cell hk1 0).trans rfl
    have c1 : W4.cell? ⟨w.heap.size, 1, none⟩ = some (.slice bB n2 bd) := (blk_cell hk1 1).trans rfl
    have c2 : W4.cell? ⟨w.heap.size, 2, none⟩ = some (.bool nt) := (blk_cell hk1 2).trans rfl
    have HK1 := Lib.hid hk1
    have HC := Lib.hid hc
    clear hb4 hc hk1
    have i0 : (0 : Int) ≤ k := by omega
    by_cases hlt : k < n
    · have i1 : (k : Int) < n := by omega
      obtain ⟨x, hx⟩ := getElem?_of_lt (l := l) (by rw [HN.out]; exact hlt : k < l.length)
      have HX := Lib.hid hx
      obtain ⟨b1, o1, hA1, _, hc1⟩ := (HS.out.later HBW.out).at hx
      subst hA1
      have y1 : W4.cell? ⟨b1, o1 + k * 4 + 1, none⟩ = some (.int .u64 x.2.1) := hc1 1 _ rfl
      clear hc1 hx
      rcases HC.out with ⟨rfl, rfl⟩ | ⟨p, e, rfl, hpk, hp, hbe⟩
      · clear HC
        go_wp2_with fail
        go_quiet (fail)
        go_wp2_with fail
        go_roundw
        case rel => exact ⟨1, by first | rfl | simp, by omega, HB4.out.trans ((Upd.drewN (S := fun _ => False) _ _).bel (fun _ h => h.elim) (Nat.le_refl _) |>.mono HB4.out.size), .inr ⟨0, x, rfl, by omega, HX.out, by rw [take_suc HX.out]; simp [bestL]⟩⟩
        case measure => simp [intOf]; omega
      · have hc2 := (HS.out.later HBW.out).at hp
        obtain ⟨b2, o2, hA2, _, hc2⟩ := hc2
        injection hA2 with hA2
        injection hA2 with hA2 hA3
        subst hA2
        subst hA3
        have z1 : W4.cell? ⟨b1, o1 + p * 4 + 1, none⟩ = some (.int .u64 e.2.1) := hc2 1 _ rfl
        have HP := Lib.hid hp
        have HBE := Lib.hid (show bestL (l.take (k + 1)) = some (newE e x) from by rw [take_suc HX.out]; exact best_snoc hbe)
        clear HC hc2 hp hbe
        have j0 : (0 : Int) ≤ p := by omega
        have j1 : (p : Int) < n := by omega
        have j2 : ¬ (p : Int) < 0 := by omega
        by_cases hg : e.2.1 < x.2.1
        · have HNE := Lib.hid (show newE e x = x from by simp [newE, hg])
          go_wp2_with fail
          go_quiet (fail)
          go_wp2_with fail
          go_roundw
          case rel => exact ⟨k + 1, by first | rfl | simp, by omega, HB4.out.trans ((Upd.drewN (S := fun _ => False) _ _).bel (fun _ h => h.elim) (Nat.le_refl _) |>.mono HB4.out.size), .inr ⟨k, x, by first | rfl | simp, by omega, HX.out, by rw [HBE.out, HNE.out]⟩⟩
          case measure => simp [intOf]; omega
        · have HNE := Lib.hid (show newE e x = e from by simp [newE, hg])
          go_wp2_with fail
          go_quiet (fail)
          go_wp2_with fail
          go_roundw
          case rel => exact ⟨k + 1, by first | rfl | simp, by omega, HB4.out.trans ((Upd.drewN (S := fun _ => False) _ _).bel (fun _ h => h.elim) (Nat.le_refl _) |>.mono HB4.out.size), .inr ⟨p, e, by first | rfl | simp, by omega, HP.out, by rw [HBE.out, HNE.out]⟩⟩
          case measure => simp [intOf]; omega
    · have hkn : n = k := by omega
      subst hkn
      have hlt0 := HN.out
      rcases HC.out with ⟨rfl, h0⟩ | ⟨p, e, rfl, hpk, hp, hbe⟩
      · have HP := Lib.hid (show pickL bf l = none from by rw [List.length_eq_zero_iff.1 (by omega : l.length = 0)]; rfl)
        subst h0
        clear HC
        go_wp2_with fail
        go_quiet (fail)
        obtain ⟨W6, hW6⟩ : ∃ Z, W4.drewN nq = Z := ⟨_, rfl⟩
        have hbq : Below W4.heap.size W4 W6 := by rw [← hW6]; exact (Upd.drewN (S := fun _ => False) _ _).bel (fun _ h => h.elim) (Nat.le_refl _)
        have hk6 := blk_below HK2.out hbq
        obtain ⟨d0, d1, d2, d3, f0, f1, f2, f3⟩ := four hk6
        have HR := Lib.hid (put4_row hk6 zeroE)
        have HBE := Lib.hid ((HBW.out.trans (hbq.mono HBW.out.size)).trans ((upd_put4 W6 (w.heap.size + 1) zeroE).bel (fun k hk => by omega) (by have := HBW.out.size; have := hbq.size; omega)))
        rw [hW6]
        clear hbq hk6 hW6
        go_wp2_with fail
        refine bodyPost_ret (res_cell_tmp rfl _ _ (w.heap.size + 1) zeroE _ rfl rfl HR.out) rfl ?_
        exact ⟨by rw [HP.out]; rfl, HBE.out⟩
      · have hc2 := (HS.out.later HBW.out).at hp
        obtain ⟨b2, o2, rfl, _, hc2⟩ := hc2
        have z0 : W4.cell? ⟨b2, o2 + p * 4, none⟩ = some (.string e.1) := hc2 0 _ rfl
        have z1 : W4.cell? ⟨b2, o2 + p * 4 + 1, none⟩ = some (.int .u64 e.2.1) := hc2 1 _ rfl
        have z2 : W4.cell? ⟨b2, o2 + p * 4 + 2, none⟩ = some (.bool e.2.2.1) := hc2 2 _ rfl
        have z3 : W4.cell? ⟨b2, o2 + p * 4 + 3, none⟩ = some (.string e.2.2.2) := hc2 3 _ rfl
        have HBE := Lib.hid (show bestL l = some e from by rw [← HN.out, List.take_length] at hbe; exact hbe)
        have j0 : (0 : Int) ≤ p := by omega
        have j1 : (p : Int) < n := by omega
        have j2 : ¬ (p : Int) < 0 := by omega
        clear HC hc2 hp hbe
        obtain ⟨ek, es, ed, ev⟩ := e
        dsimp only at z0 z1 z2 z3
        cases ed with
        | false =>
          have HP := Lib.hid (show pickL bf l = some (ek, es, false, ev) from by simp [pickL, HBE.out])
          go_wp2_with fail
          refine wp_region_calmB 18 (by kernel_rfl) (by kernel_rfl) ?_
          simp only [List.take_succ_cons, List.take_zero, List.drop_succ_cons, List.drop_zero]
          refine chain0 ?_
          refine @chain _ _ _ _ _ _ _ _ 30 (.int .i64 (p : Int)) (by rfl) (by rfl) (by exact fun W2 hW => run_mv (by rfl) (by exact eval_base (by kernel_rfl) (by rfl)) hW) ?_
          refine @chain _ _ _ _ _ _ _ _ 31 (.bool false) (by rfl) (by rfl) (by exact fun W2 hW => run_bo (u := .int .i64 (p : Int)) (v := .int .i64 0) (by rfl) (by exact eval_look (by kernel_rfl) (by kernel_rfl)) (by rfl) (fun W => lssN_run _ _ _ _ _ _ _ (by rw [decide_eq_false_iff_not]; omega) W) hW) ?_
          refine @chain _ _ _ _ _ _ _ _ 32 (.bool false) (by rfl) (by rfl) (by exact fun W2 hW => run_mv (by rfl) (by exact eval_look (by kernel_rfl) (by kernel_rfl)) hW) ?_
          refine @chainG _ _ _ _ _ _ _ _ 33 (.slice (some ⟨b2, o2, none⟩) n c) (by kernel_rfl) (by rfl) (by exact fun W2 hW => run_mv (by rfl) (by exact eval_base (by kernel_rfl) (by rfl)) hW) ?_
          refine @chainG _ _ _ _ _ _ _ _ 34 (.int .i64 (p : Int)) (by kernel_rfl) (by rfl) (by exact fun W2 hW => run_mv (by rfl) (by exact eval_base (by kernel_rfl) (by rfl)) hW) ?_
          refine @chainG _ _ _ _ _ _ _ _ 35 (.pointer (some ⟨b2, o2 + p * 4, none⟩)) (by kernel_rfl) (by rfl) (by exact fun W2 hW => run_ia (u := .slice (some ⟨b2, o2, none⟩) n c) (v := .int .i64 (p : Int)) (by rfl) (by exact eval_look (by kernel_rfl) (by kernel_rfl)) (by exact eval_look (by kernel_rfl) (by kernel_rfl)) (fun W => ixE _ _ _ _ _ (by omega) W) hW) ?_
          refine @chainG _ _ _ _ _ _ _ _ 36 (.pointer (some ⟨b2, o2 + p * 4 + 2, none⟩)) (by kernel_rfl) (by rfl) (by exact fun W2 hW => run_fa (p := .pointer (some ⟨b2, o2 + p * 4, none⟩)) (by rfl) (by exact eval_look (by kernel_rfl) (by kernel_rfl)) (fun W => by first | kernel_rfl | go_simp) hW) ?_
          refine @chainG _ _ _ _ _ _ _ _ 37 (.bool false) (by kernel_rfl) (by rfl) (by exact fun W2 hW => run_lw (by rfl) (by exact eval_look (by kernel_rfl) (by kernel_rfl)) (fun W hW => ldBo _ _ _ _ (cell_later hW z2)) hW) ?_
          refine @chainG _ _ _ _ _ _ _ _ 38 (.bool false) (by kernel_rfl) (by rfl) (by exact fun W2 hW => run_mv (by rfl) (by exact eval_look (by kernel_rfl) (by kernel_rfl)) hW) ?_
          refine @chainK _ _ _ _ _ _ _ _ 39 (by kernel_rfl) (by rfl) ?_
          refine @chainK _ _ _ _ _ _ _ _ 40 (by kernel_rfl) (by rfl) ?_
          refine @chainK _ _ _ _ _ _ _ _ 41 (by kernel_rfl) (by rfl) ?_
          refine @chainK _ _ _ _ _ _ _ _ 42 (by kernel_rfl) (by rfl) ?_
          refine @chainK _ _ _ _ _ _ _ _ 43 (by kernel_rfl) (by rfl) ?_
          refine @chainK _ _ _ _ _ _ _ _ 44 (by kernel_rfl) (by rfl) ?_
          refine @chainK _ _ _ _ _ _ _ _ 45 (by kernel_rfl) (by rfl) ?_
          refine @chainK _ _ _ _ _ _ _ _ 46 (by kernel_rfl) (by rfl) ?_
          refine @chainG _ _ _ _ _ _ _ _ 47 (.bool false) (by kernel_rfl) (by rfl) (by exact fun W2 hW => run_pkF (by rfl) (by exact eval_look (by kernel_rfl) (by kernel_rfl)) (by rfl) hW) ?_
          refine calm_nil (fun W2 hW2 => ?_)
          refine Eq.mpr (congrArg (fun a => wpList _ _ _ _ a W2) (show _ = (⟨#[Value.slice (some ⟨b2, o2, none⟩) n c, Value.agg #[Value.slice bA n1 bc, Value.slice bB n2 bd, Value.bool nt], undef, Value.pointer (some ⟨w.heap.size, 0, none⟩), Value.pointer (some ⟨w.heap.size + 1, 0, none⟩), Value.bool false, Value.int IntKind.i64 (p : Int), Value.int IntKind.i64 (n : Int), Value.int IntKind.i64 (n : Int), Value.slice (some ⟨b2, o2, none⟩) n c, Value.int IntKind.i64 (n : Int), Value.bool false, u12, u13, u14, u15, u16, u17, u18, u19, u20, u21, u22, u23, u24, u25, u26, u27, u28, u29, Value.int IntKind.i64 (p : Int), Value.bool false, Value.bool false, Value.slice (some ⟨b2, o2, none⟩) n c, Value.int IntKind.i64 (p : Int), Value.pointer (some ⟨b2, o2 + p * 4, none⟩), Value.pointer (some ⟨b2, o2 + p * 4 + 2, none⟩), Value.bool false, Value.bool false, undef, undef, undef, undef, undef, undef, undef, undef, Value.bool false, undef, undef, undef, undef, undef, undef], []⟩ : Act) by kernel_rfl)) ?_
          have HW2 := Lib.hid hW2
          clear hW2
          obtain ⟨W6, hW6⟩ : ∃ Z, W2 = Z := ⟨_, rfl⟩
          have hbq : Below W4.heap.size W4 W6 := by rw [← hW6]; exact HW2.out
          have hk6 := blk_below HK2.out hbq
          obtain ⟨d0, d1, d2, d3, f0, f1, f2, f3⟩ := four hk6
          have HR := Lib.hid (put4_row hk6 (ek, es, false, ev))
          have HBF := Lib.hid ((HBW.out.trans (hbq.mono HBW.out.size)).trans ((upd_put4 W6 (w.heap.size + 1) (ek, es, false, ev)).bel (fun k hk => by omega) (by have := HBW.out.size; have := hbq.size; omega)))
          have x0 := cell_later hbq z0
          have x1 := cell_later hbq z1
          have x2 := cell_later hbq z2
          have x3 := cell_later hbq z3
          rw [hW6]
          clear hbq hk6 hW6
          go_wp2_with fail
          refine bodyPost_ret (res_cell_tmp rfl _ _ (w.heap.size + 1) (ek, es, false, ev) _ rfl rfl HR.out) rfl ?_
          exact ⟨by rw [HP.out]; rfl, HBF.out⟩
        | true =>
          have HH := Lib.hid (fun (W : World) (h : Below W4.heap.size W4 W) => HHS.out ek W (HBW.out.trans (h.mono HBW.out.size)))
          clear HHS
          cases hf : bf ek with
          | false =>
            simp only [hf] at HH
            have HP := Lib.hid (show pickL bf l = none from by simp [pickL, HBE.out, hf])
            go_wp2_with fail
            refine wp_region_calmB 18 (by kernel_rfl) (by kernel_rfl) ?_
            simp only [List.take_succ_cons, List.take_zero, List.drop_succ_cons, List.drop_zero]
            refine chain0 ?_
            refine @chain _ _ _ _ _ _ _ _ 30 (.int .i64 (p : Int)) (by rfl) (by rfl) (by exact fun W2 hW => run_mv (by rfl) (by exact eval_base (by kernel_rfl) (by rfl)) hW) ?_
            refine @chain _ _ _ _ _ _ _ _ 31 (.bool false) (by rfl) (by rfl) (by exact fun W2 hW => run_bo (u := .int .i64 (p : Int)) (v := .int .i64 0) (by rfl) (by exact eval_look (by kernel_rfl) (by kernel_rfl)) (by rfl) (fun W => lssN_run _ _ _ _ _ _ _ (by rw [decide_eq_false_iff_not]; omega) W) hW) ?_
            refine @chain _ _ _ _ _ _ _ _ 32 (.bool false) (by rfl) (by rfl) (by exact fun W2 hW => run_mv (by rfl) (by exact eval_look (by kernel_rfl) (by kernel_rfl)) hW) ?_
            refine @chainG _ _ _ _ _ _ _ _ 33 (.slice (some ⟨b2, o2, none⟩) n c) (by kernel_rfl) (by rfl) (by exact fun W2 hW => run_mv (by rfl) (by exact eval_base (by kernel_rfl) (by rfl)) hW) ?_
            refine @chainG _ _ _ _ _ _ _ _ 34 (.int .i64 (p : Int)) (by kernel_rfl) (by rfl) (by exact fun W2 hW => run_mv (by rfl) (by exact eval_base (by kernel_rfl) (by rfl)) hW) ?_
            refine @chainG _ _ _ _ _ _ _ _ 35 (.pointer (some ⟨b2, o2 + p * 4, none⟩)) (by kernel_rfl) (by rfl) (by exact fun W2 hW => run_ia (u := .slice (some ⟨b2, o2, none⟩) n c) (v := .int .i64 (p : Int)) (by rfl) (by exact eval_look (by kernel_rfl) (by kernel_rfl)) (by exact eval_look (by kernel_rfl) (by kernel_rfl)) (fun W => ixE _ _ _ _ _ (by omega) W) hW) ?_
            refine @chainG _ _ _ _ _ _ _ _ 36 (.pointer (some ⟨b2, o2 + p * 4 + 2, none⟩)) (by kernel_rfl) (by rfl) (by exact fun W2 hW => run_fa (p := .pointer (some ⟨b2, o2 + p * 4, none⟩)) (by rfl) (by exact eval_look (by kernel_rfl) (by kernel_rfl)) (fun W => by first | kernel_rfl | go_simp) hW) ?_
            refine @chainG _ _ _ _ _ _ _ _ 37 (.bool true) (by kernel_rfl) (by rfl) (by exact fun W2 hW => run_lw (by rfl) (by exact eval_look (by kernel_rfl) (by kernel_rfl)) (fun W hW => ldBo _ _ _ _ (cell_later hW z2)) hW) ?_
            refine @chainG _ _ _ _ _ _ _ _ 38 (.bool true) (by kernel_rfl) (by rfl) (by exact fun W2 hW => run_mv (by rfl) (by exact eval_look (by kernel_rfl) (by kernel_rfl)) hW) ?_
            refine @chainG _ _ _ _ _ _ _ _ 39 (.agg #[.slice bA n1 bc, .slice bB n2 bd, .bool nt]) (by kernel_rfl) (by rfl) (by exact fun W2 hW => run_lw (by rfl) (by exact eval_base (by kernel_rfl) (by rfl)) (fun W hW => ldBw _ _ _ _ _ (blk_below HK1.out hW)) hW) ?_
            refine @chainG _ _ _ _ _ _ _ _ 40 (.slice (some ⟨b2, o2, none⟩) n c) (by kernel_rfl) (by rfl) (by exact fun W2 hW => run_mv (by rfl) (by exact eval_base (by kernel_rfl) (by rfl)) hW) ?_
            refine @chainG _ _ _ _ _ _ _ _ 41 (.int .i64 (p : Int)) (by kernel_rfl) (by rfl) (by exact fun W2 hW => run_mv (by rfl) (by exact eval_base (by kernel_rfl) (by rfl)) hW) ?_
            refine @chainG _ _ _ _ _ _ _ _ 42 (.pointer (some ⟨b2, o2 + p * 4, none⟩)) (by kernel_rfl) (by rfl) (by exact fun W2 hW => run_ia (u := .slice (some ⟨b2, o2, none⟩) n c) (v := .int .i64 (p : Int)) (by rfl) (by exact eval_look (by kernel_rfl) (by kernel_rfl)) (by exact eval_look (by kernel_rfl) (by kernel_rfl)) (fun W => ixE _ _ _ _ _ (by omega) W) hW) ?_
            refine @chainG _ _ _ _ _ _ _ _ 43 (.pointer (some ⟨b2, o2 + p * 4, none⟩)) (by kernel_rfl) (by rfl) (by exact fun W2 hW => run_fa (p := .pointer (some ⟨b2, o2 + p * 4, none⟩)) (by rfl) (by exact eval_look (by kernel_rfl) (by kernel_rfl)) (fun W => by first | kernel_rfl | go_simp) hW) ?_
            refine @chainG _ _ _ _ _ _ _ _ 44 (.string ek) (by kernel_rfl) (by rfl) (by exact fun W2 hW => run_lw (by rfl) (by exact eval_look (by kernel_rfl) (by kernel_rfl)) (fun W hW => ldStr _ _ _ _ (cell_later hW z0)) hW) ?_
            refine @chainG _ _ _ _ _ _ _ _ 45 (.bool false) (by kernel_rfl) (by rfl) (by exact fun W2 hW => run_call (vs := #[.agg #[.slice bA n1 bc, .slice bB n2 bd, .bool nt], .string ek]) (by rfl) (by kernel_rfl) (enters_of Try.func31 (by kernel_rfl) (by rfl)) (calm_b hW (HH.out W2 hW))) ?_
            refine @chainG _ _ _ _ _ _ _ _ 46 (.bool true) (by kernel_rfl) (by rfl) (by exact fun W2 hW => run_uo (u := .bool false) (by rfl) (by exact eval_look (by kernel_rfl) (by kernel_rfl)) (fun W => by go_simp) hW) ?_
            refine @chainG _ _ _ _ _ _ _ _ 47 (.bool true) (by kernel_rfl) (by rfl) (by exact fun W2 hW => run_pkT (by rfl) (by exact eval_look (by kernel_rfl) (by kernel_rfl)) (by exact eval_look (by kernel_rfl) (by kernel_rfl)) hW) ?_
            refine calm_nil (fun W2 hW2 => ?_)
            refine Eq.mpr (congrArg (fun a => wpList _ _ _ _ a W2) (show _ = (⟨#[Value.slice (some ⟨b2, o2, none⟩) n c, Value.agg #[Value.slice bA n1 bc, Value.slice bB n2 bd, Value.bool nt], undef, Value.pointer (some ⟨w.heap.size, 0, none⟩), Value.pointer (some ⟨w.heap.size + 1, 0, none⟩), Value.bool false, Value.int IntKind.i64 (p : Int), Value.int IntKind.i64 (n : Int), Value.int IntKind.i64 (n : Int), Value.slice (some ⟨b2, o2, none⟩) n c, Value.int IntKind.i64 (n : Int), Value.bool false, u12, u13, u14, u15, u16, u17, u18, u19, u20, u21, u22, u23, u24, u25, u26, u27, u28, u29, Value.int IntKind.i64 (p : Int), Value.bool false, Value.bool false, Value.slice (some ⟨b2, o2, none⟩) n c, Value.int IntKind.i64 (p : Int), Value.pointer (some ⟨b2, o2 + p * 4, none⟩), Value.pointer (some ⟨b2, o2 + p * 4 + 2, none⟩), Value.bool true, Value.bool true, Value.agg #[Value.slice bA n1 bc, Value.slice bB n2 bd, Value.bool nt], Value.slice (some ⟨b2, o2, none⟩) n c, Value.int IntKind.i64 (p : Int), Value.pointer (some ⟨b2, o2 + p * 4, none⟩), Value.pointer (some ⟨b2, o2 + p * 4, none⟩), Value.string ek, Value.bool false, Value.bool true, Value.bool true, undef, undef, undef, undef, undef, undef], []⟩ : Act) by kernel_rfl)) ?_
            have HW2 := Lib.hid hW2
            clear hW2
            obtain ⟨W6, hW6⟩ : ∃ Z, W2 = Z := ⟨_, rfl⟩
            have hbq : Below W4.heap.size W4 W6 := by rw [← hW6]; exact HW2.out
            have hk6 := blk_below HK2.out hbq
            obtain ⟨d0, d1, d2, d3, f0, f1, f2, f3⟩ := four hk6
            have HR := Lib.hid (put4_row hk6 zeroE)
            have HBF := Lib.hid ((HBW.out.trans (hbq.mono HBW.out.size)).trans ((upd_put4 W6 (w.heap.size + 1) zeroE).bel (fun k hk => by omega) (by have := HBW.out.size; have := hbq.size; omega)))
            rw [hW6]
            clear hbq hk6 hW6
            go_wp2_with fail
            refine bodyPost_ret (res_cell_tmp rfl _ _ (w.heap.size + 1) zeroE _ rfl rfl HR.out) rfl ?_
            exact ⟨by rw [HP.out]; rfl, HBF.out⟩
          | true =>
            simp only [hf] at HH
            have HP := Lib.hid (show pickL bf l = some (ek, es, true, ev) from by simp [pickL, HBE.out, hf])
            go_wp2_with fail
            refine wp_region_calmB 18 (by kernel_rfl) (by kernel_rfl) ?_
            simp only [List.take_succ_cons, List.take_zero, List.drop_succ_cons, List.drop_zero]
            refine chain0 ?_
            refine @chain _ _ _ _ _ _ _ _ 30 (.int .i64 (p : Int)) (by rfl) (by rfl) (by exact fun W2 hW => run_mv (by rfl) (by exact eval_base (by kernel_rfl) (by rfl)) hW) ?_
            refine @chain _ _ _ _ _ _ _ _ 31 (.bool false) (by rfl) (by rfl) (by exact fun W2 hW => run_bo (u := .int .i64 (p : Int)) (v := .int .i64 0) (by rfl) (by exact eval_look (by kernel_rfl) (by kernel_rfl)) (by rfl) (fun W => lssN_run _ _ _ _ _ _ _ (by rw [decide_eq_false_iff_not]; omega) W) hW) ?_
            refine @chain _ _ _ _ _ _ _ _ 32 (.bool false) (by rfl) (by rfl) (by exact fun W2 hW => run_mv (by rfl) (by exact eval_look (by kernel_rfl) (by kernel_rfl)) hW) ?_
            refine @chainG _ _ _ _ _ _ _ _ 33 (.slice (some ⟨b2, o2, none⟩) n c) (by kernel_rfl) (by rfl) (by exact fun W2 hW => run_mv (by rfl) (by exact eval_base (by kernel_rfl) (by rfl)) hW) ?_
            refine @chainG _ _ _ _ _ _ _ _ 34 (.int .i64 (p : Int)) (by kernel_rfl) (by rfl) (by exact fun W2 hW => run_mv (by rfl) (by exact eval_base (by kernel_rfl) (by rfl)) hW) ?_
            refine @chainG _ _ _ _ _ _ _ _ 35 (.pointer (some ⟨b2, o2 + p * 4, none⟩)) (by kernel_rfl) (by rfl) (by exact fun W2 hW => run_ia (u := .slice (some ⟨b2, o2, none⟩) n c) (v := .int .i64 (p : Int)) (by rfl) (by exact eval_look (by kernel_rfl) (by kernel_rfl)) (by exact eval_look (by kernel_rfl) (by kernel_rfl)) (fun W => ixE _ _ _ _ _ (by omega) W) hW) ?_
            refine @chainG _ _ _ _ _ _ _ _ 36 (.pointer (some ⟨b2, o2 + p * 4 + 2, none⟩)) (by kernel_rfl) (by rfl) (by exact fun W2 hW => run_fa (p := .pointer (some ⟨b2, o2 + p * 4, none⟩)) (by rfl) (by exact eval_look (by kernel_rfl) (by kernel_rfl)) (fun W => by first | kernel_rfl | go_simp) hW) ?_
            refine @chainG _ _ _ _ _ _ _ _ 37 (.bool true) (by kernel_rfl) (by rfl) (by exact fun W2 hW => run_lw (by rfl) (by exact eval_look (by kernel_rfl) (by kernel_rfl)) (fun W hW => ldBo _ _ _ _ (cell_later hW z2)) hW) ?_
            refine @chainG _ _ _ _ _ _ _ _ 38 (.bool true) (by kernel_rfl) (by rfl) (by exact fun W2 hW => run_mv (by rfl) (by exact eval_look (by kernel_rfl) (by kernel_rfl)) hW) ?_
            refine @chainG _ _ _ _ _ _ _ _ 39 (.agg #[.slice bA n1 bc, .slice bB n2 bd, .bool nt]) (by kernel_rfl) (by rfl) (by exact fun W2 hW => run_lw (by rfl) (by exact eval_base (by kernel_rfl) (by rfl)) (fun W hW => ldBw _ _ _ _ _ (blk_below HK1.out hW)) hW) ?_
            refine @chainG _ _ _ _ _ _ _ _ 40 (.slice (some ⟨b2, o2, none⟩) n c) (by kernel_rfl) (by rfl) (by exact fun W2 hW => run_mv (by rfl) (by exact eval_base (by kernel_rfl) (by rfl)) hW) ?_
            refine @chainG _ _ _ _ _ _ _ _ 41 (.int .i64 (p : Int)) (by kernel_rfl) (by rfl) (by exact fun W2 hW => run_mv (by rfl) (by exact eval_base (by kernel_rfl) (by rfl)) hW) ?_
            refine @chainG _ _ _ _ _ _ _ _ 42 (.pointer (some ⟨b2, o2 + p * 4, none⟩)) (by kernel_rfl) (by rfl) (by exact fun W2 hW => run_ia (u := .slice (some ⟨b2, o2, none⟩) n c) (v := .int .i64 (p : Int)) (by rfl) (by exact eval_look (by kernel_rfl) (by kernel_rfl)) (by exact eval_look (by kernel_rfl) (by kernel_rfl)) (fun W => ixE _ _ _ _ _ (by omega) W) hW) ?_
            refine @chainG _ _ _ _ _ _ _ _ 43 (.pointer (some ⟨b2, o2 + p * 4, none⟩)) (by kernel_rfl) (by rfl) (by exact fun W2 hW => run_fa (p := .pointer (some ⟨b2, o2 + p * 4, none⟩)) (by rfl) (by exact eval_look (by kernel_rfl) (by kernel_rfl)) (fun W => by first | kernel_rfl | go_simp) hW) ?_
            refine @chainG _ _ _ _ _ _ _ _ 44 (.string ek) (by kernel_rfl) (by rfl) (by exact fun W2 hW => run_lw (by rfl) (by exact eval_look (by kernel_rfl) (by kernel_rfl)) (fun W hW => ldStr _ _ _ _ (cell_later hW z0)) hW) ?_
            refine @chainG _ _ _ _ _ _ _ _ 45 (.bool true) (by kernel_rfl) (by rfl) (by exact fun W2 hW => run_call (vs := #[.agg #[.slice bA n1 bc, .slice bB n2 bd, .bool nt], .string ek]) (by rfl) (by kernel_rfl) (enters_of Try.func31 (by kernel_rfl) (by rfl)) (calm_b hW (HH.out W2 hW))) ?_
            refine @chainG _ _ _ _ _ _ _ _ 46 (.bool false) (by kernel_rfl) (by rfl) (by exact fun W2 hW => run_uo (u := .bool true) (by rfl) (by exact eval_look (by kernel_rfl) (by kernel_rfl)) (fun W => by go_simp) hW) ?_
            refine @chainG _ _ _ _ _ _ _ _ 47 (.bool false) (by kernel_rfl) (by rfl) (by exact fun W2 hW => run_pkT (by rfl) (by exact eval_look (by kernel_rfl) (by kernel_rfl)) (by exact eval_look (by kernel_rfl) (by kernel_rfl)) hW) ?_
            refine calm_nil (fun W2 hW2 => ?_)
            refine Eq.mpr (congrArg (fun a => wpList _ _ _ _ a W2) (show _ = (⟨#[Value.slice (some ⟨b2, o2, none⟩) n c, Value.agg #[Value.slice bA n1 bc, Value.slice bB n2 bd, Value.bool nt], undef, Value.pointer (some ⟨w.heap.size, 0, none⟩), Value.pointer (some ⟨w.heap.size + 1, 0, none⟩), Value.bool false, Value.int IntKind.i64 (p : Int), Value.int IntKind.i64 (n : Int), Value.int IntKind.i64 (n : Int), Value.slice (some ⟨b2, o2, none⟩) n c, Value.int IntKind.i64 (n : Int), Value.bool false, u12, u13, u14, u15, u16, u17, u18, u19, u20, u21, u22, u23, u24, u25, u26, u27, u28, u29, Value.int IntKind.i64 (p : Int), Value.bool false, Value.bool false, Value.slice (some ⟨b2, o2, none⟩) n c, Value.int IntKind.i64 (p : Int), Value.pointer (some ⟨b2, o2 + p * 4, none⟩), Value.pointer (some ⟨b2, o2 + p * 4 + 2, none⟩), Value.bool true, Value.bool true, Value.agg #[Value.slice bA n1 bc, Value.slice bB n2 bd, Value.bool nt], Value.slice (some ⟨b2, o2, none⟩) n c, Value.int IntKind.i64 (p : Int), Value.pointer (some ⟨b2, o2 + p * 4, none⟩), Value.pointer (some ⟨b2, o2 + p * 4, none⟩), Value.string ek, Value.bool true, Value.bool false, Value.bool false, undef, undef, undef, undef, undef, undef], []⟩ : Act) by kernel_rfl)) ?_
            have HW2 := Lib.hid hW2
            clear hW2
            obtain ⟨W6, hW6⟩ : ∃ Z, W2 = Z := ⟨_, rfl⟩
            have hbq : Below W4.heap.size W4 W6 := by rw [← hW6]; exact HW2.out
            have hk6 := blk_below HK2.out hbq
            obtain ⟨d0, d1, d2, d3, f0, f1, f2, f3⟩ := four hk6
            have HR := Lib.hid (put4_row hk6 (ek, es, true, ev))
            have HBF := Lib.hid ((HBW.out.trans (hbq.mono HBW.out.size)).trans ((upd_put4 W6 (w.heap.size + 1) (ek, es, true, ev)).bel (fun k hk => by omega) (by have := HBW.out.size; have := hbq.size; omega)))
            have x0 := cell_later hbq z0
            have x1 := cell_later hbq z1
            have x2 := cell_later hbq z2
            have x3 := cell_later hbq z3
            rw [hW6]
            clear hbq hk6 hW6
            go_wp2_with fail
            refine bodyPost_ret (res_cell_tmp rfl _ _ (w.heap.size + 1) (ek, es, true, ev) _ rfl rfl HR.out) rfl ?_
            exact ⟨by rw [HP.out]; rfl, HBF.out⟩
end Go.Proofs.Ytdpijhpjicbecaa.H
