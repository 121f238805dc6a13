/- SkipSeek, walked. Conditions: sizes (printed by gensk20.py). -/
import Derived.Test.YtjbbobhjomhnmaaSk18
import Derived.Test.YtjbbobhjomhnmaaSk19
namespace Go.Proofs.Ytjbbobhjomhnmaa.H
open Go Go.RowKit Go.Deep Go.Shelf Go.Proofs Go.Proofs.YtjbbobhjomhnmaaW.PrintWords
set_option linter.unusedVariables false
set_option linter.unusedSimpArgs false
theorem cmpN_run (k : IntKind) (t : TypeId) (x y : Operand) (a b : Int) (r : Bool) (h : decide (a ≤ b) = r) (W : World) : (do eqGuard .leq t x y (.int k a) (.int k b); binOp .leq t (.int k a) (.int k b) : Sem Value).run Try.prog W = .ok (.bool r) W := by
  subst h
  go_simp
theorem gtrN_run (k : IntKind) (t : TypeId) (x y : Operand) (a b : Int) (r : Bool) (h : decide (b < a) = r) (W : World) : (do eqGuard .gtr t x y (.int k a) (.int k b); binOp .gtr t (.int k a) (.int k b) : Sem Value).run Try.prog W = .ok (.bool r) W := by
  subst h
  go_simp
theorem neB_run (x y : Operand) (a b r : Bool) (h : (a != b) = r) (W : World) : (do eqGuard .neq 4 x y (.bool a) (.bool b); binOp .neq 4 (.bool a) (.bool b) : Sem Value).run Try.prog W = .ok (.bool r) W := by
  subst h
  cases a <;> cases b <;> go_simp
theorem neEnt_run (x y : Operand) (a b : Ent) (r : Bool) (h : (!decide (a = b)) = r) (W : World) : (do eqGuard .neq 53 x y (.agg (encE a).toArray) (.agg (encE b).toArray); binOp .neq 53 (.agg (encE a).toArray) (.agg (encE b).toArray) : Sem Value).run Try.prog W = .ok (.bool r) W := by
  subst h
  have hd : (a = b) = _ := propext (ent_eq a b)
  simp only [hd]
  unfold encE
  go_simp
  (repeat' split) <;> simp_all
theorem run_b0 {P : Program} {w W : World} {a : Act} {o : Oper} {t : TypeId} {r : Value} (ho : o.op = .build t #[]) (hf : ∀ W, (Instr.build t #[]).run P W = .ok r W) (hW : Below w.heap.size w W) : CalmRes P w r ((execOp a.eval o).run P W) := by
  simp only [execOp, ho, List.map_toArray, List.map_nil, Sem.run_bind, Sem.run_pure, hf, Result.andThen_ok]
  exact ⟨rfl, hW⟩
theorem zeroE_run (W : World) : (Instr.build 53 #[]).run Try.prog W = .ok (.agg (encE zeroE).toArray) W := by
  unfold encE zeroE
  go_simp
theorem idx0_run (b o m c : Nat) (h : 0 < m) (W : World) : (Instr.indexAt 64 (.slice (some ⟨b, o, none⟩) m c) (.int .i64 0)).run Try.prog W = .ok (.pointer (some ⟨b, o, none⟩)) W := by
  have := idx_run b o m c 0 h W
  simpa using this
set_option maxHeartbeats 6400000 in
set_option maxRecDepth 100000 in
theorem skipSeek_c (A : Option Addr) (c : Nat) (draws : List Int) (B : Option Addr) (d : Nat) (l : List Ent) (k : ByteArray) (q : Int) (w : World) (ha : Sl encB 1 w A draws) (hal : draws.length < 140737488351233) (hby : ∀ x ∈ draws, U8 x) (hb : Sl encE 4 w B l) (hbl : l.length < 2932031007319) :
    Calls Try.prog 6 #[.slice A draws.length c, .slice B l.length d, .string k, .int .u64 q] w fun e w' => e = .returned (.bool true) ∧ Below w.heap.size w w' := by
  have HK := Lib.hid (known5_c w)
  have HMADE := Lib.hid (fun (w1 : World) (hb1 : Below w.heap.size w w1) => made_c A c draws B d l w1 (ha.later hb1) hal hby (hb.later hb1) hbl)
  obtain ⟨lens1, lens2, lens3⟩ := made_lens draws l
  have HPERM := Lib.hid (made_ok draws l).perm
  have HSRT := Lib.hid (made_sorted draws l)
  clear ha hby hb
  obtain ⟨M, hM⟩ : ∃ M, madeF draws l = M := ⟨_, rfl⟩
  rw [hM] at HMADE lens1 lens2 lens3 HPERM HSRT
  clear hM
  obtain ⟨L, ins⟩ := M
  simp only at HMADE lens1 lens2 lens3 HPERM HSRT
  obtain ⟨nd, hnd⟩ : ∃ n, draws.length = n := ⟨_, rfl⟩
  obtain ⟨n, hn⟩ : ∃ n, l.length = n := ⟨_, rfl⟩
  obtain ⟨m, hm⟩ : ∃ m, ins.length = m := ⟨_, rfl⟩
  rw [hnd] at HMADE hal ⊢
  rw [hn] at HMADE hbl lens3 ⊢
  rw [hm] at lens1 lens2 lens3
  have HMM := Lib.hid hm
  have HL1 := Lib.hid lens1
  have HL2 := Lib.hid lens2
  have HCNT := Lib.hid (count_notAhead (k := k) (q := q) HPERM.out)
  have HBEST := Lib.hid (best_seek (k := k) (q := q) HPERM.out HSRT.out)
  have HPS := Lib.hid (notAhead_sorted (k := k) (q := q) HSRT.out)
  have HPM := Lib.hid (fun e (he : e ∈ notAhead k q (allE L)) => notAhead_mem he)
  have hpl : (notAhead k q (allE L)).length ≤ m := by rw [← lens1]; exact List.length_filter_le _ _
  clear hn hm hnd lens1 lens2
  go_enter Try.func6, Try.ntmps6
  go_wp2_with fail
  refine HK.out.mono ?_
  rintro e w1 ⟨rfl, hb1⟩
  have HM1 := Lib.hid (HMADE.out w1 hb1)
  go_wp2_with fail
  refine HM1.out.mono ?_
  rintro e w2 ⟨g, S, v, rfl, hS, hsk, hown, hb2⟩
  have hb2' := hb1.trans (hb2.mono hb1.size)
  obtain ⟨A2, c2, hv, _, hins, _⟩ := hown.slice (fun _ => rfl)
  subst hv
  rw [HMM.out]
  obtain ⟨X, hX⟩ : ∃ Z, w2.alloc (.cells #[.string ⟨#[]⟩, .int .u64 0, .bool false, .string ⟨#[]⟩] 53) = Z := ⟨_, rfl⟩
  have rX : X.heap[w2.heap.size]? = some (.cells #[.string ⟨#[]⟩, .int .u64 0, .bool false, .string ⟨#[]⟩] 53 (0, 0)) := by rw [← hX]; exact heap_alloc_new _ _
  obtain ⟨⟨y0, y1, y2, y3⟩, g0, g1, g2, g3⟩ := cells4 rX
  obtain ⟨Xa, hXa⟩ : ∃ Z4, (((X.setCell ⟨w2.heap.size, 0, none⟩ (.string k)).setCell ⟨w2.heap.size, 1, none⟩ (.int .u64 q)).setCell ⟨w2.heap.size, 2, none⟩ (.bool false)).setCell ⟨w2.heap.size, 3, none⟩ (.string ⟨#[]⟩) = Z4 := ⟨_, rfl⟩
  have qX : Xa.heap[w2.heap.size]? = some (.cells #[.string k, .int .u64 q, .bool false, .string ⟨#[]⟩] 53 (0, 0)) := by rw [← hXa]; exact put4_heap rX
  have bX : Below w2.heap.size w2 Xa := by
    rw [← hXa, ← hX]
    exact ((Below.refl _ _).alloc (Nat.le_refl _) _).trans ((put4_upd (S := fun k => k = w2.heap.size) _ _ _ _ _ rfl).bel (fun k hk => by omega) (by simp))
  have BX := Lib.hid bX
  have QX := Lib.hid qX
  clear bX qX rX
  have HFROM := Lib.hid (from_L g S draws L k q w2 Xa hsk BX.out)
  obtain ⟨P, hP⟩ : ∃ P, notAhead k q (allE L) = P := ⟨_, rfl⟩
  obtain ⟨eh, heh⟩ : ∃ e, P.headD zeroE = e := ⟨_, rfl⟩
  obtain ⟨is, his⟩ : ∃ b, (!P.isEmpty) = b := ⟨_, rfl⟩
  have HSEEK := Lib.hid (fun (w4 : World) (h4 : Below w2.heap.size w2 w4) => show Calls Try.prog 29 #[.pointer (some ⟨g, 0, none⟩), .string k, .int .u64 q] w4 fun e w' => e = .returned (.tuple #[.agg #[.string eh.1, .int .u64 eh.2.1, .bool eh.2.2.1, .string eh.2.2.2], .bool is]) ∧ Below w4.heap.size w4 w' from by
    have := seek_L g S draws L k q w4 (hsk.later h4)
    rw [hP, heh, his] at this
    exact this)
  obtain ⟨np, hnp⟩ : ∃ n, P.length = n := ⟨_, rfl⟩
  have HNP := Lib.hid hnp
  have HEH := Lib.hid heh
  have HIS := Lib.hid his
  clear heh his
  rw [hP] at HFROM HCNT HPS HPM HBEST hpl
  rw [hnp] at HCNT hpl
  clear hP hnp
  go_wp2_with fail
  refine HFROM.out.mono ?_
  rintro e w3 ⟨f, rfl, hit, hb3⟩
  have hx3 := BX.out.trans (hb3.mono BX.out.size)
  have HTAKEN := Lib.hid (taken_c f (-1) w2.heap.size _ w3 hit hx3.size (by rw [HNP.out]; omega))
  rw [show takeN (-1) P = P from takeN_all (.inl (by decide))] at HTAKEN
  go_wp2_with fail
  refine HTAKEN.out.mono ?_
  rintro e w4 ⟨v4, rfl, hown4, hb4⟩
  have hx4 := hx3.trans (hb4.mono hx3.size)
  obtain ⟨A4, c4, hv, _, hall, _⟩ := hown4.slice (fun _ => rfl)
  subst hv
  rw [HNP.out]
  have HSK4 := Lib.hid (HSEEK.out w4 hx4)
  go_wp2_with fail
  refine HSK4.out.mono ?_
  rintro e w5 ⟨rfl, hb5⟩
  obtain ⟨Y, hY⟩ : ∃ Z, w5.alloc (.cells #[.string ⟨#[]⟩, .int .u64 0, .bool false, .string ⟨#[]⟩] 53) = Z := ⟨_, rfl⟩
  have rY : Y.heap[w5.heap.size]? = some (.cells #[.string ⟨#[]⟩, .int .u64 0, .bool false, .string ⟨#[]⟩] 53 (0, 0)) := by rw [← hY]; exact heap_alloc_new _ _
  obtain ⟨⟨y0, y1, y2, y3⟩, g0, g1, g2, g3⟩ := cells4 rY
  obtain ⟨Ya, hYa⟩ : ∃ Z4, (((Y.setCell ⟨w5.heap.size, 0, none⟩ (.string eh.1)).setCell ⟨w5.heap.size, 1, none⟩ (.int .u64 eh.2.1)).setCell ⟨w5.heap.size, 2, none⟩ (.bool eh.2.2.1)).setCell ⟨w5.heap.size, 3, none⟩ (.string eh.2.2.2) = Z4 := ⟨_, rfl⟩
  have qY : Ya.heap[w5.heap.size]? = some (.cells #[.string eh.1, .int .u64 eh.2.1, .bool eh.2.2.1, .string eh.2.2.2] 53 (0, 0)) := by rw [← hYa]; exact put4_heap rY
  have bY : Below w5.heap.size w5 Ya := by
    rw [← hYa, ← hY]
    exact ((Below.refl _ _).alloc (Nat.le_refl _) _).trans ((put4_upd (S := fun k => k = w5.heap.size) _ _ _ _ _ rfl).bel (fun k hk => by omega) (by simp))
  have BY := Lib.hid bY
  have QY := Lib.hid qY
  clear bY qY rY
  have hx5 := hx4.trans (hb5.mono hx4.size)
  have hY5 := hb5.trans (BY.out.mono hb5.size)
  have HB5 := Lib.hid ((hb2'.trans (hx5.mono hb2'.size)).trans (BY.out.mono (hb2'.trans (hx5.mono hb2'.size)).size))
  have HINS := Lib.hid (((hins.later hx5).later BY.out))
  have HAE := Lib.hid (hall.later hY5)
  have HRX := Lib.hid (blk_below (blk_below (blk_below (blk_below QX.out hb3) hb4) hb5) BY.out)
  have HLX := Lib.hid (show w2.heap.size < w5.heap.size from Nat.lt_of_lt_of_le (blk_lt QX.out) (Nat.le_trans hb3.size (Nat.le_trans hb4.size hb5.size)))
  have HRY := Lib.hid QY.out
  clear hins hall hown hown4 hit hsk hb1 hb2 hb2' hb3 hb4 hb5 hx3 hx4 hx5 hY5 HSK4 HTAKEN HFROM HSEEK HM1 HMADE HK hS BX BY QX QY

  cases P with
  | nil =>
    have his : is = false := HIS.out.symm
    have heh : zeroE = eh := HEH.out
    have hnp : 0 = np := HNP.out
    subst his; subst heh; subst hnp
    go_wp2_with fail
    refine wp_region_calmB 27 (by kernel_rfl) (by kernel_rfl) ?_
    simp only [List.take_succ_cons, List.take_zero, List.drop_succ_cons, List.drop_zero]
    refine chain0 ?_
    refine @chain _ _ _ _ _ _ _ _ 50 (.bool true) (by rfl) (by rfl) (by exact fun W2 hW => run_mv (by rfl) (by exact eval_base (by kernel_rfl) (by rfl)) hW) ?_
    refine @chain _ _ _ _ _ _ _ _ 51 (.bool false) (by rfl) (by rfl) (by exact fun W2 hW => run_uo (u := .bool true) (by rfl) (by exact eval_look (by kernel_rfl) (by kernel_rfl)) (fun W => by go_simp) hW) ?_
    refine @chain _ _ _ _ _ _ _ _ 52 (.bool false) (by rfl) (by rfl) (by exact fun W2 hW => run_mv (by rfl) (by exact eval_look (by kernel_rfl) (by kernel_rfl)) hW) ?_
    refine @chainG _ _ _ _ _ _ _ _ 53 (.bool false) (by kernel_rfl) (by rfl) (by exact fun W2 hW => run_mv (by rfl) (by exact eval_base (by kernel_rfl) (by rfl)) hW) ?_
    refine @chainG _ _ _ _ _ _ _ _ 54 (.slice A4 0 c4) (by kernel_rfl) (by rfl) (by exact fun W2 hW => run_mv (by rfl) (by exact eval_base (by kernel_rfl) (by rfl)) hW) ?_
    refine @chainG _ _ _ _ _ _ _ _ 55 (.int .i64 0) (by kernel_rfl) (by rfl) (by exact fun W2 hW => run_ln (u := .slice A4 0 c4) (by rfl) (by exact eval_look (by kernel_rfl) (by kernel_rfl)) (fun W => by go_simp) hW) ?_
    refine @chainG _ _ _ _ _ _ _ _ 56 (.bool false) (by kernel_rfl) (by rfl) (by exact fun W2 hW => run_bo (u := .int .i64 0) (v := .int .i64 0) (by rfl) (by exact eval_look (by kernel_rfl) (by kernel_rfl)) (by rfl) (fun W => by go_simp) hW) ?_
    refine @chainG _ _ _ _ _ _ _ _ 57 (.bool false) (by kernel_rfl) (by rfl) (by exact fun W2 hW => run_bo (u := .bool false) (v := .bool false) (by rfl) (by exact eval_look (by kernel_rfl) (by kernel_rfl)) (by exact eval_look (by kernel_rfl) (by kernel_rfl)) (fun W => neB_run _ _ _ _ _ rfl W) hW) ?_
    refine @chain _ _ _ _ _ _ _ _ 58 (.bool false) (by rfl) (by rfl) (by exact fun W2 hW => run_pkF (by rfl) (by exact eval_look (by kernel_rfl) (by kernel_rfl)) (by exact eval_look (by kernel_rfl) (by kernel_rfl)) hW) ?_
    refine @chain _ _ _ _ _ _ _ _ 59 (.bool false) (by rfl) (by rfl) (by exact fun W2 hW => run_mv (by rfl) (by exact eval_look (by kernel_rfl) (by kernel_rfl)) hW) ?_
    refine @chainG _ _ _ _ _ _ _ _ 60 (.bool false) (by kernel_rfl) (by rfl) (by exact fun W2 hW => run_mv (by rfl) (by exact eval_base (by kernel_rfl) (by rfl)) hW) ?_
    refine @chainG _ _ _ _ _ _ _ _ 61 (.bool false) (by kernel_rfl) (by rfl) (by exact fun W2 hW => run_mv (by rfl) (by exact eval_look (by kernel_rfl) (by kernel_rfl)) hW) ?_
    refine @chainK _ _ _ _ _ _ _ _ 62 (by kernel_rfl) (by rfl) ?_
    refine @chainK _ _ _ _ _ _ _ _ 63 (by kernel_rfl) (by rfl) ?_
    refine @chainK _ _ _ _ _ _ _ _ 64 (by kernel_rfl) (by rfl) ?_
    refine @chainK _ _ _ _ _ _ _ _ 65 (by kernel_rfl) (by rfl) ?_
    refine @chainK _ _ _ _ _ _ _ _ 66 (by kernel_rfl) (by rfl) ?_
    refine @chainG _ _ _ _ _ _ _ _ 67 (.bool false) (by kernel_rfl) (by rfl) (by exact fun W2 hW => run_pkF (by rfl) (by exact eval_look (by kernel_rfl) (by kernel_rfl)) (by rfl) hW) ?_
    refine @chain _ _ _ _ _ _ _ _ 68 (.bool false) (by rfl) (by rfl) (by exact fun W2 hW => run_pkF (by rfl) (by exact eval_look (by kernel_rfl) (by kernel_rfl)) (by exact eval_look (by kernel_rfl) (by kernel_rfl)) hW) ?_
    refine @chain _ _ _ _ _ _ _ _ 69 (.bool false) (by rfl) (by rfl) (by exact fun W2 hW => run_mv (by rfl) (by exact eval_look (by kernel_rfl) (by kernel_rfl)) hW) ?_
    refine @chainG _ _ _ _ _ _ _ _ 70 (.bool false) (by kernel_rfl) (by rfl) (by exact fun W2 hW => run_mv (by rfl) (by exact eval_base (by kernel_rfl) (by rfl)) hW) ?_
    refine @chainG _ _ _ _ _ _ _ _ 71 (.bool true) (by kernel_rfl) (by rfl) (by exact fun W2 hW => run_uo (u := .bool false) (by rfl) (by exact eval_look (by kernel_rfl) (by kernel_rfl)) (fun W => by go_simp) hW) ?_
    refine @chainG _ _ _ _ _ _ _ _ 72 (.bool true) (by kernel_rfl) (by rfl) (by exact fun W2 hW => run_mv (by rfl) (by exact eval_look (by kernel_rfl) (by kernel_rfl)) hW) ?_
    refine @chainG _ _ _ _ _ _ _ _ 73 (.agg (encE zeroE).toArray) (by kernel_rfl) (by rfl) (by exact fun W2 hW => run_lw (by rfl) (by exact eval_base (by kernel_rfl) (by rfl)) (fun W hW => ldEnt _ _ _ (fun i v hv => cell_later hW (boxEnt HRY.out i v hv))) hW) ?_
    refine @chainG _ _ _ _ _ _ _ _ 74 (.agg (encE zeroE).toArray) (by kernel_rfl) (by rfl) (by exact fun W2 hW => run_b0 (by rfl) (fun W => zeroE_run W) hW) ?_
    refine @chainG _ _ _ _ _ _ _ _ 75 (.bool false) (by kernel_rfl) (by rfl) (by exact fun W2 hW => run_bo (u := .agg (encE zeroE).toArray) (v := .agg (encE zeroE).toArray) (by rfl) (by exact eval_look (by kernel_rfl) (by kernel_rfl)) (by exact eval_look (by kernel_rfl) (by kernel_rfl)) (fun W => neEnt_run _ _ _ _ _ (by simp) W) hW) ?_
    refine @chainG _ _ _ _ _ _ _ _ 76 (.bool false) (by kernel_rfl) (by rfl) (by exact fun W2 hW => run_pkT (by rfl) (by exact eval_look (by kernel_rfl) (by kernel_rfl)) (by exact eval_look (by kernel_rfl) (by kernel_rfl)) hW) ?_
    refine calm_nil (fun W2 hW2 => ?_)
    refine Eq.mpr (congrArg (fun a => wpList _ _ _ _ a W2) (show _ = (⟨#[Value.slice A nd c, Value.slice B n d, Value.string k, Value.int IntKind.u64 q, undef, undef, undef, undef, Value.bool false, Value.pointer (some ⟨g, 0, none⟩), Value.slice A2 m c2, Value.pointer (some ⟨w2.heap.size, 0, none⟩), Value.slice A4 0 c4, Value.bool true, Value.pointer (some ⟨w5.heap.size, 0, none⟩), Value.bool false, undef, undef, undef, undef, undef, undef, Value.bool true, Value.bool false, Value.tuple #[Value.pointer (some ⟨g, 0, none⟩), Value.slice A2 m c2], Value.slice A nd c, Value.slice B n d, Value.tuple #[Value.pointer (some ⟨g, 0, none⟩), Value.slice A2 m c2], Value.pointer (some ⟨g, 0, none⟩), Value.slice A2 m c2, Value.pointer (some ⟨g, 0, none⟩), Value.bool false, Value.string k, Value.int IntKind.u64 q, Value.agg #[Value.string k, Value.int IntKind.u64 q, Value.bool false, Value.string ⟨#[]⟩], Value.tuple #[Value.slice A4 0 c4, Value.bool true], Value.pointer (some ⟨g, 0, none⟩), Value.string k, Value.int IntKind.u64 q, f, Value.tuple #[Value.slice A4 0 c4, Value.bool true], Value.slice A4 0 c4, Value.bool true, Value.tuple #[Value.agg #[Value.string zeroE.fst, Value.int IntKind.u64 zeroE.snd.fst, Value.bool zeroE.snd.snd.fst, Value.string zeroE.snd.snd.snd], Value.bool false], Value.pointer (some ⟨g, 0, none⟩), Value.string k, Value.int IntKind.u64 q, Value.tuple #[Value.agg #[Value.string zeroE.fst, Value.int IntKind.u64 zeroE.snd.fst, Value.bool zeroE.snd.snd.fst, Value.string zeroE.snd.snd.snd], Value.bool false], Value.agg #[Value.string zeroE.fst, Value.int IntKind.u64 zeroE.snd.fst, Value.bool zeroE.snd.snd.fst, Value.string zeroE.snd.snd.snd], Value.bool false, Value.bool true, Value.bool false, Value.bool false, Value.bool false, Value.slice A4 0 c4, Value.int IntKind.i64 0, Value.bool false, Value.bool false, Value.bool false, Value.bool false, Value.bool false, Value.bool false, undef, undef, undef, undef, undef, Value.bool false, Value.bool false, Value.bool false, Value.bool false, Value.bool true, Value.bool true, Value.agg (encE zeroE).toArray, Value.agg (encE zeroE).toArray, Value.bool false, Value.bool false, undef, undef, undef, undef, undef, undef, undef, undef, undef, undef, undef, undef, undef, undef, undef, undef, undef, undef, undef, undef, undef, undef, undef, undef, undef, undef, undef, undef, undef, undef, undef, undef, undef, undef, undef, undef, undef, undef, undef, undef, undef, undef, undef, undef, undef, undef, undef, undef, undef, undef, undef, undef, undef, undef, undef, undef, undef, undef, undef, undef, undef, undef, undef, undef, undef, undef, undef, undef, undef, undef, undef, undef, undef, undef, undef, undef, undef, undef, undef, undef, undef, undef, undef, undef, undef, undef, undef, undef, undef, undef, undef, undef, undef, undef, undef, undef, undef, undef, undef, undef, undef, undef, undef, undef, undef, undef, undef, undef], []⟩ : Act) by kernel_rfl)) ?_
    have HW2 := Lib.hid hW2
    clear hW2
    go_wp2_with fail

    go_loopw [16, 17] (fun s16 s17 wr => ∃ j : Nat, s17 = .int .i64 j ∧ j ≤ m ∧ s16 = .int .i64 ((ins.take j).countP (fun e => !decide (ltE e (atE k q))) : Nat) ∧ Below Ya.heap.size Ya wr) (fun s16 s17 wr => m - (intOf s17).toNat)
    case atStart => exact ⟨0, rfl, by omega, by simp, HW2.out⟩
    case round =>
      obtain ⟨j, rfl, hj, rfl, hbj⟩ := hrel
      generalize wr = wj at *
      have HBJ := Lib.hid hbj
      have hcj : (ins.take j).countP (fun e => !decide (ltE e (atE k q))) ≤ j := Nat.le_trans List.countP_le_length (by rw [List.length_take]; omega)
      obtain ⟨cj, hcj2⟩ : ∃ cj, (ins.take j).countP (fun e => !decide (ltE e (atE k q))) = cj := ⟨_, rfl⟩
      rw [hcj2] at hcj ⊢
      have HCJ := Lib.hid hcj2
      clear hcj2 hbj
      by_cases hjm : j < m
      · skip
        obtain ⟨z, hz⟩ := getElem?_of_lt (l := ins) (by rw [HMM.out]; exact hjm : j < ins.length)
        have HZ := Lib.hid hz
        obtain ⟨bz, oz, zA, zlt, zc⟩ := HINS.out.at hz
        subst zA
        have HZC := Lib.hid (fun i v hv => (HBJ.out.cell (p := ⟨bz, oz + j * 4 + i, none⟩) zlt).trans (zc i v hv))
        clear hz zlt zc
        have HXB := Lib.hid (fun i v hv => cell_later HBJ.out (boxEnt (e := atE k q) HRX.out i v hv))
        cases hdz : decide (ltE z (atE k q)) with
        | true =>
          have HD := Lib.hid (show ¬ (!decide (ltE z (atE k q))) = true by rw [hdz]; decide)
          go_wp2_with fail
          refine wp_region_calmB 6 (by kernel_rfl) (by kernel_rfl) ?_
          simp only [List.take_succ_cons, List.take_zero, List.drop_succ_cons, List.drop_zero]
          refine chain0 ?_
          refine @chain _ _ _ _ _ _ _ _ 84 (.slice (some ⟨bz, oz, none⟩) m c2) (by rfl) (by rfl) (by exact fun W2 hW => run_mv (by rfl) (by exact eval_base (by kernel_rfl) (by rfl)) hW) ?_
          refine @chain _ _ _ _ _ _ _ _ 85 (.int .i64 (j : Int)) (by rfl) (by rfl) (by exact fun W2 hW => run_mv (by rfl) (by exact eval_base (by kernel_rfl) (by rfl)) hW) ?_
          refine @chain _ _ _ _ _ _ _ _ 86 (.pointer (some ⟨bz, oz + j * 4, none⟩)) (by rfl) (by rfl) (by exact fun W2 hW => run_ia (u := .slice (some ⟨bz, oz, none⟩) m c2) (v := .int .i64 (j : Int)) (by rfl) (by exact eval_look (by kernel_rfl) (by kernel_rfl)) (by exact eval_look (by kernel_rfl) (by kernel_rfl)) (fun W => idx_run _ _ _ _ _ (by omega) W) hW) ?_
          refine @chain _ _ _ _ _ _ _ _ 87 (.agg (encE z).toArray) (by rfl) (by rfl) (by exact fun W2 hW => run_lw (by rfl) (by exact eval_look (by kernel_rfl) (by kernel_rfl)) (fun W hW => ldEntO _ _ _ _ (fun i v hv => cell_later hW (HZC.out i v hv))) hW) ?_
          refine @chain _ _ _ _ _ _ _ _ 88 (.agg (encE (atE k q)).toArray) (by rfl) (by rfl) (by exact fun W2 hW => run_lw (by rfl) (by exact eval_base (by kernel_rfl) (by rfl)) (fun W hW => ldEnt _ _ _ (fun i v hv => cell_later hW (HXB.out i v hv))) hW) ?_
          refine @chain _ _ _ _ _ _ _ _ 89 (.bool true) (by rfl) (by rfl) (by exact fun W2 hW => run_call (vs := #[.agg (encE z).toArray, .agg (encE (atE k q)).toArray]) (by rfl) (by kernel_rfl) (enters_of Try.func25 (by kernel_rfl) (by rfl)) (calm_b hW (ahead5_t hdz W2))) ?_
          refine calm_nil (fun W2 hW2 => ?_)
          refine Eq.mpr (congrArg (fun a => wpList _ _ _ _ a W2) (show _ = (⟨#[Value.slice A nd c, Value.slice B n d, Value.string k, Value.int IntKind.u64 q, undef, undef, undef, undef, Value.bool false, Value.pointer (some ⟨g, 0, none⟩), Value.slice (some ⟨bz, oz, none⟩) m c2, Value.pointer (some ⟨w2.heap.size, 0, none⟩), Value.slice A4 0 c4, Value.bool true, Value.pointer (some ⟨w5.heap.size, 0, none⟩), Value.bool false, Value.int IntKind.i64 (cj : Int), Value.int IntKind.i64 (j : Int), undef, undef, undef, undef, Value.bool true, Value.bool false, Value.tuple #[Value.pointer (some ⟨g, 0, none⟩), Value.slice (some ⟨bz, oz, none⟩) m c2], Value.slice A nd c, Value.slice B n d, Value.tuple #[Value.pointer (some ⟨g, 0, none⟩), Value.slice (some ⟨bz, oz, none⟩) m c2], Value.pointer (some ⟨g, 0, none⟩), Value.slice (some ⟨bz, oz, none⟩) m c2, Value.pointer (some ⟨g, 0, none⟩), Value.bool false, Value.string k, Value.int IntKind.u64 q, Value.agg #[Value.string k, Value.int IntKind.u64 q, Value.bool false, Value.string ⟨#[]⟩], Value.tuple #[Value.slice A4 0 c4, Value.bool true], Value.pointer (some ⟨g, 0, none⟩), Value.string k, Value.int IntKind.u64 q, f, Value.tuple #[Value.slice A4 0 c4, Value.bool true], Value.slice A4 0 c4, Value.bool true, Value.tuple #[Value.agg #[Value.string zeroE.fst, Value.int IntKind.u64 zeroE.snd.fst, Value.bool zeroE.snd.snd.fst, Value.string zeroE.snd.snd.snd], Value.bool false], Value.pointer (some ⟨g, 0, none⟩), Value.string k, Value.int IntKind.u64 q, Value.tuple #[Value.agg #[Value.string zeroE.fst, Value.int IntKind.u64 zeroE.snd.fst, Value.bool zeroE.snd.snd.fst, Value.string zeroE.snd.snd.snd], Value.bool false], Value.agg #[Value.string zeroE.fst, Value.int IntKind.u64 zeroE.snd.fst, Value.bool zeroE.snd.snd.fst, Value.string zeroE.snd.snd.snd], Value.bool false, Value.bool true, Value.bool false, Value.bool false, Value.bool false, Value.slice A4 0 c4, Value.int IntKind.i64 0, Value.bool false, Value.bool false, Value.bool false, Value.bool false, Value.bool false, Value.bool false, undef, undef, undef, undef, undef, Value.bool false, Value.bool false, Value.bool false, Value.bool false, Value.bool true, Value.bool true, Value.agg (encE zeroE).toArray, Value.agg (encE zeroE).toArray, Value.bool false, Value.bool false, Value.bool false, Value.int IntKind.i64 (j : Int), Value.slice (some ⟨bz, oz, none⟩) m c2, Value.int IntKind.i64 (m : Int), Value.bool true, u82, u83, Value.slice (some ⟨bz, oz, none⟩) m c2, Value.int IntKind.i64 (j : Int), Value.pointer (some ⟨bz, oz + j * 4, none⟩), Value.agg (encE z).toArray, Value.agg (encE (atE k q)).toArray, Value.bool true, u90, u91, u92, undef, undef, undef, undef, undef, undef, undef, undef, undef, undef, undef, undef, undef, undef, undef, undef, undef, undef, undef, undef, undef, undef, undef, undef, undef, undef, undef, undef, undef, undef, undef, undef, undef, undef, undef, undef, undef, undef, undef, undef, undef, undef, undef, undef, undef, undef, undef, undef, undef, undef, undef, undef, undef, undef, undef, undef, undef, undef, undef, undef, undef, undef, undef, undef, undef, undef, undef, undef, undef, undef, undef, undef, undef, undef, undef, undef, undef, undef, undef, undef, undef, undef, undef, undef, undef, undef, undef, undef, undef, undef, undef, undef], []⟩ : Act) by kernel_rfl)) ?_
          have HW2 := Lib.hid hW2
          clear hW2
          clear hdz
          go_wp2
          go_roundw
          case rel => exact ⟨j + 1, by first | rfl | simp, by omega, by rw [countP_take _ HZ.out, HCJ.out, if_neg HD.out]; first | rfl | simp, HBJ.out.trans (HW2.out.mono HBJ.out.size)⟩
          case measure => simp [intOf]; omega
        | false =>
          have HD := Lib.hid (show (!decide (ltE z (atE k q))) = true by rw [hdz]; decide)
          go_wp2_with fail
          refine wp_region_calmB 6 (by kernel_rfl) (by kernel_rfl) ?_
          simp only [List.take_succ_cons, List.take_zero, List.drop_succ_cons, List.drop_zero]
          refine chain0 ?_
          refine @chain _ _ _ _ _ _ _ _ 84 (.slice (some ⟨bz, oz, none⟩) m c2) (by rfl) (by rfl) (by exact fun W2 hW => run_mv (by rfl) (by exact eval_base (by kernel_rfl) (by rfl)) hW) ?_
          refine @chain _ _ _ _ _ _ _ _ 85 (.int .i64 (j : Int)) (by rfl) (by rfl) (by exact fun W2 hW => run_mv (by rfl) (by exact eval_base (by kernel_rfl) (by rfl)) hW) ?_
          refine @chain _ _ _ _ _ _ _ _ 86 (.pointer (some ⟨bz, oz + j * 4, none⟩)) (by rfl) (by rfl) (by exact fun W2 hW => run_ia (u := .slice (some ⟨bz, oz, none⟩) m c2) (v := .int .i64 (j : Int)) (by rfl) (by exact eval_look (by kernel_rfl) (by kernel_rfl)) (by exact eval_look (by kernel_rfl) (by kernel_rfl)) (fun W => idx_run _ _ _ _ _ (by omega) W) hW) ?_
          refine @chain _ _ _ _ _ _ _ _ 87 (.agg (encE z).toArray) (by rfl) (by rfl) (by exact fun W2 hW => run_lw (by rfl) (by exact eval_look (by kernel_rfl) (by kernel_rfl)) (fun W hW => ldEntO _ _ _ _ (fun i v hv => cell_later hW (HZC.out i v hv))) hW) ?_
          refine @chain _ _ _ _ _ _ _ _ 88 (.agg (encE (atE k q)).toArray) (by rfl) (by rfl) (by exact fun W2 hW => run_lw (by rfl) (by exact eval_base (by kernel_rfl) (by rfl)) (fun W hW => ldEnt _ _ _ (fun i v hv => cell_later hW (HXB.out i v hv))) hW) ?_
          refine @chain _ _ _ _ _ _ _ _ 89 (.bool false) (by rfl) (by rfl) (by exact fun W2 hW => run_call (vs := #[.agg (encE z).toArray, .agg (encE (atE k q)).toArray]) (by rfl) (by kernel_rfl) (enters_of Try.func25 (by kernel_rfl) (by rfl)) (calm_b hW (ahead5_t hdz W2))) ?_
          refine calm_nil (fun W2 hW2 => ?_)
          refine Eq.mpr (congrArg (fun a => wpList _ _ _ _ a W2) (show _ = (⟨#[Value.slice A nd c, Value.slice B n d, Value.string k, Value.int IntKind.u64 q, undef, undef, undef, undef, Value.bool false, Value.pointer (some ⟨g, 0, none⟩), Value.slice (some ⟨bz, oz, none⟩) m c2, Value.pointer (some ⟨w2.heap.size, 0, none⟩), Value.slice A4 0 c4, Value.bool true, Value.pointer (some ⟨w5.heap.size, 0, none⟩), Value.bool false, Value.int IntKind.i64 (cj : Int), Value.int IntKind.i64 (j : Int), undef, undef, undef, undef, Value.bool true, Value.bool false, Value.tuple #[Value.pointer (some ⟨g, 0, none⟩), Value.slice (some ⟨bz, oz, none⟩) m c2], Value.slice A nd c, Value.slice B n d, Value.tuple #[Value.pointer (some ⟨g, 0, none⟩), Value.slice (some ⟨bz, oz, none⟩) m c2], Value.pointer (some ⟨g, 0, none⟩), Value.slice (some ⟨bz, oz, none⟩) m c2, Value.pointer (some ⟨g, 0, none⟩), Value.bool false, Value.string k, Value.int IntKind.u64 q, Value.agg #[Value.string k, Value.int IntKind.u64 q, Value.bool false, Value.string ⟨#[]⟩], Value.tuple #[Value.slice A4 0 c4, Value.bool true], Value.pointer (some ⟨g, 0, none⟩), Value.string k, Value.int IntKind.u64 q, f, Value.tuple #[Value.slice A4 0 c4, Value.bool true], Value.slice A4 0 c4, Value.bool true, Value.tuple #[Value.agg #[Value.string zeroE.fst, Value.int IntKind.u64 zeroE.snd.fst, Value.bool zeroE.snd.snd.fst, Value.string zeroE.snd.snd.snd], Value.bool false], Value.pointer (some ⟨g, 0, none⟩), Value.string k, Value.int IntKind.u64 q, Value.tuple #[Value.agg #[Value.string zeroE.fst, Value.int IntKind.u64 zeroE.snd.fst, Value.bool zeroE.snd.snd.fst, Value.string zeroE.snd.snd.snd], Value.bool false], Value.agg #[Value.string zeroE.fst, Value.int IntKind.u64 zeroE.snd.fst, Value.bool zeroE.snd.snd.fst, Value.string zeroE.snd.snd.snd], Value.bool false, Value.bool true, Value.bool false, Value.bool false, Value.bool false, Value.slice A4 0 c4, Value.int IntKind.i64 0, Value.bool false, Value.bool false, Value.bool false, Value.bool false, Value.bool false, Value.bool false, undef, undef, undef, undef, undef, Value.bool false, Value.bool false, Value.bool false, Value.bool false, Value.bool true, Value.bool true, Value.agg (encE zeroE).toArray, Value.agg (encE zeroE).toArray, Value.bool false, Value.bool false, Value.bool false, Value.int IntKind.i64 (j : Int), Value.slice (some ⟨bz, oz, none⟩) m c2, Value.int IntKind.i64 (m : Int), Value.bool true, u82, u83, Value.slice (some ⟨bz, oz, none⟩) m c2, Value.int IntKind.i64 (j : Int), Value.pointer (some ⟨bz, oz + j * 4, none⟩), Value.agg (encE z).toArray, Value.agg (encE (atE k q)).toArray, Value.bool false, u90, u91, u92, undef, undef, undef, undef, undef, undef, undef, undef, undef, undef, undef, undef, undef, undef, undef, undef, undef, undef, undef, undef, undef, undef, undef, undef, undef, undef, undef, undef, undef, undef, undef, undef, undef, undef, undef, undef, undef, undef, undef, undef, undef, undef, undef, undef, undef, undef, undef, undef, undef, undef, undef, undef, undef, undef, undef, undef, undef, undef, undef, undef, undef, undef, undef, undef, undef, undef, undef, undef, undef, undef, undef, undef, undef, undef, undef, undef, undef, undef, undef, undef, undef, undef, undef, undef, undef, undef, undef, undef, undef, undef, undef, undef], []⟩ : Act) by kernel_rfl)) ?_
          have HW2 := Lib.hid hW2
          clear hW2
          clear hdz
          go_wp2
          go_roundw
          case rel => exact ⟨j + 1, by first | rfl | simp, by omega, by rw [countP_take _ HZ.out, HCJ.out, if_pos HD.out]; first | rfl | simp, HBJ.out.trans (HW2.out.mono HBJ.out.size)⟩
          case measure => simp [intOf]; omega
      · have hjm2 : m = j := by omega
        subst hjm2
        have hc1 : 0 = cj := by
          rw [← HCJ.out, List.take_of_length_le (by rw [HMM.out]; exact Nat.le_refl _)]
          exact HCNT.out.symm
        subst hc1
        try rw [show ((0 : Nat) : Int) = 0 from rfl]
        generalize wj = wl at *
        have HRX2 := Lib.hid (blk_below HRX.out HBJ.out)
        have HRY2 := Lib.hid (blk_below HRY.out HBJ.out)
        have HINS2 := Lib.hid (HINS.out.later HBJ.out)
        have HAE2 := Lib.hid (HAE.out.later HBJ.out)
        have HB6 := Lib.hid (HB5.out.trans (HBJ.out.mono HB5.out.size))
        clear HRX HRY HINS HAE HB5 HBJ
        obtain ⟨V, hV⟩ : ∃ Z, wl.alloc (.cells #[.string ⟨#[]⟩, .int .u64 0, .bool false, .string ⟨#[]⟩] 53) = Z := ⟨_, rfl⟩
        have rV : V.heap[wl.heap.size]? = some (.cells #[.string ⟨#[]⟩, .int .u64 0, .bool false, .string ⟨#[]⟩] 53 (0, 0)) := by rw [← hV]; exact heap_alloc_new _ _
        obtain ⟨⟨v0, v1, v2, v3⟩, u0, u1, u2, u3⟩ := cells4 rV
        obtain ⟨Va, hVa⟩ : ∃ Z4, (((V.setCell ⟨wl.heap.size, 0, none⟩ (.string ⟨#[]⟩)).setCell ⟨wl.heap.size, 1, none⟩ (.int .u64 0)).setCell ⟨wl.heap.size, 2, none⟩ (.bool false)).setCell ⟨wl.heap.size, 3, none⟩ (.string ⟨#[]⟩) = Z4 := ⟨_, rfl⟩
        have qV : Va.heap[wl.heap.size]? = some (.cells #[.string ⟨#[]⟩, .int .u64 0, .bool false, .string ⟨#[]⟩] 53 (0, 0)) := by rw [← hVa]; exact put4_heap rV
        have bV : Below wl.heap.size wl Va := by
          rw [← hVa, ← hV]
          exact ((Below.refl _ _).alloc (Nat.le_refl _) _).trans ((put4_upd (S := fun k => k = wl.heap.size) _ _ _ _ _ rfl).bel (fun k hk => by omega) (by simp))
        have BV := Lib.hid bV
        have QV := Lib.hid qV
        clear bV qV rV
        go_wp2_with fail
        go_loopw [19, 20] (fun s19 s20 wr => ∃ j : Nat, s20 = .int .i64 j ∧ j ≤ m ∧ s19 = .bool (bestF k q (ins.take j)).2 ∧ wr.heap[wl.heap.size]? = some (.cells (encE (bestF k q (ins.take j)).1).toArray 53 (0, 0)) ∧ Below wl.heap.size wl wr) (fun s19 s20 wr => m - (intOf s20).toNat)
        case atStart => exact ⟨0, rfl, by omega, rfl, QV.out, BV.out⟩
        case round =>
          obtain ⟨j, rfl, hj, rfl, hbh, hbj⟩ := hrel
          generalize wr = wj at *
          obtain ⟨⟨be, bf⟩, hbb⟩ : ∃ s, bestF k q (ins.take j) = s := ⟨_, rfl⟩
          rw [hbb] at hbh ⊢
          have HBJ := Lib.hid hbj
          have HBH := Lib.hid hbh
          have HBB := Lib.hid (fun i v hv => boxEnt (e := be) hbh i v hv)
          have HBQ := Lib.hid hbb
          clear hbj hbh hbb
          by_cases hjm : j < m
          · have HINS := Lib.hid HINS2.out
            obtain ⟨z, hz⟩ := getElem?_of_lt (l := ins) (by rw [HMM.out]; exact hjm : j < ins.length)
            have HZ := Lib.hid hz
            obtain ⟨bz, oz, zA, zlt, zc⟩ := HINS.out.at hz
            subst zA
            have HZC := Lib.hid (fun i v hv => (HBJ.out.cell (p := ⟨bz, oz + j * 4 + i, none⟩) zlt).trans (zc i v hv))
            clear hz zlt zc
            have HNX := Lib.hid ((bestF_take (k := k) (q := q) HZ.out).trans (by rw [HBQ.out]))
            have HFT := Lib.hid (show fits k q z = (decide (z.1.toList = k.toList) && decide (z.2.1 ≤ q)) from rfl)
            cases hd1 : decide (z.1.toList = k.toList) with
            | false =>
              have HST := Lib.hid (show bestS k q (be, bf) z = (be, bf) by unfold bestS; rw [HFT.out, hd1]; rfl)
              go_wp2_with fail
              refine wp_region_calmB 29 (by kernel_rfl) (by kernel_rfl) ?_
              simp only [List.take_succ_cons, List.take_zero, List.drop_succ_cons, List.drop_zero]
              refine chain0 ?_
              refine @chain _ _ _ _ _ _ _ _ 104 (.slice (some ⟨bz, oz, none⟩) m c2) (by rfl) (by rfl) (by exact fun W2 hW => run_mv (by rfl) (by exact eval_base (by kernel_rfl) (by rfl)) hW) ?_
              refine @chain _ _ _ _ _ _ _ _ 105 (.int .i64 (j : Int)) (by rfl) (by rfl) (by exact fun W2 hW => run_mv (by rfl) (by exact eval_base (by kernel_rfl) (by rfl)) hW) ?_
              refine @chain _ _ _ _ _ _ _ _ 106 (.pointer (some ⟨bz, oz + j * 4, none⟩)) (by rfl) (by rfl) (by exact fun W2 hW => run_ia (u := .slice (some ⟨bz, oz, none⟩) m c2) (v := .int .i64 (j : Int)) (by rfl) (by exact eval_look (by kernel_rfl) (by kernel_rfl)) (by exact eval_look (by kernel_rfl) (by kernel_rfl)) (fun W => idx_run _ _ _ _ _ (by omega) W) hW) ?_
              refine @chain _ _ _ _ _ _ _ _ 107 (.pointer (some ⟨bz, oz + j * 4, none⟩)) (by rfl) (by rfl) (by exact fun W2 hW => run_fa (p := .pointer (some ⟨bz, oz + j * 4, none⟩)) (by rfl) (by exact eval_look (by kernel_rfl) (by kernel_rfl)) (fun W => by first | kernel_rfl | go_simp) hW) ?_
              refine @chain _ _ _ _ _ _ _ _ 108 (.string z.1) (by rfl) (by rfl) (by exact fun W2 hW => run_lw (by rfl) (by exact eval_look (by kernel_rfl) (by kernel_rfl)) (fun W hW => ldS _ _ _ _ (cell_later hW (HZC.out 0 _ rfl))) hW) ?_
              refine @chain _ _ _ _ _ _ _ _ 109 (.string k) (by rfl) (by rfl) (by exact fun W2 hW => run_mv (by rfl) (by exact eval_base (by kernel_rfl) (by rfl)) hW) ?_
              refine @chain _ _ _ _ _ _ _ _ 110 (.bool false) (by rfl) (by rfl) (by exact fun W2 hW => run_bo (u := .string z.1) (v := .string k) (by rfl) (by exact eval_look (by kernel_rfl) (by kernel_rfl)) (by exact eval_look (by kernel_rfl) (by kernel_rfl)) (fun W => strEq_run _ _ _ _ _ _ hd1 W) hW) ?_
              refine @chain _ _ _ _ _ _ _ _ 111 (.bool false) (by rfl) (by rfl) (by exact fun W2 hW => run_mv (by rfl) (by exact eval_look (by kernel_rfl) (by kernel_rfl)) hW) ?_
              refine @chainK _ _ _ _ _ _ _ _ 112 (by kernel_rfl) (by rfl) ?_
              refine @chainK _ _ _ _ _ _ _ _ 113 (by kernel_rfl) (by rfl) ?_
              refine @chainK _ _ _ _ _ _ _ _ 114 (by kernel_rfl) (by rfl) ?_
              refine @chainK _ _ _ _ _ _ _ _ 115 (by kernel_rfl) (by rfl) ?_
              refine @chainK _ _ _ _ _ _ _ _ 116 (by kernel_rfl) (by rfl) ?_
              refine @chainK _ _ _ _ _ _ _ _ 117 (by kernel_rfl) (by rfl) ?_
              refine @chainK _ _ _ _ _ _ _ _ 118 (by kernel_rfl) (by rfl) ?_
              refine @chain _ _ _ _ _ _ _ _ 119 (.bool false) (by rfl) (by rfl) (by exact fun W2 hW => run_pkF (by rfl) (by exact eval_look (by kernel_rfl) (by kernel_rfl)) (by rfl) hW) ?_
              refine @chain _ _ _ _ _ _ _ _ 120 (.bool false) (by rfl) (by rfl) (by exact fun W2 hW => run_mv (by rfl) (by exact eval_look (by kernel_rfl) (by kernel_rfl)) hW) ?_
              refine @chainK _ _ _ _ _ _ _ _ 121 (by kernel_rfl) (by rfl) ?_
              refine @chainK _ _ _ _ _ _ _ _ 122 (by kernel_rfl) (by rfl) ?_
              refine @chainK _ _ _ _ _ _ _ _ 123 (by kernel_rfl) (by rfl) ?_
              refine @chainK _ _ _ _ _ _ _ _ 124 (by kernel_rfl) (by rfl) ?_
              refine @chainK _ _ _ _ _ _ _ _ 125 (by kernel_rfl) (by rfl) ?_
              refine @chainK _ _ _ _ _ _ _ _ 126 (by kernel_rfl) (by rfl) ?_
              refine @chainK _ _ _ _ _ _ _ _ 127 (by kernel_rfl) (by rfl) ?_
              refine @chainK _ _ _ _ _ _ _ _ 128 (by kernel_rfl) (by rfl) ?_
              refine @chainK _ _ _ _ _ _ _ _ 129 (by kernel_rfl) (by rfl) ?_
              refine @chainK _ _ _ _ _ _ _ _ 130 (by kernel_rfl) (by rfl) ?_
              refine @chainK _ _ _ _ _ _ _ _ 131 (by kernel_rfl) (by rfl) ?_
              refine @chainK _ _ _ _ _ _ _ _ 132 (by kernel_rfl) (by rfl) ?_
              refine calm_nil (fun W2 hW2 => ?_)
              refine Eq.mpr (congrArg (fun a => wpList _ _ _ _ a W2) (show _ = (⟨#[Value.slice A nd c, Value.slice B n d, Value.string k, Value.int IntKind.u64 q, undef, undef, undef, undef, Value.bool false, Value.pointer (some ⟨g, 0, none⟩), Value.slice (some ⟨bz, oz, none⟩) m c2, Value.pointer (some ⟨w2.heap.size, 0, none⟩), Value.slice A4 0 c4, Value.bool true, Value.pointer (some ⟨w5.heap.size, 0, none⟩), Value.bool false, Value.int IntKind.i64 0, Value.int IntKind.i64 (m : Int), Value.pointer (some ⟨wl.heap.size, 0, none⟩), Value.bool bf, Value.int IntKind.i64 (j : Int), undef, Value.bool true, Value.bool false, Value.tuple #[Value.pointer (some ⟨g, 0, none⟩), Value.slice (some ⟨bz, oz, none⟩) m c2], Value.slice A nd c, Value.slice B n d, Value.tuple #[Value.pointer (some ⟨g, 0, none⟩), Value.slice (some ⟨bz, oz, none⟩) m c2], Value.pointer (some ⟨g, 0, none⟩), Value.slice (some ⟨bz, oz, none⟩) m c2, Value.pointer (some ⟨g, 0, none⟩), Value.bool false, Value.string k, Value.int IntKind.u64 q, Value.agg #[Value.string k, Value.int IntKind.u64 q, Value.bool false, Value.string ⟨#[]⟩], Value.tuple #[Value.slice A4 0 c4, Value.bool true], Value.pointer (some ⟨g, 0, none⟩), Value.string k, Value.int IntKind.u64 q, f, Value.tuple #[Value.slice A4 0 c4, Value.bool true], Value.slice A4 0 c4, Value.bool true, Value.tuple #[Value.agg #[Value.string zeroE.fst, Value.int IntKind.u64 zeroE.snd.fst, Value.bool zeroE.snd.snd.fst, Value.string zeroE.snd.snd.snd], Value.bool false], Value.pointer (some ⟨g, 0, none⟩), Value.string k, Value.int IntKind.u64 q, Value.tuple #[Value.agg #[Value.string zeroE.fst, Value.int IntKind.u64 zeroE.snd.fst, Value.bool zeroE.snd.snd.fst, Value.string zeroE.snd.snd.snd], Value.bool false], Value.agg #[Value.string zeroE.fst, Value.int IntKind.u64 zeroE.snd.fst, Value.bool zeroE.snd.snd.fst, Value.string zeroE.snd.snd.snd], Value.bool false, Value.bool true, Value.bool false, Value.bool false, Value.bool false, Value.slice A4 0 c4, Value.int IntKind.i64 0, Value.bool false, Value.bool false, Value.bool false, Value.bool false, Value.bool false, Value.bool false, undef, undef, undef, undef, undef, Value.bool false, Value.bool false, Value.bool false, Value.bool false, Value.bool true, Value.bool true, Value.agg (encE zeroE).toArray, Value.agg (encE zeroE).toArray, Value.bool false, Value.bool false, Value.bool false, Value.int IntKind.i64 (m : Int), Value.slice (some ⟨bz, oz, none⟩) m c2, Value.int IntKind.i64 (m : Int), Value.bool false, u82, u83, u84, u85, u86, u87, u88, u89, u90, u91, u92, Value.int IntKind.i64 0, Value.slice A4 0 c4, Value.int IntKind.i64 0, Value.bool false, Value.agg #[Value.string ⟨#[]⟩, Value.int IntKind.u64 0, Value.bool false, Value.string ⟨#[]⟩], Value.int IntKind.i64 (j : Int), Value.slice (some ⟨bz, oz, none⟩) m c2, Value.int IntKind.i64 (m : Int), Value.bool true, u102, u103, Value.slice (some ⟨bz, oz, none⟩) m c2, Value.int IntKind.i64 (j : Int), Value.pointer (some ⟨bz, oz + j * 4, none⟩), Value.pointer (some ⟨bz, oz + j * 4, none⟩), Value.string z.fst, Value.string k, Value.bool false, Value.bool false, undef, undef, undef, undef, undef, undef, undef, Value.bool false, Value.bool false, undef, undef, undef, undef, undef, undef, undef, undef, undef, undef, undef, undef, u133, u134, u135, u136, u137, undef, undef, undef, undef, undef, undef, undef, undef, undef, undef, undef, undef, undef, undef, undef, undef, undef, undef, undef, undef, undef, undef, undef, undef, undef, undef, undef, undef, undef, undef, undef, undef, undef, undef, undef, undef, undef, undef, undef, undef, undef, undef, undef, undef, undef, undef, undef], []⟩ : Act) by kernel_rfl)) ?_
              have HW2 := Lib.hid hW2
              clear hW2
              clear hd1
              go_wp2
              go_roundw
              case rel => exact ⟨j + 1, by first | rfl | simp, by omega, by rw [HNX.out]; first | rfl | (simp only [HST.out]), by rw [HNX.out, HST.out]; exact blk_below HBH.out HW2.out, HBJ.out.trans (HW2.out.mono HBJ.out.size)⟩
              case measure => simp [intOf]; omega
            | true =>
              cases hd2 : decide (z.2.1 ≤ q) with
              | false =>
                have HST := Lib.hid (show bestS k q (be, bf) z = (be, bf) by unfold bestS; rw [HFT.out, hd1, hd2]; rfl)
                go_wp2_with fail
                refine wp_region_calmB 29 (by kernel_rfl) (by kernel_rfl) ?_
                simp only [List.take_succ_cons, List.take_zero, List.drop_succ_cons, List.drop_zero]
                refine chain0 ?_
                refine @chain _ _ _ _ _ _ _ _ 104 (.slice (some ⟨bz, oz, none⟩) m c2) (by rfl) (by rfl) (by exact fun W2 hW => run_mv (by rfl) (by exact eval_base (by kernel_rfl) (by rfl)) hW) ?_
                refine @chain _ _ _ _ _ _ _ _ 105 (.int .i64 (j : Int)) (by rfl) (by rfl) (by exact fun W2 hW => run_mv (by rfl) (by exact eval_base (by kernel_rfl) (by rfl)) hW) ?_
                refine @chain _ _ _ _ _ _ _ _ 106 (.pointer (some ⟨bz, oz + j * 4, none⟩)) (by rfl) (by rfl) (by exact fun W2 hW => run_ia (u := .slice (some ⟨bz, oz, none⟩) m c2) (v := .int .i64 (j : Int)) (by rfl) (by exact eval_look (by kernel_rfl) (by kernel_rfl)) (by exact eval_look (by kernel_rfl) (by kernel_rfl)) (fun W => idx_run _ _ _ _ _ (by omega) W) hW) ?_
                refine @chain _ _ _ _ _ _ _ _ 107 (.pointer (some ⟨bz, oz + j * 4, none⟩)) (by rfl) (by rfl) (by exact fun W2 hW => run_fa (p := .pointer (some ⟨bz, oz + j * 4, none⟩)) (by rfl) (by exact eval_look (by kernel_rfl) (by kernel_rfl)) (fun W => by first | kernel_rfl | go_simp) hW) ?_
                refine @chain _ _ _ _ _ _ _ _ 108 (.string z.1) (by rfl) (by rfl) (by exact fun W2 hW => run_lw (by rfl) (by exact eval_look (by kernel_rfl) (by kernel_rfl)) (fun W hW => ldS _ _ _ _ (cell_later hW (HZC.out 0 _ rfl))) hW) ?_
                refine @chain _ _ _ _ _ _ _ _ 109 (.string k) (by rfl) (by rfl) (by exact fun W2 hW => run_mv (by rfl) (by exact eval_base (by kernel_rfl) (by rfl)) hW) ?_
                refine @chain _ _ _ _ _ _ _ _ 110 (.bool true) (by rfl) (by rfl) (by exact fun W2 hW => run_bo (u := .string z.1) (v := .string k) (by rfl) (by exact eval_look (by kernel_rfl) (by kernel_rfl)) (by exact eval_look (by kernel_rfl) (by kernel_rfl)) (fun W => strEq_run _ _ _ _ _ _ hd1 W) hW) ?_
                refine @chain _ _ _ _ _ _ _ _ 111 (.bool true) (by rfl) (by rfl) (by exact fun W2 hW => run_mv (by rfl) (by exact eval_look (by kernel_rfl) (by kernel_rfl)) hW) ?_
                refine @chainG _ _ _ _ _ _ _ _ 112 (.slice (some ⟨bz, oz, none⟩) m c2) (by kernel_rfl) (by rfl) (by exact fun W2 hW => run_mv (by rfl) (by exact eval_base (by kernel_rfl) (by rfl)) hW) ?_
                refine @chainG _ _ _ _ _ _ _ _ 113 (.int .i64 (j : Int)) (by kernel_rfl) (by rfl) (by exact fun W2 hW => run_mv (by rfl) (by exact eval_base (by kernel_rfl) (by rfl)) hW) ?_
                refine @chainG _ _ _ _ _ _ _ _ 114 (.pointer (some ⟨bz, oz + j * 4, none⟩)) (by kernel_rfl) (by rfl) (by exact fun W2 hW => run_ia (u := .slice (some ⟨bz, oz, none⟩) m c2) (v := .int .i64 (j : Int)) (by rfl) (by exact eval_look (by kernel_rfl) (by kernel_rfl)) (by exact eval_look (by kernel_rfl) (by kernel_rfl)) (fun W => idx_run _ _ _ _ _ (by omega) W) hW) ?_
                refine @chainG _ _ _ _ _ _ _ _ 115 (.pointer (some ⟨bz, oz + j * 4 + 1, none⟩)) (by kernel_rfl) (by rfl) (by exact fun W2 hW => run_fa (p := .pointer (some ⟨bz, oz + j * 4, none⟩)) (by rfl) (by exact eval_look (by kernel_rfl) (by kernel_rfl)) (fun W => by first | kernel_rfl | go_simp) hW) ?_
                refine @chainG _ _ _ _ _ _ _ _ 116 (.int .u64 z.2.1) (by kernel_rfl) (by rfl) (by exact fun W2 hW => run_lw (by rfl) (by exact eval_look (by kernel_rfl) (by kernel_rfl)) (fun W hW => ldU _ _ _ _ (cell_later hW (HZC.out 1 _ rfl))) hW) ?_
                refine @chainG _ _ _ _ _ _ _ _ 117 (.int .u64 q) (by kernel_rfl) (by rfl) (by exact fun W2 hW => run_mv (by rfl) (by exact eval_base (by kernel_rfl) (by rfl)) hW) ?_
                refine @chainG _ _ _ _ _ _ _ _ 118 (.bool false) (by kernel_rfl) (by rfl) (by exact fun W2 hW => run_bo (u := .int .u64 z.2.1) (v := .int .u64 q) (by rfl) (by exact eval_look (by kernel_rfl) (by kernel_rfl)) (by exact eval_look (by kernel_rfl) (by kernel_rfl)) (fun W => cmpN_run _ _ _ _ _ _ _ hd2 W) hW) ?_
                refine @chain _ _ _ _ _ _ _ _ 119 (.bool false) (by rfl) (by rfl) (by exact fun W2 hW => run_pkT (by rfl) (by exact eval_look (by kernel_rfl) (by kernel_rfl)) (by exact eval_look (by kernel_rfl) (by kernel_rfl)) hW) ?_
                refine @chain _ _ _ _ _ _ _ _ 120 (.bool false) (by rfl) (by rfl) (by exact fun W2 hW => run_mv (by rfl) (by exact eval_look (by kernel_rfl) (by kernel_rfl)) hW) ?_
                refine @chainK _ _ _ _ _ _ _ _ 121 (by kernel_rfl) (by rfl) ?_
                refine @chainK _ _ _ _ _ _ _ _ 122 (by kernel_rfl) (by rfl) ?_
                refine @chainK _ _ _ _ _ _ _ _ 123 (by kernel_rfl) (by rfl) ?_
                refine @chainK _ _ _ _ _ _ _ _ 124 (by kernel_rfl) (by rfl) ?_
                refine @chainK _ _ _ _ _ _ _ _ 125 (by kernel_rfl) (by rfl) ?_
                refine @chainK _ _ _ _ _ _ _ _ 126 (by kernel_rfl) (by rfl) ?_
                refine @chainK _ _ _ _ _ _ _ _ 127 (by kernel_rfl) (by rfl) ?_
                refine @chainK _ _ _ _ _ _ _ _ 128 (by kernel_rfl) (by rfl) ?_
                refine @chainK _ _ _ _ _ _ _ _ 129 (by kernel_rfl) (by rfl) ?_
                refine @chainK _ _ _ _ _ _ _ _ 130 (by kernel_rfl) (by rfl) ?_
                refine @chainK _ _ _ _ _ _ _ _ 131 (by kernel_rfl) (by rfl) ?_
                refine @chainK _ _ _ _ _ _ _ _ 132 (by kernel_rfl) (by rfl) ?_
                refine calm_nil (fun W2 hW2 => ?_)
                refine Eq.mpr (congrArg (fun a => wpList _ _ _ _ a W2) (show _ = (⟨#[Value.slice A nd c, Value.slice B n d, Value.string k, Value.int IntKind.u64 q, undef, undef, undef, undef, Value.bool false, Value.pointer (some ⟨g, 0, none⟩), Value.slice (some ⟨bz, oz, none⟩) m c2, Value.pointer (some ⟨w2.heap.size, 0, none⟩), Value.slice A4 0 c4, Value.bool true, Value.pointer (some ⟨w5.heap.size, 0, none⟩), Value.bool false, Value.int IntKind.i64 0, Value.int IntKind.i64 (m : Int), Value.pointer (some ⟨wl.heap.size, 0, none⟩), Value.bool bf, Value.int IntKind.i64 (j : Int), undef, Value.bool true, Value.bool false, Value.tuple #[Value.pointer (some ⟨g, 0, none⟩), Value.slice (some ⟨bz, oz, none⟩) m c2], Value.slice A nd c, Value.slice B n d, Value.tuple #[Value.pointer (some ⟨g, 0, none⟩), Value.slice (some ⟨bz, oz, none⟩) m c2], Value.pointer (some ⟨g, 0, none⟩), Value.slice (some ⟨bz, oz, none⟩) m c2, Value.pointer (some ⟨g, 0, none⟩), Value.bool false, Value.string k, Value.int IntKind.u64 q, Value.agg #[Value.string k, Value.int IntKind.u64 q, Value.bool false, Value.string ⟨#[]⟩], Value.tuple #[Value.slice A4 0 c4, Value.bool true], Value.pointer (some ⟨g, 0, none⟩), Value.string k, Value.int IntKind.u64 q, f, Value.tuple #[Value.slice A4 0 c4, Value.bool true], Value.slice A4 0 c4, Value.bool true, Value.tuple #[Value.agg #[Value.string zeroE.fst, Value.int IntKind.u64 zeroE.snd.fst, Value.bool zeroE.snd.snd.fst, Value.string zeroE.snd.snd.snd], Value.bool false], Value.pointer (some ⟨g, 0, none⟩), Value.string k, Value.int IntKind.u64 q, Value.tuple #[Value.agg #[Value.string zeroE.fst, Value.int IntKind.u64 zeroE.snd.fst, Value.bool zeroE.snd.snd.fst, Value.string zeroE.snd.snd.snd], Value.bool false], Value.agg #[Value.string zeroE.fst, Value.int IntKind.u64 zeroE.snd.fst, Value.bool zeroE.snd.snd.fst, Value.string zeroE.snd.snd.snd], Value.bool false, Value.bool true, Value.bool false, Value.bool false, Value.bool false, Value.slice A4 0 c4, Value.int IntKind.i64 0, Value.bool false, Value.bool false, Value.bool false, Value.bool false, Value.bool false, Value.bool false, undef, undef, undef, undef, undef, Value.bool false, Value.bool false, Value.bool false, Value.bool false, Value.bool true, Value.bool true, Value.agg (encE zeroE).toArray, Value.agg (encE zeroE).toArray, Value.bool false, Value.bool false, Value.bool false, Value.int IntKind.i64 (m : Int), Value.slice (some ⟨bz, oz, none⟩) m c2, Value.int IntKind.i64 (m : Int), Value.bool false, u82, u83, u84, u85, u86, u87, u88, u89, u90, u91, u92, Value.int IntKind.i64 0, Value.slice A4 0 c4, Value.int IntKind.i64 0, Value.bool false, Value.agg #[Value.string ⟨#[]⟩, Value.int IntKind.u64 0, Value.bool false, Value.string ⟨#[]⟩], Value.int IntKind.i64 (j : Int), Value.slice (some ⟨bz, oz, none⟩) m c2, Value.int IntKind.i64 (m : Int), Value.bool true, u102, u103, Value.slice (some ⟨bz, oz, none⟩) m c2, Value.int IntKind.i64 (j : Int), Value.pointer (some ⟨bz, oz + j * 4, none⟩), Value.pointer (some ⟨bz, oz + j * 4, none⟩), Value.string z.fst, Value.string k, Value.bool true, Value.bool true, Value.slice (some ⟨bz, oz, none⟩) m c2, Value.int IntKind.i64 (j : Int), Value.pointer (some ⟨bz, oz + j * 4, none⟩), Value.pointer (some ⟨bz, oz + j * 4 + 1, none⟩), Value.int IntKind.u64 z.snd.fst, Value.int IntKind.u64 q, Value.bool false, Value.bool false, Value.bool false, undef, undef, undef, undef, undef, undef, undef, undef, undef, undef, undef, undef, u133, u134, u135, u136, u137, undef, undef, undef, undef, undef, undef, undef, undef, undef, undef, undef, undef, undef, undef, undef, undef, undef, undef, undef, undef, undef, undef, undef, undef, undef, undef, undef, undef, undef, undef, undef, undef, undef, undef, undef, undef, undef, undef, undef, undef, undef, undef, undef, undef, undef, undef, undef], []⟩ : Act) by kernel_rfl)) ?_
                have HW2 := Lib.hid hW2
                clear hW2
                clear hd1 hd2
                go_wp2
                go_roundw
                case rel => exact ⟨j + 1, by first | rfl | simp, by omega, by rw [HNX.out]; first | rfl | (simp only [HST.out]), by rw [HNX.out, HST.out]; exact blk_below HBH.out HW2.out, HBJ.out.trans (HW2.out.mono HBJ.out.size)⟩
                case measure => simp [intOf]; omega
              | true =>
                cases bf with
                | false =>
                  have HST := Lib.hid (show bestS k q (be, false) z = (z, true) by unfold bestS; rw [HFT.out, hd1, hd2]; rfl)
                  go_wp2_with fail
                  refine wp_region_calmB 29 (by kernel_rfl) (by kernel_rfl) ?_
                  simp only [List.take_succ_cons, List.take_zero, List.drop_succ_cons, List.drop_zero]
                  refine chain0 ?_
                  refine @chain _ _ _ _ _ _ _ _ 104 (.slice (some ⟨bz, oz, none⟩) m c2) (by rfl) (by rfl) (by exact fun W2 hW => run_mv (by rfl) (by exact eval_base (by kernel_rfl) (by rfl)) hW) ?_
                  refine @chain _ _ _ _ _ _ _ _ 105 (.int .i64 (j : Int)) (by rfl) (by rfl) (by exact fun W2 hW => run_mv (by rfl) (by exact eval_base (by kernel_rfl) (by rfl)) hW) ?_
                  refine @chain _ _ _ _ _ _ _ _ 106 (.pointer (some ⟨bz, oz + j * 4, none⟩)) (by rfl) (by rfl) (by exact fun W2 hW => run_ia (u := .slice (some ⟨bz, oz, none⟩) m c2) (v := .int .i64 (j : Int)) (by rfl) (by exact eval_look (by kernel_rfl) (by kernel_rfl)) (by exact eval_look (by kernel_rfl) (by kernel_rfl)) (fun W => idx_run _ _ _ _ _ (by omega) W) hW) ?_
                  refine @chain _ _ _ _ _ _ _ _ 107 (.pointer (some ⟨bz, oz + j * 4, none⟩)) (by rfl) (by rfl) (by exact fun W2 hW => run_fa (p := .pointer (some ⟨bz, oz + j * 4, none⟩)) (by rfl) (by exact eval_look (by kernel_rfl) (by kernel_rfl)) (fun W => by first | kernel_rfl | go_simp) hW) ?_
                  refine @chain _ _ _ _ _ _ _ _ 108 (.string z.1) (by rfl) (by rfl) (by exact fun W2 hW => run_lw (by rfl) (by exact eval_look (by kernel_rfl) (by kernel_rfl)) (fun W hW => ldS _ _ _ _ (cell_later hW (HZC.out 0 _ rfl))) hW) ?_
                  refine @chain _ _ _ _ _ _ _ _ 109 (.string k) (by rfl) (by rfl) (by exact fun W2 hW => run_mv (by rfl) (by exact eval_base (by kernel_rfl) (by rfl)) hW) ?_
                  refine @chain _ _ _ _ _ _ _ _ 110 (.bool true) (by rfl) (by rfl) (by exact fun W2 hW => run_bo (u := .string z.1) (v := .string k) (by rfl) (by exact eval_look (by kernel_rfl) (by kernel_rfl)) (by exact eval_look (by kernel_rfl) (by kernel_rfl)) (fun W => strEq_run _ _ _ _ _ _ hd1 W) hW) ?_
                  refine @chain _ _ _ _ _ _ _ _ 111 (.bool true) (by rfl) (by rfl) (by exact fun W2 hW => run_mv (by rfl) (by exact eval_look (by kernel_rfl) (by kernel_rfl)) hW) ?_
                  refine @chainG _ _ _ _ _ _ _ _ 112 (.slice (some ⟨bz, oz, none⟩) m c2) (by kernel_rfl) (by rfl) (by exact fun W2 hW => run_mv (by rfl) (by exact eval_base (by kernel_rfl) (by rfl)) hW) ?_
                  refine @chainG _ _ _ _ _ _ _ _ 113 (.int .i64 (j : Int)) (by kernel_rfl) (by rfl) (by exact fun W2 hW => run_mv (by rfl) (by exact eval_base (by kernel_rfl) (by rfl)) hW) ?_
                  refine @chainG _ _ _ _ _ _ _ _ 114 (.pointer (some ⟨bz, oz + j * 4, none⟩)) (by kernel_rfl) (by rfl) (by exact fun W2 hW => run_ia (u := .slice (some ⟨bz, oz, none⟩) m c2) (v := .int .i64 (j : Int)) (by rfl) (by exact eval_look (by kernel_rfl) (by kernel_rfl)) (by exact eval_look (by kernel_rfl) (by kernel_rfl)) (fun W => idx_run _ _ _ _ _ (by omega) W) hW) ?_
                  refine @chainG _ _ _ _ _ _ _ _ 115 (.pointer (some ⟨bz, oz + j * 4 + 1, none⟩)) (by kernel_rfl) (by rfl) (by exact fun W2 hW => run_fa (p := .pointer (some ⟨bz, oz + j * 4, none⟩)) (by rfl) (by exact eval_look (by kernel_rfl) (by kernel_rfl)) (fun W => by first | kernel_rfl | go_simp) hW) ?_
                  refine @chainG _ _ _ _ _ _ _ _ 116 (.int .u64 z.2.1) (by kernel_rfl) (by rfl) (by exact fun W2 hW => run_lw (by rfl) (by exact eval_look (by kernel_rfl) (by kernel_rfl)) (fun W hW => ldU _ _ _ _ (cell_later hW (HZC.out 1 _ rfl))) hW) ?_
                  refine @chainG _ _ _ _ _ _ _ _ 117 (.int .u64 q) (by kernel_rfl) (by rfl) (by exact fun W2 hW => run_mv (by rfl) (by exact eval_base (by kernel_rfl) (by rfl)) hW) ?_
                  refine @chainG _ _ _ _ _ _ _ _ 118 (.bool true) (by kernel_rfl) (by rfl) (by exact fun W2 hW => run_bo (u := .int .u64 z.2.1) (v := .int .u64 q) (by rfl) (by exact eval_look (by kernel_rfl) (by kernel_rfl)) (by exact eval_look (by kernel_rfl) (by kernel_rfl)) (fun W => cmpN_run _ _ _ _ _ _ _ hd2 W) hW) ?_
                  refine @chain _ _ _ _ _ _ _ _ 119 (.bool true) (by rfl) (by rfl) (by exact fun W2 hW => run_pkT (by rfl) (by exact eval_look (by kernel_rfl) (by kernel_rfl)) (by exact eval_look (by kernel_rfl) (by kernel_rfl)) hW) ?_
                  refine @chain _ _ _ _ _ _ _ _ 120 (.bool true) (by rfl) (by rfl) (by exact fun W2 hW => run_mv (by rfl) (by exact eval_look (by kernel_rfl) (by kernel_rfl)) hW) ?_
                  refine @chainG _ _ _ _ _ _ _ _ 121 (.bool false) (by kernel_rfl) (by rfl) (by exact fun W2 hW => run_mv (by rfl) (by exact eval_base (by kernel_rfl) (by rfl)) hW) ?_
                  refine @chainG _ _ _ _ _ _ _ _ 122 (.bool true) (by kernel_rfl) (by rfl) (by exact fun W2 hW => run_uo (u := .bool false) (by rfl) (by exact eval_look (by kernel_rfl) (by kernel_rfl)) (fun W => by go_simp) hW) ?_
                  refine @chainG _ _ _ _ _ _ _ _ 123 (.bool true) (by kernel_rfl) (by rfl) (by exact fun W2 hW => run_mv (by rfl) (by exact eval_look (by kernel_rfl) (by kernel_rfl)) hW) ?_
                  refine @chainK _ _ _ _ _ _ _ _ 124 (by kernel_rfl) (by rfl) ?_
                  refine @chainK _ _ _ _ _ _ _ _ 125 (by kernel_rfl) (by rfl) ?_
                  refine @chainK _ _ _ _ _ _ _ _ 126 (by kernel_rfl) (by rfl) ?_
                  refine @chainK _ _ _ _ _ _ _ _ 127 (by kernel_rfl) (by rfl) ?_
                  refine @chainK _ _ _ _ _ _ _ _ 128 (by kernel_rfl) (by rfl) ?_
                  refine @chainK _ _ _ _ _ _ _ _ 129 (by kernel_rfl) (by rfl) ?_
                  refine @chainK _ _ _ _ _ _ _ _ 130 (by kernel_rfl) (by rfl) ?_
                  refine @chainK _ _ _ _ _ _ _ _ 131 (by kernel_rfl) (by rfl) ?_
                  refine @chainG _ _ _ _ _ _ _ _ 132 (.bool true) (by kernel_rfl) (by rfl) (by exact fun W2 hW => run_pkT (by rfl) (by exact eval_look (by kernel_rfl) (by kernel_rfl)) (by rfl) hW) ?_
                  refine calm_nil (fun W2 hW2 => ?_)
                  refine Eq.mpr (congrArg (fun a => wpList _ _ _ _ a W2) (show _ = (⟨#[Value.slice A nd c, Value.slice B n d, Value.string k, Value.int IntKind.u64 q, undef, undef, undef, undef, Value.bool false, Value.pointer (some ⟨g, 0, none⟩), Value.slice (some ⟨bz, oz, none⟩) m c2, Value.pointer (some ⟨w2.heap.size, 0, none⟩), Value.slice A4 0 c4, Value.bool true, Value.pointer (some ⟨w5.heap.size, 0, none⟩), Value.bool false, Value.int IntKind.i64 0, Value.int IntKind.i64 (m : Int), Value.pointer (some ⟨wl.heap.size, 0, none⟩), Value.bool false, Value.int IntKind.i64 (j : Int), undef, Value.bool true, Value.bool false, Value.tuple #[Value.pointer (some ⟨g, 0, none⟩), Value.slice (some ⟨bz, oz, none⟩) m c2], Value.slice A nd c, Value.slice B n d, Value.tuple #[Value.pointer (some ⟨g, 0, none⟩), Value.slice (some ⟨bz, oz, none⟩) m c2], Value.pointer (some ⟨g, 0, none⟩), Value.slice (some ⟨bz, oz, none⟩) m c2, Value.pointer (some ⟨g, 0, none⟩), Value.bool false, Value.string k, Value.int IntKind.u64 q, Value.agg #[Value.string k, Value.int IntKind.u64 q, Value.bool false, Value.string ⟨#[]⟩], Value.tuple #[Value.slice A4 0 c4, Value.bool true], Value.pointer (some ⟨g, 0, none⟩), Value.string k, Value.int IntKind.u64 q, f, Value.tuple #[Value.slice A4 0 c4, Value.bool true], Value.slice A4 0 c4, Value.bool true, Value.tuple #[Value.agg #[Value.string zeroE.fst, Value.int IntKind.u64 zeroE.snd.fst, Value.bool zeroE.snd.snd.fst, Value.string zeroE.snd.snd.snd], Value.bool false], Value.pointer (some ⟨g, 0, none⟩), Value.string k, Value.int IntKind.u64 q, Value.tuple #[Value.agg #[Value.string zeroE.fst, Value.int IntKind.u64 zeroE.snd.fst, Value.bool zeroE.snd.snd.fst, Value.string zeroE.snd.snd.snd], Value.bool false], Value.agg #[Value.string zeroE.fst, Value.int IntKind.u64 zeroE.snd.fst, Value.bool zeroE.snd.snd.fst, Value.string zeroE.snd.snd.snd], Value.bool false, Value.bool true, Value.bool false, Value.bool false, Value.bool false, Value.slice A4 0 c4, Value.int IntKind.i64 0, Value.bool false, Value.bool false, Value.bool false, Value.bool false, Value.bool false, Value.bool false, undef, undef, undef, undef, undef, Value.bool false, Value.bool false, Value.bool false, Value.bool false, Value.bool true, Value.bool true, Value.agg (encE zeroE).toArray, Value.agg (encE zeroE).toArray, Value.bool false, Value.bool false, Value.bool false, Value.int IntKind.i64 (m : Int), Value.slice (some ⟨bz, oz, none⟩) m c2, Value.int IntKind.i64 (m : Int), Value.bool false, u82, u83, u84, u85, u86, u87, u88, u89, u90, u91, u92, Value.int IntKind.i64 0, Value.slice A4 0 c4, Value.int IntKind.i64 0, Value.bool false, Value.agg #[Value.string ⟨#[]⟩, Value.int IntKind.u64 0, Value.bool false, Value.string ⟨#[]⟩], Value.int IntKind.i64 (j : Int), Value.slice (some ⟨bz, oz, none⟩) m c2, Value.int IntKind.i64 (m : Int), Value.bool true, u102, u103, Value.slice (some ⟨bz, oz, none⟩) m c2, Value.int IntKind.i64 (j : Int), Value.pointer (some ⟨bz, oz + j * 4, none⟩), Value.pointer (some ⟨bz, oz + j * 4, none⟩), Value.string z.fst, Value.string k, Value.bool true, Value.bool true, Value.slice (some ⟨bz, oz, none⟩) m c2, Value.int IntKind.i64 (j : Int), Value.pointer (some ⟨bz, oz + j * 4, none⟩), Value.pointer (some ⟨bz, oz + j * 4 + 1, none⟩), Value.int IntKind.u64 z.snd.fst, Value.int IntKind.u64 q, Value.bool true, Value.bool true, Value.bool true, Value.bool false, Value.bool true, Value.bool true, undef, undef, undef, undef, undef, undef, undef, undef, Value.bool true, u133, u134, u135, u136, u137, undef, undef, undef, undef, undef, undef, undef, undef, undef, undef, undef, undef, undef, undef, undef, undef, undef, undef, undef, undef, undef, undef, undef, undef, undef, undef, undef, undef, undef, undef, undef, undef, undef, undef, undef, undef, undef, undef, undef, undef, undef, undef, undef, undef, undef, undef, undef], []⟩ : Act) by kernel_rfl)) ?_
                  have HW2 := Lib.hid hW2
                  clear hW2
                  clear hd1 hd2
                  have hbh := blk_below HBH.out HW2.out
                  obtain ⟨⟨b0, b1, b2, b3⟩, f0, f1, f2, f3⟩ := cells4 (t := 53) (show W2.heap[wl.heap.size]? = some (.cells #[.string be.1, .int .u64 be.2.1, .bool be.2.2.1, .string be.2.2.2] 53 (0, 0)) from hbh)
                  have z0 := cell_later HW2.out (HZC.out 0 _ rfl)
                  have z1 := cell_later HW2.out (HZC.out 1 _ rfl)
                  have z2 := cell_later HW2.out (HZC.out 2 _ rfl)
                  have z3 := cell_later HW2.out (HZC.out 3 _ rfl)
                  simp only [Nat.add_zero] at z0
                  go_wp2
                  go_roundw
                  case rel => exact ⟨j + 1, by first | rfl | simp, by omega, by rw [HNX.out]; first | rfl | (simp only [HST.out]), by rw [HNX.out, HST.out]; exact put4_heap (v0 := .string be.1) (v1 := .int .u64 be.2.1) (v2 := .bool be.2.2.1) (v3 := .string be.2.2.2) hbh, (HBJ.out.trans (HW2.out.mono HBJ.out.size)).trans ((put4_upd (S := fun k => k = wl.heap.size) _ _ _ _ _ rfl).bel (fun k hk => by omega) (Nat.le_of_lt (blk_lt hbh)))⟩
                  case measure => simp [intOf]; omega
                | true =>
                  cases hd3 : decide (be.2.1 < z.2.1) with
                  | true =>
                    have HST := Lib.hid (show bestS k q (be, true) z = (z, true) by unfold bestS; rw [HFT.out, hd1, hd2, hd3]; rfl)
                    go_wp2_with fail
                    refine wp_region_calmB 29 (by kernel_rfl) (by kernel_rfl) ?_
                    simp only [List.take_succ_cons, List.take_zero, List.drop_succ_cons, List.drop_zero]
                    refine chain0 ?_
                    refine @chain _ _ _ _ _ _ _ _ 104 (.slice (some ⟨bz, oz, none⟩) m c2) (by rfl) (by rfl) (by exact fun W2 hW => run_mv (by rfl) (by exact eval_base (by kernel_rfl) (by rfl)) hW) ?_
                    refine @chain _ _ _ _ _ _ _ _ 105 (.int .i64 (j : Int)) (by rfl) (by rfl) (by exact fun W2 hW => run_mv (by rfl) (by exact eval_base (by kernel_rfl) (by rfl)) hW) ?_
                    refine @chain _ _ _ _ _ _ _ _ 106 (.pointer (some ⟨bz, oz + j * 4, none⟩)) (by rfl) (by rfl) (by exact fun W2 hW => run_ia (u := .slice (some ⟨bz, oz, none⟩) m c2) (v := .int .i64 (j : Int)) (by rfl) (by exact eval_look (by kernel_rfl) (by kernel_rfl)) (by exact eval_look (by kernel_rfl) (by kernel_rfl)) (fun W => idx_run _ _ _ _ _ (by omega) W) hW) ?_
                    refine @chain _ _ _ _ _ _ _ _ 107 (.pointer (some ⟨bz, oz + j * 4, none⟩)) (by rfl) (by rfl) (by exact fun W2 hW => run_fa (p := .pointer (some ⟨bz, oz + j * 4, none⟩)) (by rfl) (by exact eval_look (by kernel_rfl) (by kernel_rfl)) (fun W => by first | kernel_rfl | go_simp) hW) ?_
                    refine @chain _ _ _ _ _ _ _ _ 108 (.string z.1) (by rfl) (by rfl) (by exact fun W2 hW => run_lw (by rfl) (by exact eval_look (by kernel_rfl) (by kernel_rfl)) (fun W hW => ldS _ _ _ _ (cell_later hW (HZC.out 0 _ rfl))) hW) ?_
                    refine @chain _ _ _ _ _ _ _ _ 109 (.string k) (by rfl) (by rfl) (by exact fun W2 hW => run_mv (by rfl) (by exact eval_base (by kernel_rfl) (by rfl)) hW) ?_
                    refine @chain _ _ _ _ _ _ _ _ 110 (.bool true) (by rfl) (by rfl) (by exact fun W2 hW => run_bo (u := .string z.1) (v := .string k) (by rfl) (by exact eval_look (by kernel_rfl) (by kernel_rfl)) (by exact eval_look (by kernel_rfl) (by kernel_rfl)) (fun W => strEq_run _ _ _ _ _ _ hd1 W) hW) ?_
                    refine @chain _ _ _ _ _ _ _ _ 111 (.bool true) (by rfl) (by rfl) (by exact fun W2 hW => run_mv (by rfl) (by exact eval_look (by kernel_rfl) (by kernel_rfl)) hW) ?_
                    refine @chainG _ _ _ _ _ _ _ _ 112 (.slice (some ⟨bz, oz, none⟩) m c2) (by kernel_rfl) (by rfl) (by exact fun W2 hW => run_mv (by rfl) (by exact eval_base (by kernel_rfl) (by rfl)) hW) ?_
                    refine @chainG _ _ _ _ _ _ _ _ 113 (.int .i64 (j : Int)) (by kernel_rfl) (by rfl) (by exact fun W2 hW => run_mv (by rfl) (by exact eval_base (by kernel_rfl) (by rfl)) hW) ?_
                    refine @chainG _ _ _ _ _ _ _ _ 114 (.pointer (some ⟨bz, oz + j * 4, none⟩)) (by kernel_rfl) (by rfl) (by exact fun W2 hW => run_ia (u := .slice (some ⟨bz, oz, none⟩) m c2) (v := .int .i64 (j : Int)) (by rfl) (by exact eval_look (by kernel_rfl) (by kernel_rfl)) (by exact eval_look (by kernel_rfl) (by kernel_rfl)) (fun W => idx_run _ _ _ _ _ (by omega) W) hW) ?_
                    refine @chainG _ _ _ _ _ _ _ _ 115 (.pointer (some ⟨bz, oz + j * 4 + 1, none⟩)) (by kernel_rfl) (by rfl) (by exact fun W2 hW => run_fa (p := .pointer (some ⟨bz, oz + j * 4, none⟩)) (by rfl) (by exact eval_look (by kernel_rfl) (by kernel_rfl)) (fun W => by first | kernel_rfl | go_simp) hW) ?_
                    refine @chainG _ _ _ _ _ _ _ _ 116 (.int .u64 z.2.1) (by kernel_rfl) (by rfl) (by exact fun W2 hW => run_lw (by rfl) (by exact eval_look (by kernel_rfl) (by kernel_rfl)) (fun W hW => ldU _ _ _ _ (cell_later hW (HZC.out 1 _ rfl))) hW) ?_
                    refine @chainG _ _ _ _ _ _ _ _ 117 (.int .u64 q) (by kernel_rfl) (by rfl) (by exact fun W2 hW => run_mv (by rfl) (by exact eval_base (by kernel_rfl) (by rfl)) hW) ?_
                    refine @chainG _ _ _ _ _ _ _ _ 118 (.bool true) (by kernel_rfl) (by rfl) (by exact fun W2 hW => run_bo (u := .int .u64 z.2.1) (v := .int .u64 q) (by rfl) (by exact eval_look (by kernel_rfl) (by kernel_rfl)) (by exact eval_look (by kernel_rfl) (by kernel_rfl)) (fun W => cmpN_run _ _ _ _ _ _ _ hd2 W) hW) ?_
                    refine @chain _ _ _ _ _ _ _ _ 119 (.bool true) (by rfl) (by rfl) (by exact fun W2 hW => run_pkT (by rfl) (by exact eval_look (by kernel_rfl) (by kernel_rfl)) (by exact eval_look (by kernel_rfl) (by kernel_rfl)) hW) ?_
                    refine @chain _ _ _ _ _ _ _ _ 120 (.bool true) (by rfl) (by rfl) (by exact fun W2 hW => run_mv (by rfl) (by exact eval_look (by kernel_rfl) (by kernel_rfl)) hW) ?_
                    refine @chainG _ _ _ _ _ _ _ _ 121 (.bool true) (by kernel_rfl) (by rfl) (by exact fun W2 hW => run_mv (by rfl) (by exact eval_base (by kernel_rfl) (by rfl)) hW) ?_
                    refine @chainG _ _ _ _ _ _ _ _ 122 (.bool false) (by kernel_rfl) (by rfl) (by exact fun W2 hW => run_uo (u := .bool true) (by rfl) (by exact eval_look (by kernel_rfl) (by kernel_rfl)) (fun W => by go_simp) hW) ?_
                    refine @chainG _ _ _ _ _ _ _ _ 123 (.bool false) (by kernel_rfl) (by rfl) (by exact fun W2 hW => run_mv (by rfl) (by exact eval_look (by kernel_rfl) (by kernel_rfl)) hW) ?_
                    refine @chainG _ _ _ _ _ _ _ _ 124 (.slice (some ⟨bz, oz, none⟩) m c2) (by kernel_rfl) (by rfl) (by exact fun W2 hW => run_mv (by rfl) (by exact eval_base (by kernel_rfl) (by rfl)) hW) ?_
                    refine @chainG _ _ _ _ _ _ _ _ 125 (.int .i64 (j : Int)) (by kernel_rfl) (by rfl) (by exact fun W2 hW => run_mv (by rfl) (by exact eval_base (by kernel_rfl) (by rfl)) hW) ?_
                    refine @chainG _ _ _ _ _ _ _ _ 126 (.pointer (some ⟨bz, oz + j * 4, none⟩)) (by kernel_rfl) (by rfl) (by exact fun W2 hW => run_ia (u := .slice (some ⟨bz, oz, none⟩) m c2) (v := .int .i64 (j : Int)) (by rfl) (by exact eval_look (by kernel_rfl) (by kernel_rfl)) (by exact eval_look (by kernel_rfl) (by kernel_rfl)) (fun W => idx_run _ _ _ _ _ (by omega) W) hW) ?_
                    refine @chainG _ _ _ _ _ _ _ _ 127 (.pointer (some ⟨bz, oz + j * 4 + 1, none⟩)) (by kernel_rfl) (by rfl) (by exact fun W2 hW => run_fa (p := .pointer (some ⟨bz, oz + j * 4, none⟩)) (by rfl) (by exact eval_look (by kernel_rfl) (by kernel_rfl)) (fun W => by first | kernel_rfl | go_simp) hW) ?_
                    refine @chainG _ _ _ _ _ _ _ _ 128 (.int .u64 z.2.1) (by kernel_rfl) (by rfl) (by exact fun W2 hW => run_lw (by rfl) (by exact eval_look (by kernel_rfl) (by kernel_rfl)) (fun W hW => ldU _ _ _ _ (cell_later hW (HZC.out 1 _ rfl))) hW) ?_
                    refine @chainG _ _ _ _ _ _ _ _ 129 (.pointer (some ⟨wl.heap.size, 1, none⟩)) (by kernel_rfl) (by rfl) (by exact fun W2 hW => run_fa (p := .pointer (some ⟨wl.heap.size, 0, none⟩)) (by rfl) (by exact eval_base (by kernel_rfl) (by rfl)) (fun W => by first | kernel_rfl | go_simp) hW) ?_
                    refine @chainG _ _ _ _ _ _ _ _ 130 (.int .u64 be.2.1) (by kernel_rfl) (by rfl) (by exact fun W2 hW => run_lw (by rfl) (by exact eval_look (by kernel_rfl) (by kernel_rfl)) (fun W hW => ldU _ _ _ _ (cell_later hW (HBB.out 1 _ rfl))) hW) ?_
                    refine @chainG _ _ _ _ _ _ _ _ 131 (.bool true) (by kernel_rfl) (by rfl) (by exact fun W2 hW => run_bo (u := .int .u64 z.2.1) (v := .int .u64 be.2.1) (by rfl) (by exact eval_look (by kernel_rfl) (by kernel_rfl)) (by exact eval_look (by kernel_rfl) (by kernel_rfl)) (fun W => gtrN_run _ _ _ _ _ _ _ hd3 W) hW) ?_
                    refine @chainG _ _ _ _ _ _ _ _ 132 (.bool true) (by kernel_rfl) (by rfl) (by exact fun W2 hW => run_pkF (by rfl) (by exact eval_look (by kernel_rfl) (by kernel_rfl)) (by exact eval_look (by kernel_rfl) (by kernel_rfl)) hW) ?_
                    refine calm_nil (fun W2 hW2 => ?_)
                    refine Eq.mpr (congrArg (fun a => wpList _ _ _ _ a W2) (show _ = (⟨#[Value.slice A nd c, Value.slice B n d, Value.string k, Value.int IntKind.u64 q, undef, undef, undef, undef, Value.bool false, Value.pointer (some ⟨g, 0, none⟩), Value.slice (some ⟨bz, oz, none⟩) m c2, Value.pointer (some ⟨w2.heap.size, 0, none⟩), Value.slice A4 0 c4, Value.bool true, Value.pointer (some ⟨w5.heap.size, 0, none⟩), Value.bool false, Value.int IntKind.i64 0, Value.int IntKind.i64 (m : Int), Value.pointer (some ⟨wl.heap.size, 0, none⟩), Value.bool true, Value.int IntKind.i64 (j : Int), undef, Value.bool true, Value.bool false, Value.tuple #[Value.pointer (some ⟨g, 0, none⟩), Value.slice (some ⟨bz, oz, none⟩) m c2], Value.slice A nd c, Value.slice B n d, Value.tuple #[Value.pointer (some ⟨g, 0, none⟩), Value.slice (some ⟨bz, oz, none⟩) m c2], Value.pointer (some ⟨g, 0, none⟩), Value.slice (some ⟨bz, oz, none⟩) m c2, Value.pointer (some ⟨g, 0, none⟩), Value.bool false, Value.string k, Value.int IntKind.u64 q, Value.agg #[Value.string k, Value.int IntKind.u64 q, Value.bool false, Value.string ⟨#[]⟩], Value.tuple #[Value.slice A4 0 c4, Value.bool true], Value.pointer (some ⟨g, 0, none⟩), Value.string k, Value.int IntKind.u64 q, f, Value.tuple #[Value.slice A4 0 c4, Value.bool true], Value.slice A4 0 c4, Value.bool true, Value.tuple #[Value.agg #[Value.string zeroE.fst, Value.int IntKind.u64 zeroE.snd.fst, Value.bool zeroE.snd.snd.fst, Value.string zeroE.snd.snd.snd], Value.bool false], Value.pointer (some ⟨g, 0, none⟩), Value.string k, Value.int IntKind.u64 q, Value.tuple #[Value.agg #[Value.string zeroE.fst, Value.int IntKind.u64 zeroE.snd.fst, Value.bool zeroE.snd.snd.fst, Value.string zeroE.snd.snd.snd], Value.bool false], Value.agg #[Value.string zeroE.fst, Value.int IntKind.u64 zeroE.snd.fst, Value.bool zeroE.snd.snd.fst, Value.string zeroE.snd.snd.snd], Value.bool false, Value.bool true, Value.bool false, Value.bool false, Value.bool false, Value.slice A4 0 c4, Value.int IntKind.i64 0, Value.bool false, Value.bool false, Value.bool false, Value.bool false, Value.bool false, Value.bool false, undef, undef, undef, undef, undef, Value.bool false, Value.bool false, Value.bool false, Value.bool false, Value.bool true, Value.bool true, Value.agg (encE zeroE).toArray, Value.agg (encE zeroE).toArray, Value.bool false, Value.bool false, Value.bool false, Value.int IntKind.i64 (m : Int), Value.slice (some ⟨bz, oz, none⟩) m c2, Value.int IntKind.i64 (m : Int), Value.bool false, u82, u83, u84, u85, u86, u87, u88, u89, u90, u91, u92, Value.int IntKind.i64 0, Value.slice A4 0 c4, Value.int IntKind.i64 0, Value.bool false, Value.agg #[Value.string ⟨#[]⟩, Value.int IntKind.u64 0, Value.bool false, Value.string ⟨#[]⟩], Value.int IntKind.i64 (j : Int), Value.slice (some ⟨bz, oz, none⟩) m c2, Value.int IntKind.i64 (m : Int), Value.bool true, u102, u103, Value.slice (some ⟨bz, oz, none⟩) m c2, Value.int IntKind.i64 (j : Int), Value.pointer (some ⟨bz, oz + j * 4, none⟩), Value.pointer (some ⟨bz, oz + j * 4, none⟩), Value.string z.fst, Value.string k, Value.bool true, Value.bool true, Value.slice (some ⟨bz, oz, none⟩) m c2, Value.int IntKind.i64 (j : Int), Value.pointer (some ⟨bz, oz + j * 4, none⟩), Value.pointer (some ⟨bz, oz + j * 4 + 1, none⟩), Value.int IntKind.u64 z.snd.fst, Value.int IntKind.u64 q, Value.bool true, Value.bool true, Value.bool true, Value.bool true, Value.bool false, Value.bool false, Value.slice (some ⟨bz, oz, none⟩) m c2, Value.int IntKind.i64 (j : Int), Value.pointer (some ⟨bz, oz + j * 4, none⟩), Value.pointer (some ⟨bz, oz + j * 4 + 1, none⟩), Value.int IntKind.u64 z.snd.fst, Value.pointer (some ⟨wl.heap.size, 1, none⟩), Value.int IntKind.u64 be.snd.fst, Value.bool true, Value.bool true, u133, u134, u135, u136, u137, undef, undef, undef, undef, undef, undef, undef, undef, undef, undef, undef, undef, undef, undef, undef, undef, undef, undef, undef, undef, undef, undef, undef, undef, undef, undef, undef, undef, undef, undef, undef, undef, undef, undef, undef, undef, undef, undef, undef, undef, undef, undef, undef, undef, undef, undef, undef], []⟩ : Act) by kernel_rfl)) ?_
                    have HW2 := Lib.hid hW2
                    clear hW2
                    clear hd1 hd2 hd3
                    have hbh := blk_below HBH.out HW2.out
                    obtain ⟨⟨b0, b1, b2, b3⟩, f0, f1, f2, f3⟩ := cells4 (t := 53) (show W2.heap[wl.heap.size]? = some (.cells #[.string be.1, .int .u64 be.2.1, .bool be.2.2.1, .string be.2.2.2] 53 (0, 0)) from hbh)
                    have z0 := cell_later HW2.out (HZC.out 0 _ rfl)
                    have z1 := cell_later HW2.out (HZC.out 1 _ rfl)
                    have z2 := cell_later HW2.out (HZC.out 2 _ rfl)
                    have z3 := cell_later HW2.out (HZC.out 3 _ rfl)
                    simp only [Nat.add_zero] at z0
                    go_wp2
                    go_roundw
                    case rel => exact ⟨j + 1, by first | rfl | simp, by omega, by rw [HNX.out]; first | rfl | (simp only [HST.out]), by rw [HNX.out, HST.out]; exact put4_heap (v0 := .string be.1) (v1 := .int .u64 be.2.1) (v2 := .bool be.2.2.1) (v3 := .string be.2.2.2) hbh, (HBJ.out.trans (HW2.out.mono HBJ.out.size)).trans ((put4_upd (S := fun k => k = wl.heap.size) _ _ _ _ _ rfl).bel (fun k hk => by omega) (Nat.le_of_lt (blk_lt hbh)))⟩
                    case measure => simp [intOf]; omega
                  | false =>
                    have HST := Lib.hid (show bestS k q (be, true) z = (be, true) by unfold bestS; rw [HFT.out, hd1, hd2, hd3]; rfl)
                    go_wp2_with fail
                    refine wp_region_calmB 29 (by kernel_rfl) (by kernel_rfl) ?_
                    simp only [List.take_succ_cons, List.take_zero, List.drop_succ_cons, List.drop_zero]
                    refine chain0 ?_
                    refine @chain _ _ _ _ _ _ _ _ 104 (.slice (some ⟨bz, oz, none⟩) m c2) (by rfl) (by rfl) (by exact fun W2 hW => run_mv (by rfl) (by exact eval_base (by kernel_rfl) (by rfl)) hW) ?_
                    refine @chain _ _ _ _ _ _ _ _ 105 (.int .i64 (j : Int)) (by rfl) (by rfl) (by exact fun W2 hW => run_mv (by rfl) (by exact eval_base (by kernel_rfl) (by rfl)) hW) ?_
                    refine @chain _ _ _ _ _ _ _ _ 106 (.pointer (some ⟨bz, oz + j * 4, none⟩)) (by rfl) (by rfl) (by exact fun W2 hW => run_ia (u := .slice (some ⟨bz, oz, none⟩) m c2) (v := .int .i64 (j : Int)) (by rfl) (by exact eval_look (by kernel_rfl) (by kernel_rfl)) (by exact eval_look (by kernel_rfl) (by kernel_rfl)) (fun W => idx_run _ _ _ _ _ (by omega) W) hW) ?_
                    refine @chain _ _ _ _ _ _ _ _ 107 (.pointer (some ⟨bz, oz + j * 4, none⟩)) (by rfl) (by rfl) (by exact fun W2 hW => run_fa (p := .pointer (some ⟨bz, oz + j * 4, none⟩)) (by rfl) (by exact eval_look (by kernel_rfl) (by kernel_rfl)) (fun W => by first | kernel_rfl | go_simp) hW) ?_
                    refine @chain _ _ _ _ _ _ _ _ 108 (.string z.1) (by rfl) (by rfl) (by exact fun W2 hW => run_lw (by rfl) (by exact eval_look (by kernel_rfl) (by kernel_rfl)) (fun W hW => ldS _ _ _ _ (cell_later hW (HZC.out 0 _ rfl))) hW) ?_
                    refine @chain _ _ _ _ _ _ _ _ 109 (.string k) (by rfl) (by rfl) (by exact fun W2 hW => run_mv (by rfl) (by exact eval_base (by kernel_rfl) (by rfl)) hW) ?_
                    refine @chain _ _ _ _ _ _ _ _ 110 (.bool true) (by rfl) (by rfl) (by exact fun W2 hW => run_bo (u := .string z.1) (v := .string k) (by rfl) (by exact eval_look (by kernel_rfl) (by kernel_rfl)) (by exact eval_look (by kernel_rfl) (by kernel_rfl)) (fun W => strEq_run _ _ _ _ _ _ hd1 W) hW) ?_
                    refine @chain _ _ _ _ _ _ _ _ 111 (.bool true) (by rfl) (by rfl) (by exact fun W2 hW => run_mv (by rfl) (by exact eval_look (by kernel_rfl) (by kernel_rfl)) hW) ?_
                    refine @chainG _ _ _ _ _ _ _ _ 112 (.slice (some ⟨bz, oz, none⟩) m c2) (by kernel_rfl) (by rfl) (by exact fun W2 hW => run_mv (by rfl) (by exact eval_base (by kernel_rfl) (by rfl)) hW) ?_
                    refine @chainG _ _ _ _ _ _ _ _ 113 (.int .i64 (j : Int)) (by kernel_rfl) (by rfl) (by exact fun W2 hW => run_mv (by rfl) (by exact eval_base (by kernel_rfl) (by rfl)) hW) ?_
                    refine @chainG _ _ _ _ _ _ _ _ 114 (.pointer (some ⟨bz, oz + j * 4, none⟩)) (by kernel_rfl) (by rfl) (by exact fun W2 hW => run_ia (u := .slice (some ⟨bz, oz, none⟩) m c2) (v := .int .i64 (j : Int)) (by rfl) (by exact eval_look (by kernel_rfl) (by kernel_rfl)) (by exact eval_look (by kernel_rfl) (by kernel_rfl)) (fun W => idx_run _ _ _ _ _ (by omega) W) hW) ?_
                    refine @chainG _ _ _ _ _ _ _ _ 115 (.pointer (some ⟨bz, oz + j * 4 + 1, none⟩)) (by kernel_rfl) (by rfl) (by exact fun W2 hW => run_fa (p := .pointer (some ⟨bz, oz + j * 4, none⟩)) (by rfl) (by exact eval_look (by kernel_rfl) (by kernel_rfl)) (fun W => by first | kernel_rfl | go_simp) hW) ?_
                    refine @chainG _ _ _ _ _ _ _ _ 116 (.int .u64 z.2.1) (by kernel_rfl) (by rfl) (by exact fun W2 hW => run_lw (by rfl) (by exact eval_look (by kernel_rfl) (by kernel_rfl)) (fun W hW => ldU _ _ _ _ (cell_later hW (HZC.out 1 _ rfl))) hW) ?_
                    refine @chainG _ _ _ _ _ _ _ _ 117 (.int .u64 q) (by kernel_rfl) (by rfl) (by exact fun W2 hW => run_mv (by rfl) (by exact eval_base (by kernel_rfl) (by rfl)) hW) ?_
                    refine @chainG _ _ _ _ _ _ _ _ 118 (.bool true) (by kernel_rfl) (by rfl) (by exact fun W2 hW => run_bo (u := .int .u64 z.2.1) (v := .int .u64 q) (by rfl) (by exact eval_look (by kernel_rfl) (by kernel_rfl)) (by exact eval_look (by kernel_rfl) (by kernel_rfl)) (fun W => cmpN_run _ _ _ _ _ _ _ hd2 W) hW) ?_
                    refine @chain _ _ _ _ _ _ _ _ 119 (.bool true) (by rfl) (by rfl) (by exact fun W2 hW => run_pkT (by rfl) (by exact eval_look (by kernel_rfl) (by kernel_rfl)) (by exact eval_look (by kernel_rfl) (by kernel_rfl)) hW) ?_
                    refine @chain _ _ _ _ _ _ _ _ 120 (.bool true) (by rfl) (by rfl) (by exact fun W2 hW => run_mv (by rfl) (by exact eval_look (by kernel_rfl) (by kernel_rfl)) hW) ?_
                    refine @chainG _ _ _ _ _ _ _ _ 121 (.bool true) (by kernel_rfl) (by rfl) (by exact fun W2 hW => run_mv (by rfl) (by exact eval_base (by kernel_rfl) (by rfl)) hW) ?_
                    refine @chainG _ _ _ _ _ _ _ _ 122 (.bool false) (by kernel_rfl) (by rfl) (by exact fun W2 hW => run_uo (u := .bool true) (by rfl) (by exact eval_look (by kernel_rfl) (by kernel_rfl)) (fun W => by go_simp) hW) ?_
                    refine @chainG _ _ _ _ _ _ _ _ 123 (.bool false) (by kernel_rfl) (by rfl) (by exact fun W2 hW => run_mv (by rfl) (by exact eval_look (by kernel_rfl) (by kernel_rfl)) hW) ?_
                    refine @chainG _ _ _ _ _ _ _ _ 124 (.slice (some ⟨bz, oz, none⟩) m c2) (by kernel_rfl) (by rfl) (by exact fun W2 hW => run_mv (by rfl) (by exact eval_base (by kernel_rfl) (by rfl)) hW) ?_
                    refine @chainG _ _ _ _ _ _ _ _ 125 (.int .i64 (j : Int)) (by kernel_rfl) (by rfl) (by exact fun W2 hW => run_mv (by rfl) (by exact eval_base (by kernel_rfl) (by rfl)) hW) ?_
                    refine @chainG _ _ _ _ _ _ _ _ 126 (.pointer (some ⟨bz, oz + j * 4, none⟩)) (by kernel_rfl) (by rfl) (by exact fun W2 hW => run_ia (u := .slice (some ⟨bz, oz, none⟩) m c2) (v := .int .i64 (j : Int)) (by rfl) (by exact eval_look (by kernel_rfl) (by kernel_rfl)) (by exact eval_look (by kernel_rfl) (by kernel_rfl)) (fun W => idx_run _ _ _ _ _ (by omega) W) hW) ?_
                    refine @chainG _ _ _ _ _ _ _ _ 127 (.pointer (some ⟨bz, oz + j * 4 + 1, none⟩)) (by kernel_rfl) (by rfl) (by exact fun W2 hW => run_fa (p := .pointer (some ⟨bz, oz + j * 4, none⟩)) (by rfl) (by exact eval_look (by kernel_rfl) (by kernel_rfl)) (fun W => by first | kernel_rfl | go_simp) hW) ?_
                    refine @chainG _ _ _ _ _ _ _ _ 128 (.int .u64 z.2.1) (by kernel_rfl) (by rfl) (by exact fun W2 hW => run_lw (by rfl) (by exact eval_look (by kernel_rfl) (by kernel_rfl)) (fun W hW => ldU _ _ _ _ (cell_later hW (HZC.out 1 _ rfl))) hW) ?_
                    refine @chainG _ _ _ _ _ _ _ _ 129 (.pointer (some ⟨wl.heap.size, 1, none⟩)) (by kernel_rfl) (by rfl) (by exact fun W2 hW => run_fa (p := .pointer (some ⟨wl.heap.size, 0, none⟩)) (by rfl) (by exact eval_base (by kernel_rfl) (by rfl)) (fun W => by first | kernel_rfl | go_simp) hW) ?_
                    refine @chainG _ _ _ _ _ _ _ _ 130 (.int .u64 be.2.1) (by kernel_rfl) (by rfl) (by exact fun W2 hW => run_lw (by rfl) (by exact eval_look (by kernel_rfl) (by kernel_rfl)) (fun W hW => ldU _ _ _ _ (cell_later hW (HBB.out 1 _ rfl))) hW) ?_
                    refine @chainG _ _ _ _ _ _ _ _ 131 (.bool false) (by kernel_rfl) (by rfl) (by exact fun W2 hW => run_bo (u := .int .u64 z.2.1) (v := .int .u64 be.2.1) (by rfl) (by exact eval_look (by kernel_rfl) (by kernel_rfl)) (by exact eval_look (by kernel_rfl) (by kernel_rfl)) (fun W => gtrN_run _ _ _ _ _ _ _ hd3 W) hW) ?_
                    refine @chainG _ _ _ _ _ _ _ _ 132 (.bool false) (by kernel_rfl) (by rfl) (by exact fun W2 hW => run_pkF (by rfl) (by exact eval_look (by kernel_rfl) (by kernel_rfl)) (by exact eval_look (by kernel_rfl) (by kernel_rfl)) hW) ?_
                    refine calm_nil (fun W2 hW2 => ?_)
                    refine Eq.mpr (congrArg (fun a => wpList _ _ _ _ a W2) (show _ = (⟨#[Value.slice A nd c, Value.slice B n d, Value.string k, Value.int IntKind.u64 q, undef, undef, undef, undef, Value.bool false, Value.pointer (some ⟨g, 0, none⟩), Value.slice (some ⟨bz, oz, none⟩) m c2, Value.pointer (some ⟨w2.heap.size, 0, none⟩), Value.slice A4 0 c4, Value.bool true, Value.pointer (some ⟨w5.heap.size, 0, none⟩), Value.bool false, Value.int IntKind.i64 0, Value.int IntKind.i64 (m : Int), Value.pointer (some ⟨wl.heap.size, 0, none⟩), Value.bool true, Value.int IntKind.i64 (j : Int), undef, Value.bool true, Value.bool false, Value.tuple #[Value.pointer (some ⟨g, 0, none⟩), Value.slice (some ⟨bz, oz, none⟩) m c2], Value.slice A nd c, Value.slice B n d, Value.tuple #[Value.pointer (some ⟨g, 0, none⟩), Value.slice (some ⟨bz, oz, none⟩) m c2], Value.pointer (some ⟨g, 0, none⟩), Value.slice (some ⟨bz, oz, none⟩) m c2, Value.pointer (some ⟨g, 0, none⟩), Value.bool false, Value.string k, Value.int IntKind.u64 q, Value.agg #[Value.string k, Value.int IntKind.u64 q, Value.bool false, Value.string ⟨#[]⟩], Value.tuple #[Value.slice A4 0 c4, Value.bool true], Value.pointer (some ⟨g, 0, none⟩), Value.string k, Value.int IntKind.u64 q, f, Value.tuple #[Value.slice A4 0 c4, Value.bool true], Value.slice A4 0 c4, Value.bool true, Value.tuple #[Value.agg #[Value.string zeroE.fst, Value.int IntKind.u64 zeroE.snd.fst, Value.bool zeroE.snd.snd.fst, Value.string zeroE.snd.snd.snd], Value.bool false], Value.pointer (some ⟨g, 0, none⟩), Value.string k, Value.int IntKind.u64 q, Value.tuple #[Value.agg #[Value.string zeroE.fst, Value.int IntKind.u64 zeroE.snd.fst, Value.bool zeroE.snd.snd.fst, Value.string zeroE.snd.snd.snd], Value.bool false], Value.agg #[Value.string zeroE.fst, Value.int IntKind.u64 zeroE.snd.fst, Value.bool zeroE.snd.snd.fst, Value.string zeroE.snd.snd.snd], Value.bool false, Value.bool true, Value.bool false, Value.bool false, Value.bool false, Value.slice A4 0 c4, Value.int IntKind.i64 0, Value.bool false, Value.bool false, Value.bool false, Value.bool false, Value.bool false, Value.bool false, undef, undef, undef, undef, undef, Value.bool false, Value.bool false, Value.bool false, Value.bool false, Value.bool true, Value.bool true, Value.agg (encE zeroE).toArray, Value.agg (encE zeroE).toArray, Value.bool false, Value.bool false, Value.bool false, Value.int IntKind.i64 (m : Int), Value.slice (some ⟨bz, oz, none⟩) m c2, Value.int IntKind.i64 (m : Int), Value.bool false, u82, u83, u84, u85, u86, u87, u88, u89, u90, u91, u92, Value.int IntKind.i64 0, Value.slice A4 0 c4, Value.int IntKind.i64 0, Value.bool false, Value.agg #[Value.string ⟨#[]⟩, Value.int IntKind.u64 0, Value.bool false, Value.string ⟨#[]⟩], Value.int IntKind.i64 (j : Int), Value.slice (some ⟨bz, oz, none⟩) m c2, Value.int IntKind.i64 (m : Int), Value.bool true, u102, u103, Value.slice (some ⟨bz, oz, none⟩) m c2, Value.int IntKind.i64 (j : Int), Value.pointer (some ⟨bz, oz + j * 4, none⟩), Value.pointer (some ⟨bz, oz + j * 4, none⟩), Value.string z.fst, Value.string k, Value.bool true, Value.bool true, Value.slice (some ⟨bz, oz, none⟩) m c2, Value.int IntKind.i64 (j : Int), Value.pointer (some ⟨bz, oz + j * 4, none⟩), Value.pointer (some ⟨bz, oz + j * 4 + 1, none⟩), Value.int IntKind.u64 z.snd.fst, Value.int IntKind.u64 q, Value.bool true, Value.bool true, Value.bool true, Value.bool true, Value.bool false, Value.bool false, Value.slice (some ⟨bz, oz, none⟩) m c2, Value.int IntKind.i64 (j : Int), Value.pointer (some ⟨bz, oz + j * 4, none⟩), Value.pointer (some ⟨bz, oz + j * 4 + 1, none⟩), Value.int IntKind.u64 z.snd.fst, Value.pointer (some ⟨wl.heap.size, 1, none⟩), Value.int IntKind.u64 be.snd.fst, Value.bool false, Value.bool false, u133, u134, u135, u136, u137, undef, undef, undef, undef, undef, undef, undef, undef, undef, undef, undef, undef, undef, undef, undef, undef, undef, undef, undef, undef, undef, undef, undef, undef, undef, undef, undef, undef, undef, undef, undef, undef, undef, undef, undef, undef, undef, undef, undef, undef, undef, undef, undef, undef, undef, undef, undef], []⟩ : Act) by kernel_rfl)) ?_
                    have HW2 := Lib.hid hW2
                    clear hW2
                    clear hd1 hd2 hd3
                    go_wp2
                    go_roundw
                    case rel => exact ⟨j + 1, by first | rfl | simp, by omega, by rw [HNX.out]; first | rfl | (simp only [HST.out]), by rw [HNX.out, HST.out]; exact blk_below HBH.out HW2.out, HBJ.out.trans (HW2.out.mono HBJ.out.size)⟩
                    case measure => simp [intOf]; omega
          · have hjm2 : m = j := by omega
            subst hjm2
            have HBF := Lib.hid (show bestF k q ins = (be, bf) by rw [← HBQ.out, List.take_of_length_le (by rw [HMM.out]; exact Nat.le_refl _)])
            clear HBQ
            generalize wj = wz at *
            have hbf : bf = false := by
              cases bf with
              | false => rfl
              | true =>
                obtain ⟨x, t, h, _⟩ := HBEST.out.1.1 (by rw [HBF.out])
                cases h
            subst hbf
            have HBZ := Lib.hid (HBJ.out)
            go_wp2_with fail
            go_loopw [21] (fun s21 wr => s21 = .int .i64 0 ∧ Below wl.heap.size wl wr) (fun s21 wr => 0)
            case atStart => exact ⟨rfl, HBZ.out⟩
            case round =>
              obtain ⟨rfl, hbj⟩ := hrel
              have HB8 := Lib.hid (HB6.out.trans (hbj.mono HB6.out.size))
              clear hbj
              go_wp2
              go_ret
              exact ⟨rfl, HB8.out⟩
  | cons x t =>
    have his : is = true := HIS.out.symm
    have heh : x = eh := HEH.out
    have hnp : 0 < np := by rw [← HNP.out]; simp
    subst his; subst heh
    obtain ⟨bp, op, pA, plt, pc⟩ := HAE.out.at (i := 0) (x := x) rfl
    subst pA
    have HXC := Lib.hid (show ∀ i v, (encE x)[i]? = some v → Ya.cell? ⟨bp, op + i, none⟩ = some v from fun i v hv => by have := pc i v hv; simpa using this)
    clear pc plt
    go_wp2_with fail
    refine wp_region_calmB 27 (by kernel_rfl) (by kernel_rfl) ?_
    simp only [List.take_succ_cons, List.take_zero, List.drop_succ_cons, List.drop_zero]
    refine chain0 ?_
    refine @chain _ _ _ _ _ _ _ _ 50 (.bool true) (by rfl) (by rfl) (by exact fun W2 hW => run_mv (by rfl) (by exact eval_base (by kernel_rfl) (by rfl)) hW) ?_
    refine @chain _ _ _ _ _ _ _ _ 51 (.bool false) (by rfl) (by rfl) (by exact fun W2 hW => run_uo (u := .bool true) (by rfl) (by exact eval_look (by kernel_rfl) (by kernel_rfl)) (fun W => by go_simp) hW) ?_
    refine @chain _ _ _ _ _ _ _ _ 52 (.bool false) (by rfl) (by rfl) (by exact fun W2 hW => run_mv (by rfl) (by exact eval_look (by kernel_rfl) (by kernel_rfl)) hW) ?_
    refine @chainG _ _ _ _ _ _ _ _ 53 (.bool true) (by kernel_rfl) (by rfl) (by exact fun W2 hW => run_mv (by rfl) (by exact eval_base (by kernel_rfl) (by rfl)) hW) ?_
    refine @chainG _ _ _ _ _ _ _ _ 54 (.slice (some ⟨bp, op, none⟩) np c4) (by kernel_rfl) (by rfl) (by exact fun W2 hW => run_mv (by rfl) (by exact eval_base (by kernel_rfl) (by rfl)) hW) ?_
    refine @chainG _ _ _ _ _ _ _ _ 55 (.int .i64 np) (by kernel_rfl) (by rfl) (by exact fun W2 hW => run_ln (u := .slice (some ⟨bp, op, none⟩) np c4) (by rfl) (by exact eval_look (by kernel_rfl) (by kernel_rfl)) (fun W => by go_simp) hW) ?_
    refine @chainG _ _ _ _ _ _ _ _ 56 (.bool true) (by kernel_rfl) (by rfl) (by exact fun W2 hW => run_bo (u := .int .i64 np) (v := .int .i64 0) (by rfl) (by exact eval_look (by kernel_rfl) (by kernel_rfl)) (by rfl) (fun W => by go_simp) hW) ?_
    refine @chainG _ _ _ _ _ _ _ _ 57 (.bool false) (by kernel_rfl) (by rfl) (by exact fun W2 hW => run_bo (u := .bool true) (v := .bool true) (by rfl) (by exact eval_look (by kernel_rfl) (by kernel_rfl)) (by exact eval_look (by kernel_rfl) (by kernel_rfl)) (fun W => neB_run _ _ _ _ _ rfl W) hW) ?_
    refine @chain _ _ _ _ _ _ _ _ 58 (.bool false) (by rfl) (by rfl) (by exact fun W2 hW => run_pkF (by rfl) (by exact eval_look (by kernel_rfl) (by kernel_rfl)) (by exact eval_look (by kernel_rfl) (by kernel_rfl)) hW) ?_
    refine @chain _ _ _ _ _ _ _ _ 59 (.bool false) (by rfl) (by rfl) (by exact fun W2 hW => run_mv (by rfl) (by exact eval_look (by kernel_rfl) (by kernel_rfl)) hW) ?_
    refine @chainG _ _ _ _ _ _ _ _ 60 (.bool true) (by kernel_rfl) (by rfl) (by exact fun W2 hW => run_mv (by rfl) (by exact eval_base (by kernel_rfl) (by rfl)) hW) ?_
    refine @chainG _ _ _ _ _ _ _ _ 61 (.bool true) (by kernel_rfl) (by rfl) (by exact fun W2 hW => run_mv (by rfl) (by exact eval_look (by kernel_rfl) (by kernel_rfl)) hW) ?_
    refine @chainG _ _ _ _ _ _ _ _ 62 (.agg (encE x).toArray) (by kernel_rfl) (by rfl) (by exact fun W2 hW => run_lw (by rfl) (by exact eval_base (by kernel_rfl) (by rfl)) (fun W hW => ldEnt _ _ _ (fun i v hv => cell_later hW (boxEnt HRY.out i v hv))) hW) ?_
    refine @chainG _ _ _ _ _ _ _ _ 63 (.slice (some ⟨bp, op, none⟩) np c4) (by kernel_rfl) (by rfl) (by exact fun W2 hW => run_mv (by rfl) (by exact eval_base (by kernel_rfl) (by rfl)) hW) ?_
    refine @chainG _ _ _ _ _ _ _ _ 64 (.pointer (some ⟨bp, op, none⟩)) (by kernel_rfl) (by rfl) (by exact fun W2 hW => run_ia (u := .slice (some ⟨bp, op, none⟩) np c4) (v := .int .i64 0) (by rfl) (by exact eval_look (by kernel_rfl) (by kernel_rfl)) (by rfl) (fun W => idx0_run _ _ _ _ (by omega) W) hW) ?_
    refine @chainG _ _ _ _ _ _ _ _ 65 (.agg (encE x).toArray) (by kernel_rfl) (by rfl) (by exact fun W2 hW => run_lw (by rfl) (by exact eval_look (by kernel_rfl) (by kernel_rfl)) (fun W hW => ldEntO _ _ _ _ (fun i v hv => cell_later hW (HXC.out i v hv))) hW) ?_
    refine @chainG _ _ _ _ _ _ _ _ 66 (.bool false) (by kernel_rfl) (by rfl) (by exact fun W2 hW => run_bo (u := .agg (encE x).toArray) (v := .agg (encE x).toArray) (by rfl) (by exact eval_look (by kernel_rfl) (by kernel_rfl)) (by exact eval_look (by kernel_rfl) (by kernel_rfl)) (fun W => neEnt_run _ _ _ _ _ (by simp) W) hW) ?_
    refine @chainG _ _ _ _ _ _ _ _ 67 (.bool false) (by kernel_rfl) (by rfl) (by exact fun W2 hW => run_pkT (by rfl) (by exact eval_look (by kernel_rfl) (by kernel_rfl)) (by exact eval_look (by kernel_rfl) (by kernel_rfl)) hW) ?_
    refine @chain _ _ _ _ _ _ _ _ 68 (.bool false) (by rfl) (by rfl) (by exact fun W2 hW => run_pkF (by rfl) (by exact eval_look (by kernel_rfl) (by kernel_rfl)) (by exact eval_look (by kernel_rfl) (by kernel_rfl)) hW) ?_
    refine @chain _ _ _ _ _ _ _ _ 69 (.bool false) (by rfl) (by rfl) (by exact fun W2 hW => run_mv (by rfl) (by exact eval_look (by kernel_rfl) (by kernel_rfl)) hW) ?_
    refine @chainG _ _ _ _ _ _ _ _ 70 (.bool true) (by kernel_rfl) (by rfl) (by exact fun W2 hW => run_mv (by rfl) (by exact eval_base (by kernel_rfl) (by rfl)) hW) ?_
    refine @chainG _ _ _ _ _ _ _ _ 71 (.bool false) (by kernel_rfl) (by rfl) (by exact fun W2 hW => run_uo (u := .bool true) (by rfl) (by exact eval_look (by kernel_rfl) (by kernel_rfl)) (fun W => by go_simp) hW) ?_
    refine @chainG _ _ _ _ _ _ _ _ 72 (.bool false) (by kernel_rfl) (by rfl) (by exact fun W2 hW => run_mv (by rfl) (by exact eval_look (by kernel_rfl) (by kernel_rfl)) hW) ?_
    refine @chainK _ _ _ _ _ _ _ _ 73 (by kernel_rfl) (by rfl) ?_
    refine @chainK _ _ _ _ _ _ _ _ 74 (by kernel_rfl) (by rfl) ?_
    refine @chainK _ _ _ _ _ _ _ _ 75 (by kernel_rfl) (by rfl) ?_
    refine @chainG _ _ _ _ _ _ _ _ 76 (.bool false) (by kernel_rfl) (by rfl) (by exact fun W2 hW => run_pkF (by rfl) (by exact eval_look (by kernel_rfl) (by kernel_rfl)) (by rfl) hW) ?_
    refine calm_nil (fun W2 hW2 => ?_)
    refine Eq.mpr (congrArg (fun a => wpList _ _ _ _ a W2) (show _ = (⟨#[Value.slice A nd c, Value.slice B n d, Value.string k, Value.int IntKind.u64 q, undef, undef, undef, undef, Value.bool false, Value.pointer (some ⟨g, 0, none⟩), Value.slice A2 m c2, Value.pointer (some ⟨w2.heap.size, 0, none⟩), Value.slice (some ⟨bp, op, none⟩) np c4, Value.bool true, Value.pointer (some ⟨w5.heap.size, 0, none⟩), Value.bool true, undef, undef, undef, undef, undef, undef, Value.bool true, Value.bool false, Value.tuple #[Value.pointer (some ⟨g, 0, none⟩), Value.slice A2 m c2], Value.slice A nd c, Value.slice B n d, Value.tuple #[Value.pointer (some ⟨g, 0, none⟩), Value.slice A2 m c2], Value.pointer (some ⟨g, 0, none⟩), Value.slice A2 m c2, Value.pointer (some ⟨g, 0, none⟩), Value.bool false, Value.string k, Value.int IntKind.u64 q, Value.agg #[Value.string k, Value.int IntKind.u64 q, Value.bool false, Value.string ⟨#[]⟩], Value.tuple #[Value.slice (some ⟨bp, op, none⟩) np c4, Value.bool true], Value.pointer (some ⟨g, 0, none⟩), Value.string k, Value.int IntKind.u64 q, f, Value.tuple #[Value.slice (some ⟨bp, op, none⟩) np c4, Value.bool true], Value.slice (some ⟨bp, op, none⟩) np c4, Value.bool true, Value.tuple #[Value.agg #[Value.string x.fst, Value.int IntKind.u64 x.snd.fst, Value.bool x.snd.snd.fst, Value.string x.snd.snd.snd], Value.bool true], Value.pointer (some ⟨g, 0, none⟩), Value.string k, Value.int IntKind.u64 q, Value.tuple #[Value.agg #[Value.string x.fst, Value.int IntKind.u64 x.snd.fst, Value.bool x.snd.snd.fst, Value.string x.snd.snd.snd], Value.bool true], Value.agg #[Value.string x.fst, Value.int IntKind.u64 x.snd.fst, Value.bool x.snd.snd.fst, Value.string x.snd.snd.snd], Value.bool true, Value.bool true, Value.bool false, Value.bool false, Value.bool true, Value.slice (some ⟨bp, op, none⟩) np c4, Value.int IntKind.i64 (np : Int), Value.bool true, Value.bool false, Value.bool false, Value.bool false, Value.bool true, Value.bool true, Value.agg (encE x).toArray, Value.slice (some ⟨bp, op, none⟩) np c4, Value.pointer (some ⟨bp, op, none⟩), Value.agg (encE x).toArray, Value.bool false, Value.bool false, Value.bool false, Value.bool false, Value.bool true, Value.bool false, Value.bool false, undef, undef, undef, Value.bool false, undef, undef, undef, undef, undef, undef, undef, undef, undef, undef, undef, undef, undef, undef, undef, undef, undef, undef, undef, undef, undef, undef, undef, undef, undef, undef, undef, undef, undef, undef, undef, undef, undef, undef, undef, undef, undef, undef, undef, undef, undef, undef, undef, undef, undef, undef, undef, undef, undef, undef, undef, undef, undef, undef, undef, undef, undef, undef, undef, undef, undef, undef, undef, undef, undef, undef, undef, undef, undef, undef, undef, undef, undef, undef, undef, undef, undef, undef, undef, undef, undef, undef, undef, undef, undef, undef, undef, undef, undef, undef, undef, undef, undef, undef, undef, undef, undef, undef, undef, undef, undef, undef, undef, undef, undef, undef, undef, undef], []⟩ : Act) by kernel_rfl)) ?_
    have HW2 := Lib.hid hW2
    clear hW2
    go_wp2_with fail

    go_loopw [16, 17] (fun s16 s17 wr => ∃ j : Nat, s17 = .int .i64 j ∧ j ≤ m ∧ s16 = .int .i64 ((ins.take j).countP (fun e => !decide (ltE e (atE k q))) : Nat) ∧ Below Ya.heap.size Ya wr) (fun s16 s17 wr => m - (intOf s17).toNat)
    case atStart => exact ⟨0, rfl, by omega, by simp, HW2.out⟩
    case round =>
      obtain ⟨j, rfl, hj, rfl, hbj⟩ := hrel
      generalize wr = wj at *
      have HBJ := Lib.hid hbj
      have hcj : (ins.take j).countP (fun e => !decide (ltE e (atE k q))) ≤ j := Nat.le_trans List.countP_le_length (by rw [List.length_take]; omega)
      obtain ⟨cj, hcj2⟩ : ∃ cj, (ins.take j).countP (fun e => !decide (ltE e (atE k q))) = cj := ⟨_, rfl⟩
      rw [hcj2] at hcj ⊢
      have HCJ := Lib.hid hcj2
      clear hcj2 hbj
      by_cases hjm : j < m
      · skip
        obtain ⟨z, hz⟩ := getElem?_of_lt (l := ins) (by rw [HMM.out]; exact hjm : j < ins.length)
        have HZ := Lib.hid hz
        obtain ⟨bz, oz, zA, zlt, zc⟩ := HINS.out.at hz
        subst zA
        have HZC := Lib.hid (fun i v hv => (HBJ.out.cell (p := ⟨bz, oz + j * 4 + i, none⟩) zlt).trans (zc i v hv))
        clear hz zlt zc
        have HXB := Lib.hid (fun i v hv => cell_later HBJ.out (boxEnt (e := atE k q) HRX.out i v hv))
        cases hdz : decide (ltE z (atE k q)) with
        | true =>
          have HD := Lib.hid (show ¬ (!decide (ltE z (atE k q))) = true by rw [hdz]; decide)
          go_wp2_with fail
          refine wp_region_calmB 6 (by kernel_rfl) (by kernel_rfl) ?_
          simp only [List.take_succ_cons, List.take_zero, List.drop_succ_cons, List.drop_zero]
          refine chain0 ?_
          refine @chain _ _ _ _ _ _ _ _ 84 (.slice (some ⟨bz, oz, none⟩) m c2) (by rfl) (by rfl) (by exact fun W2 hW => run_mv (by rfl) (by exact eval_base (by kernel_rfl) (by rfl)) hW) ?_
          refine @chain _ _ _ _ _ _ _ _ 85 (.int .i64 (j : Int)) (by rfl) (by rfl) (by exact fun W2 hW => run_mv (by rfl) (by exact eval_base (by kernel_rfl) (by rfl)) hW) ?_
          refine @chain _ _ _ _ _ _ _ _ 86 (.pointer (some ⟨bz, oz + j * 4, none⟩)) (by rfl) (by rfl) (by exact fun W2 hW => run_ia (u := .slice (some ⟨bz, oz, none⟩) m c2) (v := .int .i64 (j : Int)) (by rfl) (by exact eval_look (by kernel_rfl) (by kernel_rfl)) (by exact eval_look (by kernel_rfl) (by kernel_rfl)) (fun W => idx_run _ _ _ _ _ (by omega) W) hW) ?_
          refine @chain _ _ _ _ _ _ _ _ 87 (.agg (encE z).toArray) (by rfl) (by rfl) (by exact fun W2 hW => run_lw (by rfl) (by exact eval_look (by kernel_rfl) (by kernel_rfl)) (fun W hW => ldEntO _ _ _ _ (fun i v hv => cell_later hW (HZC.out i v hv))) hW) ?_
          refine @chain _ _ _ _ _ _ _ _ 88 (.agg (encE (atE k q)).toArray) (by rfl) (by rfl) (by exact fun W2 hW => run_lw (by rfl) (by exact eval_base (by kernel_rfl) (by rfl)) (fun W hW => ldEnt _ _ _ (fun i v hv => cell_later hW (HXB.out i v hv))) hW) ?_
          refine @chain _ _ _ _ _ _ _ _ 89 (.bool true) (by rfl) (by rfl) (by exact fun W2 hW => run_call (vs := #[.agg (encE z).toArray, .agg (encE (atE k q)).toArray]) (by rfl) (by kernel_rfl) (enters_of Try.func25 (by kernel_rfl) (by rfl)) (calm_b hW (ahead5_t hdz W2))) ?_
          refine calm_nil (fun W2 hW2 => ?_)
          refine Eq.mpr (congrArg (fun a => wpList _ _ _ _ a W2) (show _ = (⟨#[Value.slice A nd c, Value.slice B n d, Value.string k, Value.int IntKind.u64 q, undef, undef, undef, undef, Value.bool false, Value.pointer (some ⟨g, 0, none⟩), Value.slice (some ⟨bz, oz, none⟩) m c2, Value.pointer (some ⟨w2.heap.size, 0, none⟩), Value.slice (some ⟨bp, op, none⟩) np c4, Value.bool true, Value.pointer (some ⟨w5.heap.size, 0, none⟩), Value.bool true, Value.int IntKind.i64 (cj : Int), Value.int IntKind.i64 (j : Int), undef, undef, undef, undef, Value.bool true, Value.bool false, Value.tuple #[Value.pointer (some ⟨g, 0, none⟩), Value.slice (some ⟨bz, oz, none⟩) m c2], Value.slice A nd c, Value.slice B n d, Value.tuple #[Value.pointer (some ⟨g, 0, none⟩), Value.slice (some ⟨bz, oz, none⟩) m c2], Value.pointer (some ⟨g, 0, none⟩), Value.slice (some ⟨bz, oz, none⟩) m c2, Value.pointer (some ⟨g, 0, none⟩), Value.bool false, Value.string k, Value.int IntKind.u64 q, Value.agg #[Value.string k, Value.int IntKind.u64 q, Value.bool false, Value.string ⟨#[]⟩], Value.tuple #[Value.slice (some ⟨bp, op, none⟩) np c4, Value.bool true], Value.pointer (some ⟨g, 0, none⟩), Value.string k, Value.int IntKind.u64 q, f, Value.tuple #[Value.slice (some ⟨bp, op, none⟩) np c4, Value.bool true], Value.slice (some ⟨bp, op, none⟩) np c4, Value.bool true, Value.tuple #[Value.agg #[Value.string x.fst, Value.int IntKind.u64 x.snd.fst, Value.bool x.snd.snd.fst, Value.string x.snd.snd.snd], Value.bool true], Value.pointer (some ⟨g, 0, none⟩), Value.string k, Value.int IntKind.u64 q, Value.tuple #[Value.agg #[Value.string x.fst, Value.int IntKind.u64 x.snd.fst, Value.bool x.snd.snd.fst, Value.string x.snd.snd.snd], Value.bool true], Value.agg #[Value.string x.fst, Value.int IntKind.u64 x.snd.fst, Value.bool x.snd.snd.fst, Value.string x.snd.snd.snd], Value.bool true, Value.bool true, Value.bool false, Value.bool false, Value.bool true, Value.slice (some ⟨bp, op, none⟩) np c4, Value.int IntKind.i64 (np : Int), Value.bool true, Value.bool false, Value.bool false, Value.bool false, Value.bool true, Value.bool true, Value.agg (encE x).toArray, Value.slice (some ⟨bp, op, none⟩) np c4, Value.pointer (some ⟨bp, op, none⟩), Value.agg (encE x).toArray, Value.bool false, Value.bool false, Value.bool false, Value.bool false, Value.bool true, Value.bool false, Value.bool false, undef, undef, undef, Value.bool false, Value.bool false, Value.int IntKind.i64 (j : Int), Value.slice (some ⟨bz, oz, none⟩) m c2, Value.int IntKind.i64 (m : Int), Value.bool true, u82, u83, Value.slice (some ⟨bz, oz, none⟩) m c2, Value.int IntKind.i64 (j : Int), Value.pointer (some ⟨bz, oz + j * 4, none⟩), Value.agg (encE z).toArray, Value.agg (encE (atE k q)).toArray, Value.bool true, u90, u91, u92, undef, undef, undef, undef, undef, undef, undef, undef, undef, undef, undef, undef, undef, undef, undef, undef, undef, undef, undef, undef, undef, undef, undef, undef, undef, undef, undef, undef, undef, undef, undef, undef, undef, undef, undef, undef, undef, undef, undef, undef, undef, undef, undef, undef, undef, undef, undef, undef, undef, undef, undef, undef, undef, undef, undef, undef, undef, undef, undef, undef, undef, undef, undef, undef, undef, undef, undef, undef, undef, undef, undef, undef, undef, undef, undef, undef, undef, undef, undef, undef, undef, undef, undef, undef, undef, undef, undef, undef, undef, undef, undef, undef], []⟩ : Act) by kernel_rfl)) ?_
          have HW2 := Lib.hid hW2
          clear hW2
          clear hdz
          go_wp2
          go_roundw
          case rel => exact ⟨j + 1, by first | rfl | simp, by omega, by rw [countP_take _ HZ.out, HCJ.out, if_neg HD.out]; first | rfl | simp, HBJ.out.trans (HW2.out.mono HBJ.out.size)⟩
          case measure => simp [intOf]; omega
        | false =>
          have HD := Lib.hid (show (!decide (ltE z (atE k q))) = true by rw [hdz]; decide)
          go_wp2_with fail
          refine wp_region_calmB 6 (by kernel_rfl) (by kernel_rfl) ?_
          simp only [List.take_succ_cons, List.take_zero, List.drop_succ_cons, List.drop_zero]
          refine chain0 ?_
          refine @chain _ _ _ _ _ _ _ _ 84 (.slice (some ⟨bz, oz, none⟩) m c2) (by rfl) (by rfl) (by exact fun W2 hW => run_mv (by rfl) (by exact eval_base (by kernel_rfl) (by rfl)) hW) ?_
          refine @chain _ _ _ _ _ _ _ _ 85 (.int .i64 (j : Int)) (by rfl) (by rfl) (by exact fun W2 hW => run_mv (by rfl) (by exact eval_base (by kernel_rfl) (by rfl)) hW) ?_
          refine @chain _ _ _ _ _ _ _ _ 86 (.pointer (some ⟨bz, oz + j * 4, none⟩)) (by rfl) (by rfl) (by exact fun W2 hW => run_ia (u := .slice (some ⟨bz, oz, none⟩) m c2) (v := .int .i64 (j : Int)) (by rfl) (by exact eval_look (by kernel_rfl) (by kernel_rfl)) (by exact eval_look (by kernel_rfl) (by kernel_rfl)) (fun W => idx_run _ _ _ _ _ (by omega) W) hW) ?_
          refine @chain _ _ _ _ _ _ _ _ 87 (.agg (encE z).toArray) (by rfl) (by rfl) (by exact fun W2 hW => run_lw (by rfl) (by exact eval_look (by kernel_rfl) (by kernel_rfl)) (fun W hW => ldEntO _ _ _ _ (fun i v hv => cell_later hW (HZC.out i v hv))) hW) ?_
          refine @chain _ _ _ _ _ _ _ _ 88 (.agg (encE (atE k q)).toArray) (by rfl) (by rfl) (by exact fun W2 hW => run_lw (by rfl) (by exact eval_base (by kernel_rfl) (by rfl)) (fun W hW => ldEnt _ _ _ (fun i v hv => cell_later hW (HXB.out i v hv))) hW) ?_
          refine @chain _ _ _ _ _ _ _ _ 89 (.bool false) (by rfl) (by rfl) (by exact fun W2 hW => run_call (vs := #[.agg (encE z).toArray, .agg (encE (atE k q)).toArray]) (by rfl) (by kernel_rfl) (enters_of Try.func25 (by kernel_rfl) (by rfl)) (calm_b hW (ahead5_t hdz W2))) ?_
          refine calm_nil (fun W2 hW2 => ?_)
          refine Eq.mpr (congrArg (fun a => wpList _ _ _ _ a W2) (show _ = (⟨#[Value.slice A nd c, Value.slice B n d, Value.string k, Value.int IntKind.u64 q, undef, undef, undef, undef, Value.bool false, Value.pointer (some ⟨g, 0, none⟩), Value.slice (some ⟨bz, oz, none⟩) m c2, Value.pointer (some ⟨w2.heap.size, 0, none⟩), Value.slice (some ⟨bp, op, none⟩) np c4, Value.bool true, Value.pointer (some ⟨w5.heap.size, 0, none⟩), Value.bool true, Value.int IntKind.i64 (cj : Int), Value.int IntKind.i64 (j : Int), undef, undef, undef, undef, Value.bool true, Value.bool false, Value.tuple #[Value.pointer (some ⟨g, 0, none⟩), Value.slice (some ⟨bz, oz, none⟩) m c2], Value.slice A nd c, Value.slice B n d, Value.tuple #[Value.pointer (some ⟨g, 0, none⟩), Value.slice (some ⟨bz, oz, none⟩) m c2], Value.pointer (some ⟨g, 0, none⟩), Value.slice (some ⟨bz, oz, none⟩) m c2, Value.pointer (some ⟨g, 0, none⟩), Value.bool false, Value.string k, Value.int IntKind.u64 q, Value.agg #[Value.string k, Value.int IntKind.u64 q, Value.bool false, Value.string ⟨#[]⟩], Value.tuple #[Value.slice (some ⟨bp, op, none⟩) np c4, Value.bool true], Value.pointer (some ⟨g, 0, none⟩), Value.string k, Value.int IntKind.u64 q, f, Value.tuple #[Value.slice (some ⟨bp, op, none⟩) np c4, Value.bool true], Value.slice (some ⟨bp, op, none⟩) np c4, Value.bool true, Value.tuple #[Value.agg #[Value.string x.fst, Value.int IntKind.u64 x.snd.fst, Value.bool x.snd.snd.fst, Value.string x.snd.snd.snd], Value.bool true], Value.pointer (some ⟨g, 0, none⟩), Value.string k, Value.int IntKind.u64 q, Value.tuple #[Value.agg #[Value.string x.fst, Value.int IntKind.u64 x.snd.fst, Value.bool x.snd.snd.fst, Value.string x.snd.snd.snd], Value.bool true], Value.agg #[Value.string x.fst, Value.int IntKind.u64 x.snd.fst, Value.bool x.snd.snd.fst, Value.string x.snd.snd.snd], Value.bool true, Value.bool true, Value.bool false, Value.bool false, Value.bool true, Value.slice (some ⟨bp, op, none⟩) np c4, Value.int IntKind.i64 (np : Int), Value.bool true, Value.bool false, Value.bool false, Value.bool false, Value.bool true, Value.bool true, Value.agg (encE x).toArray, Value.slice (some ⟨bp, op, none⟩) np c4, Value.pointer (some ⟨bp, op, none⟩), Value.agg (encE x).toArray, Value.bool false, Value.bool false, Value.bool false, Value.bool false, Value.bool true, Value.bool false, Value.bool false, undef, undef, undef, Value.bool false, Value.bool false, Value.int IntKind.i64 (j : Int), Value.slice (some ⟨bz, oz, none⟩) m c2, Value.int IntKind.i64 (m : Int), Value.bool true, u82, u83, Value.slice (some ⟨bz, oz, none⟩) m c2, Value.int IntKind.i64 (j : Int), Value.pointer (some ⟨bz, oz + j * 4, none⟩), Value.agg (encE z).toArray, Value.agg (encE (atE k q)).toArray, Value.bool false, u90, u91, u92, undef, undef, undef, undef, undef, undef, undef, undef, undef, undef, undef, undef, undef, undef, undef, undef, undef, undef, undef, undef, undef, undef, undef, undef, undef, undef, undef, undef, undef, undef, undef, undef, undef, undef, undef, undef, undef, undef, undef, undef, undef, undef, undef, undef, undef, undef, undef, undef, undef, undef, undef, undef, undef, undef, undef, undef, undef, undef, undef, undef, undef, undef, undef, undef, undef, undef, undef, undef, undef, undef, undef, undef, undef, undef, undef, undef, undef, undef, undef, undef, undef, undef, undef, undef, undef, undef, undef, undef, undef, undef, undef, undef], []⟩ : Act) by kernel_rfl)) ?_
          have HW2 := Lib.hid hW2
          clear hW2
          clear hdz
          go_wp2
          go_roundw
          case rel => exact ⟨j + 1, by first | rfl | simp, by omega, by rw [countP_take _ HZ.out, HCJ.out, if_pos HD.out]; first | rfl | simp, HBJ.out.trans (HW2.out.mono HBJ.out.size)⟩
          case measure => simp [intOf]; omega
      · have hjm2 : m = j := by omega
        subst hjm2
        have hc1 : np = cj := by
          rw [← HCJ.out, List.take_of_length_le (by rw [HMM.out]; exact Nat.le_refl _)]
          exact HCNT.out.symm
        subst hc1
        try rw [show ((0 : Nat) : Int) = 0 from rfl]
        generalize wj = wl at *
        have HRX2 := Lib.hid (blk_below HRX.out HBJ.out)
        have HRY2 := Lib.hid (blk_below HRY.out HBJ.out)
        have HINS2 := Lib.hid (HINS.out.later HBJ.out)
        have HAE2 := Lib.hid (HAE.out.later HBJ.out)
        have HB6 := Lib.hid (HB5.out.trans (HBJ.out.mono HB5.out.size))
        clear HRX HRY HINS HAE HB5 HBJ
        obtain ⟨V, hV⟩ : ∃ Z, wl.alloc (.cells #[.string ⟨#[]⟩, .int .u64 0, .bool false, .string ⟨#[]⟩] 53) = Z := ⟨_, rfl⟩
        have rV : V.heap[wl.heap.size]? = some (.cells #[.string ⟨#[]⟩, .int .u64 0, .bool false, .string ⟨#[]⟩] 53 (0, 0)) := by rw [← hV]; exact heap_alloc_new _ _
        obtain ⟨⟨v0, v1, v2, v3⟩, u0, u1, u2, u3⟩ := cells4 rV
        obtain ⟨Va, hVa⟩ : ∃ Z4, (((V.setCell ⟨wl.heap.size, 0, none⟩ (.string ⟨#[]⟩)).setCell ⟨wl.heap.size, 1, none⟩ (.int .u64 0)).setCell ⟨wl.heap.size, 2, none⟩ (.bool false)).setCell ⟨wl.heap.size, 3, none⟩ (.string ⟨#[]⟩) = Z4 := ⟨_, rfl⟩
        have qV : Va.heap[wl.heap.size]? = some (.cells #[.string ⟨#[]⟩, .int .u64 0, .bool false, .string ⟨#[]⟩] 53 (0, 0)) := by rw [← hVa]; exact put4_heap rV
        have bV : Below wl.heap.size wl Va := by
          rw [← hVa, ← hV]
          exact ((Below.refl _ _).alloc (Nat.le_refl _) _).trans ((put4_upd (S := fun k => k = wl.heap.size) _ _ _ _ _ rfl).bel (fun k hk => by omega) (by simp))
        have BV := Lib.hid bV
        have QV := Lib.hid qV
        clear bV qV rV
        go_wp2_with fail
        go_loopw [19, 20] (fun s19 s20 wr => ∃ j : Nat, s20 = .int .i64 j ∧ j ≤ m ∧ s19 = .bool (bestF k q (ins.take j)).2 ∧ wr.heap[wl.heap.size]? = some (.cells (encE (bestF k q (ins.take j)).1).toArray 53 (0, 0)) ∧ Below wl.heap.size wl wr) (fun s19 s20 wr => m - (intOf s20).toNat)
        case atStart => exact ⟨0, rfl, by omega, rfl, QV.out, BV.out⟩
        case round =>
          obtain ⟨j, rfl, hj, rfl, hbh, hbj⟩ := hrel
          generalize wr = wj at *
          obtain ⟨⟨be, bf⟩, hbb⟩ : ∃ s, bestF k q (ins.take j) = s := ⟨_, rfl⟩
          rw [hbb] at hbh ⊢
          have HBJ := Lib.hid hbj
          have HBH := Lib.hid hbh
          have HBB := Lib.hid (fun i v hv => boxEnt (e := be) hbh i v hv)
          have HBQ := Lib.hid hbb
          clear hbj hbh hbb
          by_cases hjm : j < m
          · have HINS := Lib.hid HINS2.out
            obtain ⟨z, hz⟩ := getElem?_of_lt (l := ins) (by rw [HMM.out]; exact hjm : j < ins.length)
            have HZ := Lib.hid hz
            obtain ⟨bz, oz, zA, zlt, zc⟩ := HINS.out.at hz
            subst zA
            have HZC := Lib.hid (fun i v hv => (HBJ.out.cell (p := ⟨bz, oz + j * 4 + i, none⟩) zlt).trans (zc i v hv))
            clear hz zlt zc
            have HNX := Lib.hid ((bestF_take (k := k) (q := q) HZ.out).trans (by rw [HBQ.out]))
            have HFT := Lib.hid (show fits k q z = (decide (z.1.toList = k.toList) && decide (z.2.1 ≤ q)) from rfl)
            cases hd1 : decide (z.1.toList = k.toList) with
            | false =>
              have HST := Lib.hid (show bestS k q (be, bf) z = (be, bf) by unfold bestS; rw [HFT.out, hd1]; rfl)
              go_wp2_with fail
              refine wp_region_calmB 29 (by kernel_rfl) (by kernel_rfl) ?_
              simp only [List.take_succ_cons, List.take_zero, List.drop_succ_cons, List.drop_zero]
              refine chain0 ?_
              refine @chain _ _ _ _ _ _ _ _ 104 (.slice (some ⟨bz, oz, none⟩) m c2) (by rfl) (by rfl) (by exact fun W2 hW => run_mv (by rfl) (by exact eval_base (by kernel_rfl) (by rfl)) hW) ?_
              refine @chain _ _ _ _ _ _ _ _ 105 (.int .i64 (j : Int)) (by rfl) (by rfl) (by exact fun W2 hW => run_mv (by rfl) (by exact eval_base (by kernel_rfl) (by rfl)) hW) ?_
              refine @chain _ _ _ _ _ _ _ _ 106 (.pointer (some ⟨bz, oz + j * 4, none⟩)) (by rfl) (by rfl) (by exact fun W2 hW => run_ia (u := .slice (some ⟨bz, oz, none⟩) m c2) (v := .int .i64 (j : Int)) (by rfl) (by exact eval_look (by kernel_rfl) (by kernel_rfl)) (by exact eval_look (by kernel_rfl) (by kernel_rfl)) (fun W => idx_run _ _ _ _ _ (by omega) W) hW) ?_
              refine @chain _ _ _ _ _ _ _ _ 107 (.pointer (some ⟨bz, oz + j * 4, none⟩)) (by rfl) (by rfl) (by exact fun W2 hW => run_fa (p := .pointer (some ⟨bz, oz + j * 4, none⟩)) (by rfl) (by exact eval_look (by kernel_rfl) (by kernel_rfl)) (fun W => by first | kernel_rfl | go_simp) hW) ?_
              refine @chain _ _ _ _ _ _ _ _ 108 (.string z.1) (by rfl) (by rfl) (by exact fun W2 hW => run_lw (by rfl) (by exact eval_look (by kernel_rfl) (by kernel_rfl)) (fun W hW => ldS _ _ _ _ (cell_later hW (HZC.out 0 _ rfl))) hW) ?_
              refine @chain _ _ _ _ _ _ _ _ 109 (.string k) (by rfl) (by rfl) (by exact fun W2 hW => run_mv (by rfl) (by exact eval_base (by kernel_rfl) (by rfl)) hW) ?_
              refine @chain _ _ _ _ _ _ _ _ 110 (.bool false) (by rfl) (by rfl) (by exact fun W2 hW => run_bo (u := .string z.1) (v := .string k) (by rfl) (by exact eval_look (by kernel_rfl) (by kernel_rfl)) (by exact eval_look (by kernel_rfl) (by kernel_rfl)) (fun W => strEq_run _ _ _ _ _ _ hd1 W) hW) ?_
              refine @chain _ _ _ _ _ _ _ _ 111 (.bool false) (by rfl) (by rfl) (by exact fun W2 hW => run_mv (by rfl) (by exact eval_look (by kernel_rfl) (by kernel_rfl)) hW) ?_
              refine @chainK _ _ _ _ _ _ _ _ 112 (by kernel_rfl) (by rfl) ?_
              refine @chainK _ _ _ _ _ _ _ _ 113 (by kernel_rfl) (by rfl) ?_
              refine @chainK _ _ _ _ _ _ _ _ 114 (by kernel_rfl) (by rfl) ?_
              refine @chainK _ _ _ _ _ _ _ _ 115 (by kernel_rfl) (by rfl) ?_
              refine @chainK _ _ _ _ _ _ _ _ 116 (by kernel_rfl) (by rfl) ?_
              refine @chainK _ _ _ _ _ _ _ _ 117 (by kernel_rfl) (by rfl) ?_
              refine @chainK _ _ _ _ _ _ _ _ 118 (by kernel_rfl) (by rfl) ?_
              refine @chain _ _ _ _ _ _ _ _ 119 (.bool false) (by rfl) (by rfl) (by exact fun W2 hW => run_pkF (by rfl) (by exact eval_look (by kernel_rfl) (by kernel_rfl)) (by rfl) hW) ?_
              refine @chain _ _ _ _ _ _ _ _ 120 (.bool false) (by rfl) (by rfl) (by exact fun W2 hW => run_mv (by rfl) (by exact eval_look (by kernel_rfl) (by kernel_rfl)) hW) ?_
              refine @chainK _ _ _ _ _ _ _ _ 121 (by kernel_rfl) (by rfl) ?_
              refine @chainK _ _ _ _ _ _ _ _ 122 (by kernel_rfl) (by rfl) ?_
              refine @chainK _ _ _ _ _ _ _ _ 123 (by kernel_rfl) (by rfl) ?_
              refine @chainK _ _ _ _ _ _ _ _ 124 (by kernel_rfl) (by rfl) ?_
              refine @chainK _ _ _ _ _ _ _ _ 125 (by kernel_rfl) (by rfl) ?_
              refine @chainK _ _ _ _ _ _ _ _ 126 (by kernel_rfl) (by rfl) ?_
              refine @chainK _ _ _ _ _ _ _ _ 127 (by kernel_rfl) (by rfl) ?_
              refine @chainK _ _ _ _ _ _ _ _ 128 (by kernel_rfl) (by rfl) ?_
              refine @chainK _ _ _ _ _ _ _ _ 129 (by kernel_rfl) (by rfl) ?_
              refine @chainK _ _ _ _ _ _ _ _ 130 (by kernel_rfl) (by rfl) ?_
              refine @chainK _ _ _ _ _ _ _ _ 131 (by kernel_rfl) (by rfl) ?_
              refine @chainK _ _ _ _ _ _ _ _ 132 (by kernel_rfl) (by rfl) ?_
              refine calm_nil (fun W2 hW2 => ?_)
              refine Eq.mpr (congrArg (fun a => wpList _ _ _ _ a W2) (show _ = (⟨#[Value.slice A nd c, Value.slice B n d, Value.string k, Value.int IntKind.u64 q, undef, undef, undef, undef, Value.bool false, Value.pointer (some ⟨g, 0, none⟩), Value.slice (some ⟨bz, oz, none⟩) m c2, Value.pointer (some ⟨w2.heap.size, 0, none⟩), Value.slice (some ⟨bp, op, none⟩) np c4, Value.bool true, Value.pointer (some ⟨w5.heap.size, 0, none⟩), Value.bool true, Value.int IntKind.i64 (np : Int), Value.int IntKind.i64 (m : Int), Value.pointer (some ⟨wl.heap.size, 0, none⟩), Value.bool bf, Value.int IntKind.i64 (j : Int), undef, Value.bool true, Value.bool false, Value.tuple #[Value.pointer (some ⟨g, 0, none⟩), Value.slice (some ⟨bz, oz, none⟩) m c2], Value.slice A nd c, Value.slice B n d, Value.tuple #[Value.pointer (some ⟨g, 0, none⟩), Value.slice (some ⟨bz, oz, none⟩) m c2], Value.pointer (some ⟨g, 0, none⟩), Value.slice (some ⟨bz, oz, none⟩) m c2, Value.pointer (some ⟨g, 0, none⟩), Value.bool false, Value.string k, Value.int IntKind.u64 q, Value.agg #[Value.string k, Value.int IntKind.u64 q, Value.bool false, Value.string ⟨#[]⟩], Value.tuple #[Value.slice (some ⟨bp, op, none⟩) np c4, Value.bool true], Value.pointer (some ⟨g, 0, none⟩), Value.string k, Value.int IntKind.u64 q, f, Value.tuple #[Value.slice (some ⟨bp, op, none⟩) np c4, Value.bool true], Value.slice (some ⟨bp, op, none⟩) np c4, Value.bool true, Value.tuple #[Value.agg #[Value.string x.fst, Value.int IntKind.u64 x.snd.fst, Value.bool x.snd.snd.fst, Value.string x.snd.snd.snd], Value.bool true], Value.pointer (some ⟨g, 0, none⟩), Value.string k, Value.int IntKind.u64 q, Value.tuple #[Value.agg #[Value.string x.fst, Value.int IntKind.u64 x.snd.fst, Value.bool x.snd.snd.fst, Value.string x.snd.snd.snd], Value.bool true], Value.agg #[Value.string x.fst, Value.int IntKind.u64 x.snd.fst, Value.bool x.snd.snd.fst, Value.string x.snd.snd.snd], Value.bool true, Value.bool true, Value.bool false, Value.bool false, Value.bool true, Value.slice (some ⟨bp, op, none⟩) np c4, Value.int IntKind.i64 (np : Int), Value.bool true, Value.bool false, Value.bool false, Value.bool false, Value.bool true, Value.bool true, Value.agg (encE x).toArray, Value.slice (some ⟨bp, op, none⟩) np c4, Value.pointer (some ⟨bp, op, none⟩), Value.agg (encE x).toArray, Value.bool false, Value.bool false, Value.bool false, Value.bool false, Value.bool true, Value.bool false, Value.bool false, undef, undef, undef, Value.bool false, Value.bool false, Value.int IntKind.i64 (m : Int), Value.slice (some ⟨bz, oz, none⟩) m c2, Value.int IntKind.i64 (m : Int), Value.bool false, u82, u83, u84, u85, u86, u87, u88, u89, u90, u91, u92, Value.int IntKind.i64 (np : Int), Value.slice (some ⟨bp, op, none⟩) np c4, Value.int IntKind.i64 (np : Int), Value.bool false, Value.agg #[Value.string ⟨#[]⟩, Value.int IntKind.u64 0, Value.bool false, Value.string ⟨#[]⟩], Value.int IntKind.i64 (j : Int), Value.slice (some ⟨bz, oz, none⟩) m c2, Value.int IntKind.i64 (m : Int), Value.bool true, u102, u103, Value.slice (some ⟨bz, oz, none⟩) m c2, Value.int IntKind.i64 (j : Int), Value.pointer (some ⟨bz, oz + j * 4, none⟩), Value.pointer (some ⟨bz, oz + j * 4, none⟩), Value.string z.fst, Value.string k, Value.bool false, Value.bool false, undef, undef, undef, undef, undef, undef, undef, Value.bool false, Value.bool false, undef, undef, undef, undef, undef, undef, undef, undef, undef, undef, undef, undef, u133, u134, u135, u136, u137, undef, undef, undef, undef, undef, undef, undef, undef, undef, undef, undef, undef, undef, undef, undef, undef, undef, undef, undef, undef, undef, undef, undef, undef, undef, undef, undef, undef, undef, undef, undef, undef, undef, undef, undef, undef, undef, undef, undef, undef, undef, undef, undef, undef, undef, undef, undef], []⟩ : Act) by kernel_rfl)) ?_
              have HW2 := Lib.hid hW2
              clear hW2
              clear hd1
              go_wp2
              go_roundw
              case rel => exact ⟨j + 1, by first | rfl | simp, by omega, by rw [HNX.out]; first | rfl | (simp only [HST.out]), by rw [HNX.out, HST.out]; exact blk_below HBH.out HW2.out, HBJ.out.trans (HW2.out.mono HBJ.out.size)⟩
              case measure => simp [intOf]; omega
            | true =>
              cases hd2 : decide (z.2.1 ≤ q) with
              | false =>
                have HST := Lib.hid (show bestS k q (be, bf) z = (be, bf) by unfold bestS; rw [HFT.out, hd1, hd2]; rfl)
                go_wp2_with fail
                refine wp_region_calmB 29 (by kernel_rfl) (by kernel_rfl) ?_
                simp only [List.take_succ_cons, List.take_zero, List.drop_succ_cons, List.drop_zero]
                refine chain0 ?_
                refine @chain _ _ _ _ _ _ _ _ 104 (.slice (some ⟨bz, oz, none⟩) m c2) (by rfl) (by rfl) (by exact fun W2 hW => run_mv (by rfl) (by exact eval_base (by kernel_rfl) (by rfl)) hW) ?_
                refine @chain _ _ _ _ _ _ _ _ 105 (.int .i64 (j : Int)) (by rfl) (by rfl) (by exact fun W2 hW => run_mv (by rfl) (by exact eval_base (by kernel_rfl) (by rfl)) hW) ?_
                refine @chain _ _ _ _ _ _ _ _ 106 (.pointer (some ⟨bz, oz + j * 4, none⟩)) (by rfl) (by rfl) (by exact fun W2 hW => run_ia (u := .slice (some ⟨bz, oz, none⟩) m c2) (v := .int .i64 (j : Int)) (by rfl) (by exact eval_look (by kernel_rfl) (by kernel_rfl)) (by exact eval_look (by kernel_rfl) (by kernel_rfl)) (fun W => idx_run _ _ _ _ _ (by omega) W) hW) ?_
                refine @chain _ _ _ _ _ _ _ _ 107 (.pointer (some ⟨bz, oz + j * 4, none⟩)) (by rfl) (by rfl) (by exact fun W2 hW => run_fa (p := .pointer (some ⟨bz, oz + j * 4, none⟩)) (by rfl) (by exact eval_look (by kernel_rfl) (by kernel_rfl)) (fun W => by first | kernel_rfl | go_simp) hW) ?_
                refine @chain _ _ _ _ _ _ _ _ 108 (.string z.1) (by rfl) (by rfl) (by exact fun W2 hW => run_lw (by rfl) (by exact eval_look (by kernel_rfl) (by kernel_rfl)) (fun W hW => ldS _ _ _ _ (cell_later hW (HZC.out 0 _ rfl))) hW) ?_
                refine @chain _ _ _ _ _ _ _ _ 109 (.string k) (by rfl) (by rfl) (by exact fun W2 hW => run_mv (by rfl) (by exact eval_base (by kernel_rfl) (by rfl)) hW) ?_
                refine @chain _ _ _ _ _ _ _ _ 110 (.bool true) (by rfl) (by rfl) (by exact fun W2 hW => run_bo (u := .string z.1) (v := .string k) (by rfl) (by exact eval_look (by kernel_rfl) (by kernel_rfl)) (by exact eval_look (by kernel_rfl) (by kernel_rfl)) (fun W => strEq_run _ _ _ _ _ _ hd1 W) hW) ?_
                refine @chain _ _ _ _ _ _ _ _ 111 (.bool true) (by rfl) (by rfl) (by exact fun W2 hW => run_mv (by rfl) (by exact eval_look (by kernel_rfl) (by kernel_rfl)) hW) ?_
                refine @chainG _ _ _ _ _ _ _ _ 112 (.slice (some ⟨bz, oz, none⟩) m c2) (by kernel_rfl) (by rfl) (by exact fun W2 hW => run_mv (by rfl) (by exact eval_base (by kernel_rfl) (by rfl)) hW) ?_
                refine @chainG _ _ _ _ _ _ _ _ 113 (.int .i64 (j : Int)) (by kernel_rfl) (by rfl) (by exact fun W2 hW => run_mv (by rfl) (by exact eval_base (by kernel_rfl) (by rfl)) hW) ?_
                refine @chainG _ _ _ _ _ _ _ _ 114 (.pointer (some ⟨bz, oz + j * 4, none⟩)) (by kernel_rfl) (by rfl) (by exact fun W2 hW => run_ia (u := .slice (some ⟨bz, oz, none⟩) m c2) (v := .int .i64 (j : Int)) (by rfl) (by exact eval_look (by kernel_rfl) (by kernel_rfl)) (by exact eval_look (by kernel_rfl) (by kernel_rfl)) (fun W => idx_run _ _ _ _ _ (by omega) W) hW) ?_
                refine @chainG _ _ _ _ _ _ _ _ 115 (.pointer (some ⟨bz, oz + j * 4 + 1, none⟩)) (by kernel_rfl) (by rfl) (by exact fun W2 hW => run_fa (p := .pointer (some ⟨bz, oz + j * 4, none⟩)) (by rfl) (by exact eval_look (by kernel_rfl) (by kernel_rfl)) (fun W => by first | kernel_rfl | go_simp) hW) ?_
                refine @chainG _ _ _ _ _ _ _ _ 116 (.int .u64 z.2.1) (by kernel_rfl) (by rfl) (by exact fun W2 hW => run_lw (by rfl) (by exact eval_look (by kernel_rfl) (by kernel_rfl)) (fun W hW => ldU _ _ _ _ (cell_later hW (HZC.out 1 _ rfl))) hW) ?_
                refine @chainG _ _ _ _ _ _ _ _ 117 (.int .u64 q) (by kernel_rfl) (by rfl) (by exact fun W2 hW => run_mv (by rfl) (by exact eval_base (by kernel_rfl) (by rfl)) hW) ?_
                refine @chainG _ _ _ _ _ _ _ _ 118 (.bool false) (by kernel_rfl) (by rfl) (by exact fun W2 hW => run_bo (u := .int .u64 z.2.1) (v := .int .u64 q) (by rfl) (by exact eval_look (by kernel_rfl) (by kernel_rfl)) (by exact eval_look (by kernel_rfl) (by kernel_rfl)) (fun W => cmpN_run _ _ _ _ _ _ _ hd2 W) hW) ?_
                refine @chain _ _ _ _ _ _ _ _ 119 (.bool false) (by rfl) (by rfl) (by exact fun W2 hW => run_pkT (by rfl) (by exact eval_look (by kernel_rfl) (by kernel_rfl)) (by exact eval_look (by kernel_rfl) (by kernel_rfl)) hW) ?_
                refine @chain _ _ _ _ _ _ _ _ 120 (.bool false) (by rfl) (by rfl) (by exact fun W2 hW => run_mv (by rfl) (by exact eval_look (by kernel_rfl) (by kernel_rfl)) hW) ?_
                refine @chainK _ _ _ _ _ _ _ _ 121 (by kernel_rfl) (by rfl) ?_
                refine @chainK _ _ _ _ _ _ _ _ 122 (by kernel_rfl) (by rfl) ?_
                refine @chainK _ _ _ _ _ _ _ _ 123 (by kernel_rfl) (by rfl) ?_
                refine @chainK _ _ _ _ _ _ _ _ 124 (by kernel_rfl) (by rfl) ?_
                refine @chainK _ _ _ _ _ _ _ _ 125 (by kernel_rfl) (by rfl) ?_
                refine @chainK _ _ _ _ _ _ _ _ 126 (by kernel_rfl) (by rfl) ?_
                refine @chainK _ _ _ _ _ _ _ _ 127 (by kernel_rfl) (by rfl) ?_
                refine @chainK _ _ _ _ _ _ _ _ 128 (by kernel_rfl) (by rfl) ?_
                refine @chainK _ _ _ _ _ _ _ _ 129 (by kernel_rfl) (by rfl) ?_
                refine @chainK _ _ _ _ _ _ _ _ 130 (by kernel_rfl) (by rfl) ?_
                refine @chainK _ _ _ _ _ _ _ _ 131 (by kernel_rfl) (by rfl) ?_
                refine @chainK _ _ _ _ _ _ _ _ 132 (by kernel_rfl) (by rfl) ?_
                refine calm_nil (fun W2 hW2 => ?_)
                refine Eq.mpr (congrArg (fun a => wpList _ _ _ _ a W2) (show _ = (⟨#[Value.slice A nd c, Value.slice B n d, Value.string k, Value.int IntKind.u64 q, undef, undef, undef, undef, Value.bool false, Value.pointer (some ⟨g, 0, none⟩), Value.slice (some ⟨bz, oz, none⟩) m c2, Value.pointer (some ⟨w2.heap.size, 0, none⟩), Value.slice (some ⟨bp, op, none⟩) np c4, Value.bool true, Value.pointer (some ⟨w5.heap.size, 0, none⟩), Value.bool true, Value.int IntKind.i64 (np : Int), Value.int IntKind.i64 (m : Int), Value.pointer (some ⟨wl.heap.size, 0, none⟩), Value.bool bf, Value.int IntKind.i64 (j : Int), undef, Value.bool true, Value.bool false, Value.tuple #[Value.pointer (some ⟨g, 0, none⟩), Value.slice (some ⟨bz, oz, none⟩) m c2], Value.slice A nd c, Value.slice B n d, Value.tuple #[Value.pointer (some ⟨g, 0, none⟩), Value.slice (some ⟨bz, oz, none⟩) m c2], Value.pointer (some ⟨g, 0, none⟩), Value.slice (some ⟨bz, oz, none⟩) m c2, Value.pointer (some ⟨g, 0, none⟩), Value.bool false, Value.string k, Value.int IntKind.u64 q, Value.agg #[Value.string k, Value.int IntKind.u64 q, Value.bool false, Value.string ⟨#[]⟩], Value.tuple #[Value.slice (some ⟨bp, op, none⟩) np c4, Value.bool true], Value.pointer (some ⟨g, 0, none⟩), Value.string k, Value.int IntKind.u64 q, f, Value.tuple #[Value.slice (some ⟨bp, op, none⟩) np c4, Value.bool true], Value.slice (some ⟨bp, op, none⟩) np c4, Value.bool true, Value.tuple #[Value.agg #[Value.string x.fst, Value.int IntKind.u64 x.snd.fst, Value.bool x.snd.snd.fst, Value.string x.snd.snd.snd], Value.bool true], Value.pointer (some ⟨g, 0, none⟩), Value.string k, Value.int IntKind.u64 q, Value.tuple #[Value.agg #[Value.string x.fst, Value.int IntKind.u64 x.snd.fst, Value.bool x.snd.snd.fst, Value.string x.snd.snd.snd], Value.bool true], Value.agg #[Value.string x.fst, Value.int IntKind.u64 x.snd.fst, Value.bool x.snd.snd.fst, Value.string x.snd.snd.snd], Value.bool true, Value.bool true, Value.bool false, Value.bool false, Value.bool true, Value.slice (some ⟨bp, op, none⟩) np c4, Value.int IntKind.i64 (np : Int), Value.bool true, Value.bool false, Value.bool false, Value.bool false, Value.bool true, Value.bool true, Value.agg (encE x).toArray, Value.slice (some ⟨bp, op, none⟩) np c4, Value.pointer (some ⟨bp, op, none⟩), Value.agg (encE x).toArray, Value.bool false, Value.bool false, Value.bool false, Value.bool false, Value.bool true, Value.bool false, Value.bool false, undef, undef, undef, Value.bool false, Value.bool false, Value.int IntKind.i64 (m : Int), Value.slice (some ⟨bz, oz, none⟩) m c2, Value.int IntKind.i64 (m : Int), Value.bool false, u82, u83, u84, u85, u86, u87, u88, u89, u90, u91, u92, Value.int IntKind.i64 (np : Int), Value.slice (some ⟨bp, op, none⟩) np c4, Value.int IntKind.i64 (np : Int), Value.bool false, Value.agg #[Value.string ⟨#[]⟩, Value.int IntKind.u64 0, Value.bool false, Value.string ⟨#[]⟩], Value.int IntKind.i64 (j : Int), Value.slice (some ⟨bz, oz, none⟩) m c2, Value.int IntKind.i64 (m : Int), Value.bool true, u102, u103, Value.slice (some ⟨bz, oz, none⟩) m c2, Value.int IntKind.i64 (j : Int), Value.pointer (some ⟨bz, oz + j * 4, none⟩), Value.pointer (some ⟨bz, oz + j * 4, none⟩), Value.string z.fst, Value.string k, Value.bool true, Value.bool true, Value.slice (some ⟨bz, oz, none⟩) m c2, Value.int IntKind.i64 (j : Int), Value.pointer (some ⟨bz, oz + j * 4, none⟩), Value.pointer (some ⟨bz, oz + j * 4 + 1, none⟩), Value.int IntKind.u64 z.snd.fst, Value.int IntKind.u64 q, Value.bool false, Value.bool false, Value.bool false, undef, undef, undef, undef, undef, undef, undef, undef, undef, undef, undef, undef, u133, u134, u135, u136, u137, undef, undef, undef, undef, undef, undef, undef, undef, undef, undef, undef, undef, undef, undef, undef, undef, undef, undef, undef, undef, undef, undef, undef, undef, undef, undef, undef, undef, undef, undef, undef, undef, undef, undef, undef, undef, undef, undef, undef, undef, undef, undef, undef, undef, undef, undef, undef], []⟩ : Act) by kernel_rfl)) ?_
                have HW2 := Lib.hid hW2
                clear hW2
                clear hd1 hd2
                go_wp2
                go_roundw
                case rel => exact ⟨j + 1, by first | rfl | simp, by omega, by rw [HNX.out]; first | rfl | (simp only [HST.out]), by rw [HNX.out, HST.out]; exact blk_below HBH.out HW2.out, HBJ.out.trans (HW2.out.mono HBJ.out.size)⟩
                case measure => simp [intOf]; omega
              | true =>
                cases bf with
                | false =>
                  have HST := Lib.hid (show bestS k q (be, false) z = (z, true) by unfold bestS; rw [HFT.out, hd1, hd2]; rfl)
                  go_wp2_with fail
                  refine wp_region_calmB 29 (by kernel_rfl) (by kernel_rfl) ?_
                  simp only [List.take_succ_cons, List.take_zero, List.drop_succ_cons, List.drop_zero]
                  refine chain0 ?_
                  refine @chain _ _ _ _ _ _ _ _ 104 (.slice (some ⟨bz, oz, none⟩) m c2) (by rfl) (by rfl) (by exact fun W2 hW => run_mv (by rfl) (by exact eval_base (by kernel_rfl) (by rfl)) hW) ?_
                  refine @chain _ _ _ _ _ _ _ _ 105 (.int .i64 (j : Int)) (by rfl) (by rfl) (by exact fun W2 hW => run_mv (by rfl) (by exact eval_base (by kernel_rfl) (by rfl)) hW) ?_
                  refine @chain _ _ _ _ _ _ _ _ 106 (.pointer (some ⟨bz, oz + j * 4, none⟩)) (by rfl) (by rfl) (by exact fun W2 hW => run_ia (u := .slice (some ⟨bz, oz, none⟩) m c2) (v := .int .i64 (j : Int)) (by rfl) (by exact eval_look (by kernel_rfl) (by kernel_rfl)) (by exact eval_look (by kernel_rfl) (by kernel_rfl)) (fun W => idx_run _ _ _ _ _ (by omega) W) hW) ?_
                  refine @chain _ _ _ _ _ _ _ _ 107 (.pointer (some ⟨bz, oz + j * 4, none⟩)) (by rfl) (by rfl) (by exact fun W2 hW => run_fa (p := .pointer (some ⟨bz, oz + j * 4, none⟩)) (by rfl) (by exact eval_look (by kernel_rfl) (by kernel_rfl)) (fun W => by first | kernel_rfl | go_simp) hW) ?_
                  refine @chain _ _ _ _ _ _ _ _ 108 (.string z.1) (by rfl) (by rfl) (by exact fun W2 hW => run_lw (by rfl) (by exact eval_look (by kernel_rfl) (by kernel_rfl)) (fun W hW => ldS _ _ _ _ (cell_later hW (HZC.out 0 _ rfl))) hW) ?_
                  refine @chain _ _ _ _ _ _ _ _ 109 (.string k) (by rfl) (by rfl) (by exact fun W2 hW => run_mv (by rfl) (by exact eval_base (by kernel_rfl) (by rfl)) hW) ?_
                  refine @chain _ _ _ _ _ _ _ _ 110 (.bool true) (by rfl) (by rfl) (by exact fun W2 hW => run_bo (u := .string z.1) (v := .string k) (by rfl) (by exact eval_look (by kernel_rfl) (by kernel_rfl)) (by exact eval_look (by kernel_rfl) (by kernel_rfl)) (fun W => strEq_run _ _ _ _ _ _ hd1 W) hW) ?_
                  refine @chain _ _ _ _ _ _ _ _ 111 (.bool true) (by rfl) (by rfl) (by exact fun W2 hW => run_mv (by rfl) (by exact eval_look (by kernel_rfl) (by kernel_rfl)) hW) ?_
                  refine @chainG _ _ _ _ _ _ _ _ 112 (.slice (some ⟨bz, oz, none⟩) m c2) (by kernel_rfl) (by rfl) (by exact fun W2 hW => run_mv (by rfl) (by exact eval_base (by kernel_rfl) (by rfl)) hW) ?_
                  refine @chainG _ _ _ _ _ _ _ _ 113 (.int .i64 (j : Int)) (by kernel_rfl) (by rfl) (by exact fun W2 hW => run_mv (by rfl) (by exact eval_base (by kernel_rfl) (by rfl)) hW) ?_
                  refine @chainG _ _ _ _ _ _ _ _ 114 (.pointer (some ⟨bz, oz + j * 4, none⟩)) (by kernel_rfl) (by rfl) (by exact fun W2 hW => run_ia (u := .slice (some ⟨bz, oz, none⟩) m c2) (v := .int .i64 (j : Int)) (by rfl) (by exact eval_look (by kernel_rfl) (by kernel_rfl)) (by exact eval_look (by kernel_rfl) (by kernel_rfl)) (fun W => idx_run _ _ _ _ _ (by omega) W) hW) ?_
                  refine @chainG _ _ _ _ _ _ _ _ 115 (.pointer (some ⟨bz, oz + j * 4 + 1, none⟩)) (by kernel_rfl) (by rfl) (by exact fun W2 hW => run_fa (p := .pointer (some ⟨bz, oz + j * 4, none⟩)) (by rfl) (by exact eval_look (by kernel_rfl) (by kernel_rfl)) (fun W => by first | kernel_rfl | go_simp) hW) ?_
                  refine @chainG _ _ _ _ _ _ _ _ 116 (.int .u64 z.2.1) (by kernel_rfl) (by rfl) (by exact fun W2 hW => run_lw (by rfl) (by exact eval_look (by kernel_rfl) (by kernel_rfl)) (fun W hW => ldU _ _ _ _ (cell_later hW (HZC.out 1 _ rfl))) hW) ?_
                  refine @chainG _ _ _ _ _ _ _ _ 117 (.int .u64 q) (by kernel_rfl) (by rfl) (by exact fun W2 hW => run_mv (by rfl) (by exact eval_base (by kernel_rfl) (by rfl)) hW) ?_
                  refine @chainG _ _ _ _ _ _ _ _ 118 (.bool true) (by kernel_rfl) (by rfl) (by exact fun W2 hW => run_bo (u := .int .u64 z.2.1) (v := .int .u64 q) (by rfl) (by exact eval_look (by kernel_rfl) (by kernel_rfl)) (by exact eval_look (by kernel_rfl) (by kernel_rfl)) (fun W => cmpN_run _ _ _ _ _ _ _ hd2 W) hW) ?_
                  refine @chain _ _ _ _ _ _ _ _ 119 (.bool true) (by rfl) (by rfl) (by exact fun W2 hW => run_pkT (by rfl) (by exact eval_look (by kernel_rfl) (by kernel_rfl)) (by exact eval_look (by kernel_rfl) (by kernel_rfl)) hW) ?_
                  refine @chain _ _ _ _ _ _ _ _ 120 (.bool true) (by rfl) (by rfl) (by exact fun W2 hW => run_mv (by rfl) (by exact eval_look (by kernel_rfl) (by kernel_rfl)) hW) ?_
                  refine @chainG _ _ _ _ _ _ _ _ 121 (.bool false) (by kernel_rfl) (by rfl) (by exact fun W2 hW => run_mv (by rfl) (by exact eval_base (by kernel_rfl) (by rfl)) hW) ?_
                  refine @chainG _ _ _ _ _ _ _ _ 122 (.bool true) (by kernel_rfl) (by rfl) (by exact fun W2 hW => run_uo (u := .bool false) (by rfl) (by exact eval_look (by kernel_rfl) (by kernel_rfl)) (fun W => by go_simp) hW) ?_
                  refine @chainG _ _ _ _ _ _ _ _ 123 (.bool true) (by kernel_rfl) (by rfl) (by exact fun W2 hW => run_mv (by rfl) (by exact eval_look (by kernel_rfl) (by kernel_rfl)) hW) ?_
                  refine @chainK _ _ _ _ _ _ _ _ 124 (by kernel_rfl) (by rfl) ?_
                  refine @chainK _ _ _ _ _ _ _ _ 125 (by kernel_rfl) (by rfl) ?_
                  refine @chainK _ _ _ _ _ _ _ _ 126 (by kernel_rfl) (by rfl) ?_
                  refine @chainK _ _ _ _ _ _ _ _ 127 (by kernel_rfl) (by rfl) ?_
                  refine @chainK _ _ _ _ _ _ _ _ 128 (by kernel_rfl) (by rfl) ?_
                  refine @chainK _ _ _ _ _ _ _ _ 129 (by kernel_rfl) (by rfl) ?_
                  refine @chainK _ _ _ _ _ _ _ _ 130 (by kernel_rfl) (by rfl) ?_
                  refine @chainK _ _ _ _ _ _ _ _ 131 (by kernel_rfl) (by rfl) ?_
                  refine @chainG _ _ _ _ _ _ _ _ 132 (.bool true) (by kernel_rfl) (by rfl) (by exact fun W2 hW => run_pkT (by rfl) (by exact eval_look (by kernel_rfl) (by kernel_rfl)) (by rfl) hW) ?_
                  refine calm_nil (fun W2 hW2 => ?_)
                  refine Eq.mpr (congrArg (fun a => wpList _ _ _ _ a W2) (show _ = (⟨#[Value.slice A nd c, Value.slice B n d, Value.string k, Value.int IntKind.u64 q, undef, undef, undef, undef, Value.bool false, Value.pointer (some ⟨g, 0, none⟩), Value.slice (some ⟨bz, oz, none⟩) m c2, Value.pointer (some ⟨w2.heap.size, 0, none⟩), Value.slice (some ⟨bp, op, none⟩) np c4, Value.bool true, Value.pointer (some ⟨w5.heap.size, 0, none⟩), Value.bool true, Value.int IntKind.i64 (np : Int), Value.int IntKind.i64 (m : Int), Value.pointer (some ⟨wl.heap.size, 0, none⟩), Value.bool false, Value.int IntKind.i64 (j : Int), undef, Value.bool true, Value.bool false, Value.tuple #[Value.pointer (some ⟨g, 0, none⟩), Value.slice (some ⟨bz, oz, none⟩) m c2], Value.slice A nd c, Value.slice B n d, Value.tuple #[Value.pointer (some ⟨g, 0, none⟩), Value.slice (some ⟨bz, oz, none⟩) m c2], Value.pointer (some ⟨g, 0, none⟩), Value.slice (some ⟨bz, oz, none⟩) m c2, Value.pointer (some ⟨g, 0, none⟩), Value.bool false, Value.string k, Value.int IntKind.u64 q, Value.agg #[Value.string k, Value.int IntKind.u64 q, Value.bool false, Value.string ⟨#[]⟩], Value.tuple #[Value.slice (some ⟨bp, op, none⟩) np c4, Value.bool true], Value.pointer (some ⟨g, 0, none⟩), Value.string k, Value.int IntKind.u64 q, f, Value.tuple #[Value.slice (some ⟨bp, op, none⟩) np c4, Value.bool true], Value.slice (some ⟨bp, op, none⟩) np c4, Value.bool true, Value.tuple #[Value.agg #[Value.string x.fst, Value.int IntKind.u64 x.snd.fst, Value.bool x.snd.snd.fst, Value.string x.snd.snd.snd], Value.bool true], Value.pointer (some ⟨g, 0, none⟩), Value.string k, Value.int IntKind.u64 q, Value.tuple #[Value.agg #[Value.string x.fst, Value.int IntKind.u64 x.snd.fst, Value.bool x.snd.snd.fst, Value.string x.snd.snd.snd], Value.bool true], Value.agg #[Value.string x.fst, Value.int IntKind.u64 x.snd.fst, Value.bool x.snd.snd.fst, Value.string x.snd.snd.snd], Value.bool true, Value.bool true, Value.bool false, Value.bool false, Value.bool true, Value.slice (some ⟨bp, op, none⟩) np c4, Value.int IntKind.i64 (np : Int), Value.bool true, Value.bool false, Value.bool false, Value.bool false, Value.bool true, Value.bool true, Value.agg (encE x).toArray, Value.slice (some ⟨bp, op, none⟩) np c4, Value.pointer (some ⟨bp, op, none⟩), Value.agg (encE x).toArray, Value.bool false, Value.bool false, Value.bool false, Value.bool false, Value.bool true, Value.bool false, Value.bool false, undef, undef, undef, Value.bool false, Value.bool false, Value.int IntKind.i64 (m : Int), Value.slice (some ⟨bz, oz, none⟩) m c2, Value.int IntKind.i64 (m : Int), Value.bool false, u82, u83, u84, u85, u86, u87, u88, u89, u90, u91, u92, Value.int IntKind.i64 (np : Int), Value.slice (some ⟨bp, op, none⟩) np c4, Value.int IntKind.i64 (np : Int), Value.bool false, Value.agg #[Value.string ⟨#[]⟩, Value.int IntKind.u64 0, Value.bool false, Value.string ⟨#[]⟩], Value.int IntKind.i64 (j : Int), Value.slice (some ⟨bz, oz, none⟩) m c2, Value.int IntKind.i64 (m : Int), Value.bool true, u102, u103, Value.slice (some ⟨bz, oz, none⟩) m c2, Value.int IntKind.i64 (j : Int), Value.pointer (some ⟨bz, oz + j * 4, none⟩), Value.pointer (some ⟨bz, oz + j * 4, none⟩), Value.string z.fst, Value.string k, Value.bool true, Value.bool true, Value.slice (some ⟨bz, oz, none⟩) m c2, Value.int IntKind.i64 (j : Int), Value.pointer (some ⟨bz, oz + j * 4, none⟩), Value.pointer (some ⟨bz, oz + j * 4 + 1, none⟩), Value.int IntKind.u64 z.snd.fst, Value.int IntKind.u64 q, Value.bool true, Value.bool true, Value.bool true, Value.bool false, Value.bool true, Value.bool true, undef, undef, undef, undef, undef, undef, undef, undef, Value.bool true, u133, u134, u135, u136, u137, undef, undef, undef, undef, undef, undef, undef, undef, undef, undef, undef, undef, undef, undef, undef, undef, undef, undef, undef, undef, undef, undef, undef, undef, undef, undef, undef, undef, undef, undef, undef, undef, undef, undef, undef, undef, undef, undef, undef, undef, undef, undef, undef, undef, undef, undef, undef], []⟩ : Act) by kernel_rfl)) ?_
                  have HW2 := Lib.hid hW2
                  clear hW2
                  clear hd1 hd2
                  have hbh := blk_below HBH.out HW2.out
                  obtain ⟨⟨b0, b1, b2, b3⟩, f0, f1, f2, f3⟩ := cells4 (t := 53) (show W2.heap[wl.heap.size]? = some (.cells #[.string be.1, .int .u64 be.2.1, .bool be.2.2.1, .string be.2.2.2] 53 (0, 0)) from hbh)
                  have z0 := cell_later HW2.out (HZC.out 0 _ rfl)
                  have z1 := cell_later HW2.out (HZC.out 1 _ rfl)
                  have z2 := cell_later HW2.out (HZC.out 2 _ rfl)
                  have z3 := cell_later HW2.out (HZC.out 3 _ rfl)
                  simp only [Nat.add_zero] at z0
                  go_wp2
                  go_roundw
                  case rel => exact ⟨j + 1, by first | rfl | simp, by omega, by rw [HNX.out]; first | rfl | (simp only [HST.out]), by rw [HNX.out, HST.out]; exact put4_heap (v0 := .string be.1) (v1 := .int .u64 be.2.1) (v2 := .bool be.2.2.1) (v3 := .string be.2.2.2) hbh, (HBJ.out.trans (HW2.out.mono HBJ.out.size)).trans ((put4_upd (S := fun k => k = wl.heap.size) _ _ _ _ _ rfl).bel (fun k hk => by omega) (Nat.le_of_lt (blk_lt hbh)))⟩
                  case measure => simp [intOf]; omega
                | true =>
                  cases hd3 : decide (be.2.1 < z.2.1) with
                  | true =>
                    have HST := Lib.hid (show bestS k q (be, true) z = (z, true) by unfold bestS; rw [HFT.out, hd1, hd2, hd3]; rfl)
                    go_wp2_with fail
                    refine wp_region_calmB 29 (by kernel_rfl) (by kernel_rfl) ?_
                    simp only [List.take_succ_cons, List.take_zero, List.drop_succ_cons, List.drop_zero]
                    refine chain0 ?_
                    refine @chain _ _ _ _ _ _ _ _ 104 (.slice (some ⟨bz, oz, none⟩) m c2) (by rfl) (by rfl) (by exact fun W2 hW => run_mv (by rfl) (by exact eval_base (by kernel_rfl) (by rfl)) hW) ?_
                    refine @chain _ _ _ _ _ _ _ _ 105 (.int .i64 (j : Int)) (by rfl) (by rfl) (by exact fun W2 hW => run_mv (by rfl) (by exact eval_base (by kernel_rfl) (by rfl)) hW) ?_
                    refine @chain _ _ _ _ _ _ _ _ 106 (.pointer (some ⟨bz, oz + j * 4, none⟩)) (by rfl) (by rfl) (by exact fun W2 hW => run_ia (u := .slice (some ⟨bz, oz, none⟩) m c2) (v := .int .i64 (j : Int)) (by rfl) (by exact eval_look (by kernel_rfl) (by kernel_rfl)) (by exact eval_look (by kernel_rfl) (by kernel_rfl)) (fun W => idx_run _ _ _ _ _ (by omega) W) hW) ?_
                    refine @chain _ _ _ _ _ _ _ _ 107 (.pointer (some ⟨bz, oz + j * 4, none⟩)) (by rfl) (by rfl) (by exact fun W2 hW => run_fa (p := .pointer (some ⟨bz, oz + j * 4, none⟩)) (by rfl) (by exact eval_look (by kernel_rfl) (by kernel_rfl)) (fun W => by first | kernel_rfl | go_simp) hW) ?_
                    refine @chain _ _ _ _ _ _ _ _ 108 (.string z.1) (by rfl) (by rfl) (by exact fun W2 hW => run_lw (by rfl) (by exact eval_look (by kernel_rfl) (by kernel_rfl)) (fun W hW => ldS _ _ _ _ (cell_later hW (HZC.out 0 _ rfl))) hW) ?_
                    refine @chain _ _ _ _ _ _ _ _ 109 (.string k) (by rfl) (by rfl) (by exact fun W2 hW => run_mv (by rfl) (by exact eval_base (by kernel_rfl) (by rfl)) hW) ?_
                    refine @chain _ _ _ _ _ _ _ _ 110 (.bool true) (by rfl) (by rfl) (by exact fun W2 hW => run_bo (u := .string z.1) (v := .string k) (by rfl) (by exact eval_look (by kernel_rfl) (by kernel_rfl)) (by exact eval_look (by kernel_rfl) (by kernel_rfl)) (fun W => strEq_run _ _ _ _ _ _ hd1 W) hW) ?_
                    refine @chain _ _ _ _ _ _ _ _ 111 (.bool true) (by rfl) (by rfl) (by exact fun W2 hW => run_mv (by rfl) (by exact eval_look (by kernel_rfl) (by kernel_rfl)) hW) ?_
                    refine @chainG _ _ _ _ _ _ _ _ 112 (.slice (some ⟨bz, oz, none⟩) m c2) (by kernel_rfl) (by rfl) (by exact fun W2 hW => run_mv (by rfl) (by exact eval_base (by kernel_rfl) (by rfl)) hW) ?_
                    refine @chainG _ _ _ _ _ _ _ _ 113 (.int .i64 (j : Int)) (by kernel_rfl) (by rfl) (by exact fun W2 hW => run_mv (by rfl) (by exact eval_base (by kernel_rfl) (by rfl)) hW) ?_
                    refine @chainG _ _ _ _ _ _ _ _ 114 (.pointer (some ⟨bz, oz + j * 4, none⟩)) (by kernel_rfl) (by rfl) (by exact fun W2 hW => run_ia (u := .slice (some ⟨bz, oz, none⟩) m c2) (v := .int .i64 (j : Int)) (by rfl) (by exact eval_look (by kernel_rfl) (by kernel_rfl)) (by exact eval_look (by kernel_rfl) (by kernel_rfl)) (fun W => idx_run _ _ _ _ _ (by omega) W) hW) ?_
                    refine @chainG _ _ _ _ _ _ _ _ 115 (.pointer (some ⟨bz, oz + j * 4 + 1, none⟩)) (by kernel_rfl) (by rfl) (by exact fun W2 hW => run_fa (p := .pointer (some ⟨bz, oz + j * 4, none⟩)) (by rfl) (by exact eval_look (by kernel_rfl) (by kernel_rfl)) (fun W => by first | kernel_rfl | go_simp) hW) ?_
                    refine @chainG _ _ _ _ _ _ _ _ 116 (.int .u64 z.2.1) (by kernel_rfl) (by rfl) (by exact fun W2 hW => run_lw (by rfl) (by exact eval_look (by kernel_rfl) (by kernel_rfl)) (fun W hW => ldU _ _ _ _ (cell_later hW (HZC.out 1 _ rfl))) hW) ?_
                    refine @chainG _ _ _ _ _ _ _ _ 117 (.int .u64 q) (by kernel_rfl) (by rfl) (by exact fun W2 hW => run_mv (by rfl) (by exact eval_base (by kernel_rfl) (by rfl)) hW) ?_
                    refine @chainG _ _ _ _ _ _ _ _ 118 (.bool true) (by kernel_rfl) (by rfl) (by exact fun W2 hW => run_bo (u := .int .u64 z.2.1) (v := .int .u64 q) (by rfl) (by exact eval_look (by kernel_rfl) (by kernel_rfl)) (by exact eval_look (by kernel_rfl) (by kernel_rfl)) (fun W => cmpN_run _ _ _ _ _ _ _ hd2 W) hW) ?_
                    refine @chain _ _ _ _ _ _ _ _ 119 (.bool true) (by rfl) (by rfl) (by exact fun W2 hW => run_pkT (by rfl) (by exact eval_look (by kernel_rfl) (by kernel_rfl)) (by exact eval_look (by kernel_rfl) (by kernel_rfl)) hW) ?_
                    refine @chain _ _ _ _ _ _ _ _ 120 (.bool true) (by rfl) (by rfl) (by exact fun W2 hW => run_mv (by rfl) (by exact eval_look (by kernel_rfl) (by kernel_rfl)) hW) ?_
                    refine @chainG _ _ _ _ _ _ _ _ 121 (.bool true) (by kernel_rfl) (by rfl) (by exact fun W2 hW => run_mv (by rfl) (by exact eval_base (by kernel_rfl) (by rfl)) hW) ?_
                    refine @chainG _ _ _ _ _ _ _ _ 122 (.bool false) (by kernel_rfl) (by rfl) (by exact fun W2 hW => run_uo (u := .bool true) (by rfl) (by exact eval_look (by kernel_rfl) (by kernel_rfl)) (fun W => by go_simp) hW) ?_
                    refine @chainG _ _ _ _ _ _ _ _ 123 (.bool false) (by kernel_rfl) (by rfl) (by exact fun W2 hW => run_mv (by rfl) (by exact eval_look (by kernel_rfl) (by kernel_rfl)) hW) ?_
                    refine @chainG _ _ _ _ _ _ _ _ 124 (.slice (some ⟨bz, oz, none⟩) m c2) (by kernel_rfl) (by rfl) (by exact fun W2 hW => run_mv (by rfl) (by exact eval_base (by kernel_rfl) (by rfl)) hW) ?_
                    refine @chainG _ _ _ _ _ _ _ _ 125 (.int .i64 (j : Int)) (by kernel_rfl) (by rfl) (by exact fun W2 hW => run_mv (by rfl) (by exact eval_base (by kernel_rfl) (by rfl)) hW) ?_
                    refine @chainG _ _ _ _ _ _ _ _ 126 (.pointer (some ⟨bz, oz + j * 4, none⟩)) (by kernel_rfl) (by rfl) (by exact fun W2 hW => run_ia (u := .slice (some ⟨bz, oz, none⟩) m c2) (v := .int .i64 (j : Int)) (by rfl) (by exact eval_look (by kernel_rfl) (by kernel_rfl)) (by exact eval_look (by kernel_rfl) (by kernel_rfl)) (fun W => idx_run _ _ _ _ _ (by omega) W) hW) ?_
                    refine @chainG _ _ _ _ _ _ _ _ 127 (.pointer (some ⟨bz, oz + j * 4 + 1, none⟩)) (by kernel_rfl) (by rfl) (by exact fun W2 hW => run_fa (p := .pointer (some ⟨bz, oz + j * 4, none⟩)) (by rfl) (by exact eval_look (by kernel_rfl) (by kernel_rfl)) (fun W => by first | kernel_rfl | go_simp) hW) ?_
                    refine @chainG _ _ _ _ _ _ _ _ 128 (.int .u64 z.2.1) (by kernel_rfl) (by rfl) (by exact fun W2 hW => run_lw (by rfl) (by exact eval_look (by kernel_rfl) (by kernel_rfl)) (fun W hW => ldU _ _ _ _ (cell_later hW (HZC.out 1 _ rfl))) hW) ?_
                    refine @chainG _ _ _ _ _ _ _ _ 129 (.pointer (some ⟨wl.heap.size, 1, none⟩)) (by kernel_rfl) (by rfl) (by exact fun W2 hW => run_fa (p := .pointer (some ⟨wl.heap.size, 0, none⟩)) (by rfl) (by exact eval_base (by kernel_rfl) (by rfl)) (fun W => by first | kernel_rfl | go_simp) hW) ?_
                    refine @chainG _ _ _ _ _ _ _ _ 130 (.int .u64 be.2.1) (by kernel_rfl) (by rfl) (by exact fun W2 hW => run_lw (by rfl) (by exact eval_look (by kernel_rfl) (by kernel_rfl)) (fun W hW => ldU _ _ _ _ (cell_later hW (HBB.out 1 _ rfl))) hW) ?_
                    refine @chainG _ _ _ _ _ _ _ _ 131 (.bool true) (by kernel_rfl) (by rfl) (by exact fun W2 hW => run_bo (u := .int .u64 z.2.1) (v := .int .u64 be.2.1) (by rfl) (by exact eval_look (by kernel_rfl) (by kernel_rfl)) (by exact eval_look (by kernel_rfl) (by kernel_rfl)) (fun W => gtrN_run _ _ _ _ _ _ _ hd3 W) hW) ?_
                    refine @chainG _ _ _ _ _ _ _ _ 132 (.bool true) (by kernel_rfl) (by rfl) (by exact fun W2 hW => run_pkF (by rfl) (by exact eval_look (by kernel_rfl) (by kernel_rfl)) (by exact eval_look (by kernel_rfl) (by kernel_rfl)) hW) ?_
                    refine calm_nil (fun W2 hW2 => ?_)
                    refine Eq.mpr (congrArg (fun a => wpList _ _ _ _ a W2) (show _ = (⟨#[Value.slice A nd c, Value.slice B n d, Value.string k, Value.int IntKind.u64 q, undef, undef, undef, undef, Value.bool false, Value.pointer (some ⟨g, 0, none⟩), Value.slice (some ⟨bz, oz, none⟩) m c2, Value.pointer (some ⟨w2.heap.size, 0, none⟩), Value.slice (some ⟨bp, op, none⟩) np c4, Value.bool true, Value.pointer (some ⟨w5.heap.size, 0, none⟩), Value.bool true, Value.int IntKind.i64 (np : Int), Value.int IntKind.i64 (m : Int), Value.pointer (some ⟨wl.heap.size, 0, none⟩), Value.bool true, Value.int IntKind.i64 (j : Int), undef, Value.bool true, Value.bool false, Value.tuple #[Value.pointer (some ⟨g, 0, none⟩), Value.slice (some ⟨bz, oz, none⟩) m c2], Value.slice A nd c, Value.slice B n d, Value.tuple #[Value.pointer (some ⟨g, 0, none⟩), Value.slice (some ⟨bz, oz, none⟩) m c2], Value.pointer (some ⟨g, 0, none⟩), Value.slice (some ⟨bz, oz, none⟩) m c2, Value.pointer (some ⟨g, 0, none⟩), Value.bool false, Value.string k, Value.int IntKind.u64 q, Value.agg #[Value.string k, Value.int IntKind.u64 q, Value.bool false, Value.string ⟨#[]⟩], Value.tuple #[Value.slice (some ⟨bp, op, none⟩) np c4, Value.bool true], Value.pointer (some ⟨g, 0, none⟩), Value.string k, Value.int IntKind.u64 q, f, Value.tuple #[Value.slice (some ⟨bp, op, none⟩) np c4, Value.bool true], Value.slice (some ⟨bp, op, none⟩) np c4, Value.bool true, Value.tuple #[Value.agg #[Value.string x.fst, Value.int IntKind.u64 x.snd.fst, Value.bool x.snd.snd.fst, Value.string x.snd.snd.snd], Value.bool true], Value.pointer (some ⟨g, 0, none⟩), Value.string k, Value.int IntKind.u64 q, Value.tuple #[Value.agg #[Value.string x.fst, Value.int IntKind.u64 x.snd.fst, Value.bool x.snd.snd.fst, Value.string x.snd.snd.snd], Value.bool true], Value.agg #[Value.string x.fst, Value.int IntKind.u64 x.snd.fst, Value.bool x.snd.snd.fst, Value.string x.snd.snd.snd], Value.bool true, Value.bool true, Value.bool false, Value.bool false, Value.bool true, Value.slice (some ⟨bp, op, none⟩) np c4, Value.int IntKind.i64 (np : Int), Value.bool true, Value.bool false, Value.bool false, Value.bool false, Value.bool true, Value.bool true, Value.agg (encE x).toArray, Value.slice (some ⟨bp, op, none⟩) np c4, Value.pointer (some ⟨bp, op, none⟩), Value.agg (encE x).toArray, Value.bool false, Value.bool false, Value.bool false, Value.bool false, Value.bool true, Value.bool false, Value.bool false, undef, undef, undef, Value.bool false, Value.bool false, Value.int IntKind.i64 (m : Int), Value.slice (some ⟨bz, oz, none⟩) m c2, Value.int IntKind.i64 (m : Int), Value.bool false, u82, u83, u84, u85, u86, u87, u88, u89, u90, u91, u92, Value.int IntKind.i64 (np : Int), Value.slice (some ⟨bp, op, none⟩) np c4, Value.int IntKind.i64 (np : Int), Value.bool false, Value.agg #[Value.string ⟨#[]⟩, Value.int IntKind.u64 0, Value.bool false, Value.string ⟨#[]⟩], Value.int IntKind.i64 (j : Int), Value.slice (some ⟨bz, oz, none⟩) m c2, Value.int IntKind.i64 (m : Int), Value.bool true, u102, u103, Value.slice (some ⟨bz, oz, none⟩) m c2, Value.int IntKind.i64 (j : Int), Value.pointer (some ⟨bz, oz + j * 4, none⟩), Value.pointer (some ⟨bz, oz + j * 4, none⟩), Value.string z.fst, Value.string k, Value.bool true, Value.bool true, Value.slice (some ⟨bz, oz, none⟩) m c2, Value.int IntKind.i64 (j : Int), Value.pointer (some ⟨bz, oz + j * 4, none⟩), Value.pointer (some ⟨bz, oz + j * 4 + 1, none⟩), Value.int IntKind.u64 z.snd.fst, Value.int IntKind.u64 q, Value.bool true, Value.bool true, Value.bool true, Value.bool true, Value.bool false, Value.bool false, Value.slice (some ⟨bz, oz, none⟩) m c2, Value.int IntKind.i64 (j : Int), Value.pointer (some ⟨bz, oz + j * 4, none⟩), Value.pointer (some ⟨bz, oz + j * 4 + 1, none⟩), Value.int IntKind.u64 z.snd.fst, Value.pointer (some ⟨wl.heap.size, 1, none⟩), Value.int IntKind.u64 be.snd.fst, Value.bool true, Value.bool true, u133, u134, u135, u136, u137, undef, undef, undef, undef, undef, undef, undef, undef, undef, undef, undef, undef, undef, undef, undef, undef, undef, undef, undef, undef, undef, undef, undef, undef, undef, undef, undef, undef, undef, undef, undef, undef, undef, undef, undef, undef, undef, undef, undef, undef, undef, undef, undef, undef, undef, undef, undef], []⟩ : Act) by kernel_rfl)) ?_
                    have HW2 := Lib.hid hW2
                    clear hW2
                    clear hd1 hd2 hd3
                    have hbh := blk_below HBH.out HW2.out
                    obtain ⟨⟨b0, b1, b2, b3⟩, f0, f1, f2, f3⟩ := cells4 (t := 53) (show W2.heap[wl.heap.size]? = some (.cells #[.string be.1, .int .u64 be.2.1, .bool be.2.2.1, .string be.2.2.2] 53 (0, 0)) from hbh)
                    have z0 := cell_later HW2.out (HZC.out 0 _ rfl)
                    have z1 := cell_later HW2.out (HZC.out 1 _ rfl)
                    have z2 := cell_later HW2.out (HZC.out 2 _ rfl)
                    have z3 := cell_later HW2.out (HZC.out 3 _ rfl)
                    simp only [Nat.add_zero] at z0
                    go_wp2
                    go_roundw
                    case rel => exact ⟨j + 1, by first | rfl | simp, by omega, by rw [HNX.out]; first | rfl | (simp only [HST.out]), by rw [HNX.out, HST.out]; exact put4_heap (v0 := .string be.1) (v1 := .int .u64 be.2.1) (v2 := .bool be.2.2.1) (v3 := .string be.2.2.2) hbh, (HBJ.out.trans (HW2.out.mono HBJ.out.size)).trans ((put4_upd (S := fun k => k = wl.heap.size) _ _ _ _ _ rfl).bel (fun k hk => by omega) (Nat.le_of_lt (blk_lt hbh)))⟩
                    case measure => simp [intOf]; omega
                  | false =>
                    have HST := Lib.hid (show bestS k q (be, true) z = (be, true) by unfold bestS; rw [HFT.out, hd1, hd2, hd3]; rfl)
                    go_wp2_with fail
                    refine wp_region_calmB 29 (by kernel_rfl) (by kernel_rfl) ?_
                    simp only [List.take_succ_cons, List.take_zero, List.drop_succ_cons, List.drop_zero]
                    refine chain0 ?_
                    refine @chain _ _ _ _ _ _ _ _ 104 (.slice (some ⟨bz, oz, none⟩) m c2) (by rfl) (by rfl) (by exact fun W2 hW => run_mv (by rfl) (by exact eval_base (by kernel_rfl) (by rfl)) hW) ?_
                    refine @chain _ _ _ _ _ _ _ _ 105 (.int .i64 (j : Int)) (by rfl) (by rfl) (by exact fun W2 hW => run_mv (by rfl) (by exact eval_base (by kernel_rfl) (by rfl)) hW) ?_
                    refine @chain _ _ _ _ _ _ _ _ 106 (.pointer (some ⟨bz, oz + j * 4, none⟩)) (by rfl) (by rfl) (by exact fun W2 hW => run_ia (u := .slice (some ⟨bz, oz, none⟩) m c2) (v := .int .i64 (j : Int)) (by rfl) (by exact eval_look (by kernel_rfl) (by kernel_rfl)) (by exact eval_look (by kernel_rfl) (by kernel_rfl)) (fun W => idx_run _ _ _ _ _ (by omega) W) hW) ?_
                    refine @chain _ _ _ _ _ _ _ _ 107 (.pointer (some ⟨bz, oz + j * 4, none⟩)) (by rfl) (by rfl) (by exact fun W2 hW => run_fa (p := .pointer (some ⟨bz, oz + j * 4, none⟩)) (by rfl) (by exact eval_look (by kernel_rfl) (by kernel_rfl)) (fun W => by first | kernel_rfl | go_simp) hW) ?_
                    refine @chain _ _ _ _ _ _ _ _ 108 (.string z.1) (by rfl) (by rfl) (by exact fun W2 hW => run_lw (by rfl) (by exact eval_look (by kernel_rfl) (by kernel_rfl)) (fun W hW => ldS _ _ _ _ (cell_later hW (HZC.out 0 _ rfl))) hW) ?_
                    refine @chain _ _ _ _ _ _ _ _ 109 (.string k) (by rfl) (by rfl) (by exact fun W2 hW => run_mv (by rfl) (by exact eval_base (by kernel_rfl) (by rfl)) hW) ?_
                    refine @chain _ _ _ _ _ _ _ _ 110 (.bool true) (by rfl) (by rfl) (by exact fun W2 hW => run_bo (u := .string z.1) (v := .string k) (by rfl) (by exact eval_look (by kernel_rfl) (by kernel_rfl)) (by exact eval_look (by kernel_rfl) (by kernel_rfl)) (fun W => strEq_run _ _ _ _ _ _ hd1 W) hW) ?_
                    refine @chain _ _ _ _ _ _ _ _ 111 (.bool true) (by rfl) (by rfl) (by exact fun W2 hW => run_mv (by rfl) (by exact eval_look (by kernel_rfl) (by kernel_rfl)) hW) ?_
                    refine @chainG _ _ _ _ _ _ _ _ 112 (.slice (some ⟨bz, oz, none⟩) m c2) (by kernel_rfl) (by rfl) (by exact fun W2 hW => run_mv (by rfl) (by exact eval_base (by kernel_rfl) (by rfl)) hW) ?_
                    refine @chainG _ _ _ _ _ _ _ _ 113 (.int .i64 (j : Int)) (by kernel_rfl) (by rfl) (by exact fun W2 hW => run_mv (by rfl) (by exact eval_base (by kernel_rfl) (by rfl)) hW) ?_
                    refine @chainG _ _ _ _ _ _ _ _ 114 (.pointer (some ⟨bz, oz + j * 4, none⟩)) (by kernel_rfl) (by rfl) (by exact fun W2 hW => run_ia (u := .slice (some ⟨bz, oz, none⟩) m c2) (v := .int .i64 (j : Int)) (by rfl) (by exact eval_look (by kernel_rfl) (by kernel_rfl)) (by exact eval_look (by kernel_rfl) (by kernel_rfl)) (fun W => idx_run _ _ _ _ _ (by omega) W) hW) ?_
                    refine @chainG _ _ _ _ _ _ _ _ 115 (.pointer (some ⟨bz, oz + j * 4 + 1, none⟩)) (by kernel_rfl) (by rfl) (by exact fun W2 hW => run_fa (p := .pointer (some ⟨bz, oz + j * 4, none⟩)) (by rfl) (by exact eval_look (by kernel_rfl) (by kernel_rfl)) (fun W => by first | kernel_rfl | go_simp) hW) ?_
                    refine @chainG _ _ _ _ _ _ _ _ 116 (.int .u64 z.2.1) (by kernel_rfl) (by rfl) (by exact fun W2 hW => run_lw (by rfl) (by exact eval_look (by kernel_rfl) (by kernel_rfl)) (fun W hW => ldU _ _ _ _ (cell_later hW (HZC.out 1 _ rfl))) hW) ?_
                    refine @chainG _ _ _ _ _ _ _ _ 117 (.int .u64 q) (by kernel_rfl) (by rfl) (by exact fun W2 hW => run_mv (by rfl) (by exact eval_base (by kernel_rfl) (by rfl)) hW) ?_
                    refine @chainG _ _ _ _ _ _ _ _ 118 (.bool true) (by kernel_rfl) (by rfl) (by exact fun W2 hW => run_bo (u := .int .u64 z.2.1) (v := .int .u64 q) (by rfl) (by exact eval_look (by kernel_rfl) (by kernel_rfl)) (by exact eval_look (by kernel_rfl) (by kernel_rfl)) (fun W => cmpN_run _ _ _ _ _ _ _ hd2 W) hW) ?_
                    refine @chain _ _ _ _ _ _ _ _ 119 (.bool true) (by rfl) (by rfl) (by exact fun W2 hW => run_pkT (by rfl) (by exact eval_look (by kernel_rfl) (by kernel_rfl)) (by exact eval_look (by kernel_rfl) (by kernel_rfl)) hW) ?_
                    refine @chain _ _ _ _ _ _ _ _ 120 (.bool true) (by rfl) (by rfl) (by exact fun W2 hW => run_mv (by rfl) (by exact eval_look (by kernel_rfl) (by kernel_rfl)) hW) ?_
                    refine @chainG _ _ _ _ _ _ _ _ 121 (.bool true) (by kernel_rfl) (by rfl) (by exact fun W2 hW => run_mv (by rfl) (by exact eval_base (by kernel_rfl) (by rfl)) hW) ?_
                    refine @chainG _ _ _ _ _ _ _ _ 122 (.bool false) (by kernel_rfl) (by rfl) (by exact fun W2 hW => run_uo (u := .bool true) (by rfl) (by exact eval_look (by kernel_rfl) (by kernel_rfl)) (fun W => by go_simp) hW) ?_
                    refine @chainG _ _ _ _ _ _ _ _ 123 (.bool false) (by kernel_rfl) (by rfl) (by exact fun W2 hW => run_mv (by rfl) (by exact eval_look (by kernel_rfl) (by kernel_rfl)) hW) ?_
                    refine @chainG _ _ _ _ _ _ _ _ 124 (.slice (some ⟨bz, oz, none⟩) m c2) (by kernel_rfl) (by rfl) (by exact fun W2 hW => run_mv (by rfl) (by exact eval_base (by kernel_rfl) (by rfl)) hW) ?_
                    refine @chainG _ _ _ _ _ _ _ _ 125 (.int .i64 (j : Int)) (by kernel_rfl) (by rfl) (by exact fun W2 hW => run_mv (by rfl) (by exact eval_base (by kernel_rfl) (by rfl)) hW) ?_
                    refine @chainG _ _ _ _ _ _ _ _ 126 (.pointer (some ⟨bz, oz + j * 4, none⟩)) (by kernel_rfl) (by rfl) (by exact fun W2 hW => run_ia (u := .slice (some ⟨bz, oz, none⟩) m c2) (v := .int .i64 (j : Int)) (by rfl) (by exact eval_look (by kernel_rfl) (by kernel_rfl)) (by exact eval_look (by kernel_rfl) (by kernel_rfl)) (fun W => idx_run _ _ _ _ _ (by omega) W) hW) ?_
                    refine @chainG _ _ _ _ _ _ _ _ 127 (.pointer (some ⟨bz, oz + j * 4 + 1, none⟩)) (by kernel_rfl) (by rfl) (by exact fun W2 hW => run_fa (p := .pointer (some ⟨bz, oz + j * 4, none⟩)) (by rfl) (by exact eval_look (by kernel_rfl) (by kernel_rfl)) (fun W => by first | kernel_rfl | go_simp) hW) ?_
                    refine @chainG _ _ _ _ _ _ _ _ 128 (.int .u64 z.2.1) (by kernel_rfl) (by rfl) (by exact fun W2 hW => run_lw (by rfl) (by exact eval_look (by kernel_rfl) (by kernel_rfl)) (fun W hW => ldU _ _ _ _ (cell_later hW (HZC.out 1 _ rfl))) hW) ?_
                    refine @chainG _ _ _ _ _ _ _ _ 129 (.pointer (some ⟨wl.heap.size, 1, none⟩)) (by kernel_rfl) (by rfl) (by exact fun W2 hW => run_fa (p := .pointer (some ⟨wl.heap.size, 0, none⟩)) (by rfl) (by exact eval_base (by kernel_rfl) (by rfl)) (fun W => by first | kernel_rfl | go_simp) hW) ?_
                    refine @chainG _ _ _ _ _ _ _ _ 130 (.int .u64 be.2.1) (by kernel_rfl) (by rfl) (by exact fun W2 hW => run_lw (by rfl) (by exact eval_look (by kernel_rfl) (by kernel_rfl)) (fun W hW => ldU _ _ _ _ (cell_later hW (HBB.out 1 _ rfl))) hW) ?_
                    refine @chainG _ _ _ _ _ _ _ _ 131 (.bool false) (by kernel_rfl) (by rfl) (by exact fun W2 hW => run_bo (u := .int .u64 z.2.1) (v := .int .u64 be.2.1) (by rfl) (by exact eval_look (by kernel_rfl) (by kernel_rfl)) (by exact eval_look (by kernel_rfl) (by kernel_rfl)) (fun W => gtrN_run _ _ _ _ _ _ _ hd3 W) hW) ?_
                    refine @chainG _ _ _ _ _ _ _ _ 132 (.bool false) (by kernel_rfl) (by rfl) (by exact fun W2 hW => run_pkF (by rfl) (by exact eval_look (by kernel_rfl) (by kernel_rfl)) (by exact eval_look (by kernel_rfl) (by kernel_rfl)) hW) ?_
                    refine calm_nil (fun W2 hW2 => ?_)
                    refine Eq.mpr (congrArg (fun a => wpList _ _ _ _ a W2) (show _ = (⟨#[Value.slice A nd c, Value.slice B n d, Value.string k, Value.int IntKind.u64 q, undef, undef, undef, undef, Value.bool false, Value.pointer (some ⟨g, 0, none⟩), Value.slice (some ⟨bz, oz, none⟩) m c2, Value.pointer (some ⟨w2.heap.size, 0, none⟩), Value.slice (some ⟨bp, op, none⟩) np c4, Value.bool true, Value.pointer (some ⟨w5.heap.size, 0, none⟩), Value.bool true, Value.int IntKind.i64 (np : Int), Value.int IntKind.i64 (m : Int), Value.pointer (some ⟨wl.heap.size, 0, none⟩), Value.bool true, Value.int IntKind.i64 (j : Int), undef, Value.bool true, Value.bool false, Value.tuple #[Value.pointer (some ⟨g, 0, none⟩), Value.slice (some ⟨bz, oz, none⟩) m c2], Value.slice A nd c, Value.slice B n d, Value.tuple #[Value.pointer (some ⟨g, 0, none⟩), Value.slice (some ⟨bz, oz, none⟩) m c2], Value.pointer (some ⟨g, 0, none⟩), Value.slice (some ⟨bz, oz, none⟩) m c2, Value.pointer (some ⟨g, 0, none⟩), Value.bool false, Value.string k, Value.int IntKind.u64 q, Value.agg #[Value.string k, Value.int IntKind.u64 q, Value.bool false, Value.string ⟨#[]⟩], Value.tuple #[Value.slice (some ⟨bp, op, none⟩) np c4, Value.bool true], Value.pointer (some ⟨g, 0, none⟩), Value.string k, Value.int IntKind.u64 q, f, Value.tuple #[Value.slice (some ⟨bp, op, none⟩) np c4, Value.bool true], Value.slice (some ⟨bp, op, none⟩) np c4, Value.bool true, Value.tuple #[Value.agg #[Value.string x.fst, Value.int IntKind.u64 x.snd.fst, Value.bool x.snd.snd.fst, Value.string x.snd.snd.snd], Value.bool true], Value.pointer (some ⟨g, 0, none⟩), Value.string k, Value.int IntKind.u64 q, Value.tuple #[Value.agg #[Value.string x.fst, Value.int IntKind.u64 x.snd.fst, Value.bool x.snd.snd.fst, Value.string x.snd.snd.snd], Value.bool true], Value.agg #[Value.string x.fst, Value.int IntKind.u64 x.snd.fst, Value.bool x.snd.snd.fst, Value.string x.snd.snd.snd], Value.bool true, Value.bool true, Value.bool false, Value.bool false, Value.bool true, Value.slice (some ⟨bp, op, none⟩) np c4, Value.int IntKind.i64 (np : Int), Value.bool true, Value.bool false, Value.bool false, Value.bool false, Value.bool true, Value.bool true, Value.agg (encE x).toArray, Value.slice (some ⟨bp, op, none⟩) np c4, Value.pointer (some ⟨bp, op, none⟩), Value.agg (encE x).toArray, Value.bool false, Value.bool false, Value.bool false, Value.bool false, Value.bool true, Value.bool false, Value.bool false, undef, undef, undef, Value.bool false, Value.bool false, Value.int IntKind.i64 (m : Int), Value.slice (some ⟨bz, oz, none⟩) m c2, Value.int IntKind.i64 (m : Int), Value.bool false, u82, u83, u84, u85, u86, u87, u88, u89, u90, u91, u92, Value.int IntKind.i64 (np : Int), Value.slice (some ⟨bp, op, none⟩) np c4, Value.int IntKind.i64 (np : Int), Value.bool false, Value.agg #[Value.string ⟨#[]⟩, Value.int IntKind.u64 0, Value.bool false, Value.string ⟨#[]⟩], Value.int IntKind.i64 (j : Int), Value.slice (some ⟨bz, oz, none⟩) m c2, Value.int IntKind.i64 (m : Int), Value.bool true, u102, u103, Value.slice (some ⟨bz, oz, none⟩) m c2, Value.int IntKind.i64 (j : Int), Value.pointer (some ⟨bz, oz + j * 4, none⟩), Value.pointer (some ⟨bz, oz + j * 4, none⟩), Value.string z.fst, Value.string k, Value.bool true, Value.bool true, Value.slice (some ⟨bz, oz, none⟩) m c2, Value.int IntKind.i64 (j : Int), Value.pointer (some ⟨bz, oz + j * 4, none⟩), Value.pointer (some ⟨bz, oz + j * 4 + 1, none⟩), Value.int IntKind.u64 z.snd.fst, Value.int IntKind.u64 q, Value.bool true, Value.bool true, Value.bool true, Value.bool true, Value.bool false, Value.bool false, Value.slice (some ⟨bz, oz, none⟩) m c2, Value.int IntKind.i64 (j : Int), Value.pointer (some ⟨bz, oz + j * 4, none⟩), Value.pointer (some ⟨bz, oz + j * 4 + 1, none⟩), Value.int IntKind.u64 z.snd.fst, Value.pointer (some ⟨wl.heap.size, 1, none⟩), Value.int IntKind.u64 be.snd.fst, Value.bool false, Value.bool false, u133, u134, u135, u136, u137, undef, undef, undef, undef, undef, undef, undef, undef, undef, undef, undef, undef, undef, undef, undef, undef, undef, undef, undef, undef, undef, undef, undef, undef, undef, undef, undef, undef, undef, undef, undef, undef, undef, undef, undef, undef, undef, undef, undef, undef, undef, undef, undef, undef, undef, undef, undef], []⟩ : Act) by kernel_rfl)) ?_
                    have HW2 := Lib.hid hW2
                    clear hW2
                    clear hd1 hd2 hd3
                    go_wp2
                    go_roundw
                    case rel => exact ⟨j + 1, by first | rfl | simp, by omega, by rw [HNX.out]; first | rfl | (simp only [HST.out]), by rw [HNX.out, HST.out]; exact blk_below HBH.out HW2.out, HBJ.out.trans (HW2.out.mono HBJ.out.size)⟩
                    case measure => simp [intOf]; omega
          · have hjm2 : m = j := by omega
            subst hjm2
            have HBF := Lib.hid (show bestF k q ins = (be, bf) by rw [← HBQ.out, List.take_of_length_le (by rw [HMM.out]; exact Nat.le_refl _)])
            clear HBQ
            generalize wj = wz at *
            have hbest := HBEST.out
            rw [HBF.out] at hbest
            have HBE := Lib.hid hbest
            clear hbest
            go_wp2_with fail
            go_loopw [21] (fun s21 wr => ∃ j : Nat, s21 = .int .i64 j ∧ j ≤ np ∧ Below wz.heap.size wz wr) (fun s21 wr => np - (intOf s21).toNat)
            case atStart => exact ⟨0, rfl, by omega, Below.refl _ _⟩
            case round =>
              obtain ⟨j, rfl, hj, hbj⟩ := hrel
              generalize wr = wq at *
              have HWQ := Lib.hid (HBJ.out.trans (hbj.mono HBJ.out.size))
              have HQZ := Lib.hid hbj
              clear hbj
              by_cases hjm : j < np
              · obtain ⟨xj, hxj⟩ := getElem?_of_lt (l := x :: t) (by rw [HNP.out]; exact hjm : j < (x :: t).length)
                have hda : decide (ltE xj (atE k q)) = false := decide_eq_false (HPM.out xj (List.mem_of_getElem? hxj)).2
                obtain ⟨b', o', hE, hlt', hc'⟩ := HAE2.out.at hxj
                injection hE with hE
                injection hE with e1 e2
                subst e1; subst e2
                have HXB := Lib.hid (fun i v hv => cell_later HWQ.out (boxEnt (e := atE k q) HRX2.out i v hv))
                cases j with
                | zero =>
                  have HXJ := Lib.hid (fun i v (hv : (encE xj)[i]? = some v) => (HWQ.out.cell (p := ⟨bp, op + i, none⟩) hlt').trans (by have := hc' i v hv; simpa using this))
                  clear hxj hc' hlt'
                  try rw [show ((0 : Nat) : Int) = 0 from rfl]
                  go_wp2_with fail
                  refine wp_region_calmB 22 (by kernel_rfl) (by kernel_rfl) ?_
                  simp only [List.take_succ_cons, List.take_zero, List.drop_succ_cons, List.drop_zero]
                  refine chain0 ?_
                  refine @chain _ _ _ _ _ _ _ _ 144 (.slice (some ⟨bp, op, none⟩) np c4) (by rfl) (by rfl) (by exact fun W2 hW => run_mv (by rfl) (by exact eval_base (by kernel_rfl) (by rfl)) hW) ?_
                  refine @chain _ _ _ _ _ _ _ _ 145 (.int .i64 0) (by rfl) (by rfl) (by exact fun W2 hW => run_mv (by rfl) (by exact eval_base (by kernel_rfl) (by rfl)) hW) ?_
                  refine @chain _ _ _ _ _ _ _ _ 146 (.pointer (some ⟨bp, op, none⟩)) (by rfl) (by rfl) (by exact fun W2 hW => run_ia (u := .slice (some ⟨bp, op, none⟩) np c4) (v := .int .i64 0) (by rfl) (by exact eval_look (by kernel_rfl) (by kernel_rfl)) (by exact eval_look (by kernel_rfl) (by kernel_rfl)) (fun W => idx0_run _ _ _ _ (by omega) W) hW) ?_
                  refine @chain _ _ _ _ _ _ _ _ 147 (.agg (encE xj).toArray) (by rfl) (by rfl) (by exact fun W2 hW => run_lw (by rfl) (by exact eval_look (by kernel_rfl) (by kernel_rfl)) (fun W hW => ldEntO _ _ _ _ (fun i v hv => cell_later hW (HXJ.out i v hv))) hW) ?_
                  refine @chain _ _ _ _ _ _ _ _ 148 (.agg (encE (atE k q)).toArray) (by rfl) (by rfl) (by exact fun W2 hW => run_lw (by rfl) (by exact eval_base (by kernel_rfl) (by rfl)) (fun W hW => ldEnt _ _ _ (fun i v hv => cell_later hW (HXB.out i v hv))) hW) ?_
                  refine @chain _ _ _ _ _ _ _ _ 149 (.bool false) (by rfl) (by rfl) (by exact fun W2 hW => run_call (vs := #[.agg (encE xj).toArray, .agg (encE (atE k q)).toArray]) (by rfl) (by kernel_rfl) (enters_of Try.func25 (by kernel_rfl) (by rfl)) (calm_b hW (ahead5_t hda W2))) ?_
                  refine @chain _ _ _ _ _ _ _ _ 150 (.bool false) (by rfl) (by rfl) (by exact fun W2 hW => run_mv (by rfl) (by exact eval_look (by kernel_rfl) (by kernel_rfl)) hW) ?_
                  refine @chainG _ _ _ _ _ _ _ _ 151 (.int .i64 0) (by kernel_rfl) (by rfl) (by exact fun W2 hW => run_mv (by rfl) (by exact eval_base (by kernel_rfl) (by rfl)) hW) ?_
                  refine @chainG _ _ _ _ _ _ _ _ 152 (.bool false) (by kernel_rfl) (by rfl) (by exact fun W2 hW => run_bo (u := .int .i64 0) (v := .int .i64 0) (by rfl) (by exact eval_look (by kernel_rfl) (by kernel_rfl)) (by rfl) (fun W => by go_simp) hW) ?_
                  refine @chainG _ _ _ _ _ _ _ _ 153 (.bool false) (by kernel_rfl) (by rfl) (by exact fun W2 hW => run_mv (by rfl) (by exact eval_look (by kernel_rfl) (by kernel_rfl)) hW) ?_
                  refine @chainK _ _ _ _ _ _ _ _ 154 (by kernel_rfl) (by rfl) ?_
                  refine @chainK _ _ _ _ _ _ _ _ 155 (by kernel_rfl) (by rfl) ?_
                  refine @chainK _ _ _ _ _ _ _ _ 156 (by kernel_rfl) (by rfl) ?_
                  refine @chainK _ _ _ _ _ _ _ _ 157 (by kernel_rfl) (by rfl) ?_
                  refine @chainK _ _ _ _ _ _ _ _ 158 (by kernel_rfl) (by rfl) ?_
                  refine @chainK _ _ _ _ _ _ _ _ 159 (by kernel_rfl) (by rfl) ?_
                  refine @chainK _ _ _ _ _ _ _ _ 160 (by kernel_rfl) (by rfl) ?_
                  refine @chainK _ _ _ _ _ _ _ _ 161 (by kernel_rfl) (by rfl) ?_
                  refine @chainK _ _ _ _ _ _ _ _ 162 (by kernel_rfl) (by rfl) ?_
                  refine @chainK _ _ _ _ _ _ _ _ 163 (by kernel_rfl) (by rfl) ?_
                  refine @chainK _ _ _ _ _ _ _ _ 164 (by kernel_rfl) (by rfl) ?_
                  refine @chainG _ _ _ _ _ _ _ _ 165 (.bool false) (by kernel_rfl) (by rfl) (by exact fun W2 hW => run_pkF (by rfl) (by exact eval_look (by kernel_rfl) (by kernel_rfl)) (by rfl) hW) ?_
                  refine calm_nil (fun W2 hW2 => ?_)
                  refine Eq.mpr (congrArg (fun a => wpList _ _ _ _ a W2) (show _ = (⟨#[Value.slice A nd c, Value.slice B n d, Value.string k, Value.int IntKind.u64 q, undef, undef, undef, undef, u8, Value.pointer (some ⟨g, 0, none⟩), Value.slice A2 m c2, Value.pointer (some ⟨w2.heap.size, 0, none⟩), Value.slice (some ⟨bp, op, none⟩) np c4, Value.bool true, Value.pointer (some ⟨w5.heap.size, 0, none⟩), Value.bool true, Value.int IntKind.i64 (np : Int), Value.int IntKind.i64 (m : Int), Value.pointer (some ⟨wl.heap.size, 0, none⟩), Value.bool bf, Value.int IntKind.i64 (m : Int), Value.int IntKind.i64 0, Value.bool true, Value.bool false, Value.tuple #[Value.pointer (some ⟨g, 0, none⟩), Value.slice A2 m c2], Value.slice A nd c, Value.slice B n d, Value.tuple #[Value.pointer (some ⟨g, 0, none⟩), Value.slice A2 m c2], Value.pointer (some ⟨g, 0, none⟩), Value.slice A2 m c2, Value.pointer (some ⟨g, 0, none⟩), Value.bool false, Value.string k, Value.int IntKind.u64 q, Value.agg #[Value.string k, Value.int IntKind.u64 q, Value.bool false, Value.string ⟨#[]⟩], Value.tuple #[Value.slice (some ⟨bp, op, none⟩) np c4, Value.bool true], Value.pointer (some ⟨g, 0, none⟩), Value.string k, Value.int IntKind.u64 q, f, Value.tuple #[Value.slice (some ⟨bp, op, none⟩) np c4, Value.bool true], Value.slice (some ⟨bp, op, none⟩) np c4, Value.bool true, Value.tuple #[Value.agg #[Value.string x.fst, Value.int IntKind.u64 x.snd.fst, Value.bool x.snd.snd.fst, Value.string x.snd.snd.snd], Value.bool true], Value.pointer (some ⟨g, 0, none⟩), Value.string k, Value.int IntKind.u64 q, Value.tuple #[Value.agg #[Value.string x.fst, Value.int IntKind.u64 x.snd.fst, Value.bool x.snd.snd.fst, Value.string x.snd.snd.snd], Value.bool true], Value.agg #[Value.string x.fst, Value.int IntKind.u64 x.snd.fst, Value.bool x.snd.snd.fst, Value.string x.snd.snd.snd], Value.bool true, Value.bool true, Value.bool false, Value.bool false, Value.bool true, Value.slice (some ⟨bp, op, none⟩) np c4, Value.int IntKind.i64 (np : Int), Value.bool true, Value.bool false, Value.bool false, Value.bool false, Value.bool true, Value.bool true, Value.agg (encE x).toArray, Value.slice (some ⟨bp, op, none⟩) np c4, Value.pointer (some ⟨bp, op, none⟩), Value.agg (encE x).toArray, Value.bool false, Value.bool false, Value.bool false, Value.bool false, Value.bool true, Value.bool false, Value.bool false, undef, undef, undef, Value.bool false, Value.bool false, Value.int IntKind.i64 (m : Int), Value.slice A2 m c2, Value.int IntKind.i64 (m : Int), Value.bool false, u82, u83, u84, u85, u86, u87, u88, u89, u90, u91, u92, Value.int IntKind.i64 (np : Int), Value.slice (some ⟨bp, op, none⟩) np c4, Value.int IntKind.i64 (np : Int), Value.bool false, Value.agg #[Value.string ⟨#[]⟩, Value.int IntKind.u64 0, Value.bool false, Value.string ⟨#[]⟩], Value.int IntKind.i64 (m : Int), Value.slice A2 m c2, Value.int IntKind.i64 (m : Int), Value.bool false, u102, u103, u104, u105, u106, u107, u108, u109, u110, u111, u112, u113, u114, u115, u116, u117, u118, u119, u120, u121, u122, u123, u124, u125, u126, u127, u128, u129, u130, u131, u132, u133, u134, u135, u136, u137, Value.int IntKind.i64 0, Value.slice (some ⟨bp, op, none⟩) np c4, Value.int IntKind.i64 (np : Int), Value.bool true, u142, u143, Value.slice (some ⟨bp, op, none⟩) np c4, Value.int IntKind.i64 0, Value.pointer (some ⟨bp, op, none⟩), Value.agg (encE xj).toArray, Value.agg (encE (atE k q)).toArray, Value.bool false, Value.bool false, Value.int IntKind.i64 0, Value.bool false, Value.bool false, undef, undef, undef, undef, undef, undef, undef, undef, undef, undef, undef, Value.bool false, u166, undef, undef, undef, undef, undef, undef, undef, undef, undef, undef, undef, undef, undef, undef, undef, undef, undef, undef], []⟩ : Act) by kernel_rfl)) ?_
                  have HW2 := Lib.hid hW2
                  clear hW2
                  clear hda
                  go_wp2
                  go_roundw
                  case rel => exact ⟨1, by first | rfl | simp, by omega, HQZ.out.trans (HW2.out.mono HQZ.out.size)⟩
                  case measure => simp [intOf]; omega
                | succ j' =>
                  obtain ⟨xi, hxi⟩ := getElem?_of_lt (l := x :: t) (by rw [HNP.out]; omega : j' < (x :: t).length)
                  have hord : decide (ltE xi xj) = true := by
                    have := List.pairwise_iff_getElem.1 HPS.out j' (j' + 1) (by rw [HNP.out]; omega) (by rw [HNP.out]; omega) (by omega)
                    obtain ⟨h1, h2⟩ := List.getElem?_eq_some_iff.1 hxi
                    obtain ⟨h3, h4⟩ := List.getElem?_eq_some_iff.1 hxj
                    rw [h2, h4] at this
                    exact decide_eq_true this
                  obtain ⟨b'', o'', hE, _, hc''⟩ := HAE2.out.at hxi
                  injection hE with hE
                  injection hE with e1 e2
                  subst e1; subst e2
                  have HXJ := Lib.hid (fun i v (hv : (encE xj)[i]? = some v) => (HWQ.out.cell (p := ⟨bp, op + (j' + 1) * 4 + i, none⟩) hlt').trans (hc' i v hv))
                  have HXI := Lib.hid (fun i v (hv : (encE xi)[i]? = some v) => (HWQ.out.cell (p := ⟨bp, op + j' * 4 + i, none⟩) hlt').trans (hc'' i v hv))
                  clear hxj hxi hc' hc'' hlt'
                  try rw [show ((j' + 1 : Nat) : Int) = (j' : Int) + 1 from rfl]
                  go_wp2_with fail
                  refine wp_region_calmB 22 (by kernel_rfl) (by kernel_rfl) ?_
                  simp only [List.take_succ_cons, List.take_zero, List.drop_succ_cons, List.drop_zero]
                  refine chain0 ?_
                  refine @chain _ _ _ _ _ _ _ _ 144 (.slice (some ⟨bp, op, none⟩) np c4) (by rfl) (by rfl) (by exact fun W2 hW => run_mv (by rfl) (by exact eval_base (by kernel_rfl) (by rfl)) hW) ?_
                  refine @chain _ _ _ _ _ _ _ _ 145 (.int .i64 ((j' : Int) + 1)) (by rfl) (by rfl) (by exact fun W2 hW => run_mv (by rfl) (by exact eval_base (by kernel_rfl) (by rfl)) hW) ?_
                  refine @chain _ _ _ _ _ _ _ _ 146 (.pointer (some ⟨bp, op + (j' + 1) * 4, none⟩)) (by rfl) (by rfl) (by exact fun W2 hW => run_ia (u := .slice (some ⟨bp, op, none⟩) np c4) (v := .int .i64 ((j' : Int) + 1)) (by rfl) (by exact eval_look (by kernel_rfl) (by kernel_rfl)) (by exact eval_look (by kernel_rfl) (by kernel_rfl)) (fun W => idx1_run _ _ _ _ _ (by omega) W) hW) ?_
                  refine @chain _ _ _ _ _ _ _ _ 147 (.agg (encE xj).toArray) (by rfl) (by rfl) (by exact fun W2 hW => run_lw (by rfl) (by exact eval_look (by kernel_rfl) (by kernel_rfl)) (fun W hW => ldEntO _ _ _ _ (fun i v hv => cell_later hW (HXJ.out i v hv))) hW) ?_
                  refine @chain _ _ _ _ _ _ _ _ 148 (.agg (encE (atE k q)).toArray) (by rfl) (by rfl) (by exact fun W2 hW => run_lw (by rfl) (by exact eval_base (by kernel_rfl) (by rfl)) (fun W hW => ldEnt _ _ _ (fun i v hv => cell_later hW (HXB.out i v hv))) hW) ?_
                  refine @chain _ _ _ _ _ _ _ _ 149 (.bool false) (by rfl) (by rfl) (by exact fun W2 hW => run_call (vs := #[.agg (encE xj).toArray, .agg (encE (atE k q)).toArray]) (by rfl) (by kernel_rfl) (enters_of Try.func25 (by kernel_rfl) (by rfl)) (calm_b hW (ahead5_t hda W2))) ?_
                  refine @chain _ _ _ _ _ _ _ _ 150 (.bool false) (by rfl) (by rfl) (by exact fun W2 hW => run_mv (by rfl) (by exact eval_look (by kernel_rfl) (by kernel_rfl)) hW) ?_
                  refine @chainG _ _ _ _ _ _ _ _ 151 (.int .i64 ((j' : Int) + 1)) (by kernel_rfl) (by rfl) (by exact fun W2 hW => run_mv (by rfl) (by exact eval_base (by kernel_rfl) (by rfl)) hW) ?_
                  refine @chainG _ _ _ _ _ _ _ _ 152 (.bool true) (by kernel_rfl) (by rfl) (by exact fun W2 hW => run_bo (u := .int .i64 ((j' : Int) + 1)) (v := .int .i64 0) (by rfl) (by exact eval_look (by kernel_rfl) (by kernel_rfl)) (by rfl) (fun W => by go_simp) hW) ?_
                  refine @chainG _ _ _ _ _ _ _ _ 153 (.bool true) (by kernel_rfl) (by rfl) (by exact fun W2 hW => run_mv (by rfl) (by exact eval_look (by kernel_rfl) (by kernel_rfl)) hW) ?_
                  refine @chainG _ _ _ _ _ _ _ _ 154 (.slice (some ⟨bp, op, none⟩) np c4) (by kernel_rfl) (by rfl) (by exact fun W2 hW => run_mv (by rfl) (by exact eval_base (by kernel_rfl) (by rfl)) hW) ?_
                  refine @chainG _ _ _ _ _ _ _ _ 155 (.int .i64 ((j' : Int) + 1)) (by kernel_rfl) (by rfl) (by exact fun W2 hW => run_mv (by rfl) (by exact eval_base (by kernel_rfl) (by rfl)) hW) ?_
                  refine @chainG _ _ _ _ _ _ _ _ 156 (.int .i64 (j' : Int)) (by kernel_rfl) (by rfl) (by exact fun W2 hW => run_bo (u := .int .i64 ((j' : Int) + 1)) (v := .int .i64 1) (by rfl) (by exact eval_look (by kernel_rfl) (by kernel_rfl)) (by rfl) (fun W => dec_run _ _ _ _ (by omega) (by omega) W) hW) ?_
                  refine @chainG _ _ _ _ _ _ _ _ 157 (.pointer (some ⟨bp, op + j' * 4, none⟩)) (by kernel_rfl) (by rfl) (by exact fun W2 hW => run_ia (u := .slice (some ⟨bp, op, none⟩) np c4) (v := .int .i64 (j' : Int)) (by rfl) (by exact eval_look (by kernel_rfl) (by kernel_rfl)) (by exact eval_look (by kernel_rfl) (by kernel_rfl)) (fun W => idx_run _ _ _ _ _ (by omega) W) hW) ?_
                  refine @chainG _ _ _ _ _ _ _ _ 158 (.agg (encE xi).toArray) (by kernel_rfl) (by rfl) (by exact fun W2 hW => run_lw (by rfl) (by exact eval_look (by kernel_rfl) (by kernel_rfl)) (fun W hW => ldEntO _ _ _ _ (fun i v hv => cell_later hW (HXI.out i v hv))) hW) ?_
                  refine @chainG _ _ _ _ _ _ _ _ 159 (.slice (some ⟨bp, op, none⟩) np c4) (by kernel_rfl) (by rfl) (by exact fun W2 hW => run_mv (by rfl) (by exact eval_base (by kernel_rfl) (by rfl)) hW) ?_
                  refine @chainG _ _ _ _ _ _ _ _ 160 (.int .i64 ((j' : Int) + 1)) (by kernel_rfl) (by rfl) (by exact fun W2 hW => run_mv (by rfl) (by exact eval_base (by kernel_rfl) (by rfl)) hW) ?_
                  refine @chainG _ _ _ _ _ _ _ _ 161 (.pointer (some ⟨bp, op + (j' + 1) * 4, none⟩)) (by kernel_rfl) (by rfl) (by exact fun W2 hW => run_ia (u := .slice (some ⟨bp, op, none⟩) np c4) (v := .int .i64 ((j' : Int) + 1)) (by rfl) (by exact eval_look (by kernel_rfl) (by kernel_rfl)) (by exact eval_look (by kernel_rfl) (by kernel_rfl)) (fun W => idx1_run _ _ _ _ _ (by omega) W) hW) ?_
                  refine @chainG _ _ _ _ _ _ _ _ 162 (.agg (encE xj).toArray) (by kernel_rfl) (by rfl) (by exact fun W2 hW => run_lw (by rfl) (by exact eval_look (by kernel_rfl) (by kernel_rfl)) (fun W hW => ldEntO _ _ _ _ (fun i v hv => cell_later hW (HXJ.out i v hv))) hW) ?_
                  refine @chainG _ _ _ _ _ _ _ _ 163 (.bool true) (by kernel_rfl) (by rfl) (by exact fun W2 hW => run_call (vs := #[.agg (encE xi).toArray, .agg (encE xj).toArray]) (by rfl) (by kernel_rfl) (enters_of Try.func25 (by kernel_rfl) (by rfl)) (calm_b hW (ahead5_t hord W2))) ?_
                  refine @chainG _ _ _ _ _ _ _ _ 164 (.bool false) (by kernel_rfl) (by rfl) (by exact fun W2 hW => run_uo (u := .bool true) (by rfl) (by exact eval_look (by kernel_rfl) (by kernel_rfl)) (fun W => by go_simp) hW) ?_
                  refine @chainG _ _ _ _ _ _ _ _ 165 (.bool false) (by kernel_rfl) (by rfl) (by exact fun W2 hW => run_pkT (by rfl) (by exact eval_look (by kernel_rfl) (by kernel_rfl)) (by exact eval_look (by kernel_rfl) (by kernel_rfl)) hW) ?_
                  refine calm_nil (fun W2 hW2 => ?_)
                  refine Eq.mpr (congrArg (fun a => wpList _ _ _ _ a W2) (show _ = (⟨#[Value.slice A nd c, Value.slice B n d, Value.string k, Value.int IntKind.u64 q, undef, undef, undef, undef, u8, Value.pointer (some ⟨g, 0, none⟩), Value.slice A2 m c2, Value.pointer (some ⟨w2.heap.size, 0, none⟩), Value.slice (some ⟨bp, op, none⟩) np c4, Value.bool true, Value.pointer (some ⟨w5.heap.size, 0, none⟩), Value.bool true, Value.int IntKind.i64 (np : Int), Value.int IntKind.i64 (m : Int), Value.pointer (some ⟨wl.heap.size, 0, none⟩), Value.bool bf, Value.int IntKind.i64 (m : Int), Value.int IntKind.i64 ((j' : Int) + 1), Value.bool true, Value.bool false, Value.tuple #[Value.pointer (some ⟨g, 0, none⟩), Value.slice A2 m c2], Value.slice A nd c, Value.slice B n d, Value.tuple #[Value.pointer (some ⟨g, 0, none⟩), Value.slice A2 m c2], Value.pointer (some ⟨g, 0, none⟩), Value.slice A2 m c2, Value.pointer (some ⟨g, 0, none⟩), Value.bool false, Value.string k, Value.int IntKind.u64 q, Value.agg #[Value.string k, Value.int IntKind.u64 q, Value.bool false, Value.string ⟨#[]⟩], Value.tuple #[Value.slice (some ⟨bp, op, none⟩) np c4, Value.bool true], Value.pointer (some ⟨g, 0, none⟩), Value.string k, Value.int IntKind.u64 q, f, Value.tuple #[Value.slice (some ⟨bp, op, none⟩) np c4, Value.bool true], Value.slice (some ⟨bp, op, none⟩) np c4, Value.bool true, Value.tuple #[Value.agg #[Value.string x.fst, Value.int IntKind.u64 x.snd.fst, Value.bool x.snd.snd.fst, Value.string x.snd.snd.snd], Value.bool true], Value.pointer (some ⟨g, 0, none⟩), Value.string k, Value.int IntKind.u64 q, Value.tuple #[Value.agg #[Value.string x.fst, Value.int IntKind.u64 x.snd.fst, Value.bool x.snd.snd.fst, Value.string x.snd.snd.snd], Value.bool true], Value.agg #[Value.string x.fst, Value.int IntKind.u64 x.snd.fst, Value.bool x.snd.snd.fst, Value.string x.snd.snd.snd], Value.bool true, Value.bool true, Value.bool false, Value.bool false, Value.bool true, Value.slice (some ⟨bp, op, none⟩) np c4, Value.int IntKind.i64 (np : Int), Value.bool true, Value.bool false, Value.bool false, Value.bool false, Value.bool true, Value.bool true, Value.agg (encE x).toArray, Value.slice (some ⟨bp, op, none⟩) np c4, Value.pointer (some ⟨bp, op, none⟩), Value.agg (encE x).toArray, Value.bool false, Value.bool false, Value.bool false, Value.bool false, Value.bool true, Value.bool false, Value.bool false, undef, undef, undef, Value.bool false, Value.bool false, Value.int IntKind.i64 (m : Int), Value.slice A2 m c2, Value.int IntKind.i64 (m : Int), Value.bool false, u82, u83, u84, u85, u86, u87, u88, u89, u90, u91, u92, Value.int IntKind.i64 (np : Int), Value.slice (some ⟨bp, op, none⟩) np c4, Value.int IntKind.i64 (np : Int), Value.bool false, Value.agg #[Value.string ⟨#[]⟩, Value.int IntKind.u64 0, Value.bool false, Value.string ⟨#[]⟩], Value.int IntKind.i64 (m : Int), Value.slice A2 m c2, Value.int IntKind.i64 (m : Int), Value.bool false, u102, u103, u104, u105, u106, u107, u108, u109, u110, u111, u112, u113, u114, u115, u116, u117, u118, u119, u120, u121, u122, u123, u124, u125, u126, u127, u128, u129, u130, u131, u132, u133, u134, u135, u136, u137, Value.int IntKind.i64 ((j' : Int) + 1), Value.slice (some ⟨bp, op, none⟩) np c4, Value.int IntKind.i64 (np : Int), Value.bool true, u142, u143, Value.slice (some ⟨bp, op, none⟩) np c4, Value.int IntKind.i64 ((j' : Int) + 1), Value.pointer (some ⟨bp, op + (j' + 1) * 4, none⟩), Value.agg (encE xj).toArray, Value.agg (encE (atE k q)).toArray, Value.bool false, Value.bool false, Value.int IntKind.i64 ((j' : Int) + 1), Value.bool true, Value.bool true, Value.slice (some ⟨bp, op, none⟩) np c4, Value.int IntKind.i64 ((j' : Int) + 1), Value.int IntKind.i64 (j' : Int), Value.pointer (some ⟨bp, op + j' * 4, none⟩), Value.agg (encE xi).toArray, Value.slice (some ⟨bp, op, none⟩) np c4, Value.int IntKind.i64 ((j' : Int) + 1), Value.pointer (some ⟨bp, op + (j' + 1) * 4, none⟩), Value.agg (encE xj).toArray, Value.bool true, Value.bool false, Value.bool false, u166, undef, undef, undef, undef, undef, undef, undef, undef, undef, undef, undef, undef, undef, undef, undef, undef, undef, undef], []⟩ : Act) by kernel_rfl)) ?_
                  have HW2 := Lib.hid hW2
                  clear hW2
                  clear hda hord
                  go_wp2
                  go_roundw
                  case rel => exact ⟨j' + 1 + 1, by first | rfl | simp, by omega, HQZ.out.trans (HW2.out.mono HQZ.out.size)⟩
                  case measure => simp [intOf]; omega
              · have hjm2 : np = j := by omega
                subst hjm2
                have HB8 := Lib.hid (HB6.out.trans (HWQ.out.mono HB6.out.size))
                obtain ⟨⟨e0, e1, e2, e3⟩, _⟩ := cells4 (t := 53) (show wq.heap[w5.heap.size]? = some (.cells #[.string x.1, .int .u64 x.2.1, .bool x.2.2.1, .string x.2.2.2] 53 (0, 0)) from blk_below HRY2.out HWQ.out)
                by_cases hxk : x.1.toList = k.toList
                · have hbf : bf = true := HBE.out.1.2 ⟨x, t, rfl, hxk⟩
                  subst hbf
                  obtain ⟨t', ht'⟩ := HBE.out.2 rfl
                  injection ht' with hxb _
                  try simp only at hxb
                  subst hxb
                  obtain ⟨⟨b0, b1, b2, b3⟩, _⟩ := cells4 (t := 53) (show wq.heap[wl.heap.size]? = some (.cells #[.string x.1, .int .u64 x.2.1, .bool x.2.2.1, .string x.2.2.2] 53 (0, 0)) from blk_below HBH.out HQZ.out)
                  have heq := eqE_run x x
                  rw [decide_eq_true rfl] at heq
                  go_wp2
                  go_ret
                  exact ⟨rfl, HB8.out⟩
                · have hbf : bf = false := by
                    cases bf with
                    | false => rfl
                    | true =>
                      obtain ⟨x', t', h1, h2⟩ := HBE.out.1.1 rfl
                      injection h1 with h1 _
                      subst h1
                      exact absurd h2 hxk
                  subst hbf
                  have hxk' : (x.1.toList == k.toList) = false := by simpa using hxk
                  go_wp2
                  all_goals go_ret
                  all_goals first | exact ⟨rfl, HB8.out⟩ | (refine ⟨?_, HB8.out⟩; simp [hxk])

end Go.Proofs.Ytjbbobhjomhnmaa.H
