/- pace.Bucket: Tick, Take (printed by genbuck2.py). Conditions: the numbers are ints. -/
import Derived.Test.YtjgpcbednhoplaaPBuck
import Derived.Test.YtjgpcbednhoplaaChain2
namespace Go.Proofs.Ytjgpcbednhoplaa.H
open Go.RowKit Go.Deep Go.Shelf Go.Proofs Go.Proofs.YtjgpcbednhoplaaW.PrintWords
set_option linter.unusedVariables false
set_option linter.unusedSimpArgs false
/-- min of two ints. -/
def mni (a b : Int) : Int := if b < a then b else a
theorem minInt (ts : Array TypeId) (t : TypeId) (x y : Int) (W : World) : (Builtin.min_ ts t #[.int .i64 x, .int .i64 y]).run Try.prog W = .ok (.int .i64 (mni x y)) W := by
  unfold mni
  go_simp
theorem BuckIs.set {w : World} {b : Nat} {S : Nat → Prop} {l : List Int} {t r u : Int} (h : BuckIs w b S l t r u) (t' : Int) : BuckIs (w.setCell ⟨b, 1, none⟩ (.int .i64 t')) b S l t' r u ∧ Upd S w (w.setCell ⟨b, 1, none⟩ (.int .i64 t')) := by
  obtain ⟨g, S', hb, hl, hs, hk⟩ := h
  exact ⟨⟨g, S', (blk_set hb 1 _).trans rfl, hl.upd (Upd.setCell (S := fun k => k = b) w 1 _ rfl) (fun k h => (hk k h).2), hs, hk⟩, Upd.setCell w 1 _ hs⟩
set_option maxHeartbeats 1600000 in
set_option maxRecDepth 100000 in
theorem tick_c (b : Nat) (S : Nat → Prop) (l : List Int) (t r u : Int) (w : World) (h : BuckIs w b S l t r u) (ht : I64 t) (hr : I64 r) : Calls Try.prog 20 #[.pointer (some ⟨b, 0, none⟩)] w fun e w' => e = .returned (.tuple #[]) ∧ BuckIs w' b S l (mni (sadd t r) u) r u ∧ Upd S w w' := by
  have H0 := Lib.hid h
  obtain ⟨g, S', hb, hl, hs, hk⟩ := h
  have c1 : w.cell? ⟨b, 1, none⟩ = some (.int .i64 t) := (blk_cell hb 1).trans rfl
  have c2 : w.cell? ⟨b, 2, none⟩ = some (.int .i64 r) := (blk_cell hb 2).trans rfl
  have c3 : w.cell? ⟨b, 3, none⟩ = some (.int .i64 u) := (blk_cell hb 3).trans rfl
  have HLT := Lib.hid (blk_lt hb)
  have HF := Lib.hid (show w.frozen? ⟨b, 1, none⟩ = false from blk_frozen hb 1)
  clear hb hl hk
  go_enter Try.func20, Try.ntmps20
  refine wp_region_calmB 17 (by kernel_rfl) (by kernel_rfl) ?_
  simp only [List.take_succ_cons, List.take_zero, List.drop_succ_cons, List.drop_zero]
  refine chain0 ?_
  refine @chain _ _ _ _ _ _ _ _ 2 (.pointer (some ⟨b, 0, none⟩)) (by rfl) (by rfl) (by exact fun W2 hW => run_mv (by rfl) (by exact eval_base (by kernel_rfl) (by rfl)) hW) ?_
  refine @chain _ _ _ _ _ _ _ _ 3 (.pointer (some ⟨b, 0, none⟩)) (by rfl) (by rfl) (by exact fun W2 hW => run_mv (by rfl) (by exact eval_base (by kernel_rfl) (by rfl)) hW) ?_
  refine @chain _ _ _ _ _ _ _ _ 4 (.pointer (some ⟨b, 0, none⟩)) (by rfl) (by rfl) (by exact fun W2 hW => run_nc (by rfl) (by exact eval_look (by kernel_rfl) (by kernel_rfl)) hW) ?_
  refine @chain _ _ _ _ _ _ _ _ 5 (.pointer (some ⟨b, 1, none⟩)) (by rfl) (by rfl) (by exact fun W2 hW => run_fa (p := .pointer (some ⟨b, 0, none⟩)) (by rfl) (by exact eval_look (by kernel_rfl) (by kernel_rfl)) (fun W => by first | kernel_rfl | go_simp) hW) ?_
  refine @chain _ _ _ _ _ _ _ _ 6 (.int .i64 t) (by rfl) (by rfl) (by exact fun W2 hW => run_ld (by rfl) (by exact eval_look (by kernel_rfl) (by kernel_rfl)) c1 (fun W h => ldInt _ _ _ W h) hW) ?_
  refine @chain _ _ _ _ _ _ _ _ 7 (.pointer (some ⟨b, 0, none⟩)) (by rfl) (by rfl) (by exact fun W2 hW => run_mv (by rfl) (by exact eval_base (by kernel_rfl) (by rfl)) hW) ?_
  refine @chain _ _ _ _ _ _ _ _ 8 (.pointer (some ⟨b, 0, none⟩)) (by rfl) (by rfl) (by exact fun W2 hW => run_nc (by rfl) (by exact eval_look (by kernel_rfl) (by kernel_rfl)) hW) ?_
  refine @chain _ _ _ _ _ _ _ _ 9 (.pointer (some ⟨b, 2, none⟩)) (by rfl) (by rfl) (by exact fun W2 hW => run_fa (p := .pointer (some ⟨b, 0, none⟩)) (by rfl) (by exact eval_look (by kernel_rfl) (by kernel_rfl)) (fun W => by first | kernel_rfl | go_simp) hW) ?_
  refine @chain _ _ _ _ _ _ _ _ 10 (.int .i64 r) (by rfl) (by rfl) (by exact fun W2 hW => run_ld (by rfl) (by exact eval_look (by kernel_rfl) (by kernel_rfl)) c2 (fun W h => ldInt _ _ _ W h) hW) ?_
  refine @chain _ _ _ _ _ _ _ _ 11 (.int .i64 (sadd t r)) (by rfl) (by rfl) (by exact fun W2 hW => run_call (vs := #[.int .i64 t, .int .i64 r]) (by rfl) (by kernel_rfl) (enters_of Try.func34 (by kernel_rfl) (by rfl)) (calm_q hW (addX_c _ _ ht hr W2))) ?_
  refine @chain _ _ _ _ _ _ _ _ 12 (.pointer (some ⟨b, 0, none⟩)) (by rfl) (by rfl) (by exact fun W2 hW => run_mv (by rfl) (by exact eval_base (by kernel_rfl) (by rfl)) hW) ?_
  refine @chain _ _ _ _ _ _ _ _ 13 (.pointer (some ⟨b, 0, none⟩)) (by rfl) (by rfl) (by exact fun W2 hW => run_nc (by rfl) (by exact eval_look (by kernel_rfl) (by kernel_rfl)) hW) ?_
  refine @chain _ _ _ _ _ _ _ _ 14 (.pointer (some ⟨b, 3, none⟩)) (by rfl) (by rfl) (by exact fun W2 hW => run_fa (p := .pointer (some ⟨b, 0, none⟩)) (by rfl) (by exact eval_look (by kernel_rfl) (by kernel_rfl)) (fun W => by first | kernel_rfl | go_simp) hW) ?_
  refine @chain _ _ _ _ _ _ _ _ 15 (.int .i64 u) (by rfl) (by rfl) (by exact fun W2 hW => run_ld (by rfl) (by exact eval_look (by kernel_rfl) (by kernel_rfl)) c3 (fun W h => ldInt _ _ _ W h) hW) ?_
  refine @chain _ _ _ _ _ _ _ _ 16 (.int .i64 (mni (sadd t r) u)) (by rfl) (by rfl) (by exact fun W2 hW => run_mn (u := .int .i64 (sadd t r)) (v := .int .i64 u) (by rfl) (by exact eval_look (by kernel_rfl) (by kernel_rfl)) (by exact eval_look (by kernel_rfl) (by kernel_rfl)) (fun W => minInt _ _ _ _ W) hW) ?_
  refine @chain _ _ _ _ _ _ _ _ 17 (.pointer (some ⟨b, 0, none⟩)) (by rfl) (by rfl) (by exact fun W2 hW => run_nc (by rfl) (by exact eval_look (by kernel_rfl) (by kernel_rfl)) hW) ?_
  refine @chain _ _ _ _ _ _ _ _ 18 (.pointer (some ⟨b, 1, none⟩)) (by rfl) (by rfl) (by exact fun W2 hW => run_fa (p := .pointer (some ⟨b, 0, none⟩)) (by rfl) (by exact eval_look (by kernel_rfl) (by kernel_rfl)) (fun W => by first | kernel_rfl | go_simp) hW) ?_
  refine calm_nil (fun W2 hW2 => ?_)
  refine Eq.mpr (congrArg (fun a => wpList _ _ _ _ a W2) (show _ = (⟨#[.pointer (some ⟨b, 0, none⟩), undef, .pointer (some ⟨b, 0, none⟩), .pointer (some ⟨b, 0, none⟩), .pointer (some ⟨b, 0, none⟩), .pointer (some ⟨b, 1, none⟩), .int .i64 t, .pointer (some ⟨b, 0, none⟩), .pointer (some ⟨b, 0, none⟩), .pointer (some ⟨b, 2, none⟩), .int .i64 r, .int .i64 (sadd t r), .pointer (some ⟨b, 0, none⟩), .pointer (some ⟨b, 0, none⟩), .pointer (some ⟨b, 3, none⟩), .int .i64 u, .int .i64 (mni (sadd t r) u), .pointer (some ⟨b, 0, none⟩), .pointer (some ⟨b, 1, none⟩)], []⟩ : Act) by kernel_rfl)) ?_
  have e1 : W2.cell? ⟨b, 1, none⟩ = some (.int .i64 t) := (hW2.cell (p := ⟨b, 1, none⟩) HLT.out).trans c1
  have H2 := H0.out.upd (Upd.of_below (S := fun _ => False) hW2) (fun k _ h => h)
  have f1 : W2.frozen? ⟨b, 1, none⟩ = false := by obtain ⟨g, S', hb, _⟩ := H2; exact blk_frozen hb 1
  have HB := Lib.hid (H2.set (mni (sadd t r) u))
  have HW := Lib.hid hW2
  clear c1 c2 c3 H2 hW2
  go_wp2
  go_end0
  exact ⟨by first | rfl | simp, HB.out.1, (Upd.of_below HW.out).trans HB.out.2⟩
def tookL (t n : Int) : Int := if n > 0 then sadd t (-n) else t
set_option maxHeartbeats 1600000 in
set_option maxRecDepth 100000 in
theorem take_c (b : Nat) (S : Nat → Prop) (l : List Int) (t r u x n : Int) (w : World) (h : BuckIs w b S l t r u) (ht : I64 t) (hn : I64 n) : Calls Try.prog 22 #[.pointer (some ⟨b, 0, none⟩), .int .i64 x, .int .i64 n] w fun e w' => e = .returned (.tuple #[]) ∧ BuckIs w' b S (l.erase x) (tookL t n) r u ∧ Upd S w w' := by
  have H0 := Lib.hid h
  have HN := Lib.hid hn
  obtain ⟨n1, n2⟩ := hn
  obtain ⟨g, S', hb, hl, hs, hk⟩ := h
  have c1 : w.cell? ⟨b, 1, none⟩ = some (.int .i64 t) := (blk_cell hb 1).trans rfl
  have f1 : w.frozen? ⟨b, 1, none⟩ = false := blk_frozen hb 1
  clear hb hl hk
  go_enter Try.func22, Try.ntmps22
  by_cases hp : n > 0
  · have hT : tookL t n = sadd t (-n) := by simp [tookL, hp]
    have HT := Lib.hid hT
    have HNN := Lib.hid (show I64 (-n) from I64.lit (by omega) (by omega))
    have HS := Lib.hid (H0.out.set (sadd t (-n)))
    clear hT
    go_wp2_with fail
    refine (addX_c _ _ ht HNN.out _).mono ?_
    rintro e w1 ⟨rfl, rfl⟩
    go_wp2_with fail
    refine (bleave_c b S l (sadd t (-n)) r u x _ HS.out.1).mono ?_
    rintro e w2 ⟨rfl, hb2, hu2⟩
    have HB := Lib.hid hb2
    have HU := Lib.hid hu2
    clear hb2 hu2
    go_wp2
    go_end0
    exact ⟨by first | rfl | simp, by rw [HT.out]; exact HB.out, HS.out.2.trans HU.out⟩
  · have hT : tookL t n = t := by simp [tookL, hp]
    have HT := Lib.hid hT
    clear hT n1 n2
    go_wp2_with fail
    refine (bleave_c b S l t r u x _ H0.out).mono ?_
    rintro e w2 ⟨rfl, hb2, hu2⟩
    have HB := Lib.hid hb2
    have HU := Lib.hid hu2
    clear hb2 hu2
    go_wp2
    go_end0
    exact ⟨by first | rfl | simp, by rw [HT.out]; exact HB.out, HU.out⟩
end Go.Proofs.Ytjgpcbednhoplaa.H
