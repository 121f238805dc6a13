/- The law's pair of lists: plays (printed by genpr3.py). Conditions: sizes. -/
import Derived.Test.YtjbbobhjomhnmaaPr1
namespace Go.Proofs.Ytjbbobhjomhnmaa.H
open Go Go.RowKit Go.Deep Go.Shelf Go.Proofs Go.Proofs.YtjbbobhjomhnmaaW.PrintWords
set_option linter.unusedVariables false
set_option linter.unusedSimpArgs false
/-- The stages of the two Puts. -/
def PutR (w1 : World) (g r : Nat) (S R : Nat → Prop) (draws : List Int) (L L' : List EH) (s : Nat) (W : World) : Prop :=
  Upd (fun k => S k ∨ R k) w1 W ∧ match s with
    | 0 => SkL W g S draws L ∧ RefIs W r R (allE L) (allH L) draws L.length ∧ ∀ k, S k → ¬ R k
    | 1 => ∃ S', Grow S S' w1 ∧ SkL W g S' draws L' ∧ RefIs W r R (allE L) (allH L) draws L.length ∧ (∀ k, S' k → ¬ R k) ∧ SkL w1 g S draws L
    | _ => ∃ S' R', Grow S S' w1 ∧ Grow R R' w1 ∧ PairIs W g r S' R' draws L'
theorem put_1st {w1 : World} {g r : Nat} {S R : Nat → Prop} {draws : List Int} {L : List EH} {e : Ent} {hb : Bool} {W : World} (hW : PutR w1 g r S R draws L (putS draws L e) 0 W) (hh : hasL L e = hb) (hl : L.length < 2932031007318 ∧ SkL w1 g S draws L ∧ (∀ k, R k → k < w1.heap.size)) :
    Calls Try.prog 26 #[.pointer (some ⟨g, 0, none⟩), .agg (encE e).toArray] W fun en W' => en = .returned (.bool (!hb)) ∧ PutR w1 g r S R draws L (putS draws L e) 1 W' := by
  obtain ⟨hu, hsk, hrf, hf⟩ := hW
  refine (put_L g S draws L e W hsk (by omega)).mono fun en W' ⟨he, hu2, S', hg, hs'⟩ => ⟨by rw [he, hh], hu.step hu2 (fun k hk => .inl (.inl hk)), S', fun k hk => ?_, hs', hrf.upd hu2 (fun k hk hn => hf k hn hk), fun k hk hn => ?_, hl.2.1⟩
  · rcases hg k hk with h | h
    · exact .inl h
    · have := hu.size; exact .inr (by omega)
  · rcases hg k hk with h | h
    · exact hf k h hn
    · have := hl.2.2 k hn; have := hu.size; omega
theorem put_2nd {w1 : World} {g r : Nat} {S R : Nat → Prop} {draws : List Int} {L : List EH} {e : Ent} {hb : Bool} {W : World} (hW : PutR w1 g r S R draws L (putS draws L e) 1 W) (hh : hasL L e = hb) (hl : L.length < 2932031007318 ∧ SkL w1 g S draws L ∧ (∀ k, R k → k < w1.heap.size)) (hby : ∀ x ∈ draws, U8 x) :
    Calls Try.prog 73 #[.pointer (some ⟨r, 0, none⟩), .agg (encE e).toArray] W fun en W' => en = .returned (.bool (!hb)) ∧ PutR w1 g r S R draws L (putS draws L e) 2 W' := by
  obtain ⟨hu, S', hg, hsk, hrf, hf, hsk0⟩ := hW
  obtain ⟨P, Q, rfl, h1, h2, h3, h4⟩ := sk_split hsk0 e
  rw [allE_append] at hrf
  have hc := refPut_c hrf e h1 h2 (by rw [allH_len, ← allE_append, allE_len]) (by rw [← allE_append, allE_len]; omega) (by omega) hby
  refine (show Calls Try.prog 73 #[.pointer (some ⟨r, 0, none⟩), .agg (encE e).toArray] W _ from hc).mono fun en W' ⟨he, hu2, R', hg2, hr'⟩ => ⟨by rw [he, ← h3, hh], hu.step hu2 (fun k hk => .inl (.inr (by rw [hk]; exact hrf.self))), S', R', hg, fun k hk => ?_, ?_⟩
  · rcases hg2 k hk with h | h
    · exact .inl h
    · have := hu.size; exact .inr (by omega)
  · have hfar : ∀ k, S' k → ¬ R' k := fun k hk hn => by
      rcases hg2 k hn with h | h
      · exact hf k hk h
      · have := hsk.lt k hk; omega
    have hsk' := hsk.upd hu2 (fun k hk hn => hf k hk (by rw [hn]; exact hrf.self))
    refine ⟨hsk', ?_, hfar⟩
    unfold putS
    rw [h3] at *
    by_cases hst : stands (allE Q) e = true
    · rw [if_pos hst] at hr' ⊢
      rw [allE_append]
      exact hr'
    · rw [if_neg hst] at hr' ⊢
      rw [h4, allE_append, allH_append]
      have e1 : allE ((e, hgt draws (P ++ Q).length) :: Q) = e :: allE Q := rfl
      have e2 : allH ((e, hgt draws (P ++ Q).length) :: Q) = (hgt draws (P ++ Q).length : Int) :: allH Q := rfl
      have e3 : (P ++ (e, hgt draws (P ++ Q).length) :: Q).length = (P ++ Q).length + 1 := by
        rw [List.length_append, List.length_append, List.length_cons]
        omega
      rw [e1, e2, e3]
      rw [allH_append, allE_len, List.take_left' (allH_len P), List.drop_left' (allH_len P)] at hr'
      exact hr'
theorem boxOp {W : World} {b : Nat} {kd n : Int} {sc : Bool} {e : Ent} (h : W.heap[b]? = some (.cells #[.int .i64 kd, .bool sc, .string e.1, .int .u64 e.2.1, .bool e.2.2.1, .string e.2.2.2, .int .i64 n] 55 (0, 0))) : ∀ i v, (encE e)[i]? = some v → W.cell? ⟨b, 2 + i, none⟩ = some v := fun i v hv => by
  have h4 : i < 4 := (List.getElem?_eq_some_iff.1 hv).1
  refine (blk_cell h (2 + i)).trans ?_
  rcases i with _ | _ | _ | _ | i
  · simpa [encE] using hv
  · simpa [encE] using hv
  · simpa [encE] using hv
  · simpa [encE] using hv
  · omega
/-- The reference's Seek, by what the program's tells. -/
theorem pairSeek_c {w : World} {g r : Nat} {S R : Nat → Prop} {draws : List Int} {L : List EH} (h : PairIs w g r S R draws L) (k : ByteArray) (q : Int) :
    Calls Try.prog 74 #[.pointer (some ⟨r, 0, none⟩), .string k, .int .u64 q] w fun e w' => e = .returned (.tuple #[.agg (encE ((notAhead k q (allE L)).headD zeroE)).toArray, .bool (!(notAhead k q (allE L)).isEmpty)]) ∧ Below w.heap.size w w' := by
  obtain ⟨P, Q, rfl, h1, h2, _, _⟩ := sk_split h.sk (k, q, false, ⟨#[]⟩)
  have hr := h.rf
  rw [allE_append] at hr
  rw [notAhead_split h1 h2]
  exact refSeek_c hr k q h1 h2
theorem putS_len1 (draws : List Int) (L : List EH) (e : Ent) : (putS draws L e).length ≤ L.length + 1 := putS_len draws L e
set_option maxHeartbeats 6400000 in
set_option maxRecDepth 100000 in
theorem plays5_c {w : World} {g r : Nat} {S R : Nat → Prop} {draws : List Int} {L : List EH} (h : PairIs w g r S R draws L) (hl : L.length < 2932031007318) (hby : ∀ x ∈ draws, U8 x) (kd : Int) (sc : Bool) (e : Ent) (n : Int) :
    Calls Try.prog 16 #[.agg #[.pointer (some ⟨g, 0, none⟩), .pointer (some ⟨r, 0, none⟩)], .agg #[.int .i64 kd, .bool sc, .string e.1, .int .u64 e.2.1, .bool e.2.2.1, .string e.2.2.2, .int .i64 n]] w fun en w' => en = .returned (.bool true) ∧ Upd (fun k => S k ∨ R k) w w' ∧ ∃ S' R' L', Grow S S' w ∧ Grow R R' w ∧ PairIs w' g r S' R' draws L' ∧ L'.length ≤ L.length + 1 := by
  obtain ⟨w2, hw2⟩ : ∃ Z, (w.alloc (.cells #[.pointer (some ⟨g, 0, none⟩), .pointer (some ⟨r, 0, none⟩)] 48)).alloc (.cells #[.int .i64 kd, .bool sc, .string e.1, .int .u64 e.2.1, .bool e.2.2.1, .string e.2.2.2, .int .i64 n] 55) = Z := ⟨_, rfl⟩
  have hb2 : Below w.heap.size w w2 := by rw [← hw2]; exact ((Below.refl _ _).alloc (Nat.le_refl _) _).alloc (by simp) _
  have q1 : w2.heap[w.heap.size]? = some (.cells #[.pointer (some ⟨g, 0, none⟩), .pointer (some ⟨r, 0, none⟩)] 48 (0, 0)) := by rw [← hw2]; exact blk_alloc (heap_alloc_new _ _) _
  have q2 : w2.heap[w.heap.size + 1]? = some (.cells #[.int .i64 kd, .bool sc, .string e.1, .int .u64 e.2.1, .bool e.2.2.1, .string e.2.2.2, .int .i64 n] 55 (0, 0)) := by rw [← hw2]; simpa using heap_alloc_new (w.alloc (.cells #[.pointer (some ⟨g, 0, none⟩), .pointer (some ⟨r, 0, none⟩)] 48)) (.cells #[.int .i64 kd, .bool sc, .string e.1, .int .u64 e.2.1, .bool e.2.2.1, .string e.2.2.2, .int .i64 n] 55)
  have a0 : w2.cell? ⟨w.heap.size, 0, none⟩ = some (.pointer (some ⟨g, 0, none⟩)) := (blk_cell q1 0).trans rfl
  have a1 : w2.cell? ⟨w.heap.size, 1, none⟩ = some (.pointer (some ⟨r, 0, none⟩)) := (blk_cell q1 1).trans rfl
  have b0 : w2.cell? ⟨w.heap.size + 1, 0, none⟩ = some (.int .i64 kd) := (blk_cell q2 0).trans rfl
  have HP2 := Lib.hid (h.later hb2)
  have HNS := Lib.hid (show ∀ k, (k = w.heap.size ∨ k = w.heap.size + 1) → ¬ (S k ∨ R k) from fun k hk hn => by
    rcases hn with hn | hn
    · have := h.sk.lt k hn; omega
    · have := h.rf.lt k hn; omega)
  have HFIN := Lib.hid (show ∀ W, Below w2.heap.size w2 W → Upd (fun k => S k ∨ R k) w W ∧ ∃ S' R' L', Grow S S' w ∧ Grow R R' w ∧ PairIs W g r S' R' draws L' ∧ L'.length ≤ L.length + 1 from fun W hW =>
    ⟨Upd.of_below (hb2.trans (hW.mono hb2.size)), S, R, L, Grow.refl _ _, Grow.refl _ _, (h.later hb2).later hW, by omega⟩)
  have HLL := Lib.hid (show L.length < 2932031007318 ∧ SkL w2 g S draws L ∧ (∀ k, R k → k < w2.heap.size) from ⟨hl, h.sk.later hb2, fun k hk => Nat.lt_of_lt_of_le (h.rf.lt k hk) hb2.size⟩)
  have HBY := Lib.hid hby
  have HB2 := Lib.hid hb2
  have Q1 := Lib.hid q1
  have Q2 := Lib.hid q2
  have D0 := Lib.hid a0
  have D1 := Lib.hid a1
  clear h hl hby hb2 q1 q2
  go_enter Try.func16, Try.ntmps16
  by_cases h1 : kd = 1
  · subst h1
    obtain ⟨hb, hhb⟩ : ∃ b, hasL L e = b := ⟨_, rfl⟩
    have HHB := Lib.hid hhb
    clear hhb a0 a1
    go_wp2_with fail
    try rw [hw2]
    refine wp_region_step (PutR w2 g r S R draws L (putS draws L e)) (fun (a b : Nat) => a ≤ b) Nat.le_refl (fun _ _ _ => Nat.le_trans) 0 [0, 0, 0, 0, 2, 0, 0, 0, 0, 2, 0] [.pointer (some ⟨w.heap.size, 0, none⟩), .pointer (some ⟨g, 0, none⟩), .pointer (some ⟨w.heap.size + 1, 2, none⟩), .agg (encE e).toArray, undef, .pointer (some ⟨w.heap.size, 1, none⟩), .pointer (some ⟨r, 0, none⟩), .pointer (some ⟨w.heap.size + 1, 2, none⟩), .agg (encE e).toArray, undef, .bool true] 11 (by kernel_rfl) (by kernel_rfl) ⟨Upd.of_below (Below.refl _ _).drew, HP2.out.sk.later (Below.refl _ _).drew, HP2.out.rf.later (Below.refl _ _).drew, HP2.out.far⟩ ?_
    simp only [List.take_succ_cons, List.take_zero, List.drop_succ_cons, List.drop_zero]
    refine schain0 ?_
    refine @schain _ _ _ _ _ _ _ _ _ _ _ _ _ _ 13 (.pointer (some ⟨w.heap.size, 0, none⟩)) (by rfl) (by rfl) (by kernel_rfl) (by rfl) (by exact fun s' W2 hW => srun_fa (p := .pointer (some ⟨w.heap.size, 0, none⟩)) (by rfl) (by exact eval_base (by kernel_rfl) (by rfl)) (fun W => by first | kernel_rfl | go_simp) hW) ?_
    refine @schain _ _ _ _ _ _ _ _ _ _ _ _ _ _ 14 (.pointer (some ⟨g, 0, none⟩)) (by rfl) (by rfl) (by kernel_rfl) (by rfl) (by exact fun s' W2 hW => srun_ld (by rfl) (by exact eval_look (by kernel_rfl) (by kernel_rfl)) (ldPl _ _ _ _ ((blk_cell (hW.1.heap Q1.out (HNS.out _ (.inl rfl))) 0).trans rfl)) hW) ?_
    refine @schain _ _ _ _ _ _ _ _ _ _ _ _ _ _ 15 (.pointer (some ⟨w.heap.size + 1, 2, none⟩)) (by rfl) (by rfl) (by kernel_rfl) (by rfl) (by exact fun s' W2 hW => srun_fa (p := .pointer (some ⟨w.heap.size + 1, 0, none⟩)) (by rfl) (by exact eval_base (by kernel_rfl) (by rfl)) (fun W => by first | kernel_rfl | go_simp) hW) ?_
    refine @schain _ _ _ _ _ _ _ _ _ _ _ _ _ _ 16 (.agg (encE e).toArray) (by rfl) (by rfl) (by kernel_rfl) (by rfl) (by exact fun s' W2 hW => srun_ld (by rfl) (by exact eval_look (by kernel_rfl) (by kernel_rfl)) (ldEntO _ 2 _ _ (boxOp (hW.1.heap Q2.out (HNS.out _ (.inr rfl))))) hW) ?_
    refine @schainW _ _ _ _ _ _ _ _ _ _ _ _ _ _ 17 (.bool (!hb)) (1) (by rfl) (by kernel_rfl) (by rfl) (by decide) (by exact fun W2 hW => srun_call (vs := #[.pointer (some ⟨g, 0, none⟩), .agg (encE e).toArray]) (by rfl) (by kernel_rfl) (enters_of Try.func26 (by kernel_rfl) (by rfl)) (put_1st hW HHB.out HLL.out)) ?_
    refine @schain _ _ _ _ _ _ _ _ _ _ _ _ _ _ 18 (.pointer (some ⟨w.heap.size, 1, none⟩)) (by rfl) (by rfl) (by kernel_rfl) (by rfl) (by exact fun s' W2 hW => srun_fa (p := .pointer (some ⟨w.heap.size, 0, none⟩)) (by rfl) (by exact eval_base (by kernel_rfl) (by rfl)) (fun W => by first | kernel_rfl | go_simp) hW) ?_
    refine @schain _ _ _ _ _ _ _ _ _ _ _ _ _ _ 19 (.pointer (some ⟨r, 0, none⟩)) (by rfl) (by rfl) (by kernel_rfl) (by rfl) (by exact fun s' W2 hW => srun_ld (by rfl) (by exact eval_look (by kernel_rfl) (by kernel_rfl)) (ldPr _ _ _ _ ((blk_cell (hW.1.heap Q1.out (HNS.out _ (.inl rfl))) 1).trans rfl)) hW) ?_
    refine @schain _ _ _ _ _ _ _ _ _ _ _ _ _ _ 20 (.pointer (some ⟨w.heap.size + 1, 2, none⟩)) (by rfl) (by rfl) (by kernel_rfl) (by rfl) (by exact fun s' W2 hW => srun_fa (p := .pointer (some ⟨w.heap.size + 1, 0, none⟩)) (by rfl) (by exact eval_base (by kernel_rfl) (by rfl)) (fun W => by first | kernel_rfl | go_simp) hW) ?_
    refine @schain _ _ _ _ _ _ _ _ _ _ _ _ _ _ 21 (.agg (encE e).toArray) (by rfl) (by rfl) (by kernel_rfl) (by rfl) (by exact fun s' W2 hW => srun_ld (by rfl) (by exact eval_look (by kernel_rfl) (by kernel_rfl)) (ldEntO _ 2 _ _ (boxOp (hW.1.heap Q2.out (HNS.out _ (.inr rfl))))) hW) ?_
    refine @schainW _ _ _ _ _ _ _ _ _ _ _ _ _ _ 22 (.bool (!hb)) (2) (by rfl) (by kernel_rfl) (by rfl) (by decide) (by exact fun W2 hW => srun_call (vs := #[.pointer (some ⟨r, 0, none⟩), .agg (encE e).toArray]) (by rfl) (by kernel_rfl) (enters_of Try.func73 (by kernel_rfl) (by rfl)) (put_2nd hW HHB.out HLL.out HBY.out)) ?_
    refine @schain _ _ _ _ _ _ _ _ _ _ _ _ _ _ 23 (.bool true) (by rfl) (by rfl) (by kernel_rfl) (by rfl) (by exact fun s' W2 hW => srun_bo (u := .bool (!hb)) (v := .bool (!hb)) (by rfl) (by exact eval_look (by kernel_rfl) (by kernel_rfl)) (by exact eval_look (by kernel_rfl) (by kernel_rfl)) (fun W => by first | go_simp | (cases hb <;> go_simp)) hW) ?_
    refine snil (fun W2 hW2 => ?_)
    refine Eq.mpr (congrArg (fun a => wpList _ _ _ _ a W2) (show _ = (⟨#[Value.agg #[Value.pointer (some ⟨g, 0, none⟩), Value.pointer (some ⟨r, 0, none⟩)], Value.agg #[Value.int IntKind.i64 1, Value.bool sc, Value.string e.fst, Value.int IntKind.u64 e.snd.fst, Value.bool e.snd.snd.fst, Value.string e.snd.snd.snd, Value.int IntKind.i64 n], Value.pointer (some ⟨w.heap.size, 0, none⟩), Value.pointer (some ⟨w.heap.size + 1, 0, none⟩), Value.bool false, undef, undef, undef, undef, Value.pointer (some ⟨w.heap.size + 1, 0, none⟩), Value.int IntKind.i64 1, Value.bool true, Value.bool true, Value.pointer (some ⟨w.heap.size, 0, none⟩), Value.pointer (some ⟨g, 0, none⟩), Value.pointer (some ⟨w.heap.size + 1, 2, none⟩), Value.agg (encE e).toArray, Value.bool !hb, Value.pointer (some ⟨w.heap.size, 1, none⟩), Value.pointer (some ⟨r, 0, none⟩), Value.pointer (some ⟨w.heap.size + 1, 2, none⟩), Value.agg (encE e).toArray, Value.bool !hb, Value.bool true, undef, undef, undef, undef, undef, undef, undef, undef, undef, undef, undef, undef, undef, undef, undef, undef, undef, undef, undef, undef, undef, undef, undef, undef, undef, undef, undef, undef, undef, undef, undef, undef, undef, undef, undef, undef, undef, undef, undef, undef, undef, undef, undef, undef, undef, undef, undef, undef, undef, undef, undef, undef, undef, undef, undef, undef, undef], []⟩ : Act) by kernel_rfl)) ?_
    have HW := Lib.hid hW2
    clear hW2
    obtain ⟨hu, S', R', hg1, hg2, hp⟩ := HW.out
    have HU := Lib.hid hu
    have HG1 := Lib.hid hg1
    have HG2 := Lib.hid hg2
    have HPP := Lib.hid hp
    clear hu hg1 hg2 hp
    go_wp2
    go_ret
    exact ⟨rfl, (Upd.of_below HB2.out).trans HU.out, S', R', _, fun k hk => (HG1.out k hk).imp id (fun h => by have := HB2.out.size; omega), fun k hk => (HG2.out k hk).imp id (fun h => by have := HB2.out.size; omega), HPP.out, putS_len1 draws L e⟩
  by_cases h2 : kd = 2
  · subst h2
    have b2 : w2.cell? ⟨w.heap.size + 1, 2, none⟩ = some (.string e.1) := (blk_cell Q2.out 2).trans rfl
    have b3 : w2.cell? ⟨w.heap.size + 1, 3, none⟩ = some (.int .u64 e.2.1) := (blk_cell Q2.out 3).trans rfl
    have hs1 := seek_L g S draws L e.1 e.2.1 w2 HP2.out.sk
    have hs2 := fun W (hW : Below w2.heap.size w2 W) => pairSeek_c (HP2.out.later hW) e.1 e.2.1
    obtain ⟨x, hx⟩ : ∃ x, (notAhead e.1 e.2.1 (allE L)).headD zeroE = x := ⟨_, rfl⟩
    obtain ⟨bb, hbb⟩ : ∃ x, (!(notAhead e.1 e.2.1 (allE L)).isEmpty) = x := ⟨_, rfl⟩
    rw [hx, hbb] at hs1
    simp only [hx, hbb] at hs2
    have HS1 := Lib.hid (show Calls Try.prog 29 #[.pointer (some ⟨g, 0, none⟩), .string e.1, .int .u64 e.2.1] w2 fun en w' => en = .returned (.tuple #[.agg #[.string x.1, .int .u64 x.2.1, .bool x.2.2.1, .string x.2.2.2], .bool bb]) ∧ Below w2.heap.size w2 w' from hs1)
    have HS2 := Lib.hid (show ∀ W, Below w2.heap.size w2 W → Calls Try.prog 74 #[.pointer (some ⟨r, 0, none⟩), .string e.1, .int .u64 e.2.1] W fun en w' => en = .returned (.tuple #[.agg #[.string x.1, .int .u64 x.2.1, .bool x.2.2.1, .string x.2.2.2], .bool bb]) ∧ Below W.heap.size W w' from hs2)
    clear hs1 hs2 hx hbb
    go_wp2_with fail
    refine HS1.out.mono ?_
    rintro _ w3 ⟨rfl, hb3⟩
    obtain ⟨X, hX⟩ : ∃ Z, w3.alloc (.cells #[.string ⟨#[]⟩, .int .u64 0, .bool false, .string ⟨#[]⟩] 53) = Z := ⟨_, rfl⟩
    have rX : X.heap[w3.heap.size]? = some (.cells #[.string ⟨#[]⟩, .int .u64 0, .bool false, .string ⟨#[]⟩] 53 (0, 0)) := by rw [← hX]; exact heap_alloc_new _ _
    obtain ⟨⟨xy0, xy1, xy2, xy3⟩, xg0, xg1, xg2, xg3⟩ := cells4 rX
    obtain ⟨Xa, hXa⟩ : ∃ Z4, (((X.setCell ⟨w3.heap.size, 0, none⟩ (.string x.1)).setCell ⟨w3.heap.size, 1, none⟩ (.int .u64 x.2.1)).setCell ⟨w3.heap.size, 2, none⟩ (.bool x.2.2.1)).setCell ⟨w3.heap.size, 3, none⟩ (.string x.2.2.2) = Z4 := ⟨_, rfl⟩
    have qX : Xa.heap[w3.heap.size]? = some (.cells #[.string x.1, .int .u64 x.2.1, .bool x.2.2.1, .string x.2.2.2] 53 (0, 0)) := by rw [← hXa]; exact put4_heap rX
    have bX : Below w3.heap.size w3 Xa := by
      rw [← hXa, ← hX]
      exact ((Below.refl _ _).alloc (Nat.le_refl _) _).trans ((put4_upd (S := fun k => k = w3.heap.size) _ _ _ _ _ rfl).bel (fun k hk => by omega) (by simp))
    have BX := Lib.hid bX
    have QX := Lib.hid qX
    clear bX qX rX
    have HBX := Lib.hid (hb3.trans (BX.out.mono hb3.size))
    have a1' := cell_later HBX.out D1.out
    have b2' := cell_later HBX.out b2
    have b3' := cell_later HBX.out b3
    clear hb3 a0 a1 b0 b2 b3 hw2
    go_wp2_with fail
    refine (HS2.out Xa HBX.out).mono ?_
    rintro _ w4 ⟨rfl, hb4⟩
    obtain ⟨Y, hY⟩ : ∃ Z, w4.alloc (.cells #[.string ⟨#[]⟩, .int .u64 0, .bool false, .string ⟨#[]⟩] 53) = Z := ⟨_, rfl⟩
    have rY : Y.heap[w4.heap.size]? = some (.cells #[.string ⟨#[]⟩, .int .u64 0, .bool false, .string ⟨#[]⟩] 53 (0, 0)) := by rw [← hY]; exact heap_alloc_new _ _
    obtain ⟨⟨yy0, yy1, yy2, yy3⟩, yg0, yg1, yg2, yg3⟩ := cells4 rY
    obtain ⟨Ya, hYa⟩ : ∃ Z4, (((Y.setCell ⟨w4.heap.size, 0, none⟩ (.string x.1)).setCell ⟨w4.heap.size, 1, none⟩ (.int .u64 x.2.1)).setCell ⟨w4.heap.size, 2, none⟩ (.bool x.2.2.1)).setCell ⟨w4.heap.size, 3, none⟩ (.string x.2.2.2) = Z4 := ⟨_, rfl⟩
    have qY : Ya.heap[w4.heap.size]? = some (.cells #[.string x.1, .int .u64 x.2.1, .bool x.2.2.1, .string x.2.2.2] 53 (0, 0)) := by rw [← hYa]; exact put4_heap rY
    have bY : Below w4.heap.size w4 Ya := by
      rw [← hYa, ← hY]
      exact ((Below.refl _ _).alloc (Nat.le_refl _) _).trans ((put4_upd (S := fun k => k = w4.heap.size) _ _ _ _ _ rfl).bel (fun k hk => by omega) (by simp))
    have BY := Lib.hid bY
    have QY := Lib.hid qY
    clear bY qY rY
    have HBY2 := Lib.hid (hb4.trans (BY.out.mono hb4.size))
    obtain ⟨⟨x0, x1, x2, x3⟩, _⟩ := cells4 (blk_below QX.out HBY2.out)
    obtain ⟨⟨y0, y1, y2, y3⟩, _⟩ := cells4 QY.out
    clear hb4 a1' b2' b3'
    go_wp2
    go_ret
    exact ⟨by first | rfl | simp, HFIN.out _ (HBX.out.trans (HBY2.out.mono HBX.out.size))⟩
  by_cases h3 : kd = 3
  · have b1 : w2.cell? ⟨w.heap.size + 1, 1, none⟩ = some (.bool sc) := (blk_cell Q2.out 1).trans rfl
    have b2 : w2.cell? ⟨w.heap.size + 1, 2, none⟩ = some (.string e.1) := (blk_cell Q2.out 2).trans rfl
    have b3 : w2.cell? ⟨w.heap.size + 1, 3, none⟩ = some (.int .u64 e.2.1) := (blk_cell Q2.out 3).trans rfl
    have b4 : w2.cell? ⟨w.heap.size + 1, 4, none⟩ = some (.bool e.2.2.1) := (blk_cell Q2.out 4).trans rfl
    have b5 : w2.cell? ⟨w.heap.size + 1, 5, none⟩ = some (.string e.2.2.2) := (blk_cell Q2.out 5).trans rfl
    have b6 : w2.cell? ⟨w.heap.size + 1, 6, none⟩ = some (.int .i64 n) := (blk_cell Q2.out 6).trans rfl
    have HWK := Lib.hid (walks5_c HP2.out (by have := HLL.out.1; omega) kd sc e n)
    subst h3
    go_wp2_with fail
    refine HWK.out.mono ?_
    rintro _ w3 ⟨rfl, hb3⟩
    have HB3 := Lib.hid hb3
    clear hb3
    go_wp2
    go_ret
    exact ⟨rfl, HFIN.out _ HB3.out⟩
  by_cases h4 : kd = 4
  · subst h4
    obtain ⟨ln, hln⟩ : ∃ x, L.length = x := ⟨_, rfl⟩
    have HLN := Lib.hid (fun W (hW : Below w2.heap.size w2 W) => (show Calls Try.prog 24 #[.pointer (some ⟨g, 0, none⟩)] W fun e w' => e = .returned (.int .i64 (ln : Int)) ∧ W = w' by
      rw [← hln]; exact len_L g S draws L W (HP2.out.later hW).sk))
    have HLR := Lib.hid (fun W (hW : Below w2.heap.size w2 W) => (show Calls Try.prog 76 #[.pointer (some ⟨r, 0, none⟩)] W fun e w' => e = .returned (.int .i64 (ln : Int)) ∧ W = w' by
      have := refLen_c (HP2.out.later hW).rf
      rw [allE_len, hln] at this
      exact this))
    clear a0 a1 hln
    go_wp2_with fail
    try rw [hw2]
    refine wp_region_calmB 7 (by kernel_rfl) (by kernel_rfl) ?_
    simp only [List.take_succ_cons, List.take_zero, List.drop_succ_cons, List.drop_zero]
    refine chain0 ?_
    refine @chain _ _ _ _ _ _ _ _ 65 (.pointer (some ⟨w.heap.size, 0, none⟩)) (by rfl) (by rfl) (by exact fun W2 hW => run_fa (p := .pointer (some ⟨w.heap.size, 0, none⟩)) (by rfl) (by exact eval_base (by kernel_rfl) (by rfl)) (fun W => by first | kernel_rfl | go_simp) hW) ?_
    refine @chain _ _ _ _ _ _ _ _ 66 (.pointer (some ⟨g, 0, none⟩)) (by rfl) (by rfl) (by exact fun W2 hW => run_lw (by rfl) (by exact eval_look (by kernel_rfl) (by kernel_rfl)) (fun W hW => ldPl _ _ _ _ (cell_later hW D0.out)) hW) ?_
    refine @chain _ _ _ _ _ _ _ _ 67 (.int .i64 (ln : Int)) (by rfl) (by rfl) (by exact fun W2 hW => run_call (vs := #[.pointer (some ⟨g, 0, none⟩)]) (by rfl) (by kernel_rfl) (enters_of Try.func24 (by kernel_rfl) (by rfl)) (calm_q hW (HLN.out W2 hW))) ?_
    refine @chain _ _ _ _ _ _ _ _ 68 (.pointer (some ⟨w.heap.size, 1, none⟩)) (by rfl) (by rfl) (by exact fun W2 hW => run_fa (p := .pointer (some ⟨w.heap.size, 0, none⟩)) (by rfl) (by exact eval_base (by kernel_rfl) (by rfl)) (fun W => by first | kernel_rfl | go_simp) hW) ?_
    refine @chain _ _ _ _ _ _ _ _ 69 (.pointer (some ⟨r, 0, none⟩)) (by rfl) (by rfl) (by exact fun W2 hW => run_lw (by rfl) (by exact eval_look (by kernel_rfl) (by kernel_rfl)) (fun W hW => ldPr _ _ _ _ (cell_later hW D1.out)) hW) ?_
    refine @chain _ _ _ _ _ _ _ _ 70 (.int .i64 (ln : Int)) (by rfl) (by rfl) (by exact fun W2 hW => run_call (vs := #[.pointer (some ⟨r, 0, none⟩)]) (by rfl) (by kernel_rfl) (enters_of Try.func76 (by kernel_rfl) (by rfl)) (calm_q hW (HLR.out W2 hW))) ?_
    refine @chain _ _ _ _ _ _ _ _ 71 (.bool true) (by rfl) (by rfl) (by exact fun W2 hW => run_bo (u := .int .i64 (ln : Int)) (v := .int .i64 (ln : Int)) (by rfl) (by exact eval_look (by kernel_rfl) (by kernel_rfl)) (by exact eval_look (by kernel_rfl) (by kernel_rfl)) (fun W => by first | go_simp | (cases hb <;> go_simp)) hW) ?_
    refine calm_nil (fun W2 hW2 => ?_)
    refine Eq.mpr (congrArg (fun a => wpList _ _ _ _ a W2) (show _ = (⟨#[Value.agg #[Value.pointer (some ⟨g, 0, none⟩), Value.pointer (some ⟨r, 0, none⟩)], Value.agg #[Value.int IntKind.i64 4, Value.bool sc, Value.string e.fst, Value.int IntKind.u64 e.snd.fst, Value.bool e.snd.snd.fst, Value.string e.snd.snd.snd, Value.int IntKind.i64 n], Value.pointer (some ⟨w.heap.size, 0, none⟩), Value.pointer (some ⟨w.heap.size + 1, 0, none⟩), Value.bool false, undef, undef, undef, undef, Value.pointer (some ⟨w.heap.size + 1, 0, none⟩), Value.int IntKind.i64 4, Value.bool false, Value.bool false, undef, undef, undef, undef, undef, undef, undef, undef, undef, undef, undef, Value.bool false, Value.bool false, undef, undef, undef, undef, undef, undef, undef, undef, undef, undef, undef, undef, undef, undef, undef, undef, undef, undef, undef, undef, undef, undef, undef, undef, undef, undef, undef, undef, undef, undef, undef, undef, Value.bool false, Value.bool false, undef, undef, undef, Value.bool true, Value.bool true, Value.pointer (some ⟨w.heap.size, 0, none⟩), Value.pointer (some ⟨g, 0, none⟩), Value.int IntKind.i64 (ln : Int), Value.pointer (some ⟨w.heap.size, 1, none⟩), Value.pointer (some ⟨r, 0, none⟩), Value.int IntKind.i64 (ln : Int), Value.bool true, undef, undef, undef, undef, undef, undef, undef, undef, undef], []⟩ : Act) by kernel_rfl)) ?_
    have HW2 := Lib.hid hW2
    clear hW2
    go_wp2
    go_ret
    exact ⟨rfl, HFIN.out _ HW2.out⟩
  by_cases h5 : kd = 5
  · subst h5
    obtain ⟨hs, hhs⟩ : ∃ x, allH L = x := ⟨_, rfl⟩
    have HTW := Lib.hid (fun W (hW : Below w2.heap.size w2 W) => (show Calls Try.prog 27 #[.pointer (some ⟨g, 0, none⟩)] W fun e w' => ∃ v, e = .returned v ∧ Own encI 3 1 w' W.heap.size v hs ∧ Below W.heap.size W w' by
      rw [← hhs]; exact towers_L g S draws L W (HP2.out.later hW).sk (by have := HLL.out.1; omega)))
    have HTR := Lib.hid (fun W (hW : Below w2.heap.size w2 W) => (show Calls Try.prog 78 #[.pointer (some ⟨r, 0, none⟩)] W fun e w' => ∃ v, e = .returned v ∧ Own encI 3 1 w' W.heap.size v hs ∧ Below W.heap.size W w' by
      rw [← hhs]; exact refTowers_c (HP2.out.later hW).rf (by rw [allH_len]; have := HLL.out.1; omega)))
    clear a0 a1 hhs
    go_wp2_with fail
    try rw [hw2]
    refine wp_region_step (FactR w2 [] hs) leF leF_refl leF_trans [] [0, 0, 2, 0, 0, 2, 1] [.pointer (some ⟨w.heap.size, 0, none⟩), .pointer (some ⟨g, 0, none⟩), undef, .pointer (some ⟨w.heap.size, 1, none⟩), .pointer (some ⟨r, 0, none⟩), undef, undef] 7 (by kernel_rfl) (by kernel_rfl) ⟨(Below.refl _ _).drew, fun p hp => by cases hp⟩ ?_
    simp only [List.take_succ_cons, List.take_zero, List.drop_succ_cons, List.drop_zero]
    refine schain0 ?_
    refine @schain _ _ _ _ _ _ _ _ _ _ _ _ _ _ 74 (.pointer (some ⟨w.heap.size, 0, none⟩)) (by rfl) (by rfl) (by kernel_rfl) (by rfl) (by exact fun s' W2 hW => srun_fa (p := .pointer (some ⟨w.heap.size, 0, none⟩)) (by rfl) (by exact eval_base (by kernel_rfl) (by rfl)) (fun W => by first | kernel_rfl | go_simp) hW) ?_
    refine @schain _ _ _ _ _ _ _ _ _ _ _ _ _ _ 75 (.pointer (some ⟨g, 0, none⟩)) (by rfl) (by rfl) (by kernel_rfl) (by rfl) (by exact fun s' W2 hW => srun_ld (by rfl) (by exact eval_look (by kernel_rfl) (by kernel_rfl)) (ldPl _ _ _ _ (cell_later hW.1 D0.out)) hW) ?_
    refine @schainT _ _ _ _ _ _ _ _ _ _ _ _ _ _ 76 (fun v s' => ∃ A c, v = .slice A hs.length c ∧ s' = (true, A) :: []) (by rfl) (by kernel_rfl) (by rfl) (⟨.slice none hs.length 0, _, none, 0, rfl, rfl⟩) (fun _ _ h => by obtain ⟨A, c, _, rfl⟩ := h; exact fun p hp => List.mem_cons_of_mem _ hp) (by exact fun W2 hW => srun_callT (vs := #[.pointer (some ⟨g, 0, none⟩)]) (by rfl) (by kernel_rfl) (enters_of Try.func27 (by kernel_rfl) (by rfl)) (fact_I hW (HTW.out W2 hW.1))) (fun x s' hx => ?_)
    obtain ⟨A7, c7, rfl, rfl⟩ := hx
    refine @schain _ _ _ _ _ _ _ _ _ _ _ _ _ _ 77 (.pointer (some ⟨w.heap.size, 1, none⟩)) (by rfl) (by rfl) (by kernel_rfl) (by rfl) (by exact fun s' W2 hW => srun_fa (p := .pointer (some ⟨w.heap.size, 0, none⟩)) (by rfl) (by exact eval_base (by kernel_rfl) (by rfl)) (fun W => by first | kernel_rfl | go_simp) hW) ?_
    refine @schain _ _ _ _ _ _ _ _ _ _ _ _ _ _ 78 (.pointer (some ⟨r, 0, none⟩)) (by rfl) (by rfl) (by kernel_rfl) (by rfl) (by exact fun s' W2 hW => srun_ld (by rfl) (by exact eval_look (by kernel_rfl) (by kernel_rfl)) (ldPr _ _ _ _ (cell_later hW.1 D1.out)) hW) ?_
    refine @schainT _ _ _ _ _ _ _ _ _ _ _ _ _ _ 79 (fun v s' => ∃ A c, v = .slice A hs.length c ∧ s' = (true, A) :: (true, A7) :: []) (by rfl) (by kernel_rfl) (by rfl) (⟨.slice none hs.length 0, _, none, 0, rfl, rfl⟩) (fun _ _ h => by obtain ⟨A, c, _, rfl⟩ := h; exact fun p hp => List.mem_cons_of_mem _ hp) (by exact fun W2 hW => srun_callT (vs := #[.pointer (some ⟨r, 0, none⟩)]) (by rfl) (by kernel_rfl) (enters_of Try.func78 (by kernel_rfl) (by rfl)) (fact_I hW (HTR.out W2 hW.1))) (fun x s' hx => ?_)
    obtain ⟨A8, c8, rfl, rfl⟩ := hx
    refine @schain1 _ _ _ _ _ _ _ _ _ _ _ _ _ _ 80 (.bool true) (by rfl) (by kernel_rfl) (by rfl) (by exact fun s' hs' W2 hW => srun_call (vs := #[.slice A7 hs.length c7, .slice A8 hs.length c8]) (by rfl) (by kernel_rfl) (enters_of Try.func77 (by kernel_rfl) (by rfl)) (same_I (es := []) hs' hW (by simp) (by simp))) ?_
    refine snil (fun W2 hW2 => ?_)
    refine Eq.mpr (congrArg (fun a => wpList _ _ _ _ a W2) (show _ = (⟨#[Value.agg #[Value.pointer (some ⟨g, 0, none⟩), Value.pointer (some ⟨r, 0, none⟩)], Value.agg #[Value.int IntKind.i64 5, Value.bool sc, Value.string e.fst, Value.int IntKind.u64 e.snd.fst, Value.bool e.snd.snd.fst, Value.string e.snd.snd.snd, Value.int IntKind.i64 n], Value.pointer (some ⟨w.heap.size, 0, none⟩), Value.pointer (some ⟨w.heap.size + 1, 0, none⟩), Value.bool false, undef, undef, undef, undef, Value.pointer (some ⟨w.heap.size + 1, 0, none⟩), Value.int IntKind.i64 5, Value.bool false, Value.bool false, undef, undef, undef, undef, undef, undef, undef, undef, undef, undef, undef, Value.bool false, Value.bool false, undef, undef, undef, undef, undef, undef, undef, undef, undef, undef, undef, undef, undef, undef, undef, undef, undef, undef, undef, undef, undef, undef, undef, undef, undef, undef, undef, undef, undef, undef, undef, undef, Value.bool false, Value.bool false, undef, undef, undef, Value.bool false, Value.bool false, undef, undef, undef, undef, undef, undef, undef, Value.bool true, Value.bool true, Value.pointer (some ⟨w.heap.size, 0, none⟩), Value.pointer (some ⟨g, 0, none⟩), Value.slice A7 hs.length c7, Value.pointer (some ⟨w.heap.size, 1, none⟩), Value.pointer (some ⟨r, 0, none⟩), Value.slice A8 hs.length c8, Value.bool true], []⟩ : Act) by kernel_rfl)) ?_
    have HW := Lib.hid hW2.1
    clear hW2
    go_wp2
    go_ret
    exact ⟨rfl, HFIN.out _ HW.out⟩
  · clear a0 a1
    go_wp2
    go_ret
    exact ⟨rfl, HFIN.out _ (Below.refl _ _)⟩
end Go.Proofs.Ytjbbobhjomhnmaa.H
