/- The document's memtable (screeref6.Table): Add (printed by genmf4.py). Conditions: sizes. -/
import Derived.Test.YtjbbobhjomhnmaaMf3
namespace Go.Proofs.Ytjbbobhjomhnmaa.H
open Go Go.RowKit Go.Deep Go.Shelf Go.Proofs Go.Proofs.YtjbbobhjomhnmaaW.PrintWords
set_option linter.unusedVariables false
set_option linter.unusedSimpArgs false
theorem idxW_run (b o m c k : Nat) (h : k < m) (W : World) : (Instr.indexAt 87 (.slice (some ⟨b, o, none⟩) m c) (.int .i64 (k : Int))).run Try.prog W = .ok (.pointer (some ⟨b, o + k * 3, none⟩)) W := by
  have h0 : (0 : Int) ≤ k := by omega
  have h1 : (k : Int) < m := by omega
  go_simp
theorem ldWr (b j : Nat) (x : Wri) (W : World) (h0 : W.cell? ⟨b, j, none⟩ = some (.string x.1)) (h1 : W.cell? ⟨b, j + 1, none⟩ = some (.bool x.2.1)) (h2 : W.cell? ⟨b, j + 2, none⟩ = some (.string x.2.2)) : (Instr.loadAt 89 (.pointer (some ⟨b, j, none⟩))).run Try.prog W = .ok (.agg #[.string x.1, .bool x.2.1, .string x.2.2]) W := by
  go_simp
def pushL (draws : List Int) (L : List EH) (es : List Ent) : List EH := es.foldl (putS draws) L
theorem pushL_take {draws : List Int} {L : List EH} {es : List Ent} {i : Nat} {e : Ent} (h : es[i]? = some e) : pushL draws L (es.take (i + 1)) = putS draws (pushL draws L (es.take i)) e := by
  unfold pushL
  rw [List.take_add_one, h, List.foldl_append]
  rfl
theorem pushL_sorted {draws : List Int} (es : List Ent) : ∀ {L : List EH}, SortL L → SortL (pushL draws L es) := by
  induction es with
  | nil => exact fun h => h
  | cons e es ih => exact fun h => ih (putS_sorted h e)
theorem pushL_len (draws : List Int) (es : List Ent) : ∀ L : List EH, (pushL draws L es).length ≤ L.length + es.length := by
  induction es with
  | nil => exact fun L => Nat.le_refl _
  | cons e es ih =>
    intro L
    have h1 := ih (putS draws L e)
    have h2 := putS_len draws L e
    rw [List.length_cons]
    show (pushL draws (putS draws L e) es).length ≤ _
    omega
theorem ents_get {f : Int} {l : List Wri} {i : Nat} {x : Wri} (h : l[i]? = some x) : (ents f l)[i]? = some (ent f i x) := by
  unfold ents
  rw [List.getElem?_mapIdx, h]
  rfl
theorem refPutT_c {w : World} {m r : Nat} {R : Nat → Prop} {draws : List Int} {L : List EH} {fz : Bool} (h : RTab w m r R (allE L) fz) (hs : SortL L) (hl : L.length ≤ 1000000) (e : Ent) :
    Calls Try.prog 73 #[.pointer (some ⟨r, 0, none⟩), .agg (encE e).toArray] w fun en w' => (∃ v, en = .returned v) ∧ Upd (fun k => k = r) w w' ∧ ∃ R', Grow R R' w ∧ RTab w' m r R' (allE (putS draws L e)) fz := by
  obtain ⟨hh, h1, h2⟩ := h.rf
  obtain ⟨P, Q, rfl, p1, p2, p3, p4⟩ := pure_split hs e
  rw [allE_append] at h1 h2
  have hc := refPut_c h2 e p1 p2 h1 (by rw [← allE_append, allE_len]; omega) (by rw [← allE_append, allE_len]; omega) (fun x hx => by cases hx)
  refine (show Calls Try.prog 73 #[.pointer (some ⟨r, 0, none⟩), .agg (encE e).toArray] w _ from hc).mono fun en w' ⟨he, hu, R', hg, hr'⟩ => ⟨⟨_, he⟩, hu, R', hg, ?_⟩
  have hmr : m ≠ r := fun e => h.rm (by rw [e]; exact h2.self)
  refine ⟨hu.heap h.row hmr, ?_, fun hm => ?_⟩
  · unfold putS
    rw [p3]
    by_cases hst : stands (allE Q) e = true
    · rw [if_pos hst] at hr' ⊢
      exact ⟨hh, by rw [allE_append]; exact h1, by rw [allE_append]; exact hr'⟩
    · rw [if_neg hst] at hr' ⊢
      rw [p4, allE_append]
      have e1 : ∀ k, allE ((e, k) :: Q) = e :: allE Q := fun _ => rfl
      rw [e1]
      refine ⟨_, ?_, by
        have e2 : (allE P ++ e :: allE Q).length = (allE P ++ allE Q).length + 1 := by simp; omega
        rw [e2]
        exact hr'⟩
      have e3 : hh.length = (allE P).length + (allE Q).length := by rw [h1, List.length_append]
      simp only [List.length_append, List.length_take, List.length_cons, List.length_drop]
      omega
  · rcases hg m hm with hm | hm
    · exact h.rm hm
    · have := h.lt m (.inr rfl); omega
set_option maxHeartbeats 6400000 in
set_option maxRecDepth 100000 in
theorem refAdd6_c (draws : List Int) {w : World} {m r : Nat} {R : Nat → Prop} {L : List EH} {fz : Bool} (h : RTab w m r R (allE L) fz) (hs : SortL L) (hl : L.length ≤ 900000) (f : Int) (hf : 0 ≤ f ∧ f ≤ 18446744073709551615) (A : Option Addr) (c : Nat) (l : List Wri) (hsl : Sl encW 3 w A l) (hA : l ≠ [] → ∀ b o, A = some ⟨b, o, none⟩ → b ≠ r) :
    Calls Try.prog 116 #[.pointer (some ⟨m, 0, none⟩), .int .u64 f, .slice A l.length c] w fun e w' => Upd (fun k => k = r) w w' ∧
      if fz = true then e = .returned (.int .i64 60) ∧ RTab w' m r R (allE L) fz
      else if chkB l = 0 then e = .returned (.int .i64 0) ∧ ∃ R', Grow R R' w ∧ RTab w' m r R' (allE (pushL draws L (ents f l))) fz
      else e = .returned (.int .i64 (chkB l)) ∧ RTab w' m r R (allE L) fz := by
  have HCB := Lib.hid (refCheck6_c A c l w hsl)
  have hn16 : chkB l = 0 → l.length ≤ 16 := fun h0 => by
    unfold chkB at h0
    split at h0
    · cases h0
    · omega
  have hmr : m ≠ r := fun e => h.rm (by obtain ⟨_, _, h2⟩ := h.rf; rw [e]; exact h2.self)
  obtain ⟨n, hn⟩ : ∃ n, l.length = n := ⟨_, rfl⟩
  rw [hn] at HCB ⊢
  rw [hn] at hn16
  have c0 := h.c0
  have c1 := h.c1
  have HN := Lib.hid hn
  have HT := Lib.hid h
  have HSO := Lib.hid hs
  have HSL := Lib.hid hsl
  have HA := Lib.hid hA
  have HMR := Lib.hid hmr
  clear h hs hsl hA hn hmr
  cases fz with
  | true =>
    go_enter Try.func116, Try.ntmps116
    go_wp2
    go_ret
    exact ⟨Upd.refl _ _, rfl, HT.out⟩
  | false =>
    simp only [Bool.false_eq_true, if_false]
    obtain ⟨ch, hch⟩ : ∃ x, chkB l = x := ⟨_, rfl⟩
    rw [hch] at HCB hn16 ⊢
    clear hch
    by_cases h0 : ch = 0
    · have hn2 := hn16 h0
      clear hn16
      subst h0
      simp only [if_true]
      have ez : ((0 : Int) != 0) = false := rfl
      go_enter Try.func116, Try.ntmps116
      go_wp2_with fail
      refine HCB.out.mono ?_
      rintro _ w1 ⟨rfl, hb⟩
      have HB := Lib.hid hb
      clear hb c0 c1
      go_wp2_with fail
      go_loopw [8, 9] (fun s8 s9 wr => ∃ (i : Nat) (R' : Nat → Prop), s8 = .int .u64 (IntKind.u64.wrap (f + (i : Int))) ∧ s9 = .int .i64 (i : Int) ∧ i ≤ n ∧ Grow R R' w ∧ Upd (fun k => k = r) w wr ∧ RTab wr m r R' (allE (pushL draws L ((ents f l).take i))) false) (fun s8 s9 wr => n - (intOf s9).toNat)
      case atStart => exact ⟨0, R, by rw [IntKind.wrap_u64]; congr 1; simp; omega, rfl, by omega, Grow.refl _ _, Upd.of_below HB.out, HT.out.later HB.out⟩
      case round =>
        obtain ⟨i, R', rfl, rfl, hi, hg, hu, ht⟩ := hrel
        have HG := Lib.hid hg
        have HU := Lib.hid hu
        have HTI := Lib.hid ht
        clear hg hu ht
        have i1 : (0 : Int) ≤ i := by omega
        have hw1 : IntKind.u64.wrap (IntKind.u64.wrap (f + (i : Int)) + 1) = IntKind.u64.wrap (f + ((i + 1 : Nat) : Int)) := by
          simp only [IntKind.wrap_u64]
          push_cast
          omega
        obtain ⟨q, hq⟩ : ∃ x, IntKind.u64.wrap (f + (i : Int)) = x := ⟨_, rfl⟩
        by_cases hlt : i < n
        · have i2 : (i : Int) < n := by omega
          obtain ⟨x, hx⟩ := getElem?_of_lt (l := l) (by rw [HN.out]; exact hlt : i < l.length)
          have HPT := Lib.hid (show pushL draws L ((ents f l).take (i + 1)) = putS draws (pushL draws L ((ents f l).take i)) (entW q x) from by rw [pushL_take (ents_get hx), ← hq]; rfl)
          obtain ⟨b0, o0, hA0, hbl, hc⟩ := (HSL.out.upd HU.out (fun b o e => HA.out (fun e0 => by rw [e0] at hx; simp at hx) b o e)).at hx
          subst hA0
          have hlen : (pushL draws L ((ents f l).take i)).length ≤ 1000000 := by
            have h1 := pushL_len draws ((ents f l).take i) L
            rw [List.length_take, ents_len] at h1
            omega
          have HPU := Lib.hid (fun W (hW : Below wr.heap.size wr W) => refPutT_c (draws := draws) (HTI.out.later hW) (pushL_sorted ((ents f l).take i) HSO.out) hlen (entW q x))
          have X0 := Lib.hid (show wr.cell? ⟨b0, o0 + i * 3, none⟩ = some (.string x.1) from hc 0 _ rfl)
          have X1 := Lib.hid (show wr.cell? ⟨b0, o0 + i * 3 + 1, none⟩ = some (.bool x.2.1) from hc 1 _ rfl)
          have X2 := Lib.hid (show wr.cell? ⟨b0, o0 + i * 3 + 2, none⟩ = some (.string x.2.2) from hc 2 _ rfl)
          have C0 := Lib.hid HTI.out.c0
          rw [hq] at hw1
          have HW1 := Lib.hid hw1
          rw [hq]
          clear hc hbl hx hlen hw1 hq
          go_wp2_with fail
          refine wp_region_calmB 10 (by kernel_rfl) (by kernel_rfl) ?_
          simp only [List.take_succ_cons, List.take_zero, List.drop_succ_cons, List.drop_zero]
          refine chain0 ?_
          refine @chain _ _ _ _ _ _ _ _ 26 (.pointer (some ⟨m, 0, none⟩)) (by rfl) (by rfl) (by exact fun W2 hW => run_mv (by rfl) (by exact eval_base (by kernel_rfl) (by rfl)) hW) ?_
          refine @chain _ _ _ _ _ _ _ _ 27 (.pointer (some ⟨m, 0, none⟩)) (by rfl) (by rfl) (by exact fun W2 hW => run_nc (by rfl) (by exact eval_look (by kernel_rfl) (by kernel_rfl)) hW) ?_
          refine @chain _ _ _ _ _ _ _ _ 28 (.pointer (some ⟨m, 0, none⟩)) (by rfl) (by rfl) (by exact fun W2 hW => run_fa (p := .pointer (some ⟨m, 0, none⟩)) (by rfl) (by exact eval_look (by kernel_rfl) (by kernel_rfl)) (fun W => by first | kernel_rfl | go_simp) hW) ?_
          refine @chain _ _ _ _ _ _ _ _ 29 (.pointer (some ⟨r, 0, none⟩)) (by rfl) (by rfl) (by exact fun W2 hW => run_lw (by rfl) (by exact eval_look (by kernel_rfl) (by kernel_rfl)) (fun W hW => ldPr _ _ _ _ (cell_later hW C0.out)) hW) ?_
          refine @chain _ _ _ _ _ _ _ _ 30 (.int .u64 q) (by rfl) (by rfl) (by exact fun W2 hW => run_mv (by rfl) (by exact eval_base (by kernel_rfl) (by rfl)) hW) ?_
          refine @chain _ _ _ _ _ _ _ _ 31 (.slice (some ⟨b0, o0, none⟩) n c) (by rfl) (by rfl) (by exact fun W2 hW => run_mv (by rfl) (by exact eval_base (by kernel_rfl) (by rfl)) hW) ?_
          refine @chain _ _ _ _ _ _ _ _ 32 (.int .i64 (i : Int)) (by rfl) (by rfl) (by exact fun W2 hW => run_mv (by rfl) (by exact eval_base (by kernel_rfl) (by rfl)) hW) ?_
          refine @chain _ _ _ _ _ _ _ _ 33 (.pointer (some ⟨b0, o0 + i * 3, none⟩)) (by rfl) (by rfl) (by exact fun W2 hW => run_ia (u := .slice (some ⟨b0, o0, none⟩) n c) (v := .int .i64 (i : Int)) (by rfl) (by exact eval_look (by kernel_rfl) (by kernel_rfl)) (by exact eval_look (by kernel_rfl) (by kernel_rfl)) (fun W => idxW_run _ _ _ _ _ (by omega) W) hW) ?_
          refine @chain _ _ _ _ _ _ _ _ 34 (.agg #[.string x.1, .bool x.2.1, .string x.2.2]) (by rfl) (by rfl) (by exact fun W2 hW => run_lw (by rfl) (by exact eval_look (by kernel_rfl) (by kernel_rfl)) (fun W hW => ldWr _ _ _ _ (cell_later hW X0.out) (cell_later hW X1.out) (cell_later hW X2.out)) hW) ?_
          refine @chain _ _ _ _ _ _ _ _ 35 (.agg (encE (entW q x)).toArray) (by rfl) (by rfl) (by exact fun W2 hW => run_call (vs := #[.int .u64 q, .agg #[.string x.1, .bool x.2.1, .string x.2.2]]) (by rfl) (by kernel_rfl) (enters_of Try.func124 (by kernel_rfl) (by rfl)) (calm_b hW (refEntry6_c q x W2))) ?_
          refine calm_nil (fun W2 hW2 => ?_)
          refine Eq.mpr (congrArg (fun a => wpList _ _ _ _ a W2) (show _ = (⟨#[Value.pointer (some ⟨m, 0, none⟩), Value.int IntKind.u64 f, Value.slice (some ⟨b0, o0, none⟩) n c, undef, undef, undef, Value.int IntKind.i64 0, Value.int IntKind.i64 0, Value.int IntKind.u64 q, Value.int IntKind.i64 (i : Int), Value.pointer (some ⟨m, 0, none⟩), Value.pointer (some ⟨m, 0, none⟩), Value.pointer (some ⟨m, 1, none⟩), Value.bool false, Value.slice (some ⟨b0, o0, none⟩) n c, Value.int IntKind.i64 0, Value.int IntKind.i64 0, Value.bool false, undef, Value.int IntKind.u64 f, Value.int IntKind.i64 (i : Int), Value.slice (some ⟨b0, o0, none⟩) n c, Value.int IntKind.i64 (n : Int), Value.bool true, u24, u25, Value.pointer (some ⟨m, 0, none⟩), Value.pointer (some ⟨m, 0, none⟩), Value.pointer (some ⟨m, 0, none⟩), Value.pointer (some ⟨r, 0, none⟩), Value.int IntKind.u64 q, Value.slice (some ⟨b0, o0, none⟩) n c, Value.int IntKind.i64 (i : Int), Value.pointer (some ⟨b0, o0 + i * 3, none⟩), Value.agg #[Value.string x.fst, Value.bool x.snd.fst, Value.string x.snd.snd], Value.agg (encE (entW q x)).toArray, u36, u37, u38], []⟩ : Act) by kernel_rfl)) ?_
          have HW2 := Lib.hid hW2
          clear hW2
          go_wp2_with fail
          refine (HPU.out W2 HW2.out).mono ?_
          rintro _ w3 ⟨⟨v3, rfl⟩, hu3, R'', hg3, ht3⟩
          have HU3 := Lib.hid ((HU.out.trans (Upd.of_below HW2.out)).trans hu3)
          have HG3 := Lib.hid (show Grow R R'' w from fun k hk => by
            rcases hg3 k hk with h1 | h1
            · exact HG.out k h1
            · have := HU.out.size; have := HW2.out.size; exact .inr (by omega))
          have HT3 := Lib.hid ht3
          clear hu3 hg3 ht3
          have hw1 := HW1.out
          go_wp2
          go_roundw
          case rel => exact ⟨i + 1, R'', by first | rfl | (rw [← hw1]) | simp, by first | rfl | simp, by omega, HG3.out, HU3.out, by rw [HPT.out]; exact HT3.out⟩
          case measure => simp [intOf]; omega
        · have hni : n = i := by omega
          clear hlt hi
          subst hni
          clear hw1
          go_wp2
          go_ret
          refine ⟨HU.out, by first | rfl | simp, R', HG.out, ?_⟩
          have := HTI.out
          rwa [List.take_of_length_le (by rw [ents_len, HN.out]; exact Nat.le_refl _)] at this
    · have ez : (ch != 0) = true := by simp [h0]
      simp only [if_neg h0]
      clear h0 hn16
      go_enter Try.func116, Try.ntmps116
      go_wp2_with fail
      refine HCB.out.mono ?_
      rintro _ w1 ⟨rfl, hb⟩
      have HB := Lib.hid hb
      clear hb c0 c1
      go_wp2
      go_ret
      exact ⟨Upd.of_below HB.out, rfl, HT.out.later HB.out⟩
end Go.Proofs.Ytjbbobhjomhnmaa.H
