/- screeref11.Of: it answers what is merged. Conditions: sizes. (genrfo.py) -/
import Derived.Test.YtdpijhpjicbecaaGLs
import Derived.Test.YtdpijhpjicbecaaGSt
import Derived.Test.YtdpijhpjicbecaaGgS
import Derived.Test.YtdpijhpjicbecaaGSrc
import Derived.Deep.DeepCutAuto
import Derived.Deep.LoopGhost
import Derived.BigQuiet
namespace Go.Proofs.Ytdpijhpjicbecaa.H
open Go Go.RowKit Go.Deep Go.Shelf Go.Proofs Go.Proofs.YtdpijhpjicbecaaW.PrintWords
set_option linter.unusedVariables false
set_option linter.unusedSimpArgs false
attribute [local go_sem] Oper.semAt_some
set_option maxHeartbeats 1600000 in
theorem refAhead_c (x y : Ent) (w : World) : Calls Try.prog 57 #[.string x.1, .int .u64 x.2.1, .string y.1, .int .u64 y.2.1] w fun e w' => e = .returned (.bool (decide (ltE x y))) ∧ w = w' := by
  go_enter Try.func57, Try.ntmps57
  go_wp2
  all_goals go_ret
  · rename_i h1
    rw [decide_eq_true ((ltE_iff x y).2 (.inl h1))]
    exact ⟨rfl, rfl⟩
  · rename_i h1 h2
    have : decide (ltE x y) = decide (y.2.1 < x.2.1) := decide_eq_decide.2 ⟨fun h => by
      rcases (ltE_iff x y).1 h with h | h
      · exact absurd h h1
      · exact h.2, fun h => (ltE_iff x y).2 (.inr ⟨h2, h⟩)⟩
    rw [this]
    exact ⟨rfl, rfl⟩
  · rename_i h1 h2
    rw [decide_eq_false (fun h => by
      rcases (ltE_iff x y).1 h with h | h
      · exact h1 h
      · exact h2 h.1)]
    exact ⟨rfl, rfl⟩
/-- What is left of the lists. -/
def restA (ls : List (List Ent)) (ats : List Nat) : List (List Ent) := List.zipWith (fun l a => l.drop a) ls ats
theorem restA_at {ls : List (List Ent)} {ats : List Nat} {k a : Nat} {l : List Ent} (hl : ls[k]? = some l) (ha : ats[k]? = some a) : (restA ls ats)[k]? = some (l.drop a) := by
  unfold restA
  rw [List.getElem?_zipWith, hl, ha]
theorem restA_zero (ls : List (List Ent)) : restA ls (List.replicate ls.length 0) = ls := by
  induction ls with
  | nil => rfl
  | cons a ls ih => simp only [List.length_cons, List.replicate_succ, restA, List.zipWith_cons_cons, List.drop_zero]; unfold restA at ih; rw [ih]
theorem restA_set {ls : List (List Ent)} {ats : List Nat} {k : Nat} {l : List Ent} (hl : ls[k]? = some l) (a : Nat) (hk : k < ats.length) : restA ls (ats.set k a) = (restA ls ats).set k (l.drop a) := by
  refine List.ext_getElem? fun i => ?_
  unfold restA
  rw [List.getElem?_zipWith]
  by_cases h : k = i
  · subst h
    rw [hl, List.getElem?_set_self hk, List.getElem?_set_self (by
      rw [List.length_zipWith]
      have := (List.getElem?_eq_some_iff.1 hl).1
      omega)]
  · rw [List.getElem?_set_ne h, List.getElem?_set_ne h, List.getElem?_zipWith]
/-- The best of the first i. -/
def BestR (R : List (List Ent)) (i : Nat) (s : Value) : Prop :=
  (s = .int .i64 (-1) ∧ ∀ k, k < i → R[k]? = some []) ∨ ∃ (m : Nat) (e : Ent) (t : List Ent), s = .int .i64 m ∧ m < i ∧ R[m]? = some (e :: t) ∧ ∀ j f u, j < i → R[j]? = some (f :: u) → lessR f j e m = false
theorem bestR_end {R : List (List Ent)} {s : Value} (h : BestR R R.length s) : (s = .int .i64 (-1) ∧ mergeL R = []) ∨ ∃ (m : Nat) (e : Ent) (t : List Ent), s = .int .i64 m ∧ m < R.length ∧ R[m]? = some (e :: t) ∧ bestO 0 R = some (m, e, t) := by
  rcases h with ⟨h1, h2⟩ | ⟨m, e, t, h1, h2, h3, h4⟩
  · refine .inl ⟨h1, mergeL_end fun x hx => ?_⟩
    obtain ⟨k, hk⟩ := List.getElem?_of_mem hx
    rw [h2 k (List.getElem?_eq_some_iff.1 hk).1] at hk
    injection hk with hk
    exact hk.symm
  · exact .inr ⟨m, e, t, h1, h2, h3, bestO_some.2 ⟨m, by omega, h3, fun j f u hj => by rw [Nat.zero_add]; exact h4 j f u (List.getElem?_eq_some_iff.1 hj).1 hj⟩⟩
theorem bestR_skip {R : List (List Ent)} {i : Nat} {s : Value} (h : BestR R i s) (hi : R[i]? = some []) : BestR R (i + 1) s := by
  rcases h with ⟨h1, h2⟩ | ⟨m, e, t, h1, h2, h3, h4⟩
  · refine .inl ⟨h1, fun k hk => ?_⟩
    by_cases e : k = i
    · rw [e]; exact hi
    · exact h2 k (by omega)
  · refine .inr ⟨m, e, t, h1, by omega, h3, fun j f u hj hf => ?_⟩
    by_cases e : j = i
    · rw [e, hi] at hf; cases hf
    · exact h4 j f u (by omega) hf
theorem bestR_first {R : List (List Ent)} {i : Nat} {x : Ent} {t : List Ent} (h : ∀ k, k < i → R[k]? = some []) (hi : R[i]? = some (x :: t)) : BestR R (i + 1) (.int .i64 i) := by
  refine .inr ⟨i, x, t, rfl, by omega, hi, fun j f u hj hf => ?_⟩
  by_cases e : j = i
  · subst e
    rw [hi] at hf
    injection hf with hf
    injection hf with hf _
    subst hf
    rw [lessR_false]
    exact .inr ⟨⟨rfl, rfl⟩, Nat.le_refl _⟩
  · rw [h j (by omega)] at hf; cases hf
theorem bestR_less {R : List (List Ent)} {i m : Nat} {x e : Ent} {t t' : List Ent} (hm : m < i) (h4 : ∀ j f u, j < i → R[j]? = some (f :: u) → lessR f j e m = false) (hi : R[i]? = some (x :: t')) (hl : ltE x e) : BestR R (i + 1) (.int .i64 i) := by
  refine .inr ⟨i, x, t', rfl, by omega, hi, fun j f u hj hf => ?_⟩
  by_cases e2 : j = i
  · subst e2
    rw [hi] at hf
    injection hf with hf
    injection hf with hf _
    subst hf
    rw [lessR_false]
    exact .inr ⟨⟨rfl, rfl⟩, Nat.le_refl _⟩
  · have h1 := h4 j f u (by omega) hf
    rw [lessR_false] at h1 ⊢
    rcases h1 with h1 | ⟨h1, _⟩
    · exact .inl (ltE_trans hl h1)
    · exact .inl (samE_lt_r (samE_symm h1) hl)
theorem bestR_keep {R : List (List Ent)} {i m : Nat} {x e : Ent} {t t' : List Ent} (hm : m < i) (h3 : R[m]? = some (e :: t)) (h4 : ∀ j f u, j < i → R[j]? = some (f :: u) → lessR f j e m = false) (hi : R[i]? = some (x :: t')) (hl : ¬ ltE x e) : BestR R (i + 1) (.int .i64 m) := by
  refine .inr ⟨m, e, t, rfl, by omega, h3, fun j f u hj hf => ?_⟩
  by_cases e2 : j = i
  · subst e2
    rw [hi] at hf
    injection hf with hf
    injection hf with hf _
    subst hf
    rw [lessR_false]
    rcases E_tri x e with h | h | h
    · exact absurd h hl
    · exact .inr ⟨samE_symm (samE_symm h), by omega⟩
    · exact .inl h
  · exact h4 j f u (by omega) hf
theorem srun_alW {P : Program} {S : World → Prop} {a : Act} {o : Oper} {W W' : World} {t : TypeId} {v : Value} (ho : o.op = .alloc t) (hf : (Instr.alloc t true (.tuple #[])).run P W = .ok v W') (hW : S W') : StepRes P S v ((execOp a.eval o).run P W) := by
  simp only [execOp, ho, Sem.run_bind, Sem.run_pure, hf, Result.andThen_ok]
  exact ⟨rfl, hW⟩
def intsC (ats : List Nat) : Array Value := (ats.map fun (a : Nat) => Value.int .i64 (a : Int)).toArray
theorem intsC_at {ats : List Nat} {k a : Nat} (h : ats[k]? = some a) : (intsC ats)[k]? = some (.int .i64 (a : Int)) := by simp [intsC, h]
theorem intsC_set (ats : List Nat) (k a : Nat) : (intsC ats).setIfInBounds k (.int .i64 (a : Int)) = intsC (ats.set k a) := by
  refine Array.ext' ?_
  simp [intsC, List.map_set]
theorem drop_atR {α : Type} {l : List α} {a : Nat} {y : α} (h : l[a]? = some y) : l.drop a = y :: l.drop (a + 1) := by
  obtain ⟨h1, h2⟩ := List.getElem?_eq_some_iff.1 h
  rw [List.drop_eq_getElem_cons h1, h2]
theorem iInt : (Try.prog.info? 3).map (fun i => (i.zero, i.size, i.bytes)) = some (some (.int .i64 0), 1, 8) := by kernel_rfl
theorem ldIR (b j : Nat) (n : Int) (W : World) (h : W.cell? ⟨b, j, none⟩ = some (.int .i64 n)) : (Instr.loadAt 3 (.pointer (some ⟨b, j, none⟩))).run Try.prog W = .ok (.int .i64 n) W := by
  go_simp
theorem ldSlR (b j n c : Nat) (A : Option Addr) (W : World) (h : W.cell? ⟨b, j, none⟩ = some (.slice A n c)) : (Instr.loadAt 27 (.pointer (some ⟨b, j, none⟩))).run Try.prog W = .ok (.slice A n c) W := by
  go_simp
theorem ldER (b o : Nat) (y : Ent) (W : World) (h : ∀ i v, (encE y)[i]? = some v → W.cell? ⟨b, o + i, none⟩ = some v) : (Instr.loadAt 53 (.pointer (some ⟨b, o, none⟩))).run Try.prog W = .ok (.agg (encE y).toArray) W := by
  have h0 := h 0 _ rfl
  have h1 := h 1 _ rfl
  have h2 := h 2 _ rfl
  have h3 := h 3 _ rfl
  simp only [Nat.add_zero] at h0
  unfold encE
  go_simp
theorem ixI (b o m c k : Nat) (h : k < m) (W : World) : (Instr.indexAt 83 (.slice (some ⟨b, o, none⟩) m c) (.int .i64 (k : Int))).run Try.prog W = .ok (.pointer (some ⟨b, o + k, none⟩)) W := by
  have h0 : (0 : Int) ≤ k := by omega
  have h1 : (k : Int) < m := by omega
  go_simp
theorem ixL (b o m c k : Nat) (h : k < m) (W : World) : (Instr.indexAt 22 (.slice (some ⟨b, o, none⟩) m c) (.int .i64 (k : Int))).run Try.prog W = .ok (.pointer (some ⟨b, o + k, none⟩)) W := by
  have h0 : (0 : Int) ≤ k := by omega
  have h1 : (k : Int) < m := by omega
  go_simp
theorem ixE (b o m c k : Nat) (h : k < m) (W : World) : (Instr.indexAt 27 (.slice (some ⟨b, o, none⟩) m c) (.int .i64 (k : Int))).run Try.prog W = .ok (.pointer (some ⟨b, o + k * 4, none⟩)) W := by
  have h0 : (0 : Int) ≤ k := by omega
  have h1 : (k : Int) < m := by omega
  go_simp
def lenOf : Value → Nat
  | .slice _ n _ => n
  | _ => 0
/-- The lists' slots. -/
structure RowsL (w : World) (b o : Nat) (L : List HE) : Prop where
  each : ∀ (k : Nat) (h : HE), L[k]? = some h → w.cell? ⟨b, o + k, none⟩ = some (.slice h.1 h.2.2.length h.2.1) ∧ Sl encE 4 w h.1 h.2.2
theorem RowsL.later {w w' : World} {b o : Nat} {L : List HE} (h : RowsL w b o L) (hb : Below w.heap.size w w') : RowsL w' b o L := ⟨fun k x hx => ⟨cell_later hb (h.each k x hx).1, (h.each k x hx).2.later hb⟩⟩
theorem rowsL_of {w : World} {A : Option Addr} {L : List HE} (h : Sl2 w A L) (hne : L ≠ []) : ∃ b o, A = some ⟨b, o, none⟩ ∧ RowsL w b o L := by
  obtain ⟨h1, h2⟩ := h
  rcases h1.2 with h | ⟨b, o, hA, hlt, hc⟩
  · exact absurd h hne
  · exact ⟨b, o, hA, ⟨fun k x hx => ⟨by simpa using hc k x hx 0 _ rfl, h2 x (List.mem_of_getElem? hx)⟩⟩⟩
set_option maxHeartbeats 6400000 in
set_option maxRecDepth 100000 in
theorem refOf_c (A : Option Addr) (c : Nat) (L : List HE) (w : World) (hs : Sl2 w A L) (hl : L.length + totL (L.map (·.2.2)) ≤ 1000000) :
    Calls Try.prog 14 #[.slice A L.length c] w fun e w' => ∃ v, e = .returned v ∧ Own encE 53 4 w' w.heap.size v (mergeL (L.map (·.2.2))) ∧ Below w.heap.size w w' := by
  obtain ⟨ls, hls⟩ : ∃ ls, L.map (·.2.2) = ls := ⟨_, rfl⟩
  rw [hls] at hl ⊢
  obtain ⟨n, hn⟩ : ∃ n, L.length = n := ⟨_, rfl⟩
  rw [hn] at hl ⊢
  have hlsn : ls.length = n := by rw [← hls, List.length_map, hn]
  obtain ⟨i0, hi0, hzz⟩ := Option.map_eq_some_iff.1 iInt
  simp only [Prod.mk.injEq] at hzz
  obtain ⟨hz0, hz1, hz2⟩ := hzz
  have hmk := run_makeSlice (P := Try.prog) w 83 3 i0 (.int .i64 0) Try.underlying83 hi0 hz0 .i64 .i64 (n : Int) (n : Int) (by omega) (by omega) (by rw [hz1]; omega) (by rw [hz2]; omega) (by omega)
  rw [hz1] at hmk
  simp only [Int.toNat_natCast, Nat.mul_one] at hmk
  obtain ⟨W1, hW1⟩ : ∃ Z, w.alloc (.cells (madeCells (Value.int .i64 0).cells n) 3) = Z := ⟨_, rfl⟩
  rw [hW1] at hmk
  have hr1 : W1.heap[w.heap.size]? = some (.cells (intsC (List.replicate n 0)) 3 (0, 0)) := by
    rw [← hW1]
    have := heap_alloc_new w (.cells (madeCells (Value.int .i64 0).cells n) 3)
    rw [this]
    have e : madeCells (Value.int .i64 0).cells n = intsC (List.replicate n 0) := by
      refine Array.ext' ?_
      have := toList_madeCells_one (.int .i64 0) n
      simp only [intsC, List.map_replicate]
      exact this
    rw [e]
  have hb1 : Below w.heap.size w W1 := by rw [← hW1]; exact (Below.refl _ _).alloc (Nat.le_refl _) _
  have HS := Lib.hid hs
  have HN := Lib.hid hn
  have HLS := Lib.hid hls
  have HLN := Lib.hid hlsn
  have HR1 := Lib.hid hr1
  have HB1 := Lib.hid hb1
  have HLT := Lib.hid hl
  have hn6 : n ≤ 1000000 := by omega
  clear hs hn hls hlsn hr1 hb1 hi0 hz0 hz1 hz2 hl hW1
  go_enter Try.func14, Try.ntmps14
  go_wp2_with fail
  go_loopw [4] (fun s4 wr => ∃ (ats : List Nat) (p : List Ent), ats.length = n ∧ Own encE 53 4 wr w.heap.size s4 p ∧ s4.ownBlock ≠ some w.heap.size ∧ p ++ mergeL (restA ls ats) = mergeL ls ∧ wr.heap[w.heap.size]? = some (.cells (intsC ats) 3 (0, 0)) ∧ (∀ (k a : Nat) (l : List Ent), ats[k]? = some a → ls[k]? = some l → a ≤ l.length) ∧ Below w.heap.size w wr) (fun s4 wr => totL ls + 1 - lenOf s4)
  case atStart => exact ⟨List.replicate n 0, [], by simp, Own.nil _ _ _ _ _, by simp [Value.ownBlock], by rw [← HLN.out, restA_zero]; rfl, HR1.out, fun k a l h _ => by rw [List.getElem?_replicate] at h; split at h <;> simp at h; omega, HB1.out⟩
  case round =>
    obtain ⟨ats, p, hal, ho, hob, hp, hba, hle, hb⟩ := hrel
    obtain ⟨A4, c4, rfl⟩ := own_slice ho
    generalize wr = W5 at *
    obtain ⟨np, hnp⟩ : ∃ np, p.length = np := ⟨_, rfl⟩
    rw [hnp] at ho hob ⊢
    obtain ⟨R, hR⟩ : ∃ R, restA ls ats = R := ⟨_, rfl⟩
    rw [hR] at hp
    have hRn : R.length = n := by rw [← hR]; unfold restA; rw [List.length_zipWith, HLN.out, hal, Nat.min_self]
    have hnpl : np + totL R = totL ls := by
      have := congrArg List.length hp
      rw [List.length_append, mergeL_length, mergeL_length, hnp] at this
      exact this
    have HAL := Lib.hid hal
    have HO := Lib.hid ho
    have HOB := Lib.hid hob
    have HP := Lib.hid hp
    have HBA := Lib.hid hba
    have HLE := Lib.hid hle
    have HB := Lib.hid hb
    have HNP := Lib.hid hnp
    have HRR := Lib.hid hR
    have HRN := Lib.hid hRn
    have HNL := Lib.hid hnpl
    clear hal ho hob hp hba hle hb hnp hR hRn hnpl
    -- what stands at place i
    have HAT := Lib.hid (show ∀ i, i < n → ∃ (h : HE) (a bL oL : Nat), A = some ⟨bL, oL, none⟩ ∧ L[i]? = some h ∧ ls[i]? = some h.2.2 ∧ ats[i]? = some a ∧ a ≤ h.2.2.length ∧ R[i]? = some (h.2.2.drop a) ∧ ∀ W, Below W5.heap.size W5 W → W.cell? ⟨bL, oL + i, none⟩ = some (.slice h.1 h.2.2.length h.2.1) ∧ W.cell? ⟨w.heap.size, i, none⟩ = some (.int .i64 (a : Int)) ∧ Sl encE 4 W h.1 h.2.2 from fun i hi => by
      obtain ⟨h, hh⟩ := getElem?_of_lt (l := L) (by rw [HN.out]; exact hi : i < L.length)
      obtain ⟨a, ha⟩ := getElem?_of_lt (l := ats) (by rw [HAL.out]; exact hi : i < ats.length)
      have hl : ls[i]? = some h.2.2 := by rw [← HLS.out, List.getElem?_map, hh]; rfl
      obtain ⟨bL, oL, hA, hrows⟩ := rowsL_of HS.out (fun e => by rw [e] at hh; simp at hh)
      refine ⟨h, a, bL, oL, hA, hh, hl, ha, HLE.out i a _ ha hl, by rw [← HRR.out]; exact restA_at hl ha, fun W hW => ?_⟩
      have hww : Below w.heap.size w W := HB.out.trans (hW.mono HB.out.size)
      refine ⟨((hrows.later hww).each i h hh).1, (blk_cell (blk_below HBA.out hW) i).trans (intsC_at ha), ((hrows.later hww).each i h hh).2⟩)
    go_wp2_with fail
    go_loopw [5, 6] (fun s5 s6 wr => ∃ i : Nat, s6 = .int .i64 i ∧ i ≤ n ∧ BestR R i s5 ∧ Below W5.heap.size W5 wr) (fun s5 s6 wr => n - (intOf s6).toNat)
    case atStart => exact ⟨0, rfl, by omega, .inl ⟨rfl, fun k hk => by omega⟩, Below.refl _ _⟩
    case round =>
      obtain ⟨i, rfl, hi, hbest, hbq⟩ := hrel
      generalize wr = Wq at *
      have HBE := Lib.hid hbest
      have HBQ := Lib.hid hbq
      clear hbest hbq
      have i0 : (0 : Int) ≤ i := by omega
      by_cases hlt : i < n
      · have i2 : (i : Int) < n := by omega
        obtain ⟨h, a, bL, oL, hA, hh, hl, ha, haq', hRi, hcells⟩ := HAT.out i hlt
        subst hA
        obtain ⟨q, hq⟩ : ∃ q, h.2.2.length = q := ⟨_, rfl⟩
        obtain ⟨y0, a0, hsl⟩ := hcells Wq HBQ.out
        rw [hq] at y0 haq'
        by_cases haq : a < q
        · have hge : ¬ (q : Int) ≤ a := by omega
          obtain ⟨x, hx⟩ := getElem?_of_lt (l := h.2.2) (by rw [hq]; exact haq : a < h.2.2.length)
          obtain ⟨bx, ox, ex, _, hcx⟩ := hsl.at hx
          rw [ex] at y0
          have HRI := Lib.hid (show R[i]? = some (x :: h.2.2.drop (a + 1)) from by rw [hRi, drop_atR hx])
          have HX4 := Lib.hid (show ∀ j v, (encE x)[j]? = some v → Wq.cell? ⟨bx, ox + a * 4 + j, none⟩ = some v from hcx)
          clear hcx hx ex hRi hcells hh hl ha hsl
          go_wp2_with fail
          go_quiet (fail)
          have HBQ6 := Lib.hid (show Below W5.heap.size W5 (Wq.drewN nq) from HBQ.out.trans ((Upd.drewN (S := fun _ => False) Wq nq).bel (fun _ h => h.elim) HBQ.out.size))
          have Y0 := Lib.hid (show (Wq.drewN nq).cell? ⟨bL, oL + i, none⟩ = some (.slice (some ⟨bx, ox, none⟩) q h.2.1) from y0)
          have A0 := Lib.hid (show (Wq.drewN nq).cell? ⟨w.heap.size, 0 + i, none⟩ = some (.int .i64 (a : Int)) from by rw [Nat.zero_add]; exact a0)
          have HX6 := Lib.hid (show ∀ j v, (encE x)[j]? = some v → (Wq.drewN nq).cell? ⟨bx, ox + a * 4 + j, none⟩ = some v from HX4.out)
          clear HBQ y0 a0 HX4
          generalize Wq.drewN nq = W6 at *
          obtain ⟨W7, hW7⟩ : ∃ Z, W6.drew.alloc (.cells #[.string ⟨#[]⟩, .int .u64 0, .bool false, .string ⟨#[]⟩] 53) = Z := ⟨_, rfl⟩
          have hb7 : Below W6.heap.size W6 W7 := by rw [← hW7]; exact ((Below.refl _ _).drew).alloc (Nat.le_refl _) _
          have E3 := Lib.hid (show ∀ (s' : Nat) (W : World), AtW [W6.drew, W7] s' W → W.cell? ⟨bL, oL + i, none⟩ = some (.slice (some ⟨bx, ox, none⟩) q h.2.1) ∧ W.cell? ⟨w.heap.size, 0 + i, none⟩ = some (.int .i64 (a : Int)) ∧ ∀ j v, (encE x)[j]? = some v → W.cell? ⟨bx, ox + a * 4 + j, none⟩ = some v from fun s' W hW => by
            match s', hW with
            | 0, hW => cases hW; exact ⟨Y0.out, A0.out, HX6.out⟩
            | 1, hW => cases hW; exact ⟨cell_later hb7 Y0.out, cell_later hb7 A0.out, fun j v hv => cell_later hb7 (HX6.out j v hv)⟩)
          have r7 : W7.heap[W6.heap.size]? = some (.cells #[.string ⟨#[]⟩, .int .u64 0, .bool false, .string ⟨#[]⟩] 53 (0, 0)) := by rw [← hW7]; exact heap_alloc_new W6.drew _
          have hst := store4 r7 x
          have r8 := setRow_heap _ _ _ (encE x).toArray _ _ r7
          have hb8 : Below W6.heap.size W6 (W7.setRow W6.heap.size (encE x).toArray) := hb7.trans ((upd_setRow (S := fun k => k = W6.heap.size) W7 (encE x).toArray rfl).bel (fun k hk => by rw [hk]; exact Nat.le_refl _) (by have := hb7.size; exact this))
          have HB8 := Lib.hid hb8
          have HR8 := Lib.hid r8
          have HB7 := Lib.hid hb7
          clear hb7 hb8 r7 r8
          go_wp2_with fail
          refine wp_region_step (AtW [W6.drew, W7]) (· ≤ ·) Nat.le_refl (fun _ _ _ => Nat.le_trans) 0 [0, 0, 0, 0, 0, 0, 0, 0, 0, 0, 2] [.slice (some ⟨bL, oL, none⟩) n c, .int .i64 (i : Int), .pointer (some ⟨bL, oL + i, none⟩), .slice (some ⟨bx, ox, none⟩) q h.2.1, .slice (some ⟨w.heap.size, 0, none⟩) n n, .int .i64 (i : Int), .pointer (some ⟨w.heap.size, 0 + i, none⟩), .int .i64 (a : Int), .pointer (some ⟨bx, ox + a * 4, none⟩), .agg (encE x).toArray, undef] 11 (by kernel_rfl) (by kernel_rfl) rfl ?_
          simp only [List.take_succ_cons, List.take_zero, List.drop_succ_cons, List.drop_zero]
          refine schain0 ?_
          refine @schain _ _ _ _ _ _ _ _ _ _ _ _ _ _ 27 (.slice (some ⟨bL, oL, none⟩) n c) (by rfl) (by rfl) (by kernel_rfl) (by rfl) (by exact fun s' W2 hW => srun_mv (by rfl) (by exact eval_base (by kernel_rfl) (by rfl)) hW) ?_
          refine @schain _ _ _ _ _ _ _ _ _ _ _ _ _ _ 28 (.int .i64 (i : Int)) (by rfl) (by rfl) (by kernel_rfl) (by rfl) (by exact fun s' W2 hW => srun_mv (by rfl) (by exact eval_base (by kernel_rfl) (by rfl)) hW) ?_
          refine @schain _ _ _ _ _ _ _ _ _ _ _ _ _ _ 29 (.pointer (some ⟨bL, oL + i, none⟩)) (by rfl) (by rfl) (by kernel_rfl) (by rfl) (by exact fun s' W2 hW => srun_ia (u := .slice (some ⟨bL, oL, none⟩) n c) (v := .int .i64 (i : Int)) (by rfl) (by exact eval_look (by kernel_rfl) (by kernel_rfl)) (by exact eval_look (by kernel_rfl) (by kernel_rfl)) (fun W => ixL _ _ _ _ _ hlt W) hW) ?_
          refine @schain _ _ _ _ _ _ _ _ _ _ _ _ _ _ 30 (.slice (some ⟨bx, ox, none⟩) q h.2.1) (by rfl) (by rfl) (by kernel_rfl) (by rfl) (by exact fun s' W2 hW => srun_ld (u := .pointer (some ⟨bL, oL + i, none⟩)) (by rfl) (by exact eval_look (by kernel_rfl) (by kernel_rfl)) (ldSlR _ _ _ _ _ _ (E3.out _ _ hW).1) hW) ?_
          refine @schain _ _ _ _ _ _ _ _ _ _ _ _ _ _ 31 (.slice (some ⟨w.heap.size, 0, none⟩) n n) (by rfl) (by rfl) (by kernel_rfl) (by rfl) (by exact fun s' W2 hW => srun_mv (by rfl) (by exact eval_base (by kernel_rfl) (by rfl)) hW) ?_
          refine @schain _ _ _ _ _ _ _ _ _ _ _ _ _ _ 32 (.int .i64 (i : Int)) (by rfl) (by rfl) (by kernel_rfl) (by rfl) (by exact fun s' W2 hW => srun_mv (by rfl) (by exact eval_base (by kernel_rfl) (by rfl)) hW) ?_
          refine @schain _ _ _ _ _ _ _ _ _ _ _ _ _ _ 33 (.pointer (some ⟨w.heap.size, 0 + i, none⟩)) (by rfl) (by rfl) (by kernel_rfl) (by rfl) (by exact fun s' W2 hW => srun_ia (u := .slice (some ⟨w.heap.size, 0, none⟩) n n) (v := .int .i64 (i : Int)) (by rfl) (by exact eval_look (by kernel_rfl) (by kernel_rfl)) (by exact eval_look (by kernel_rfl) (by kernel_rfl)) (fun W => ixI _ _ _ _ _ hlt W) hW) ?_
          refine @schain _ _ _ _ _ _ _ _ _ _ _ _ _ _ 34 (.int .i64 (a : Int)) (by rfl) (by rfl) (by kernel_rfl) (by rfl) (by exact fun s' W2 hW => srun_ld (u := .pointer (some ⟨w.heap.size, 0 + i, none⟩)) (by rfl) (by exact eval_look (by kernel_rfl) (by kernel_rfl)) (ldIR _ _ _ _ (E3.out _ _ hW).2.1) hW) ?_
          refine @schain _ _ _ _ _ _ _ _ _ _ _ _ _ _ 35 (.pointer (some ⟨bx, ox + a * 4, none⟩)) (by rfl) (by rfl) (by kernel_rfl) (by rfl) (by exact fun s' W2 hW => srun_ia (u := .slice (some ⟨bx, ox, none⟩) q h.2.1) (v := .int .i64 (a : Int)) (by rfl) (by exact eval_look (by kernel_rfl) (by kernel_rfl)) (by exact eval_look (by kernel_rfl) (by kernel_rfl)) (fun W => ixE _ _ _ _ _ haq W) hW) ?_
          refine @schain _ _ _ _ _ _ _ _ _ _ _ _ _ _ 36 (.agg (encE x).toArray) (by rfl) (by rfl) (by kernel_rfl) (by rfl) (by exact fun s' W2 hW => srun_ld (u := .pointer (some ⟨bx, ox + a * 4, none⟩)) (by rfl) (by exact eval_look (by kernel_rfl) (by kernel_rfl)) (ldER _ _ _ _ (E3.out _ _ hW).2.2) hW) ?_
          refine @schainW _ _ _ _ _ _ _ _ _ _ _ _ _ _ 7 (.pointer (some ⟨W6.heap.size, 0, none⟩)) 1 (by rfl) (by kernel_rfl) (by rfl) (by decide) (by exact fun W2 hW => by cases hW; exact srun_alW (W' := W7) (by rfl) (by rw [← hW7]; go_simp) rfl) ?_
          refine snil (fun W2 hW2 => ?_)
          cases hW2
          refine Eq.mpr (congrArg (fun a => wpList _ _ _ _ a W7) (show _ = (⟨#[Value.slice (some ⟨bL, oL, none⟩) n c, undef, u2, Value.slice (some ⟨w.heap.size, 0, none⟩) n n, Value.slice A4 np c4, u5, Value.int IntKind.i64 (i : Int), Value.pointer (some ⟨W6.heap.size, 0, none⟩), Value.slice (some ⟨bL, oL, none⟩) n c, Value.int IntKind.i64 (n : Int), Value.slice (some ⟨w.heap.size, 0, none⟩) n n, Value.int IntKind.i64 (i : Int), Value.slice (some ⟨bL, oL, none⟩) n c, Value.int IntKind.i64 (n : Int), Value.bool true, u15, u16, Value.slice (some ⟨w.heap.size, 0, none⟩) n n, Value.int IntKind.i64 (i : Int), Value.pointer (some ⟨w.heap.size, i, none⟩), Value.int IntKind.i64 (a : Int), Value.slice (some ⟨bL, oL, none⟩) n c, Value.int IntKind.i64 (i : Int), Value.pointer (some ⟨bL, oL + i, none⟩), Value.slice (some ⟨bx, ox, none⟩) q h.snd.fst, Value.int IntKind.i64 (q : Int), Value.bool (decide (q ≤ a)), Value.slice (some ⟨bL, oL, none⟩) n c, Value.int IntKind.i64 (i : Int), Value.pointer (some ⟨bL, oL + i, none⟩), Value.slice (some ⟨bx, ox, none⟩) q h.snd.fst, Value.slice (some ⟨w.heap.size, 0, none⟩) n n, Value.int IntKind.i64 (i : Int), Value.pointer (some ⟨w.heap.size, 0 + i, none⟩), Value.int IntKind.i64 (a : Int), Value.pointer (some ⟨bx, ox + a * 4, none⟩), Value.agg (encE x).toArray, u37, u38, u39, u40, u41, u42, u43, u44, u45, u46, u47, u48, u49, u50, u51, u52, u53, u54, u55, u56, u57, u58, u59, u60, u61, u62, u63, u64, u65, u66, u67, u68, u69, u70, u71, u72, u73, u74, u75, u76, u77, u78, u79, u80, u81, u82, u83, u84, u85, u86, u87, u88, u89, u90], []⟩ : Act) by kernel_rfl)) ?_
          go_wp2_with fail
          obtain ⟨W8, hW8⟩ : ∃ Z, W7.setRow W6.heap.size (encE x).toArray = Z := ⟨_, rfl⟩
          rw [hW8] at HB8 HR8 ⊢
          have HB58 := Lib.hid (HBQ6.out.trans (HB8.out.mono HBQ6.out.size))
          have x0 : W8.cell? ⟨W6.heap.size, 0, none⟩ = some (.string x.1) := (blk_cell HR8.out 0).trans rfl
          have x1 : W8.cell? ⟨W6.heap.size, 1, none⟩ = some (.int .u64 x.2.1) := (blk_cell HR8.out 1).trans rfl
          clear hst HB8 HR8 HB7 E3 hW7 hW8 Y0 A0 HX6 HBQ6
          rcases HBE.out with ⟨rfl, hnone⟩ | ⟨m, e, t, rfl, hm, hRm, hmin⟩
          · have HN2 := Lib.hid (bestR_first hnone HRI.out)
            clear HBE hnone
            go_quiet (fail)
            have HBN := Lib.hid (HB58.out.trans ((Upd.drewN (S := fun _ => False) W8 nq).bel (fun _ h => h.elim) HB58.out.size))
            go_wp2_with fail
            go_roundw
            case rel => exact ⟨i + 1, by first | rfl | simp, by omega, HN2.out, HBN.out⟩
            case measure => simp [intOf]; omega
          · have hmn : m < n := by omega
            obtain ⟨h2, a2, _, _, hA2, _, _, _, ha2, hR2, hcells2⟩ := HAT.out m hmn
            injection hA2 with hA2
            injection hA2 with hA2 hA3
            subst hA2; subst hA3
            obtain ⟨q2, hq2⟩ : ∃ q, h2.2.2.length = q := ⟨_, rfl⟩
            have he : h2.2.2[a2]? = some e := by
              rw [hRm] at hR2
              injection hR2 with hR2
              have := congrArg (fun l => l[0]?) hR2
              simpa using this.symm
            have ha2q : a2 < q2 := by rw [← hq2]; exact (List.getElem?_eq_some_iff.1 he).1
            obtain ⟨w0, w1, wsl⟩ := hcells2 W8 HB58.out
            obtain ⟨be, oe, ee, _, hce⟩ := wsl.at he
            rw [hq2, ee] at w0
            have e0 : W8.cell? ⟨be, oe + a2 * 4, none⟩ = some (.string e.1) := hce 0 _ rfl
            have e1 : W8.cell? ⟨be, oe + a2 * 4 + 1, none⟩ = some (.int .u64 e.2.1) := hce 1 _ rfl
            have m0 : (0 : Int) ≤ m := by omega
            have m1 : (m : Int) < n := by omega
            have m2 : ¬ (m : Int) < 0 := by omega
            have m3 : (0 : Int) ≤ a2 := by omega
            have m4 : (a2 : Int) < q2 := by omega
            clear hce wsl hq2 hcells2 hR2 ee ha2
            by_cases hxe : ltE x e
            · have HAH := Lib.hid (fun (W : World) => (refAhead_c x e W).mono fun en w' hh => show en = .returned (.bool true) ∧ w' = W from ⟨by rw [hh.1, decide_eq_true hxe], hh.2.symm⟩)
              have HN2 := Lib.hid (bestR_less (t := t) hm hmin HRI.out hxe)
              clear HBE hxe hmin hRm he
              go_quiet ((go_at_call 57; exact Calls.quiet_of_same (HAH.out _)))
              have HBN := Lib.hid (HB58.out.trans ((Upd.drewN (S := fun _ => False) W8 nq).bel (fun _ h => h.elim) HB58.out.size))
              go_wp2_with fail
              go_roundw
              case rel => exact ⟨i + 1, by first | rfl | simp, by omega, HN2.out, HBN.out⟩
              case measure => simp [intOf]; omega
            · have HAH := Lib.hid (fun (W : World) => (refAhead_c x e W).mono fun en w' hh => show en = .returned (.bool false) ∧ w' = W from ⟨by rw [hh.1, decide_eq_false hxe], hh.2.symm⟩)
              have HN2 := Lib.hid (bestR_keep hm hRm hmin HRI.out hxe)
              clear HBE hxe hmin hRm he
              go_quiet ((go_at_call 57; exact Calls.quiet_of_same (HAH.out _)))
              have HBN := Lib.hid (HB58.out.trans ((Upd.drewN (S := fun _ => False) W8 nq).bel (fun _ h => h.elim) HB58.out.size))
              go_wp2_with fail
              go_roundw
              case rel => exact ⟨i + 1, by first | rfl | simp, by omega, HN2.out, HBN.out⟩
              case measure => simp [intOf]; omega
        · have hge : (q : Int) ≤ a := by omega
          have HN2 := Lib.hid (bestR_skip HBE.out (by rw [hRi, List.drop_eq_nil_of_le (by omega)]))
          clear hRi hcells hh hl ha hsl HBE
          go_wp2_with fail
          go_quiet (fail)
          have HBN := Lib.hid (HBQ.out.trans ((Upd.drewN (S := fun _ => False) Wq nq).bel (fun _ h => h.elim) HBQ.out.size))
          go_wp2_with fail
          go_roundw
          case rel => exact ⟨i + 1, by first | rfl | simp, by omega, HN2.out, HBN.out⟩
          case measure => simp [intOf]; omega
      · have e : n = i := by omega
        have hend := bestR_end (show BestR R R.length _ from by rw [HRN.out, e]; exact HBE.out)
        subst e
        clear HBE hi
        rcases hend with ⟨rfl, hmz⟩ | ⟨m, e, t, rfl, hm, hRm, hbo⟩
        · have HE := Lib.hid (show mergeL ls = p from by rw [← HP.out, hmz, List.append_nil])
          have HO2 := Lib.hid (HO.out.below HBQ.out)
          have HBF := Lib.hid (HB.out.trans (HBQ.out.mono HB.out.size))
          clear hmz HBQ
          go_wp2_with fail
          go_ret
          rw [HE.out]
          exact ⟨_, rfl, HO2.out, HBF.out⟩
        · rw [HRN.out] at hm
          obtain ⟨h, a, bL, oL, hA, hh, hl, ha, haq', hRi, hcells⟩ := HAT.out m hm
          subst hA
          obtain ⟨q, hq⟩ : ∃ q, h.2.2.length = q := ⟨_, rfl⟩
          have he : h.2.2[a]? = some e := by
            rw [hRm] at hRi
            injection hRi with hRi
            have := congrArg (fun l => l[0]?) hRi
            simpa using this.symm
          have haq : a < q := by rw [← hq]; exact (List.getElem?_eq_some_iff.1 he).1
          have htt : t = h.2.2.drop (a + 1) := by
            rw [hRm, drop_atR he] at hRi
            injection hRi with hRi
            injection hRi with _ hRi
          obtain ⟨y0, a0, hsl⟩ := hcells Wq HBQ.out
          obtain ⟨bx, ox, ex, _, hcx⟩ := hsl.at he
          rw [hq, ex] at y0
          have ba := blk_below HBA.out HBQ.out
          have HRS := Lib.hid (show mergeL R = e :: mergeL (restA ls (ats.set m (a + 1))) from by rw [mergeL_step hbo, restA_set hl (a + 1) (by rw [HAL.out]; exact hm), HRR.out, htt])
          have HLE2 := Lib.hid (show ∀ (k a' : Nat) (l : List Ent), (ats.set m (a + 1))[k]? = some a' → ls[k]? = some l → a' ≤ l.length from fun k a' l h1 h2 => by
            by_cases ek : m = k
            · subst ek
              rw [List.getElem?_set_self (by rw [HAL.out]; exact hm)] at h1
              injection h1 with h1
              rw [hl] at h2
              injection h2 with h2
              rw [← h1, ← h2, hq]
              omega
            · rw [List.getElem?_set_ne ek] at h1
              exact HLE.out k a' l h1 h2)
          have hbig : a < 1000001 := by
            have h1 := HNL.out
            have h2 := HLT.out
            have h3 := totL_le hl
            omega
          have m0 : (0 : Int) ≤ m := by omega
          have m1 : (m : Int) < n := by omega
          have m2 : ¬ (m : Int) < 0 := by omega
          have A0 := Lib.hid a0
          have Y0 := Lib.hid y0
          have HX4 := Lib.hid (show ∀ j v, (encE e)[j]? = some v → Wq.cell? ⟨bx, ox + a * 4 + j, none⟩ = some v from hcx)
          have HBAQ := Lib.hid ba
          have HOQ := Lib.hid (HO.out.below HBQ.out)
          obtain ⟨W7, hW7⟩ : ∃ Z, Wq.drew.alloc (.cells #[.string e.1, .int .u64 e.2.1, .bool e.2.2.1, .string e.2.2.2] 53) = Z := ⟨_, rfl⟩
          have hb7 : Below Wq.heap.size Wq W7 := by rw [← hW7]; exact ((Below.refl _ _).drew).alloc (Nat.le_refl _) _
          have E3 := Lib.hid (show ∀ (s' : Nat) (W : World), AtW [Wq.drew, W7] s' W → W.cell? ⟨bL, oL + m, none⟩ = some (.slice (some ⟨bx, ox, none⟩) q h.2.1) ∧ W.cell? ⟨w.heap.size, 0 + m, none⟩ = some (.int .i64 (a : Int)) ∧ ∀ j v, (encE e)[j]? = some v → W.cell? ⟨bx, ox + a * 4 + j, none⟩ = some v from fun s' W hW => by
            rw [Nat.zero_add]
            match s', hW with
            | 0, hW => cases hW; exact ⟨Y0.out, A0.out, HX4.out⟩
            | 1, hW => cases hW; exact ⟨cell_later hb7 Y0.out, cell_later hb7 A0.out, fun j v hv => cell_later hb7 (HX4.out j v hv)⟩)
          have HB7 := Lib.hid hb7
          clear hb7 hcx hsl hcells hRi hRm hbo hh hl ha htt a0 y0 ba ex hq he
          go_wp2_with fail
          refine wp_region_step (AtW [Wq.drew, W7]) (· ≤ ·) Nat.le_refl (fun _ _ _ => Nat.le_trans) 0 [0, 0, 0, 0, 0, 0, 0, 0, 0, 0, 0, 2] [.slice A4 np c4, .slice (some ⟨bL, oL, none⟩) n c, .int .i64 (m : Int), .pointer (some ⟨bL, oL + m, none⟩), .slice (some ⟨bx, ox, none⟩) q h.2.1, .slice (some ⟨w.heap.size, 0, none⟩) n n, .int .i64 (m : Int), .pointer (some ⟨w.heap.size, 0 + m, none⟩), .int .i64 (a : Int), .pointer (some ⟨bx, ox + a * 4, none⟩), .agg (encE e).toArray, undef] 12 (by kernel_rfl) (by kernel_rfl) rfl ?_
          simp only [List.take_succ_cons, List.take_zero, List.drop_succ_cons, List.drop_zero]
          refine schain0 ?_
          refine @schain _ _ _ _ _ _ _ _ _ _ _ _ _ _ 72 (.slice A4 np c4) (by rfl) (by rfl) (by kernel_rfl) (by rfl) (by exact fun s' W2 hW => srun_mv (by rfl) (by exact eval_base (by kernel_rfl) (by rfl)) hW) ?_
          refine @schain _ _ _ _ _ _ _ _ _ _ _ _ _ _ 73 (.slice (some ⟨bL, oL, none⟩) n c) (by rfl) (by rfl) (by kernel_rfl) (by rfl) (by exact fun s' W2 hW => srun_mv (by rfl) (by exact eval_base (by kernel_rfl) (by rfl)) hW) ?_
          refine @schain _ _ _ _ _ _ _ _ _ _ _ _ _ _ 74 (.int .i64 (m : Int)) (by rfl) (by rfl) (by kernel_rfl) (by rfl) (by exact fun s' W2 hW => srun_mv (by rfl) (by exact eval_base (by kernel_rfl) (by rfl)) hW) ?_
          refine @schain _ _ _ _ _ _ _ _ _ _ _ _ _ _ 75 (.pointer (some ⟨bL, oL + m, none⟩)) (by rfl) (by rfl) (by kernel_rfl) (by rfl) (by exact fun s' W2 hW => srun_ia (u := .slice (some ⟨bL, oL, none⟩) n c) (v := .int .i64 (m : Int)) (by rfl) (by exact eval_look (by kernel_rfl) (by kernel_rfl)) (by exact eval_look (by kernel_rfl) (by kernel_rfl)) (fun W => ixL _ _ _ _ _ hm W) hW) ?_
          refine @schain _ _ _ _ _ _ _ _ _ _ _ _ _ _ 76 (.slice (some ⟨bx, ox, none⟩) q h.2.1) (by rfl) (by rfl) (by kernel_rfl) (by rfl) (by exact fun s' W2 hW => srun_ld (u := .pointer (some ⟨bL, oL + m, none⟩)) (by rfl) (by exact eval_look (by kernel_rfl) (by kernel_rfl)) (ldSlR _ _ _ _ _ _ (E3.out _ _ hW).1) hW) ?_
          refine @schain _ _ _ _ _ _ _ _ _ _ _ _ _ _ 77 (.slice (some ⟨w.heap.size, 0, none⟩) n n) (by rfl) (by rfl) (by kernel_rfl) (by rfl) (by exact fun s' W2 hW => srun_mv (by rfl) (by exact eval_base (by kernel_rfl) (by rfl)) hW) ?_
          refine @schain _ _ _ _ _ _ _ _ _ _ _ _ _ _ 78 (.int .i64 (m : Int)) (by rfl) (by rfl) (by kernel_rfl) (by rfl) (by exact fun s' W2 hW => srun_mv (by rfl) (by exact eval_base (by kernel_rfl) (by rfl)) hW) ?_
          refine @schain _ _ _ _ _ _ _ _ _ _ _ _ _ _ 79 (.pointer (some ⟨w.heap.size, 0 + m, none⟩)) (by rfl) (by rfl) (by kernel_rfl) (by rfl) (by exact fun s' W2 hW => srun_ia (u := .slice (some ⟨w.heap.size, 0, none⟩) n n) (v := .int .i64 (m : Int)) (by rfl) (by exact eval_look (by kernel_rfl) (by kernel_rfl)) (by exact eval_look (by kernel_rfl) (by kernel_rfl)) (fun W => ixI _ _ _ _ _ hm W) hW) ?_
          refine @schain _ _ _ _ _ _ _ _ _ _ _ _ _ _ 80 (.int .i64 (a : Int)) (by rfl) (by rfl) (by kernel_rfl) (by rfl) (by exact fun s' W2 hW => srun_ld (u := .pointer (some ⟨w.heap.size, 0 + m, none⟩)) (by rfl) (by exact eval_look (by kernel_rfl) (by kernel_rfl)) (ldIR _ _ _ _ (E3.out _ _ hW).2.1) hW) ?_
          refine @schain _ _ _ _ _ _ _ _ _ _ _ _ _ _ 81 (.pointer (some ⟨bx, ox + a * 4, none⟩)) (by rfl) (by rfl) (by kernel_rfl) (by rfl) (by exact fun s' W2 hW => srun_ia (u := .slice (some ⟨bx, ox, none⟩) q h.2.1) (v := .int .i64 (a : Int)) (by rfl) (by exact eval_look (by kernel_rfl) (by kernel_rfl)) (by exact eval_look (by kernel_rfl) (by kernel_rfl)) (fun W => ixE _ _ _ _ _ haq W) hW) ?_
          refine @schain _ _ _ _ _ _ _ _ _ _ _ _ _ _ 82 (.agg (encE e).toArray) (by rfl) (by rfl) (by kernel_rfl) (by rfl) (by exact fun s' W2 hW => srun_ld (u := .pointer (some ⟨bx, ox + a * 4, none⟩)) (by rfl) (by exact eval_look (by kernel_rfl) (by kernel_rfl)) (ldER _ _ _ _ (E3.out _ _ hW).2.2) hW) ?_
          refine @schainW _ _ _ _ _ _ _ _ _ _ _ _ _ _ 83 (.slice (some ⟨Wq.heap.size, 0, none⟩) 1 1) 1 (by rfl) (by kernel_rfl) (by rfl) (by decide) (by exact fun W2 hW => by cases hW; exact srun_bsW (W' := W7) (vs := #[(0, .agg (encE e).toArray)]) (by rfl) (by kernel_rfl) (by rw [← hW7]; unfold encE; go_simp) rfl) ?_
          refine snil (fun W2 hW2 => ?_)
          cases hW2
          refine Eq.mpr (congrArg (fun a => wpList _ _ _ _ a W7) (show _ = (⟨#[Value.slice (some ⟨bL, oL, none⟩) n c, undef, u2, Value.slice (some ⟨w.heap.size, 0, none⟩) n n, Value.slice A4 np c4, Value.int IntKind.i64 (m : Int), Value.int IntKind.i64 (n : Int), u7, Value.slice (some ⟨bL, oL, none⟩) n c, Value.int IntKind.i64 (n : Int), Value.slice (some ⟨w.heap.size, 0, none⟩) n n, Value.int IntKind.i64 (n : Int), Value.slice (some ⟨bL, oL, none⟩) n c, Value.int IntKind.i64 (n : Int), Value.bool false, u15, u16, u17, u18, u19, u20, u21, u22, u23, u24, u25, u26, u27, u28, u29, u30, u31, u32, u33, u34, u35, u36, u37, u38, u39, u40, u41, u42, u43, u44, u45, u46, u47, u48, u49, u50, u51, u52, u53, u54, u55, u56, u57, u58, u59, u60, u61, u62, u63, u64, u65, u66, u67, u68, Value.int IntKind.i64 (m : Int), Value.bool false, u71, Value.slice A4 np c4, Value.slice (some ⟨bL, oL, none⟩) n c, Value.int IntKind.i64 (m : Int), Value.pointer (some ⟨bL, oL + m, none⟩), Value.slice (some ⟨bx, ox, none⟩) q h.snd.fst, Value.slice (some ⟨w.heap.size, 0, none⟩) n n, Value.int IntKind.i64 (m : Int), Value.pointer (some ⟨w.heap.size, 0 + m, none⟩), Value.int IntKind.i64 (a : Int), Value.pointer (some ⟨bx, ox + a * 4, none⟩), Value.agg (encE e).toArray, Value.slice (some ⟨Wq.heap.size, 0, none⟩) 1 1, u84, u85, u86, u87, u88, u89, u90], []⟩ : Act) by kernel_rfl)) ?_
          have hsq := HB.out.size
          have hsq2 := HBQ.out.size
          go_wp2_with (at_builtin; refine wpList_app rfl (.tmp 72) (.tmp 83) rfl uSlE infoE rfl (by decide) (by decide) okE (.slice A4 np c4) p rfl (base := w.heap.size) ?c1 (some ⟨Wq.heap.size, 0, none⟩) 1 [e] rfl ?c2 ?c3 ?c4 ?_)
          case c1 => exact HOQ.out.below HB7.out
          case c2 => have := Sl.one okE Wq.drew e 53 (cs := #[.string e.1, .int .u64 e.2.1, .bool e.2.2.1, .string e.2.2.2]) rfl; rw [hW7] at this; exact this
          case c3 => have h1 := HNL.out; have h2 := HLT.out; have h3 := HNP.out; simp; omega
          case c4 => have := HB7.out.size; omega
          intro v1 w1 ho1 hg1 hat1
          obtain ⟨A5, k5, rfl⟩ := own_slice ho1
          have hob := HOB.out
          have hs7 := HB7.out.size
          have hba1 : w1.heap[w.heap.size]? = some (.cells (intsC ats) 3 (0, 0)) := blk_grown (blk_below HBAQ.out HB7.out) hg1 (fun h => hob h.symm)
          have hlt0 : w.heap.size < W5.heap.size := blk_lt HBA.out
          have hob2 : (Value.slice A5 (p ++ [e]).length k5).ownBlock ≠ some w.heap.size := fun hk => by
            rcases hat1 with h1 | h1
            · exact hob (by rw [← h1]; exact hk)
            · rw [h1] at hk; injection hk with hk; omega
          have c0 : w1.cell? ⟨w.heap.size, m, none⟩ = some (.int .i64 (a : Int)) := (blk_cell hba1 m).trans ((blk_cell HBAQ.out m).symm.trans A0.out)
          have f0 : w1.frozen? ⟨w.heap.size, m, none⟩ = false := blk_frozen hba1 m
          have hwr : IntKind.i64.wrap ((a : Int) + 1) = ((a + 1 : Nat) : Int) := by rw [IntKind.wrap_i64]; omega
          have s0 := blk_set hba1 m (.int .i64 ((a + 1 : Nat) : Int))
          rw [intsC_set] at s0
          have u0 : Upd (fun k => k = w.heap.size) w1 (w1.setCell ⟨w.heap.size, m, none⟩ (.int .i64 ((a + 1 : Nat) : Int))) := Upd.setCell _ _ _ rfl
          have HFIN := Lib.hid (show Own encE 53 4 (w1.setCell ⟨w.heap.size, m, none⟩ (.int .i64 ((a + 1 : Nat) : Int))) w.heap.size (.slice A5 (p ++ [e]).length k5) (p ++ [e]) ∧ Below w.heap.size w (w1.setCell ⟨w.heap.size, m, none⟩ (.int .i64 ((a + 1 : Nat) : Int))) from ⟨ho1.upd u0 (fun k hk h => hob2 (by rw [hk, h])), (((HB.out.trans (HBQ.out.mono HB.out.size)).trans (HB7.out.mono (by omega))).trans ((Upd.of_grown (S := fun j => (Value.slice A4 np c4).ownBlock = some j) hg1 (fun j hj => hj)).bel (fun j hj => (HO.out.block_lt hj).1) (by omega))).trans (u0.bel (fun k hk => by rw [hk]; exact Nat.le_refl _) (Nat.le_of_lt (blk_lt hba1)))⟩)
          have HS0 := Lib.hid s0
          have HOB2 := Lib.hid hob2
          have HPP := Lib.hid (show p ++ [e] ++ mergeL (restA ls (ats.set m (a + 1))) = mergeL ls from by rw [List.append_assoc]; show p ++ (e :: mergeL _) = _; rw [← HRS.out, HP.out])
          clear ho1 hg1 hat1 hba1 s0 u0 hob hob2
          have elen : (p ++ [e]).length = np + 1 := by simp [HNP.out]
          rw [elen] at HFIN HOB2 ⊢
          go_wp2_with fail
          go_roundw
          case rel => exact ⟨ats.set m (a + 1), p ++ [e], by rw [List.length_set, HAL.out], HFIN.out.1, HOB2.out, HPP.out, HS0.out, HLE2.out, HFIN.out.2⟩
          case measure => have := HNL.out; simp [lenOf]; omega
end Go.Proofs.Ytdpijhpjicbecaa.H
