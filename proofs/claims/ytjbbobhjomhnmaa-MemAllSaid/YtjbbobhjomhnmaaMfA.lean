/- The law's late iterators (screelaw6): keeps, now, place (printed by genmfa.py). Conditions: sizes. -/
import Derived.Test.YtjbbobhjomhnmaaMf9
import Derived.Test.YtjbbobhjomhnmaaSkA0
namespace Go.Proofs.Ytjbbobhjomhnmaa.H
open Go Go.RowKit Go.Deep Go.Shelf Go.Proofs Go.Proofs.YtjbbobhjomhnmaaW.PrintWords
set_option linter.unusedVariables false
set_option linter.unusedSimpArgs false
/-- The iterators that are kept: of All, of From; their blocks begin at b. -/
def keptV6 (b : Nat) (wh : Bool) : Value := if wh then keptV b else .func (.func 93) #[] #[.pointer (some ⟨b, 0, none⟩), .pointer (some ⟨b + 1, 0, none⟩), .pointer (some ⟨b + 1 + 1, 0, none⟩)]
structure KeptF (W : World) (b t : Nat) (k : ByteArray) (q : Int) : Prop where
  g0 : W.heap[b]? = some (.cells #[.pointer (some ⟨t, 0, none⟩)] 81 (0, 0))
  k0 : W.heap[b + 1]? = some (.cells #[.string k] 9 (0, 0))
  q0 : W.heap[b + 1 + 1]? = some (.cells #[.int .u64 q] 51 (0, 0))
def KeptAt6 (W : World) (b : Nat) (wh : Bool) (t g : Nat) (k : ByteArray) (q : Int) : Prop := if wh then KeptAt W b g ⟨#[]⟩ 18446744073709551615 else KeptF W b t k q
theorem KeptAt6.upd {W W' : World} {T : Nat → Prop} {b t g : Nat} {wh : Bool} {k : ByteArray} {q : Int} (h : KeptAt6 W b wh t g k q) (hu : Upd T W W') (hT : ¬ T b ∧ ¬ T (b + 1) ∧ ¬ T (b + 1 + 1)) : KeptAt6 W' b wh t g k q := by
  cases wh with
  | true => exact KeptAt.upd h hu hT
  | false => exact ⟨hu.heap (KeptF.g0 h) hT.1, hu.heap (KeptF.k0 h) hT.2.1, hu.heap (KeptF.q0 h) hT.2.2⟩
theorem KeptAt6.later {W W' : World} {b t g : Nat} {wh : Bool} {k : ByteArray} {q : Int} (h : KeptAt6 W b wh t g k q) (hb : Below W.heap.size W W') : KeptAt6 W' b wh t g k q :=
  h.upd (T := fun _ => False) (Upd.of_below hb) ⟨fun h => h, fun h => h, fun h => h⟩
theorem KeptAt6.lt {W : World} {b t g : Nat} {wh : Bool} {k : ByteArray} {q : Int} (h : KeptAt6 W b wh t g k q) : b + 1 + 1 < W.heap.size := by
  cases wh with
  | true => exact blk_lt (KeptAt.q0 h)
  | false => exact blk_lt (KeptF.q0 h)
/-- What a kept iterator gives. -/
def keptL (wh : Bool) (k : ByteArray) (q : Int) (es : List Ent) : List Ent := if wh then es else fromT k q es
theorem kept6_it {W : World} {b t g m r : Nat} {wh : Bool} {k : ByteArray} {q : Int} {S R : Nat → Prop} {draws : List Int} {M : MemV} (h : KeptAt6 W b wh t g k q) (hp : Pair6 W t g m r S R draws M) : WF.ok W (WF.it (keptV6 b wh) (keptL wh k q (allE M.L))) := by
  cases wh with
  | true =>
    have := kept_it (show KeptAt W b g ⟨#[]⟩ 18446744073709551615 from h) hp.mt.list
    rw [notAhead0 (fun x hx => (hp.sum.small x hx).2.2.2)] at this
    exact ⟨_, this, Nat.le_refl _⟩
  | false =>
    have h2 : KeptF W b t k q := h
    refine ⟨W.heap.size, ⟨_, _, rfl, enters_of Try.func93 (by kernel_rfl) rfl, fun W' hW => ?_⟩, Nat.le_refl _⟩
    exact mfrom1_it W W' t g S draws M k q hW hp.mt _ _ _ ((blk_cell h2.g0 0).trans rfl) ((blk_cell h2.k0 0).trans rfl) ((blk_cell h2.q0 0).trans rfl)
theorem keepf6_c (t g : Nat) (k : ByteArray) (q : Int) (w : World) :
    Calls Try.prog 44 #[.pointer (some ⟨t, 0, none⟩), .string k, .int .u64 q] w fun e w' => e = .returned (keptV6 w.heap.size false) ∧ KeptAt6 w' w.heap.size false t g k q ∧ Below w.heap.size w w' := by
  refine (mfrom_c (some ⟨t, 0, none⟩) k q w).mono ?_
  rintro e w' ⟨rfl, rfl⟩
  refine ⟨rfl, (⟨?_, ?_, ?_⟩ : KeptF _ _ _ _ _), (((Below.refl _ _).alloc (Nat.le_refl _) _).alloc (by simp) _).alloc (by simp; omega) _⟩
  · exact blk_alloc (blk_alloc (heap_alloc_new _ _) _) _
  · exact blk_alloc (by simpa using heap_alloc_new (w.alloc (.cells #[.pointer (some ⟨t, 0, none⟩)] 81)) (.cells #[.string k] 9)) _
  · simpa using heap_alloc_new ((w.alloc (.cells #[.pointer (some ⟨t, 0, none⟩)] 81)).alloc (.cells #[.string k] 9)) (.cells #[.int .u64 q] 51)
set_option maxHeartbeats 1000000 in
theorem keepa6_c {t g : Nat} {S : Nat → Prop} {draws : List Int} {M : MemV} {w : World} (h : MemIs w t g S draws M) (k : ByteArray) (q : Int) :
    Calls Try.prog 37 #[.pointer (some ⟨t, 0, none⟩)] w fun e w' => e = .returned (keptV6 w.heap.size true) ∧ KeptAt6 w' w.heap.size true t g k q ∧ Below w.heap.size w w' := by
  obtain ⟨⟨t0, t1, t2, t3⟩, _⟩ := h.cells
  have HF := Lib.hid (keep_c g ⟨#[]⟩ 18446744073709551615 w)
  clear h
  go_enter Try.func37, Try.ntmps37
  go_wp2_with fail
  refine HF.out.mono ?_
  rintro e w' ⟨rfl, hk, hb⟩
  have HK := Lib.hid hk
  have HB := Lib.hid hb
  clear hk hb
  go_wp2
  go_ret
  exact ⟨rfl, HK.out, HB.out⟩
abbrev lateV6 (fv : Value) (t m : Nat) (o : Op6) : Array Value := #[fv, .pointer (some ⟨t, 0, none⟩), .pointer (some ⟨m, 0, none⟩), .int .i64 o.kd, .bool o.sec, .int .u64 o.at_, .string o.key, .slice o.A o.L.length o.c, .int .i64 o.n]
theorem buildLate6_run (b : Nat) (wh : Bool) (t m : Nat) (o : Op6) (W : World) : (Instr.build 112 #[(0, keptV6 b wh), (1, .agg #[.pointer (some ⟨t, 0, none⟩), .pointer (some ⟨m, 0, none⟩)]), (2, .agg (encO6 o).toArray)]).run Try.prog W = .ok (.agg (lateV6 (keptV6 b wh) t m o)) W := by
  cases wh <;> (unfold keptV6 encO6; go_simp)
theorem sliceLate6_run (fv : Value) (t m : Nat) (o : Op6) (W : World) : (Instr.buildSlice 106 1 #[(0, .agg (lateV6 fv t m o))]).run Try.prog W = .ok (.slice (some ⟨W.heap.size, 0, none⟩) 1 1) (W.alloc (.cells (lateV6 fv t m o) 112)) := by
  go_simp
theorem ldSeq (b j : Nat) (f : Value) (W : World) (h : W.cell? ⟨b, j, none⟩ = some f) : (Instr.loadAt 58 (.pointer (some ⟨b, j, none⟩))).run Try.prog W = .ok f W := by
  go_simp
theorem ldPair6 (b p q : Nat) (W : World) (h0 : W.cell? ⟨b, 0, none⟩ = some (.pointer (some ⟨p, 0, none⟩))) (h1 : W.cell? ⟨b, 1, none⟩ = some (.pointer (some ⟨q, 0, none⟩))) : (Instr.loadAt 105 (.pointer (some ⟨b, 0, none⟩))).run Try.prog W = .ok (.agg #[.pointer (some ⟨p, 0, none⟩), .pointer (some ⟨q, 0, none⟩)]) W := by
  go_simp
theorem ldOp6 (b : Nat) (W : World) (o : Op6) (h : W.heap[b]? = some (.cells (encO6 o).toArray 108 (0, 0))) : (Instr.loadAt 108 (.pointer (some ⟨b, 0, none⟩))).run Try.prog W = .ok (.agg (encO6 o).toArray) W := by
  have h0 : W.cell? ⟨b, 0, none⟩ = some (.int .i64 o.kd) := (blk_cell h 0).trans rfl
  have h1 : W.cell? ⟨b, 1, none⟩ = some (.bool o.sec) := (blk_cell h 1).trans rfl
  have h2 : W.cell? ⟨b, 2, none⟩ = some (.int .u64 o.at_) := (blk_cell h 2).trans rfl
  have h3 : W.cell? ⟨b, 3, none⟩ = some (.string o.key) := (blk_cell h 3).trans rfl
  have h4 : W.cell? ⟨b, 4, none⟩ = some (.slice o.A o.L.length o.c) := (blk_cell h 4).trans rfl
  have h5 : W.cell? ⟨b, 5, none⟩ = some (.int .i64 o.n) := (blk_cell h 5).trans rfl
  clear h
  unfold encO6
  go_simp
/-- An iterator that was kept. -/
structure KL6 where
  b : Nat
  wh : Bool
  sec : Bool
  o : Op6
def encL6 (ta ma tb mb : Nat) (x : KL6) : List Value := (lateV6 (keptV6 x.b x.wh) (pick2 x.sec ta tb) (pick2 x.sec ma mb) x.o).toList
theorem okL6 (ta ma tb mb : Nat) : EncOk (encL6 ta ma tb mb) 9 := fun x => ⟨rfl, by cases hw : x.wh <;> simp [encL6, lateV6, keptV6, hw, Value.oneCell']⟩
theorem infoL6 : (Try.prog.info? 112).map (fun i => (i.zero, i.size, i.bytes)) = some (some (.agg #[.nilFunc, .pointer none, .pointer none, .int .i64 0, .bool false, .int .u64 0, .string ByteArray.empty, .slice none 0 0, .int .i64 0]), 9, 96) := by kernel_rfl
theorem uSlL6 : Try.prog.underlying 106 = some (.slice 112) := Try.underlying106
/-- The call and the list of one, on the way to keep what was answered. -/
def KeepR6 (w : World) (wh : Bool) (t g m : Nat) (o : Op6) (s : Option (Nat × Option Nat)) (W : World) : Prop := Below w.heap.size w W ∧ match s with
  | none => True
  | some (b, none) => KeptAt6 W b wh t g o.key o.at_ ∧ w.heap.size ≤ b
  | some (b, some bs) => KeptAt6 W b wh t g o.key o.at_ ∧ w.heap.size ≤ b ∧ W.heap[bs]? = some (.cells (lateV6 (keptV6 b wh) t m o) 112 (0, 0)) ∧ w.heap.size ≤ bs
theorem keep6_f {w : World} {t g m : Nat} {o : Op6} {W : World} (hW : KeepR6 w false t g m o none W) :
    Calls Try.prog 44 #[.pointer (some ⟨t, 0, none⟩), .string o.key, .int .u64 o.at_] W fun en W' => ∃ v, en = .returned v ∧ ∃ s', (∃ b, v = keptV6 b false ∧ s' = some (b, none)) ∧ KeepR6 w false t g m o s' W' :=
  (keepf6_c t g o.key o.at_ W).mono fun en W' ⟨he, hk, hb⟩ => ⟨_, he, _, ⟨_, rfl, rfl⟩, hW.1.trans (hb.mono hW.1.size), hk, hW.1.size⟩
theorem keep6_a {w : World} {t g m r : Nat} {S R : Nat → Prop} {draws : List Int} {M : MemV} {o : Op6} {W : World} (hp : Pair6 w t g m r S R draws M) (hW : KeepR6 w true t g m o none W) :
    Calls Try.prog 37 #[.pointer (some ⟨t, 0, none⟩)] W fun en W' => ∃ v, en = .returned v ∧ ∃ s', (∃ b, v = keptV6 b true ∧ s' = some (b, none)) ∧ KeepR6 w true t g m o s' W' :=
  (keepa6_c (hp.later hW.1).mt o.key o.at_).mono fun en W' ⟨he, hk, hb⟩ => ⟨_, he, _, ⟨_, rfl, rfl⟩, hW.1.trans (hb.mono hW.1.size), hk, hW.1.size⟩
theorem keep6_bs {w : World} {wh : Bool} {t g m b : Nat} {o : Op6} {W : World} (hW : KeepR6 w wh t g m o (some (b, none)) W) :
    ∃ s', (∃ bs, Value.slice (some ⟨W.heap.size, 0, none⟩) 1 1 = .slice (some ⟨bs, 0, none⟩) 1 1 ∧ s' = some (b, some bs)) ∧ KeepR6 w wh t g m o s' (W.alloc (.cells (lateV6 (keptV6 b wh) t m o) 112)) :=
  ⟨_, ⟨W.heap.size, rfl, rfl⟩, hW.1.alloc hW.1.size _, hW.2.1.later ((Below.refl _ _).alloc (Nat.le_refl _) _), hW.2.2, heap_alloc_new _ _, hW.1.size⟩
set_option maxHeartbeats 6400000 in
set_option maxRecDepth 100000 in
theorem now6_c {w : World} {b t g m r : Nat} {S R : Nat → Prop} {draws : List Int} {M : MemV} (o : Op6) (h : Pair6 w t g m r S R draws M) (hl : M.L.length ≤ 100000) (hk : KeptAt6 w b (decide (o.kd = 10)) t g o.key o.at_) :
    Calls Try.prog 51 #[.agg (lateV6 (keptV6 b (decide (o.kd = 10))) t m o)] w fun en w' => en = .returned (.bool true) ∧ Below w.heap.size w w' := by
  obtain ⟨fv, hfv⟩ : ∃ f, keptV6 b (decide (o.kd = 10)) = f := ⟨_, rfl⟩
  obtain ⟨w2, hw2⟩ : ∃ Z, w.alloc (.cells (lateV6 fv t m o) 112) = Z := ⟨_, rfl⟩
  have hb2 : Below w.heap.size w w2 := by rw [← hw2]; exact (Below.refl _ _).alloc (Nat.le_refl _) _
  have q1 : w2.heap[w.heap.size]? = some (.cells (lateV6 fv t m o) 112 (0, 0)) := by rw [← hw2]; exact heap_alloc_new _ _
  have hit := kept6_it (hk.later hb2) (h.later hb2)
  rw [hfv] at hit ⊢
  have D0 := Lib.hid (show w2.cell? ⟨w.heap.size, 0, none⟩ = some fv from (blk_cell q1 0).trans rfl)
  have D2 := Lib.hid (show w2.cell? ⟨w.heap.size, 2, none⟩ = some (.pointer (some ⟨m, 0, none⟩)) from (blk_cell q1 2).trans rfl)
  have D5 := Lib.hid (show w2.cell? ⟨w.heap.size, 5, none⟩ = some (.int .u64 o.at_) from (blk_cell q1 5).trans rfl)
  have D6 := Lib.hid (show w2.cell? ⟨w.heap.size, 6, none⟩ = some (.string o.key) from (blk_cell q1 6).trans rfl)
  have d3 : w2.cell? ⟨w.heap.size, 3, none⟩ = some (.int .i64 o.kd) := (blk_cell q1 3).trans rfl
  have HB2 := Lib.hid hb2
  by_cases hkd : o.kd = 10
  · have hrf := HP_rall (h.later hb2) hl
    have hql := allE_len M.L
    rw [decide_eq_true hkd] at hit
    rw [show keptL true o.key o.at_ (allE M.L) = allE M.L from rfl] at hit
    obtain ⟨Q, hQ⟩ : ∃ Q, allE M.L = Q := ⟨_, rfl⟩
    simp only [hQ] at hit hrf hql
    have HIT := Lib.hid hit
    have HRF := Lib.hid hrf
    have HQL := Lib.hid (show Q.length < 2932031007319 by omega)
    have z1 : (o.kd == 10) = true := by simp [hkd]
    clear h hl hk hfv hb2 q1 hit hrf hql hQ hkd
    go_enter Try.func51, Try.ntmps51
    go_wp2_with fail
    try rw [hw2]
    refine wp_region_step (WkR w2) leW leW_refl leW_trans [WF.it fv Q] [0, 0, 0, 0, 0, 2, 1] [.pointer (some ⟨w.heap.size, 0, none⟩), fv, .pointer (some ⟨w.heap.size, 1, none⟩), .pointer (some ⟨w.heap.size, 2, none⟩), .pointer (some ⟨m, 0, none⟩), undef, undef] 7 (by kernel_rfl) (by kernel_rfl) ⟨(Below.refl _ _).drew, fun p hp => by rw [List.mem_singleton.1 hp]; exact WF.later HIT.out (Below.refl _ _).drew⟩ ?_
    simp only [List.take_succ_cons, List.take_zero, List.drop_succ_cons, List.drop_zero]
    refine schain0 ?_
    refine @schain _ _ _ _ _ _ _ _ _ _ _ _ _ _ 7 (.pointer (some ⟨w.heap.size, 0, none⟩)) (by rfl) (by rfl) (by kernel_rfl) (by rfl) (by exact fun s' W2 hW => srun_fa (p := .pointer (some ⟨w.heap.size, 0, none⟩)) (by rfl) (by exact eval_base (by kernel_rfl) (by rfl)) (fun W => by first | kernel_rfl | go_simp) hW) ?_
    refine @schain _ _ _ _ _ _ _ _ _ _ _ _ _ _ 8 (fv) (by rfl) (by rfl) (by kernel_rfl) (by rfl) (by exact fun s' W2 hW => srun_ld (by rfl) (by exact eval_look (by kernel_rfl) (by kernel_rfl)) (ldSeq _ _ _ _ (cell_later hW.1 D0.out)) hW) ?_
    refine @schain _ _ _ _ _ _ _ _ _ _ _ _ _ _ 9 (.pointer (some ⟨w.heap.size, 1, none⟩)) (by rfl) (by rfl) (by kernel_rfl) (by rfl) (by exact fun s' W2 hW => srun_fa (p := .pointer (some ⟨w.heap.size, 0, none⟩)) (by rfl) (by exact eval_base (by kernel_rfl) (by rfl)) (fun W => by first | kernel_rfl | go_simp) hW) ?_
    refine @schain _ _ _ _ _ _ _ _ _ _ _ _ _ _ 10 (.pointer (some ⟨w.heap.size, 2, none⟩)) (by rfl) (by rfl) (by kernel_rfl) (by rfl) (by exact fun s' W2 hW => srun_fa (p := .pointer (some ⟨w.heap.size, 1, none⟩)) (by rfl) (by exact eval_look (by kernel_rfl) (by kernel_rfl)) (fun W => by first | kernel_rfl | go_simp) hW) ?_
    refine @schain _ _ _ _ _ _ _ _ _ _ _ _ _ _ 11 (.pointer (some ⟨m, 0, none⟩)) (by rfl) (by rfl) (by kernel_rfl) (by rfl) (by exact fun s' W2 hW => srun_ld (by rfl) (by exact eval_look (by kernel_rfl) (by kernel_rfl)) (ldRt _ _ _ _ (cell_later hW.1 D2.out)) hW) ?_
    refine @schainT _ _ _ _ _ _ _ _ _ _ _ _ _ _ 12 (fun v s' => ∃ A c, v = .slice A (List.length Q) c ∧ s' = WF.sl A c Q :: [WF.it fv Q]) (by rfl) (by kernel_rfl) (by rfl) (⟨.slice none (List.length Q) 0, _, none, 0, rfl, rfl⟩) (fun _ _ h => by obtain ⟨A, c, _, rfl⟩ := h; exact fun p hp => List.mem_cons_of_mem _ hp) (by exact fun W2 hW => srun_callT (vs := #[.pointer (some ⟨m, 0, none⟩)]) (by rfl) (by kernel_rfl) (enters_of Try.func100 (by kernel_rfl) (by rfl)) (wk_sl hW (HRF.out W2 hW.1))) (fun x s' hx => ?_)
    obtain ⟨A29, c29, rfl, rfl⟩ := hx
    refine @schain1 _ _ _ _ _ _ _ _ _ _ _ _ _ _ 13 (.bool true) (by rfl) (by kernel_rfl) (by rfl) (by exact fun s' hs9 W2 hW => srun_call (vs := #[fv, .slice A29 (List.length Q) c29, .int .i64 (-1)]) (by rfl) (by kernel_rfl) (enters_of Try.func98 (by kernel_rfl) (by rfl)) (wk_walk hs9 hW (by simp) (by simp) (HQL.out))) ?_
    refine snil (fun W2 hW2 => ?_)
    refine Eq.mpr (congrArg (fun a => wpList _ _ _ _ a W2) (show _ = (⟨#[Value.agg (lateV6 fv t m o), Value.pointer (some ⟨w.heap.size, 0, none⟩), Value.bool false, Value.pointer (some ⟨w.heap.size, 3, none⟩), Value.pointer (some ⟨w.heap.size, 3, none⟩), Value.int IntKind.i64 o.kd, Value.bool true, Value.pointer (some ⟨w.heap.size, 0, none⟩), fv, Value.pointer (some ⟨w.heap.size, 1, none⟩), Value.pointer (some ⟨w.heap.size, 2, none⟩), Value.pointer (some ⟨m, 0, none⟩), Value.slice A29 Q.length c29, Value.bool true, undef, undef, undef, undef, undef, undef, undef, undef, undef, undef, undef, undef, undef], []⟩ : Act) by kernel_rfl)) ?_
    have HW := Lib.hid hW2.1
    clear hW2
    go_wp2
    go_ret
    exact ⟨rfl, HB2.out.trans (HW.out.mono HB2.out.size)⟩
  · have hrf := HP_rfrom (h.later hb2) hl o.key o.at_
    have hql := fromT_len o.key o.at_ (allE M.L)
    rw [allE_len] at hql
    rw [decide_eq_false hkd] at hit
    rw [show keptL false o.key o.at_ (allE M.L) = fromT o.key o.at_ (allE M.L) from rfl] at hit
    obtain ⟨Q, hQ⟩ : ∃ Q, fromT o.key o.at_ (allE M.L) = Q := ⟨_, rfl⟩
    simp only [hQ] at hit hrf hql
    have HIT := Lib.hid hit
    have HRF := Lib.hid hrf
    have HQL := Lib.hid (show Q.length < 2932031007319 by omega)
    have z1 : (o.kd == 10) = false := by simp [hkd]
    clear h hl hk hfv hb2 q1 hit hrf hql hQ hkd
    go_enter Try.func51, Try.ntmps51
    go_wp2_with fail
    try rw [hw2]
    refine wp_region_step (WkR w2) leW leW_refl leW_trans [WF.it fv Q] [0, 0, 0, 0, 0, 0, 0, 0, 0, 0, 0, 2, 1] [.pointer (some ⟨w.heap.size, 0, none⟩), fv, .pointer (some ⟨w.heap.size, 1, none⟩), .pointer (some ⟨w.heap.size, 2, none⟩), .pointer (some ⟨m, 0, none⟩), .pointer (some ⟨w.heap.size, 3, none⟩), .pointer (some ⟨w.heap.size, 6, none⟩), .string o.key, .pointer (some ⟨w.heap.size, 3, none⟩), .pointer (some ⟨w.heap.size, 5, none⟩), .int .u64 o.at_, undef, undef] 13 (by kernel_rfl) (by kernel_rfl) ⟨(Below.refl _ _).drew, fun p hp => by rw [List.mem_singleton.1 hp]; exact WF.later HIT.out (Below.refl _ _).drew⟩ ?_
    simp only [List.take_succ_cons, List.take_zero, List.drop_succ_cons, List.drop_zero]
    refine schain0 ?_
    refine @schain _ _ _ _ _ _ _ _ _ _ _ _ _ _ 14 (.pointer (some ⟨w.heap.size, 0, none⟩)) (by rfl) (by rfl) (by kernel_rfl) (by rfl) (by exact fun s' W2 hW => srun_fa (p := .pointer (some ⟨w.heap.size, 0, none⟩)) (by rfl) (by exact eval_base (by kernel_rfl) (by rfl)) (fun W => by first | kernel_rfl | go_simp) hW) ?_
    refine @schain _ _ _ _ _ _ _ _ _ _ _ _ _ _ 15 (fv) (by rfl) (by rfl) (by kernel_rfl) (by rfl) (by exact fun s' W2 hW => srun_ld (by rfl) (by exact eval_look (by kernel_rfl) (by kernel_rfl)) (ldSeq _ _ _ _ (cell_later hW.1 D0.out)) hW) ?_
    refine @schain _ _ _ _ _ _ _ _ _ _ _ _ _ _ 16 (.pointer (some ⟨w.heap.size, 1, none⟩)) (by rfl) (by rfl) (by kernel_rfl) (by rfl) (by exact fun s' W2 hW => srun_fa (p := .pointer (some ⟨w.heap.size, 0, none⟩)) (by rfl) (by exact eval_base (by kernel_rfl) (by rfl)) (fun W => by first | kernel_rfl | go_simp) hW) ?_
    refine @schain _ _ _ _ _ _ _ _ _ _ _ _ _ _ 17 (.pointer (some ⟨w.heap.size, 2, none⟩)) (by rfl) (by rfl) (by kernel_rfl) (by rfl) (by exact fun s' W2 hW => srun_fa (p := .pointer (some ⟨w.heap.size, 1, none⟩)) (by rfl) (by exact eval_look (by kernel_rfl) (by kernel_rfl)) (fun W => by first | kernel_rfl | go_simp) hW) ?_
    refine @schain _ _ _ _ _ _ _ _ _ _ _ _ _ _ 18 (.pointer (some ⟨m, 0, none⟩)) (by rfl) (by rfl) (by kernel_rfl) (by rfl) (by exact fun s' W2 hW => srun_ld (by rfl) (by exact eval_look (by kernel_rfl) (by kernel_rfl)) (ldRt _ _ _ _ (cell_later hW.1 D2.out)) hW) ?_
    refine @schain _ _ _ _ _ _ _ _ _ _ _ _ _ _ 19 (.pointer (some ⟨w.heap.size, 3, none⟩)) (by rfl) (by rfl) (by kernel_rfl) (by rfl) (by exact fun s' W2 hW => srun_fa (p := .pointer (some ⟨w.heap.size, 0, none⟩)) (by rfl) (by exact eval_base (by kernel_rfl) (by rfl)) (fun W => by first | kernel_rfl | go_simp) hW) ?_
    refine @schain _ _ _ _ _ _ _ _ _ _ _ _ _ _ 20 (.pointer (some ⟨w.heap.size, 6, none⟩)) (by rfl) (by rfl) (by kernel_rfl) (by rfl) (by exact fun s' W2 hW => srun_fa (p := .pointer (some ⟨w.heap.size, 3, none⟩)) (by rfl) (by exact eval_look (by kernel_rfl) (by kernel_rfl)) (fun W => by first | kernel_rfl | go_simp) hW) ?_
    refine @schain _ _ _ _ _ _ _ _ _ _ _ _ _ _ 21 (.string o.key) (by rfl) (by rfl) (by kernel_rfl) (by rfl) (by exact fun s' W2 hW => srun_ld (by rfl) (by exact eval_look (by kernel_rfl) (by kernel_rfl)) (ldStr _ _ _ _ (cell_later hW.1 D6.out)) hW) ?_
    refine @schain _ _ _ _ _ _ _ _ _ _ _ _ _ _ 22 (.pointer (some ⟨w.heap.size, 3, none⟩)) (by rfl) (by rfl) (by kernel_rfl) (by rfl) (by exact fun s' W2 hW => srun_fa (p := .pointer (some ⟨w.heap.size, 0, none⟩)) (by rfl) (by exact eval_base (by kernel_rfl) (by rfl)) (fun W => by first | kernel_rfl | go_simp) hW) ?_
    refine @schain _ _ _ _ _ _ _ _ _ _ _ _ _ _ 23 (.pointer (some ⟨w.heap.size, 5, none⟩)) (by rfl) (by rfl) (by kernel_rfl) (by rfl) (by exact fun s' W2 hW => srun_fa (p := .pointer (some ⟨w.heap.size, 3, none⟩)) (by rfl) (by exact eval_look (by kernel_rfl) (by kernel_rfl)) (fun W => by first | kernel_rfl | go_simp) hW) ?_
    refine @schain _ _ _ _ _ _ _ _ _ _ _ _ _ _ 24 (.int .u64 o.at_) (by rfl) (by rfl) (by kernel_rfl) (by rfl) (by exact fun s' W2 hW => srun_ld (by rfl) (by exact eval_look (by kernel_rfl) (by kernel_rfl)) (ldU _ _ _ _ (cell_later hW.1 D5.out)) hW) ?_
    refine @schainT _ _ _ _ _ _ _ _ _ _ _ _ _ _ 25 (fun v s' => ∃ A c, v = .slice A (List.length Q) c ∧ s' = WF.sl A c Q :: [WF.it fv Q]) (by rfl) (by kernel_rfl) (by rfl) (⟨.slice none (List.length Q) 0, _, none, 0, rfl, rfl⟩) (fun _ _ h => by obtain ⟨A, c, _, rfl⟩ := h; exact fun p hp => List.mem_cons_of_mem _ hp) (by exact fun W2 hW => srun_callT (vs := #[.pointer (some ⟨m, 0, none⟩), .string o.key, .int .u64 o.at_]) (by rfl) (by kernel_rfl) (enters_of Try.func99 (by kernel_rfl) (by rfl)) (wk_sl hW (HRF.out W2 hW.1))) (fun x s' hx => ?_)
    obtain ⟨A29, c29, rfl, rfl⟩ := hx
    refine @schain1 _ _ _ _ _ _ _ _ _ _ _ _ _ _ 26 (.bool true) (by rfl) (by kernel_rfl) (by rfl) (by exact fun s' hs9 W2 hW => srun_call (vs := #[fv, .slice A29 (List.length Q) c29, .int .i64 (-1)]) (by rfl) (by kernel_rfl) (enters_of Try.func98 (by kernel_rfl) (by rfl)) (wk_walk hs9 hW (by simp) (by simp) (HQL.out))) ?_
    refine snil (fun W2 hW2 => ?_)
    refine Eq.mpr (congrArg (fun a => wpList _ _ _ _ a W2) (show _ = (⟨#[Value.agg (lateV6 fv t m o), Value.pointer (some ⟨w.heap.size, 0, none⟩), Value.bool false, Value.pointer (some ⟨w.heap.size, 3, none⟩), Value.pointer (some ⟨w.heap.size, 3, none⟩), Value.int IntKind.i64 o.kd, Value.bool false, undef, undef, undef, undef, undef, undef, undef, Value.pointer (some ⟨w.heap.size, 0, none⟩), fv, Value.pointer (some ⟨w.heap.size, 1, none⟩), Value.pointer (some ⟨w.heap.size, 2, none⟩), Value.pointer (some ⟨m, 0, none⟩), Value.pointer (some ⟨w.heap.size, 3, none⟩), Value.pointer (some ⟨w.heap.size, 6, none⟩), Value.string o.key, Value.pointer (some ⟨w.heap.size, 3, none⟩), Value.pointer (some ⟨w.heap.size, 5, none⟩), Value.int IntKind.u64 o.at_, Value.slice A29 Q.length c29, Value.bool true], []⟩ : Act) by kernel_rfl)) ?_
    have HW := Lib.hid hW2.1
    clear hW2
    go_wp2
    go_ret
    exact ⟨rfl, HB2.out.trans (HW.out.mono HB2.out.size)⟩
set_option maxHeartbeats 6400000 in
set_option maxRecDepth 100000 in
theorem keeps6_c {w : World} {t g m r : Nat} {S R : Nat → Prop} {draws : List Int} {M : MemV} (h : Pair6 w t g m r S R draws M) (o : Op6) (ta ma tb mb : Nat) (sec : Bool) (hsel : t = pick2 sec ta tb ∧ m = pick2 sec ma mb) (base : Nat) (kv : Value) (ks : List KL6) (hO : Own (encL6 ta ma tb mb) 112 9 w base kv ks) (hba : base ≤ w.heap.size) (hks : ks.length ≤ 20000) :
    Calls Try.prog 49 #[.agg #[.pointer (some ⟨t, 0, none⟩), .pointer (some ⟨m, 0, none⟩)], .agg (encO6 o).toArray, kv] w fun e w' => ∃ v', e = .returned v' ∧ ((o.kd ≠ 9 ∧ o.kd ≠ 10 ∧ v' = kv ∧ Below w.heap.size w w') ∨
      ∃ b W1, Below w.heap.size w W1 ∧ w.heap.size ≤ b ∧ KeptAt6 W1 b (decide (o.kd = 10)) t g o.key o.at_ ∧ Own (encL6 ta ma tb mb) 112 9 w' base v' (ks ++ [⟨b, decide (o.kd = 10), sec, o⟩]) ∧ W1.grownBy w' kv.ownBlock ∧ (v'.ownBlock = kv.ownBlock ∨ ∃ k, v'.ownBlock = some k ∧ W1.heap.size ≤ k)) := by
  obtain ⟨w2, hw2⟩ : ∃ Z, (w.alloc (.cells #[.pointer (some ⟨t, 0, none⟩), .pointer (some ⟨m, 0, none⟩)] 105)).alloc (.cells (encO6 o).toArray 108) = Z := ⟨_, rfl⟩
  have hb2 : Below w.heap.size w w2 := by rw [← hw2]; exact ((Below.refl _ _).alloc (Nat.le_refl _) _).alloc (by simp) _
  have q1 : w2.heap[w.heap.size]? = some (.cells #[.pointer (some ⟨t, 0, none⟩), .pointer (some ⟨m, 0, none⟩)] 105 (0, 0)) := by rw [← hw2]; exact blk_alloc (heap_alloc_new _ _) _
  have q2 : w2.heap[w.heap.size + 1]? = some (.cells (encO6 o).toArray 108 (0, 0)) := by rw [← hw2]; simpa using heap_alloc_new (w.alloc (.cells #[.pointer (some ⟨t, 0, none⟩), .pointer (some ⟨m, 0, none⟩)] 105)) (.cells (encO6 o).toArray 108)
  have b0 : w2.cell? ⟨w.heap.size + 1, 0, none⟩ = some (.int .i64 o.kd) := (blk_cell q2 0).trans rfl
  have HP2 := Lib.hid (h.later hb2)
  have HB2 := Lib.hid hb2
  have HO := Lib.hid hO
  have HBA := Lib.hid hba
  have HKS := Lib.hid hks
  have HSEL := Lib.hid hsel
  have Q1 := Lib.hid q1
  have Q2 := Lib.hid q2
  clear h hO hba hks hsel hb2 q1 q2
  go_enter Try.func49, Try.ntmps49
  by_cases h9 : o.kd = 9
  · have z1 : (o.kd == 9) = true := by simp [h9]
    have hd : decide (o.kd = 10) = false := by simp [h9]
    simp only [hd]
    clear h9 hd
    go_wp2_with fail
    try rw [hw2]
    refine wp_region_step (KeepR6 w2 false t g m o) leN leN_refl leN_trans none [0, 0, 0, 0, 0, 0, 0, 2, 0, 0, 1, 2] [kv, .pointer (some ⟨w.heap.size, 0, none⟩), .pointer (some ⟨t, 0, none⟩), .pointer (some ⟨w.heap.size + 1, 3, none⟩), .string o.key, .pointer (some ⟨w.heap.size + 1, 2, none⟩), .int .u64 o.at_, undef, .agg #[.pointer (some ⟨t, 0, none⟩), .pointer (some ⟨m, 0, none⟩)], .agg (encO6 o).toArray, undef, undef] 12 (by kernel_rfl) (by kernel_rfl) ⟨(Below.refl _ _).drew, trivial⟩ ?_
    simp only [List.take_succ_cons, List.take_zero, List.drop_succ_cons, List.drop_zero]
    refine schain0 ?_
    refine @schain _ _ _ _ _ _ _ _ _ _ _ _ _ _ 11 (kv) (by rfl) (by rfl) (by kernel_rfl) (by rfl) (by exact fun s' W2 hW => srun_mv (by rfl) (by exact eval_base (by kernel_rfl) (by rfl)) hW) ?_
    refine @schain _ _ _ _ _ _ _ _ _ _ _ _ _ _ 12 (.pointer (some ⟨w.heap.size, 0, none⟩)) (by rfl) (by rfl) (by kernel_rfl) (by rfl) (by exact fun s' W2 hW => srun_fa (p := .pointer (some ⟨w.heap.size, 0, none⟩)) (by rfl) (by exact eval_base (by kernel_rfl) (by rfl)) (fun W => by first | kernel_rfl | go_simp) hW) ?_
    refine @schain _ _ _ _ _ _ _ _ _ _ _ _ _ _ 13 (.pointer (some ⟨t, 0, none⟩)) (by rfl) (by rfl) (by kernel_rfl) (by rfl) (by exact fun s' W2 hW => srun_ld (by rfl) (by exact eval_look (by kernel_rfl) (by kernel_rfl)) (ldTp _ _ _ _ ((blk_cell (blk_below Q1.out hW.1) 0).trans rfl)) hW) ?_
    refine @schain _ _ _ _ _ _ _ _ _ _ _ _ _ _ 14 (.pointer (some ⟨w.heap.size + 1, 3, none⟩)) (by rfl) (by rfl) (by kernel_rfl) (by rfl) (by exact fun s' W2 hW => srun_fa (p := .pointer (some ⟨w.heap.size + 1, 0, none⟩)) (by rfl) (by exact eval_base (by kernel_rfl) (by rfl)) (fun W => by first | kernel_rfl | go_simp) hW) ?_
    refine @schain _ _ _ _ _ _ _ _ _ _ _ _ _ _ 15 (.string o.key) (by rfl) (by rfl) (by kernel_rfl) (by rfl) (by exact fun s' W2 hW => srun_ld (by rfl) (by exact eval_look (by kernel_rfl) (by kernel_rfl)) (ldStr _ _ _ _ ((blk_cell (blk_below Q2.out hW.1) 3).trans rfl)) hW) ?_
    refine @schain _ _ _ _ _ _ _ _ _ _ _ _ _ _ 16 (.pointer (some ⟨w.heap.size + 1, 2, none⟩)) (by rfl) (by rfl) (by kernel_rfl) (by rfl) (by exact fun s' W2 hW => srun_fa (p := .pointer (some ⟨w.heap.size + 1, 0, none⟩)) (by rfl) (by exact eval_base (by kernel_rfl) (by rfl)) (fun W => by first | kernel_rfl | go_simp) hW) ?_
    refine @schain _ _ _ _ _ _ _ _ _ _ _ _ _ _ 17 (.int .u64 o.at_) (by rfl) (by rfl) (by kernel_rfl) (by rfl) (by exact fun s' W2 hW => srun_ld (by rfl) (by exact eval_look (by kernel_rfl) (by kernel_rfl)) (ldU _ _ _ _ ((blk_cell (blk_below Q2.out hW.1) 2).trans rfl)) hW) ?_
    refine @schainT _ _ _ _ _ _ _ _ _ _ _ _ _ _ 18 (fun v s' => ∃ b, v = keptV6 b false ∧ s' = some (b, none)) (by rfl) (by kernel_rfl) (by rfl) (⟨keptV6 0 false, _, 0, rfl, rfl⟩) (fun _ _ _ => .inl rfl) (by exact fun W2 hW => srun_callT (vs := #[.pointer (some ⟨t, 0, none⟩), .string o.key, .int .u64 o.at_]) (by rfl) (by kernel_rfl) (enters_of Try.func44 (by kernel_rfl) (by rfl)) (keep6_f hW)) (fun x s' hx => ?_)
    obtain ⟨kb, rfl, rfl⟩ := hx
    refine @schain _ _ _ _ _ _ _ _ _ _ _ _ _ _ 19 (.agg #[.pointer (some ⟨t, 0, none⟩), .pointer (some ⟨m, 0, none⟩)]) (by rfl) (by rfl) (by kernel_rfl) (by rfl) (by exact fun s' W2 hW => srun_ld (by rfl) (by exact eval_base (by kernel_rfl) (by rfl)) (ldPair6 _ _ _ _ ((blk_cell (blk_below Q1.out hW.1) 0).trans rfl) ((blk_cell (blk_below Q1.out hW.1) 1).trans rfl)) hW) ?_
    refine @schain _ _ _ _ _ _ _ _ _ _ _ _ _ _ 20 (.agg (encO6 o).toArray) (by rfl) (by rfl) (by kernel_rfl) (by rfl) (by exact fun s' W2 hW => srun_ld (by rfl) (by exact eval_base (by kernel_rfl) (by rfl)) (ldOp6 _ _ o (blk_below Q2.out hW.1)) hW) ?_
    refine @schain1 _ _ _ _ _ _ _ _ _ _ _ _ _ _ 21 (.agg (lateV6 (keptV6 kb false) t m o)) (by rfl) (by kernel_rfl) (by rfl) (by exact fun s' hs W2 hW => srun_bd (ps := #[(0, keptV6 kb false), (1, .agg #[.pointer (some ⟨t, 0, none⟩), .pointer (some ⟨m, 0, none⟩)]), (2, .agg (encO6 o).toArray)]) (by rfl) (by kernel_rfl) (fun W => buildLate6_run kb false t m o W) hW) ?_
    refine @schainT _ _ _ _ _ _ _ _ _ _ _ _ _ _ 22 (fun v s' => ∃ bs, v = .slice (some ⟨bs, 0, none⟩) 1 1 ∧ s' = some (kb, some bs)) (by rfl) (by kernel_rfl) (by rfl) (⟨.slice (some ⟨0, 0, none⟩) 1 1, _, 0, rfl, rfl⟩) (fun _ _ h => by obtain ⟨bs, _, rfl⟩ := h; exact .inr (.inr ⟨kb, rfl, bs, rfl⟩)) (by exact fun W2 hW => srun_bsT (ps := #[(0, .agg (lateV6 (keptV6 kb false) t m o))]) (by rfl) (by kernel_rfl) (fun W => sliceLate6_run (keptV6 kb false) t m o W) (keep6_bs hW)) (fun x s' hx => ?_)
    obtain ⟨bs, rfl, rfl⟩ := hx
    refine snil (fun W3 hW3 => ?_)
    refine Eq.mpr (congrArg (fun a => wpList _ _ _ _ a W3) (show _ = (⟨#[Value.agg #[Value.pointer (some ⟨t, 0, none⟩), Value.pointer (some ⟨m, 0, none⟩)], Value.agg (encO6 o).toArray, kv, Value.pointer (some ⟨w.heap.size, 0, none⟩), Value.pointer (some ⟨w.heap.size + 1, 0, none⟩), undef, Value.slice none 0 0, Value.pointer (some ⟨w.heap.size + 1, 0, none⟩), Value.int IntKind.i64 o.kd, Value.bool true, Value.bool true, kv, Value.pointer (some ⟨w.heap.size, 0, none⟩), Value.pointer (some ⟨t, 0, none⟩), Value.pointer (some ⟨w.heap.size + 1, 3, none⟩), Value.string o.key, Value.pointer (some ⟨w.heap.size + 1, 2, none⟩), Value.int IntKind.u64 o.at_, keptV6 kb false, Value.agg #[Value.pointer (some ⟨t, 0, none⟩), Value.pointer (some ⟨m, 0, none⟩)], Value.agg (encO6 o).toArray, Value.agg (lateV6 (keptV6 kb false) t m o), Value.slice (some ⟨bs, 0, none⟩) 1 1, undef, undef, undef, undef, undef, undef, undef, undef, undef, undef, undef, undef, undef], []⟩ : Act) by kernel_rfl)) ?_
    have HW := Lib.hid (show Below w2.heap.size w2 W3 ∧ KeptAt6 W3 kb false t g o.key o.at_ ∧ w2.heap.size ≤ kb ∧ W3.heap[bs]? = some (.cells (lateV6 (keptV6 kb false) t m o) 112 (0, 0)) ∧ w2.heap.size ≤ bs from hW3)
    clear hW3
    obtain ⟨hbw, hka, hge, hbs, hgs⟩ := HW.out
    have HBS := Lib.hid hbs
    have HKA := Lib.hid hka
    have HGE := Lib.hid (Nat.le_trans HB2.out.size hge)
    have HBW := Lib.hid (HB2.out.trans (hbw.mono HB2.out.size))
    have HOW := Lib.hid (HO.out.below (HB2.out.trans (hbw.mono HB2.out.size)))
    clear hbw hka hge hbs hgs
    go_wp2_with (at_builtin; refine wpList_app rfl (.tmp 11) (.tmp 22) rfl uSlL6 infoL6 rfl (by decide) (by decide) (okL6 ta ma tb mb) kv ks rfl (base := base) ?c1 (some ⟨bs, 0, none⟩) 1 [⟨kb, false, sec, o⟩] rfl ?c2 ?c3 ?c4 ?_)
    case c1 => exact HOW.out
    case c2 => exact Sl.of_block (fun x => (okL6 ta ma tb mb x).1) HBS.out (by rw [HSEL.out.1, HSEL.out.2]; rfl) (by simp)
    case c3 => have := HKS.out; simp; omega
    case c4 => exact Nat.le_trans HBA.out HBW.out.size
    intro vk wk hok hgk hatk
    have HOK := Lib.hid hok
    have HGK := Lib.hid hgk
    have HAK := Lib.hid hatk
    clear hok hgk hatk
    go_wp2
    go_ret
    exact ⟨vk, rfl, .inr ⟨kb, W3, HBW.out, HGE.out, HKA.out, HOK.out, HGK.out, HAK.out.imp id (fun h => ⟨_, h, Nat.le_refl _⟩)⟩⟩
  by_cases h10 : o.kd = 10
  · have z1 : (o.kd == 9) = false := by simp [h9]
    have z2 : (o.kd == 10) = true := by simp [h10]
    have hd : decide (o.kd = 10) = true := by simp [h10]
    simp only [hd]
    clear h9 h10 hd
    go_wp2_with fail
    try rw [hw2]
    refine wp_region_step (KeepR6 w2 true t g m o) leN leN_refl leN_trans none [0, 0, 0, 2, 0, 0, 1, 2] [kv, .pointer (some ⟨w.heap.size, 0, none⟩), .pointer (some ⟨t, 0, none⟩), undef, .agg #[.pointer (some ⟨t, 0, none⟩), .pointer (some ⟨m, 0, none⟩)], .agg (encO6 o).toArray, undef, undef] 8 (by kernel_rfl) (by kernel_rfl) ⟨(Below.refl _ _).drew, trivial⟩ ?_
    simp only [List.take_succ_cons, List.take_zero, List.drop_succ_cons, List.drop_zero]
    refine schain0 ?_
    refine @schain _ _ _ _ _ _ _ _ _ _ _ _ _ _ 26 (kv) (by rfl) (by rfl) (by kernel_rfl) (by rfl) (by exact fun s' W2 hW => srun_mv (by rfl) (by exact eval_base (by kernel_rfl) (by rfl)) hW) ?_
    refine @schain _ _ _ _ _ _ _ _ _ _ _ _ _ _ 27 (.pointer (some ⟨w.heap.size, 0, none⟩)) (by rfl) (by rfl) (by kernel_rfl) (by rfl) (by exact fun s' W2 hW => srun_fa (p := .pointer (some ⟨w.heap.size, 0, none⟩)) (by rfl) (by exact eval_base (by kernel_rfl) (by rfl)) (fun W => by first | kernel_rfl | go_simp) hW) ?_
    refine @schain _ _ _ _ _ _ _ _ _ _ _ _ _ _ 28 (.pointer (some ⟨t, 0, none⟩)) (by rfl) (by rfl) (by kernel_rfl) (by rfl) (by exact fun s' W2 hW => srun_ld (by rfl) (by exact eval_look (by kernel_rfl) (by kernel_rfl)) (ldTp _ _ _ _ ((blk_cell (blk_below Q1.out hW.1) 0).trans rfl)) hW) ?_
    refine @schainT _ _ _ _ _ _ _ _ _ _ _ _ _ _ 29 (fun v s' => ∃ b, v = keptV6 b true ∧ s' = some (b, none)) (by rfl) (by kernel_rfl) (by rfl) (⟨keptV6 0 true, _, 0, rfl, rfl⟩) (fun _ _ _ => .inl rfl) (by exact fun W2 hW => srun_callT (vs := #[.pointer (some ⟨t, 0, none⟩)]) (by rfl) (by kernel_rfl) (enters_of Try.func37 (by kernel_rfl) (by rfl)) (keep6_a HP2.out hW)) (fun x s' hx => ?_)
    obtain ⟨kb, rfl, rfl⟩ := hx
    refine @schain _ _ _ _ _ _ _ _ _ _ _ _ _ _ 30 (.agg #[.pointer (some ⟨t, 0, none⟩), .pointer (some ⟨m, 0, none⟩)]) (by rfl) (by rfl) (by kernel_rfl) (by rfl) (by exact fun s' W2 hW => srun_ld (by rfl) (by exact eval_base (by kernel_rfl) (by rfl)) (ldPair6 _ _ _ _ ((blk_cell (blk_below Q1.out hW.1) 0).trans rfl) ((blk_cell (blk_below Q1.out hW.1) 1).trans rfl)) hW) ?_
    refine @schain _ _ _ _ _ _ _ _ _ _ _ _ _ _ 31 (.agg (encO6 o).toArray) (by rfl) (by rfl) (by kernel_rfl) (by rfl) (by exact fun s' W2 hW => srun_ld (by rfl) (by exact eval_base (by kernel_rfl) (by rfl)) (ldOp6 _ _ o (blk_below Q2.out hW.1)) hW) ?_
    refine @schain1 _ _ _ _ _ _ _ _ _ _ _ _ _ _ 32 (.agg (lateV6 (keptV6 kb true) t m o)) (by rfl) (by kernel_rfl) (by rfl) (by exact fun s' hs W2 hW => srun_bd (ps := #[(0, keptV6 kb true), (1, .agg #[.pointer (some ⟨t, 0, none⟩), .pointer (some ⟨m, 0, none⟩)]), (2, .agg (encO6 o).toArray)]) (by rfl) (by kernel_rfl) (fun W => buildLate6_run kb true t m o W) hW) ?_
    refine @schainT _ _ _ _ _ _ _ _ _ _ _ _ _ _ 33 (fun v s' => ∃ bs, v = .slice (some ⟨bs, 0, none⟩) 1 1 ∧ s' = some (kb, some bs)) (by rfl) (by kernel_rfl) (by rfl) (⟨.slice (some ⟨0, 0, none⟩) 1 1, _, 0, rfl, rfl⟩) (fun _ _ h => by obtain ⟨bs, _, rfl⟩ := h; exact .inr (.inr ⟨kb, rfl, bs, rfl⟩)) (by exact fun W2 hW => srun_bsT (ps := #[(0, .agg (lateV6 (keptV6 kb true) t m o))]) (by rfl) (by kernel_rfl) (fun W => sliceLate6_run (keptV6 kb true) t m o W) (keep6_bs hW)) (fun x s' hx => ?_)
    obtain ⟨bs, rfl, rfl⟩ := hx
    refine snil (fun W3 hW3 => ?_)
    refine Eq.mpr (congrArg (fun a => wpList _ _ _ _ a W3) (show _ = (⟨#[Value.agg #[Value.pointer (some ⟨t, 0, none⟩), Value.pointer (some ⟨m, 0, none⟩)], Value.agg (encO6 o).toArray, kv, Value.pointer (some ⟨w.heap.size, 0, none⟩), Value.pointer (some ⟨w.heap.size + 1, 0, none⟩), undef, Value.slice none 0 0, Value.pointer (some ⟨w.heap.size + 1, 0, none⟩), Value.int IntKind.i64 o.kd, Value.bool false, Value.bool false, undef, undef, undef, undef, undef, undef, undef, undef, undef, undef, undef, undef, undef, Value.bool true, Value.bool true, kv, Value.pointer (some ⟨w.heap.size, 0, none⟩), Value.pointer (some ⟨t, 0, none⟩), keptV6 kb true, Value.agg #[Value.pointer (some ⟨t, 0, none⟩), Value.pointer (some ⟨m, 0, none⟩)], Value.agg (encO6 o).toArray, Value.agg (lateV6 (keptV6 kb true) t m o), Value.slice (some ⟨bs, 0, none⟩) 1 1, undef, undef], []⟩ : Act) by kernel_rfl)) ?_
    have HW := Lib.hid (show Below w2.heap.size w2 W3 ∧ KeptAt6 W3 kb true t g o.key o.at_ ∧ w2.heap.size ≤ kb ∧ W3.heap[bs]? = some (.cells (lateV6 (keptV6 kb true) t m o) 112 (0, 0)) ∧ w2.heap.size ≤ bs from hW3)
    clear hW3
    obtain ⟨hbw, hka, hge, hbs, hgs⟩ := HW.out
    have HBS := Lib.hid hbs
    have HKA := Lib.hid hka
    have HGE := Lib.hid (Nat.le_trans HB2.out.size hge)
    have HBW := Lib.hid (HB2.out.trans (hbw.mono HB2.out.size))
    have HOW := Lib.hid (HO.out.below (HB2.out.trans (hbw.mono HB2.out.size)))
    clear hbw hka hge hbs hgs
    go_wp2_with (at_builtin; refine wpList_app rfl (.tmp 26) (.tmp 33) rfl uSlL6 infoL6 rfl (by decide) (by decide) (okL6 ta ma tb mb) kv ks rfl (base := base) ?c1 (some ⟨bs, 0, none⟩) 1 [⟨kb, true, sec, o⟩] rfl ?c2 ?c3 ?c4 ?_)
    case c1 => exact HOW.out
    case c2 => exact Sl.of_block (fun x => (okL6 ta ma tb mb x).1) HBS.out (by rw [HSEL.out.1, HSEL.out.2]; rfl) (by simp)
    case c3 => have := HKS.out; simp; omega
    case c4 => exact Nat.le_trans HBA.out HBW.out.size
    intro vk wk hok hgk hatk
    have HOK := Lib.hid hok
    have HGK := Lib.hid hgk
    have HAK := Lib.hid hatk
    clear hok hgk hatk
    go_wp2
    go_ret
    exact ⟨vk, rfl, .inr ⟨kb, W3, HBW.out, HGE.out, HKA.out, HOK.out, HGK.out, HAK.out.imp id (fun h => ⟨_, h, Nat.le_refl _⟩)⟩⟩
  · have z1 : (o.kd == 9) = false := by simp [h9]
    have z2 : (o.kd == 10) = false := by simp [h10]
    have HK := Lib.hid (show o.kd ≠ 9 ∧ o.kd ≠ 10 from ⟨h9, h10⟩)
    clear h9 h10
    go_wp2
    go_ret
    exact ⟨kv, rfl, .inl ⟨HK.out.1, HK.out.2, rfl, HB2.out⟩⟩
theorem place6_c (a n : Int) (ha : -9223372036854775808 ≤ a ∧ a ≤ 9223372036854775807) (hn : 0 < n ∧ n ≤ 9223372036854775807) (w : World) :
    Calls Try.prog 50 #[.int .i64 a, .int .i64 n] w fun e w' => ∃ p : Nat, e = .returned (.int .i64 (p : Int)) ∧ (p : Int) < n ∧ w = w' := by
  have hn0 : ¬ n = 0 := by omega
  have key : ∀ x : Int, 0 ≤ x → 0 ≤ x.tmod n ∧ x.tmod n < n := fun x hx => by
    rw [Int.tmod_eq_emod_of_nonneg hx]
    exact ⟨Int.emod_nonneg _ hn0, Int.emod_lt_of_pos _ hn.1⟩
  by_cases hneg : a < 0
  · have e1 : IntKind.i64.wrap (a + 1) = a + 1 := by rw [IntKind.wrap_i64]; omega
    have e2 : IntKind.i64.wrap (-(a + 1)) = -(a + 1) := by rw [IntKind.wrap_i64]; omega
    obtain ⟨k1, k2⟩ := key (-(a + 1)) (by omega)
    obtain ⟨p, hp⟩ : ∃ p : Nat, (-(a + 1)).tmod n = p := ⟨((-(a + 1)).tmod n).toNat, by omega⟩
    rw [hp] at k1 k2
    have HK := Lib.hid k2
    clear k1 k2 key
    go_enter Try.func50, Try.ntmps50
    go_wp2
    go_ret
    exact ⟨p, by first | rfl | simp [hp], HK.out, rfl⟩
  · obtain ⟨k1, k2⟩ := key a (by omega)
    obtain ⟨p, hp⟩ : ∃ p : Nat, a.tmod n = p := ⟨(a.tmod n).toNat, by omega⟩
    rw [hp] at k1 k2
    have HK := Lib.hid k2
    clear k1 k2 key
    go_enter Try.func50, Try.ntmps50
    go_wp2
    go_ret
    exact ⟨p, by first | rfl | simp [hp], HK.out, rfl⟩
end Go.Proofs.Ytjbbobhjomhnmaa.H
