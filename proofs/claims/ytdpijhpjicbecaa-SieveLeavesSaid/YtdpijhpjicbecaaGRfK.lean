/- screeref11.Keys: it answers the groups of what is merged. Conditions: sizes. (genrfk.py) -/
import Derived.Test.YtdpijhpjicbecaaGRfO
import Derived.Test.YtdpijhpjicbecaaGRun
namespace Go.Proofs.Ytdpijhpjicbecaa.H
open Go Go.RowKit Go.Deep Go.Shelf Go.Proofs Go.Proofs.YtdpijhpjicbecaaW.PrintWords
set_option linter.unusedVariables false
set_option linter.unusedSimpArgs false
attribute [local go_sem] Oper.semAt_some
theorem srun_lnR {P : Program} {S : World → Prop} {a : Act} {o : Oper} {W : World} {x : Operand} {ts : Array TypeId} {u r : Value} (ho : o.op = .call { callee := .builtin .len, args := #[x], argTypes := ts }) (hx : a.eval x = u) (hf : ∀ W, (Builtin.len_ ts o.type #[u]).run P W = .ok r W) (hW : S W) : StepRes P S r ((execOp a.eval o).run P W) := by
  unfold execOp
  simp only [ho, resolve, invoke, builtin, Sem.run_bind, Sem.run_pure, Result.andThen_ok, List.map_toArray, List.map_cons, List.map_nil, hx, hf]
  exact ⟨rfl, hW⟩
theorem sub1R (t : TypeId) (x y : Operand) (no gi : Nat) (h : no = gi + 1) (h9 : no < 1000000000) (W : World) : (do eqGuard .sub t x y (.int .i64 (no : Int)) (.int .i64 1); binOp .sub t (.int .i64 (no : Int)) (.int .i64 1) : Sem Value).run Try.prog W = .ok (.int .i64 (gi : Int)) W := by
  subst h
  have h2 : IntKind.i64.wrap (gi : Int) = (gi : Int) := by rw [IntKind.wrap_i64]; omega
  go_simp
/-- The groups made so far, and the one under way. -/
structure KO (W : World) (base : Nat) (s4 : Value) (d : List (List Ent)) (q : List Ent) (LD : List HE) (hq : HE) : Prop where
  ld : LD.map (·.2.2) = d
  hqe : hq.2.2 = q
  own : Own encHE 27 1 W base s4 (LD ++ [hq])
  rows : ∀ h ∈ LD, Sl encE 4 W h.1 h.2.2 ∧ ∀ b o, h.1 = some ⟨b, o, none⟩ → base ≤ b ∧ b < W.heap.size ∧ s4.ownBlock ≠ some b ∧ (Value.slice hq.1 hq.2.2.length hq.2.1).ownBlock ≠ some b
  last : Own encE 53 4 W base (.slice hq.1 hq.2.2.length hq.2.1) hq.2.2
  far : ∀ k, (Value.slice hq.1 hq.2.2.length hq.2.1).ownBlock = some k → s4.ownBlock ≠ some k
theorem KO.later {W W' : World} {base : Nat} {s4 : Value} {d : List (List Ent)} {q : List Ent} {LD : List HE} {hq : HE} (h : KO W base s4 d q LD hq) (hb : Below W.heap.size W W') : KO W' base s4 d q LD hq :=
  ⟨h.ld, h.hqe, h.own.below hb, fun x hx => ⟨(h.rows x hx).1.later hb, fun b o e => ⟨((h.rows x hx).2 b o e).1, Nat.lt_of_lt_of_le ((h.rows x hx).2 b o e).2.1 hb.size, ((h.rows x hx).2 b o e).2.2⟩⟩, h.last.below hb, h.far⟩
theorem KO.made {W : World} {base : Nat} {s4 : Value} {d : List (List Ent)} {q : List Ent} {LD : List HE} {hq : HE} (h : KO W base s4 d q LD hq) : MadeE W base s4 (LD ++ [hq]) :=
  ⟨h.own, fun x hx => by
    rcases List.mem_append.1 hx with hx | hx
    · exact (h.rows x hx).1
    · rw [List.mem_singleton.1 hx]; exact own_sl h.last (fun x => (okE x).1), fun x hx b o e => by
    rcases List.mem_append.1 hx with hx | hx
    · exact ⟨((h.rows x hx).2 b o e).1, ((h.rows x hx).2 b o e).2.1, ((h.rows x hx).2 b o e).2.2.1⟩
    · rw [List.mem_singleton.1 hx] at e
      have h1 := own_addr h.last b o e
      exact ⟨h1.1, h1.2, h.far b (by rw [e]; rfl)⟩⟩
/-- A group is begun. -/
theorem KO.new {W W1 w1 : World} {base : Nat} {s4 s4' : Value} {d : List (List Ent)} {LG : List HE} (hm : MadeE W base s4 LG) (hd : LG.map (·.2.2) = d) (hb : Below W.heap.size W W1) (ho : Own encHE 27 1 w1 base s4' (LG ++ [((none, 0, []) : HE)])) (hg : W1.grownBy w1 s4.ownBlock) (hat : s4'.ownBlock = s4.ownBlock ∨ s4'.ownBlock = some W1.heap.size) : KO w1 base s4' d [] LG ((none, 0, []) : HE) := by
  have u : Upd (fun k => s4.ownBlock = some k) W1 w1 := Upd.of_grown hg (fun k hk => hk)
  have h1 := hm.later hb
  refine ⟨hd, rfl, ho, fun x hx => ⟨(h1.rows x hx).upd u (fun b o e => (h1.far x hx b o e).2.2), fun b o e => ⟨(h1.far x hx b o e).1, Nat.lt_of_lt_of_le (h1.far x hx b o e).2.1 u.size, fun e2 => ?_, by simp [Value.ownBlock]⟩⟩, Own.nil _ _ _ _ _, fun k hk => by simp [Value.ownBlock] at hk⟩
  rcases hat with h | h
  · exact (h1.far x hx b o e).2.2 (by rw [← h]; exact e2)
  · rw [h] at e2
    injection e2 with e2
    have := (hm.far x hx b o e).2.1
    have := hb.size
    omega
/-- An entry more of the last group. -/
theorem KO.add {W W1 w1 : World} {base g no co gi : Nat} {d : List (List Ent)} {q : List Ent} {e : Ent} {LD : List HE} {hq : HE} {A1 : Option Addr} {k1 : Nat} (h : KO W base (.slice (some ⟨g, 0, none⟩) no co) d q LD hq) (hno : no = gi + 1) (hgi : LD.length = gi) (hb : Below W.heap.size W W1) (hbs : base ≤ W.heap.size) (ho : Own encE 53 4 w1 base (.slice A1 (q ++ [e]).length k1) (q ++ [e]))
    (hg : W1.grownBy w1 (Value.slice hq.1 hq.2.2.length hq.2.1).ownBlock) (hat : (Value.slice A1 (q ++ [e]).length k1).ownBlock = (Value.slice hq.1 hq.2.2.length hq.2.1).ownBlock ∨ (Value.slice A1 (q ++ [e]).length k1).ownBlock = some W1.heap.size) :
    KO (w1.setCell ⟨g, gi, none⟩ (.slice A1 (q ++ [e]).length k1)) base (.slice (some ⟨g, 0, none⟩) no co) d (q ++ [e]) LD ((A1, k1, q ++ [e]) : HE) ∧ Below base W1 (w1.setCell ⟨g, gi, none⟩ (.slice A1 (q ++ [e]).length k1)) := by
  have hob : (Value.slice (some ⟨g, 0, none⟩) no co).ownBlock = some g := rfl
  have h1 := h.later hb
  have hgl := (h.own.block_lt hob)
  have u : Upd (fun k => (Value.slice hq.1 hq.2.2.length hq.2.1).ownBlock = some k) W1 w1 := Upd.of_grown hg (fun k hk => hk)
  have u2 : Upd (fun k => k = g) w1 (w1.setCell ⟨g, gi, none⟩ (.slice A1 (q ++ [e]).length k1)) := Upd.setCell _ _ _ rfl
  have hv : ∀ k, (Value.slice A1 (q ++ [e]).length k1).ownBlock = some k → (Value.slice hq.1 hq.2.2.length hq.2.1).ownBlock = some k ∨ k = W1.heap.size := fun k hk => by
    rcases hat with h | h
    · exact .inl (by rw [← h]; exact hk)
    · rw [h] at hk; injection hk with hk; exact .inr hk.symm
  have hne : ∀ k, (Value.slice A1 (q ++ [e]).length k1).ownBlock = some k → k ≠ g := fun k hk e2 => by
    rcases hv k hk with h2 | h2
    · exact h.far k h2 (by rw [e2]; rfl)
    · have := hb.size; omega
  have hrow : Own encHE 27 1 w1 base (.slice (some ⟨g, 0, none⟩) no co) (LD ++ [hq]) := h1.own.upd u (fun k hk e2 => h.far k e2 hk)
  have hset := Own.set1 (enc := encHE) (f := fun x => .slice x.1 x.2.2.length x.2.1) (fun _ => rfl) hrow (by simp; omega) gi ((A1, k1, q ++ [e]) : HE)
  have eset : (LD ++ [hq]).set gi ((A1, k1, q ++ [e]) : HE) = LD ++ [((A1, k1, q ++ [e]) : HE)] := by
    rw [List.set_append]
    simp [hgi]
  rw [eset] at hset
  refine ⟨⟨h.ld, rfl, hset, fun x hx => ⟨((h1.rows x hx).1.upd u (fun b o e => ((h1.rows x hx).2 b o e).2.2.2)).upd u2 (fun b o e e2 => ((h1.rows x hx).2 b o e).2.2.1 (by rw [e2]; rfl)), fun b o e2 => ⟨((h1.rows x hx).2 b o e2).1, Nat.lt_of_lt_of_le (Nat.lt_of_lt_of_le ((h1.rows x hx).2 b o e2).2.1 u.size) u2.size, ((h1.rows x hx).2 b o e2).2.2.1, fun e3 => ?_⟩⟩, ho.upd u2 (fun k hk => hne k hk), fun k hk e2 => hne k hk (by injection e2 with e2; exact e2.symm)⟩, (u.bel (fun k hk => (h.last.block_lt hk).1) (by have := hb.size; omega)).trans (u2.bel (fun k hk => by rw [hk]; exact hgl.1) (by have := u.size; have := hb.size; omega))⟩
  rcases hv b e3 with h2 | h2
  · exact ((h1.rows x hx).2 b o e2).2.2.2 h2
  · have := ((h.rows x hx).2 b o e2).2.1
    have := hb.size
    omega
theorem keyFin {all : List Ent} {m base : Nat} {W : World} {s4 : Value} (hm : all.length = m) (hcase : (m = 0 ∧ s4 = .slice none 0 0) ∨ (0 < m ∧ (grpS all).2 ≠ [] ∧ ∃ LD hq, KO W base s4 (grpS all).1 (grpS all).2 LD hq)) : ∃ LG : List HE, LG.map (·.2.2) = groupsL all ∧ MadeE W base s4 LG := by
  rcases hcase with ⟨h0, h1⟩ | ⟨h0, hq0, LD, hq, hk⟩
  · have : all = [] := List.length_eq_zero_iff.1 (by rw [hm]; exact h0)
    subst this
    rw [h1]
    exact ⟨[], rfl, MadeE.nil _ _⟩
  · refine ⟨_, ?_, hk.made⟩
    rw [List.map_append, hk.ld]
    unfold groupsL grpEnd
    split
    · rename_i h2; exact absurd h2 hq0
    · rename_i h2
      rw [← h2, ← hk.hqe]
      rfl
theorem Own.lowB {α : Type} {enc : α → List Value} {e : TypeId} {sz : Nat} {w : World} {base b' : Nat} {v : Value} {l : List α} (h : Own enc e sz w base v l) (hb : b' ≤ base) : Own enc e sz w b' v l := by
  refine ⟨h.1, ?_⟩
  rcases h.2 with h | ⟨g, cap, cur, hv, hb', r⟩
  · exact .inl h
  · exact .inr ⟨g, cap, cur, hv, Nat.le_trans hb hb', r⟩
theorem own_some {α : Type} {enc : α → List Value} {e : TypeId} {sz : Nat} {w : World} {base : Nat} {A : Option Addr} {n c : Nat} {l : List α} (h : Own enc e sz w base (.slice A n c) l) (hn : l ≠ []) : ∃ g, A = some ⟨g, 0, none⟩ ∧ n = l.length := by
  rcases h.2 with ⟨hv, h0⟩ | ⟨g, cap, cur, hv, _⟩
  · exact absurd (List.length_eq_zero_iff.1 h0) hn
  · injection hv with h1 h2 _
    exact ⟨g, h1, h2⟩
theorem grp_last {l : List Ent} {x : Ent} : ∃ q, (grpS (l ++ [x])).2 = q ++ [x] := by
  rw [grpS_snoc]
  cases hs : (grpS l).2 with
  | nil => rw [grpE_nil hs]; exact ⟨[], rfl⟩
  | cons o r =>
    by_cases hk : o.1 = x.1
    · rw [grpE_open hs hk]; exact ⟨_, rfl⟩
    · rw [grpE_close hs hk]; exact ⟨[], rfl⟩
set_option maxHeartbeats 6400000 in
set_option maxRecDepth 100000 in
theorem refKeys_c (A : Option Addr) (c : Nat) (L : List HE) (w : World) (hs : Sl2 w A L) (hl : L.length + totL (L.map (·.2.2)) ≤ 1000000) :
    Calls Try.prog 15 #[.slice A L.length c] w fun e w' => ∃ v LG, e = .returned v ∧ LG.map (·.2.2) = groupsL (mergeL (L.map (·.2.2))) ∧ MadeE w' w.heap.size v LG ∧ Below w.heap.size w w' := by
  have HOF := Lib.hid (refOf_c A c L w hs hl)
  obtain ⟨all, hall⟩ : ∃ all, mergeL (L.map (·.2.2)) = all := ⟨_, rfl⟩
  rw [hall] at HOF ⊢
  have hal : all.length ≤ 1000000 := by rw [← hall, mergeL_length]; omega
  clear hs hl hall
  go_enter Try.func15, Try.ntmps15
  go_wp2_with fail
  refine HOF.out.mono ?_
  rintro _ w1 ⟨v, rfl, ho, hb1⟩
  obtain ⟨AA, cA, rfl⟩ := own_slice ho
  obtain ⟨m, hm⟩ : ∃ m, all.length = m := ⟨_, rfl⟩
  have HALL := Lib.hid (own_sl ho (fun x => (okE x).1))
  have HB1 := Lib.hid hb1
  have HM := Lib.hid hm
  rw [hm] at hal ⊢
  clear ho hb1 hm HOF
  go_wp2_with fail
  go_loopw [4, 5] (fun s4 s5 wr => ∃ i : Nat, s5 = .int .i64 i ∧ i ≤ m ∧ Below w1.heap.size w1 wr ∧ ((i = 0 ∧ s4 = .slice none 0 0) ∨ (0 < i ∧ (grpS (all.take i)).2 ≠ [] ∧ ∃ LD hq, KO wr w1.heap.size s4 (grpS (all.take i)).1 (grpS (all.take i)).2 LD hq))) (fun s4 s5 wr => m - (intOf s5).toNat)
  case atStart => exact ⟨0, rfl, by omega, Below.refl _ _, .inl ⟨rfl, rfl⟩⟩
  case round =>
    obtain ⟨i, rfl, hi, hb, hcase⟩ := hrel
    generalize wr = W5 at *
    have HB := Lib.hid hb
    clear hb
    have i0 : (0 : Int) ≤ i := by omega
    by_cases hlt : i < m
    · have i2 : (i : Int) < m := by omega
      obtain ⟨x, hx⟩ := getElem?_of_lt (l := all) (by rw [HM.out]; exact hlt : i < all.length)
      obtain ⟨bx, ox, ex, _, hcx⟩ := (HALL.out.later HB.out).at hx
      subst ex
      have HCX := Lib.hid (show ∀ W, Below w1.heap.size w1 W → ∀ j v, (encE x)[j]? = some v → W.cell? ⟨bx, ox + i * 4 + j, none⟩ = some v from fun W hW => by
        obtain ⟨_, _, e1, _, h1⟩ := (HALL.out.later hW).at hx
        injection e1 with e1
        injection e1 with e1 e2
        subst e1; subst e2
        exact h1)
      have HGS := Lib.hid (show grpS (all.take (i + 1)) = grpE (grpS (all.take i)) x from by rw [take_suc hx, grpS_snoc])
      have x0 : W5.cell? ⟨bx, ox + i * 4, none⟩ = some (.string x.1) := hcx 0 _ rfl
      clear hcx
      obtain ⟨d, q, hdq⟩ : ∃ d q, grpS (all.take i) = (d, q) := ⟨_, _, rfl⟩
      rw [hdq] at HGS hcase
      simp only at hcase
      have hlen1 : d.flatten.length + q.length = i := by
        have h1 := congrArg List.length (grpFold_flat (all.take i) ([], []))
        rw [show (all.take i).foldl grpE ([], []) = grpS (all.take i) from rfl, hdq] at h1
        rw [List.length_append] at h1
        simp only [List.flatten_nil, List.nil_append, List.length_take, HM.out] at h1
        omega
      have hdl : d.length ≤ i := by
        have h1 := grpS_ok (all.take i)
        rw [hdq] at h1
        have h3 : ∀ (G : List (List Ent)), (∀ g ∈ G, g ≠ []) → G.length ≤ G.flatten.length := by
          intro G
          induction G with
          | nil => intro _; simp
          | cons a G ih =>
            intro h
            have := ih (fun g hg => h g (by simp [hg]))
            have := List.length_pos_iff.2 (h a (by simp))
            rw [List.flatten_cons, List.length_append, List.length_cons]
            omega
        have := h3 d h1.ne
        omega
      rcases hcase with ⟨h0, h1⟩ | ⟨h0, hq0, LD, hq0', hk⟩
      · subst h1
        have hdq0 : d = [] ∧ q = [] := by
          rw [h0, List.take_zero] at hdq
          injection hdq with h1 h2
          exact ⟨h1.symm, h2.symm⟩
        obtain ⟨rfl, rfl⟩ := hdq0
        obtain ⟨d', hd'⟩ : ∃ d' : List (List Ent), [] = d' := ⟨_, rfl⟩
        obtain ⟨q', hq'⟩ : ∃ q' : List Ent, [] = q' := ⟨_, rfl⟩
        have HGE := Lib.hid (show grpE (([] : List (List Ent)), ([] : List Ent)) x = (d', q' ++ [x]) from by rw [← hd', ← hq', grpE_nil rfl]; rfl)
        have HD' := Lib.hid hd'
        have HQ' := Lib.hid hq'
        clear hd' hq'
        have k1 : ((i : Int) == 0) = true := by rw [h0]; rfl
        have k2 : decide ((i : Int) = 0) = true := decide_eq_true (by omega)
        have HI0 := Lib.hid h0
        clear h0
        go_wp2_with fail
        go_quiet (fail)
        obtain ⟨W6, hW6⟩ : ∃ Z, W5.drewN nq = Z := ⟨_, rfl⟩
        have HB6 := Lib.hid (show Below w1.heap.size w1 W6 from by rw [← hW6]; exact HB.out.trans ((Upd.drewN (S := fun _ => False) W5 nq).bel (fun _ h => h.elim) HB.out.size))
        have HMD := Lib.hid (MadeE.nil W6 w1.heap.size)
        rw [hW6]
        clear hW6 x0 HB hdl hlen1 hdq
        go_upto_region 8 with (at_builtin; refine wpList_app rfl (.tmp 30) (.tmp 31) rfl uSlEE infoEE rfl (by decide) (by decide) okHE (Value.slice none 0 0) ([] : List HE) rfl (base := w1.heap.size) ?c1 (some ⟨W6.heap.size, 0, none⟩) 1 [((none, 0, []) : HE)] rfl ?c2 ?c3 ?c4 ?_; (case c1 => exact HMD.out.own.below ((Below.refl _ _).alloc (Nat.le_refl _) _)); (case c2 => exact Sl.one okHE W6 ((none, 0, []) : HE) _ rfl); (case c3 => simp); (case c4 => have := HB6.out.size; simp; omega); intro v1 W7 ho1 hg1 hat1)
        obtain ⟨Ag, co', rfl⟩ := own_slice ho1
        obtain ⟨g', hAg, _⟩ := own_some ho1 (by simp)
        subst hAg
        have HKO := Lib.hid (show KO W7 w1.heap.size (.slice (some ⟨g', 0, none⟩) (([] : List HE) ++ [((none, 0, []) : HE)]).length co') d' q' ([] : List HE) ((none, 0, []) : HE) from by rw [← HD'.out, ← HQ'.out]; exact KO.new HMD.out rfl ((Below.refl W6.heap.size W6).alloc (Nat.le_refl _) (.cells #[.slice none 0 0] 27)) ho1 hg1 (by simpa using hat1))
        have HB7 := Lib.hid (show Below w1.heap.size w1 W7 from (HB6.out.alloc HB6.out.size (.cells #[.slice none 0 0] 27)).trans ((Upd.of_grown (S := fun j => ((Value.slice none 0 0)).ownBlock = some j) hg1 (fun j hj => hj)).bel (fun j hj => (HMD.out.own.block_lt hj).1) (by have := HB6.out.size; simp; omega)))
        clear ho1 hg1 hat1 HMD HB6
        obtain ⟨no, hnoe⟩ : ∃ no, (([] : List HE) ++ [(((none, 0, []) : HE) : HE)]).length = no := ⟨_, rfl⟩
        obtain ⟨gi, hgie⟩ : ∃ gi, (([] : List HE)).length = gi := ⟨_, rfl⟩
        have hno : no = gi + 1 := by rw [← hnoe, ← hgie]; simp
        rw [hnoe] at HKO ⊢
        have HGI := Lib.hid hgie
        obtain ⟨hq, hhq⟩ : ∃ hq : HE, (((none, 0, []) : HE) : HE) = hq := ⟨_, rfl⟩
        obtain ⟨LD', hLD'⟩ : ∃ LD', ([] : List HE) = LD' := ⟨_, rfl⟩
        rw [hhq, hLD'] at HKO
        rw [hLD'] at HGI
        obtain ⟨nq, hnq⟩ : ∃ nq, hq.2.2.length = nq := ⟨_, rfl⟩
        have HQE := Lib.hid HKO.out.hqe
        have hno9 : no < 1000000000 := by
          have h1 : (d' ++ [q']).length ≤ i + 2 := (by rw [← HD'.out, ← HQ'.out]; simp)
          have h2 := congrArg List.length HKO.out.ld
          rw [List.length_map, HGI.out] at h2
          simp at h1
          omega
        have hgi : gi < no := by omega
        obtain ⟨_, _, eg, _, hcg⟩ := (own_sl HKO.out.own (fun x => (okHE x).1)).at (i := gi) (x := hq) (by rw [List.getElem?_append_right (by rw [HGI.out]; exact Nat.le_refl _), HGI.out, Nat.sub_self]; rfl)
        injection eg with eg
        injection eg with eg eg2
        subst eg; subst eg2
        have HCG := Lib.hid (show W7.cell? ⟨g', 0 + gi, none⟩ = some (.slice hq.1 nq hq.2.1) from by have := hcg 0 _ rfl; rw [hnq] at this; simpa using this)
        clear hcg hgie hnoe hhq hLD'
        obtain ⟨W9, hW9⟩ : ∃ Z, W7.drew.alloc (.cells #[.string x.1, .int .u64 x.2.1, .bool x.2.2.1, .string x.2.2.2] 53) = Z := ⟨_, rfl⟩
        have hb9 : Below W7.heap.size W7 W9 := by rw [← hW9]; exact ((Below.refl _ _).drew).alloc (Nat.le_refl _) _
        have hs7 := HB7.out.size
        have hs9 := hb9.size
        obtain ⟨v1, w2, hrun, ho1, hg1, hat1⟩ := run_app (P := Try.prog) (ty := 27) (base := w1.heap.size) uSlE infoE rfl (by decide) (by decide) okE (w := W9) (v := .slice hq.1 nq hq.2.1) (l := hq.2.2) (by rw [← hnq]; exact HKO.out.last.below hb9) (A := some ⟨W7.heap.size, 0, none⟩) (c := 1) (l' := [x]) (by have := Sl.one okE W7.drew x 53 (cs := #[.string x.1, .int .u64 x.2.1, .bool x.2.2.1, .string x.2.2.2]) rfl; rw [hW9] at this; exact this) (by have h1 : q'.length ≤ i + 1 := (by rw [← HQ'.out]; simp); rw [HQE.out]; simp; omega) (by omega)
        obtain ⟨A6, k6, rfl⟩ := own_slice ho1
        rw [HQE.out] at ho1 hat1 hrun
        have hka := HKO.out.add hno HGI.out hb9 hs7 (k1 := k6) (A1 := A6) ho1 (by rw [hnq]; exact hg1) (by rw [hnq]; exact hat1)
        have HKA := Lib.hid hka.1
        have HBA := Lib.hid ((HB7.out.trans (hb9.mono hs7)).trans hka.2)
        have elq : (q' ++ [x]).length = q'.length + 1 := by simp
        rw [elq] at HKA HBA hrun
        obtain ⟨nz, hnz⟩ : ∃ nz, q'.length + 1 = nz := ⟨_, rfl⟩
        rw [hnz] at HKA HBA hrun
        have ug : Upd (fun j => (Value.slice hq.1 nq hq.2.1).ownBlock = some j) W9 w2 := Upd.of_grown hg1 (fun j hj => hj)
        have hgb := (HKO.out.own.block_lt (k := g') rfl)
        have hgo : (Value.slice hq.1 nq hq.2.1).ownBlock ≠ some g' := fun hk => HKO.out.far g' (by rw [hnq]; exact hk) rfl
        have hc9 := cell_later hb9 HCG.out
        have hc2 : w2.cell? ⟨g', 0 + gi, none⟩ = some (.slice hq.1 nq hq.2.1) := ug.cell hc9 hgo
        have hcell : w2.cell? ⟨g', gi, none⟩ = some (.slice hq.1 nq hq.2.1) := by rw [Nat.zero_add] at hc2; exact hc2
        have hfroz : w2.frozen? ⟨g', gi, none⟩ = false := by
          have h1 : Own encHE 27 1 w2 w1.heap.size (.slice (some ⟨g', 0, none⟩) no co') (LD' ++ [hq]) := (HKO.out.own.below hb9).upd ug (fun k hk h2 => by
            have e : g' = k := by simpa [Value.ownBlock] using hk
            exact hgo (by rw [e]; exact h2))
          have h2 : (LD' ++ [hq]).length = no := by rw [List.length_append, HGI.out, hno]; rfl
          rw [← h2] at h1
          exact World.ownsRow.frozenAt h1 gi
        have hbw2 : Below w1.heap.size w1 w2 := (HB7.out.trans (hb9.mono hs7)).trans (ug.bel (fun j hj => (HKO.out.last.block_lt (by rw [hnq]; exact hj)).1) (by omega))
        have E3 := Lib.hid (show ∀ (s' : Nat) (W : World), AtW [W7.drew, W9, w2] s' W → W.cell? ⟨g', 0 + gi, none⟩ = some (.slice hq.1 nq hq.2.1) ∧ ∀ j v, (encE x)[j]? = some v → W.cell? ⟨bx, ox + i * 4 + j, none⟩ = some v from fun s' W hW => by
          match s', hW with
          | 0, hW => cases hW; exact ⟨HCG.out, HCX.out W7 HB7.out⟩
          | 1, hW => cases hW; exact ⟨hc9, HCX.out W9 (HB7.out.trans (hb9.mono HB7.out.size))⟩
          | 2, hW => cases hW; exact ⟨hc2, HCX.out w2 hbw2⟩)
        have HGN := Lib.hid (show (grpS (all.take (i + 1))).1 = d' ∧ (grpS (all.take (i + 1))).2 = q' ++ [x] from by rw [HGS.out, HGE.out]; exact ⟨rfl, rfl⟩)
        have HNO := Lib.hid hno
        have HRUN := Lib.hid hrun
        clear ho1 hg1 hat1 hka elq hb9 hc9 hc2 hbw2 hno hrun hgo hgb ug hs9 hnz
        go_wp2_with fail
        refine wp_region_step (AtW [W7.drew, W9, w2]) (· ≤ ·) Nat.le_refl (fun _ _ _ => Nat.le_trans) 0 [0, 0, 0, 0, 0, 0, 0, 0, 0, 0, 0, 0, 0, 0, 2, 2, 0] [.slice (some ⟨g', 0, none⟩) no co', .slice (some ⟨g', 0, none⟩) no co', .int .i64 (no : Int), .int .i64 (gi : Int), .slice (some ⟨g', 0, none⟩) no co', .slice (some ⟨g', 0, none⟩) no co', .int .i64 (no : Int), .int .i64 (gi : Int), .pointer (some ⟨g', 0 + gi, none⟩), .slice hq.1 nq hq.2.1, .slice (some ⟨bx, ox, none⟩) m cA, .int .i64 (i : Int), .pointer (some ⟨bx, ox + i * 4, none⟩), .agg (encE x).toArray, undef, undef, .pointer (some ⟨g', 0 + gi, none⟩)] 17 (by kernel_rfl) (by kernel_rfl) rfl ?_
        simp only [List.take_succ_cons, List.take_zero, List.drop_succ_cons, List.drop_zero]
        refine schain0 ?_
        refine @schain _ _ _ _ _ _ _ _ _ _ _ _ _ _ 33 (.slice (some ⟨g', 0, none⟩) no co') (by rfl) (by rfl) (by kernel_rfl) (by rfl) (by exact fun s' W2 hW => srun_mv (by rfl) (by exact eval_base (by kernel_rfl) (by rfl)) hW) ?_
        refine @schain _ _ _ _ _ _ _ _ _ _ _ _ _ _ 34 (.slice (some ⟨g', 0, none⟩) no co') (by rfl) (by rfl) (by kernel_rfl) (by rfl) (by exact fun s' W2 hW => srun_mv (by rfl) (by exact eval_base (by kernel_rfl) (by rfl)) hW) ?_
        refine @schain _ _ _ _ _ _ _ _ _ _ _ _ _ _ 35 (.int .i64 (no : Int)) (by rfl) (by rfl) (by kernel_rfl) (by rfl) (by exact fun s' W2 hW => srun_lnR (u := .slice (some ⟨g', 0, none⟩) no co') (by rfl) (by exact eval_look (by kernel_rfl) (by kernel_rfl)) (fun W => by go_simp) hW) ?_
        refine @schain _ _ _ _ _ _ _ _ _ _ _ _ _ _ 36 (.int .i64 (gi : Int)) (by rfl) (by rfl) (by kernel_rfl) (by rfl) (by exact fun s' W2 hW => srun_bo (u := .int .i64 (no : Int)) (v := .int .i64 1) (by rfl) (by exact eval_look (by kernel_rfl) (by kernel_rfl)) (by rfl) (fun W => sub1R _ _ _ _ _ HNO.out hno9 W) hW) ?_
        refine @schain _ _ _ _ _ _ _ _ _ _ _ _ _ _ 37 (.slice (some ⟨g', 0, none⟩) no co') (by rfl) (by rfl) (by kernel_rfl) (by rfl) (by exact fun s' W2 hW => srun_mv (by rfl) (by exact eval_base (by kernel_rfl) (by rfl)) hW) ?_
        refine @schain _ _ _ _ _ _ _ _ _ _ _ _ _ _ 38 (.slice (some ⟨g', 0, none⟩) no co') (by rfl) (by rfl) (by kernel_rfl) (by rfl) (by exact fun s' W2 hW => srun_mv (by rfl) (by exact eval_base (by kernel_rfl) (by rfl)) hW) ?_
        refine @schain _ _ _ _ _ _ _ _ _ _ _ _ _ _ 39 (.int .i64 (no : Int)) (by rfl) (by rfl) (by kernel_rfl) (by rfl) (by exact fun s' W2 hW => srun_lnR (u := .slice (some ⟨g', 0, none⟩) no co') (by rfl) (by exact eval_look (by kernel_rfl) (by kernel_rfl)) (fun W => by go_simp) hW) ?_
        refine @schain _ _ _ _ _ _ _ _ _ _ _ _ _ _ 40 (.int .i64 (gi : Int)) (by rfl) (by rfl) (by kernel_rfl) (by rfl) (by exact fun s' W2 hW => srun_bo (u := .int .i64 (no : Int)) (v := .int .i64 1) (by rfl) (by exact eval_look (by kernel_rfl) (by kernel_rfl)) (by rfl) (fun W => sub1R _ _ _ _ _ HNO.out hno9 W) hW) ?_
        refine @schain _ _ _ _ _ _ _ _ _ _ _ _ _ _ 41 (.pointer (some ⟨g', 0 + gi, none⟩)) (by rfl) (by rfl) (by kernel_rfl) (by rfl) (by exact fun s' W2 hW => srun_ia (u := .slice (some ⟨g', 0, none⟩) no co') (v := .int .i64 (gi : Int)) (by rfl) (by exact eval_look (by kernel_rfl) (by kernel_rfl)) (by exact eval_look (by kernel_rfl) (by kernel_rfl)) (fun W => ixL _ _ _ _ _ hgi W) hW) ?_
        refine @schain _ _ _ _ _ _ _ _ _ _ _ _ _ _ 42 (.slice hq.1 nq hq.2.1) (by rfl) (by rfl) (by kernel_rfl) (by rfl) (by exact fun s' W2 hW => srun_ld (u := .pointer (some ⟨g', 0 + gi, none⟩)) (by rfl) (by exact eval_look (by kernel_rfl) (by kernel_rfl)) (ldSlR _ _ _ _ _ _ (E3.out _ _ hW).1) hW) ?_
        refine @schain _ _ _ _ _ _ _ _ _ _ _ _ _ _ 43 (.slice (some ⟨bx, ox, none⟩) m cA) (by rfl) (by rfl) (by kernel_rfl) (by rfl) (by exact fun s' W2 hW => srun_mv (by rfl) (by exact eval_base (by kernel_rfl) (by rfl)) hW) ?_
        refine @schain _ _ _ _ _ _ _ _ _ _ _ _ _ _ 44 (.int .i64 (i : Int)) (by rfl) (by rfl) (by kernel_rfl) (by rfl) (by exact fun s' W2 hW => srun_mv (by rfl) (by exact eval_base (by kernel_rfl) (by rfl)) hW) ?_
        refine @schain _ _ _ _ _ _ _ _ _ _ _ _ _ _ 45 (.pointer (some ⟨bx, ox + i * 4, none⟩)) (by rfl) (by rfl) (by kernel_rfl) (by rfl) (by exact fun s' W2 hW => srun_ia (u := .slice (some ⟨bx, ox, none⟩) m cA) (v := .int .i64 (i : Int)) (by rfl) (by exact eval_look (by kernel_rfl) (by kernel_rfl)) (by exact eval_look (by kernel_rfl) (by kernel_rfl)) (fun W => ixE _ _ _ _ _ hlt W) hW) ?_
        refine @schain _ _ _ _ _ _ _ _ _ _ _ _ _ _ 46 (.agg (encE x).toArray) (by rfl) (by rfl) (by kernel_rfl) (by rfl) (by exact fun s' W2 hW => srun_ld (u := .pointer (some ⟨bx, ox + i * 4, none⟩)) (by rfl) (by exact eval_look (by kernel_rfl) (by kernel_rfl)) (ldER _ _ _ _ (E3.out _ _ hW).2) hW) ?_
        refine @schainW _ _ _ _ _ _ _ _ _ _ _ _ _ _ 47 (.slice (some ⟨W7.heap.size, 0, none⟩) 1 1) 1 (by rfl) (by kernel_rfl) (by rfl) (by decide) (by exact fun W2 hW => by cases hW; exact srun_bsW (W' := W9) (vs := #[(0, .agg (encE x).toArray)]) (by rfl) (by kernel_rfl) (by rw [← hW9]; unfold encE; go_simp) rfl) ?_
        refine @schainW _ _ _ _ _ _ _ _ _ _ _ _ _ _ 48 (.slice A6 nz k6) 2 (by rfl) (by kernel_rfl) (by rfl) (by decide) (by exact fun W2 hW => by cases hW; exact srun_apW (by rfl) (by exact eval_look (by kernel_rfl) (by kernel_rfl)) (by exact eval_look (by kernel_rfl) (by kernel_rfl)) HRUN.out rfl) ?_
        refine @schain _ _ _ _ _ _ _ _ _ _ _ _ _ _ 49 (.pointer (some ⟨g', 0 + gi, none⟩)) (by rfl) (by rfl) (by kernel_rfl) (by rfl) (by exact fun s' W2 hW => srun_ia (u := .slice (some ⟨g', 0, none⟩) no co') (v := .int .i64 (gi : Int)) (by rfl) (by exact eval_look (by kernel_rfl) (by kernel_rfl)) (by exact eval_look (by kernel_rfl) (by kernel_rfl)) (fun W => ixL _ _ _ _ _ hgi W) hW) ?_
        refine snil (fun W2 hW2 => ?_)
        cases hW2
        refine Eq.mpr (congrArg (fun a => wpList _ _ _ _ a w2) (show _ = (⟨#[Value.slice A L.length c, undef, Value.slice none 0 0, Value.slice (some ⟨bx, ox, none⟩) m cA, Value.slice (some ⟨g', 0, none⟩) no co', Value.int IntKind.i64 (i : Int), Value.slice A L.length c, Value.slice (some ⟨bx, ox, none⟩) m cA, Value.int IntKind.i64 (i : Int), Value.slice (some ⟨bx, ox, none⟩) m cA, Value.int IntKind.i64 (m : Int), Value.bool true, u12, u13, Value.int IntKind.i64 (i : Int), Value.bool true, Value.bool true, undef, undef, undef, undef, undef, undef, undef, undef, undef, undef, undef, undef, Value.bool true, Value.slice none 0 0, Value.slice (some ⟨W6.heap.size, 0, none⟩) 1 1, Value.slice (some ⟨g', 0, none⟩) no co', Value.slice (some ⟨g', 0, none⟩) no co', Value.slice (some ⟨g', 0, none⟩) no co', Value.int IntKind.i64 (no : Int), Value.int IntKind.i64 (gi : Int), Value.slice (some ⟨g', 0, none⟩) no co', Value.slice (some ⟨g', 0, none⟩) no co', Value.int IntKind.i64 (no : Int), Value.int IntKind.i64 (gi : Int), Value.pointer (some ⟨g', 0 + gi, none⟩), Value.slice hq.fst nq hq.snd.fst, Value.slice (some ⟨bx, ox, none⟩) m cA, Value.int IntKind.i64 (i : Int), Value.pointer (some ⟨bx, ox + i * 4, none⟩), Value.agg (encE x).toArray, Value.slice (some ⟨W7.heap.size, 0, none⟩) 1 1, Value.slice A6 nz k6, Value.pointer (some ⟨g', 0 + gi, none⟩), undef], []⟩ : Act) by kernel_rfl)) ?_
        go_wp2_with fail
        go_roundw
        case rel => exact ⟨i + 1, by first | rfl | simp, by omega, HBA.out, .inr ⟨by omega, by rw [HGN.out.2]; simp, LD', _, by rw [HGN.out.1, HGN.out.2]; exact HKA.out⟩⟩
        case measure => simp [intOf]; omega
      · obtain ⟨A4, c4, rfl⟩ := own_slice hk.own
        obtain ⟨g4, hA4, _⟩ := own_some hk.own (by simp)
        subst hA4
        obtain ⟨n4, hn4e⟩ : ∃ n4, (LD ++ [hq0']).length = n4 := ⟨_, rfl⟩
        have HN4 := Lib.hid hn4e
        rw [hn4e] at hk ⊢
        clear hn4e
        obtain ⟨i1, hii⟩ : ∃ i1, i = i1 + 1 := ⟨i - 1, by omega⟩
        obtain ⟨y, hy⟩ := getElem?_of_lt (l := all) (by rw [HM.out]; omega : i1 < all.length)
        obtain ⟨_, _, ey, _, hcy⟩ := (HALL.out.later HB.out).at hy
        injection ey with ey
        injection ey with ey ey2
        subst ey; subst ey2
        have z0 : W5.cell? ⟨bx, ox + i1 * 4, none⟩ = some (.string y.1) := hcy 0 _ rfl
        have hyq : y ∈ q := by
          obtain ⟨q1, hq1⟩ := grp_last (l := all.take i1) (x := y)
          rw [← take_suc hy, ← hii, hdq] at hq1
          simp only at hq1
          rw [hq1]
          simp
        obtain ⟨o, r, hor⟩ : ∃ o r, q = o :: r := by
          cases q with
          | nil => exact absurd rfl hq0
          | cons o r => exact ⟨o, r, rfl⟩
        have hyo : y.1 = o.1 := by
          have h1 := grpS_ok (all.take i)
          rw [hdq] at h1
          exact h1.one q (by simp) y hyq o (by rw [hor]; exact List.mem_cons_self)
        have jw : IntKind.i64.wrap (i1 : Int) = (i1 : Int) := by rw [IntKind.wrap_i64]; omega
        have jw2 : (i : Int) - 1 = (i1 : Int) := by omega
        have j3 : (0 : Int) ≤ i1 := by omega
        have j4 : (i1 : Int) < m := by omega
        have j5 : ((i : Int) == 0) = false := by rw [beq_eq_false_iff_ne]; omega
        have j6 : ¬ (i : Int) = 0 := by omega
        have j7 : ¬ i = 0 := by omega
        have HKO0 := Lib.hid hk
        have HOR := Lib.hid hor
        have HYO := Lib.hid hyo
        clear hcy hy hyq hii hk hor hyo
        by_cases hke : o.1 = x.1
        · have hkb : (x.1.toList == y.1.toList) = true := by rw [HYO.out, hke]; simp
          have HGE := Lib.hid (show grpE (d, q) x = (d, q ++ [x]) from by rw [grpE_open (s := (d, q)) HOR.out hke])
          clear hke
          go_wp2_with fail
          go_quiet (fail)
          obtain ⟨W7, hW7⟩ : ∃ Z, W5.drewN nq = Z := ⟨_, rfl⟩
          have hbd : Below W5.heap.size W5 W7 := by rw [← hW7]; exact (Upd.drewN (S := fun _ => False) W5 nq).bel (fun _ h => h.elim) (Nat.le_refl _)
          have HB7 := Lib.hid (HB.out.trans (hbd.mono HB.out.size))
          have HKO := Lib.hid (HKO0.out.later hbd)
          rw [hW7]
          clear hW7 x0 z0 HB hbd HKO0 hdq hkb
          obtain ⟨d', hd'⟩ : ∃ d', d = d' := ⟨_, rfl⟩
          obtain ⟨q', hq'⟩ : ∃ q', q = q' := ⟨_, rfl⟩
          rw [hd', hq'] at HKO
          rw [show (d, q ++ [x]) = (d', q' ++ [x]) from by rw [hd', hq']] at HGE
          have HD' := Lib.hid hd'
          have HQ' := Lib.hid hq'
          clear hd' hq'
          obtain ⟨no, hnoe⟩ : ∃ no, (LD ++ [(hq0' : HE)]).length = no := ⟨_, rfl⟩
          obtain ⟨gi, hgie⟩ : ∃ gi, (LD).length = gi := ⟨_, rfl⟩
          have hno : no = gi + 1 := by rw [← hnoe, ← hgie]; simp
          have e4 := hnoe.symm.trans HN4.out
          subst e4
          have HGI := Lib.hid hgie
          obtain ⟨hq, hhq⟩ : ∃ hq : HE, (hq0' : HE) = hq := ⟨_, rfl⟩
          obtain ⟨LD', hLD'⟩ : ∃ LD', LD = LD' := ⟨_, rfl⟩
          rw [hhq, hLD'] at HKO
          rw [hLD'] at HGI
          obtain ⟨nq, hnq⟩ : ∃ nq, hq.2.2.length = nq := ⟨_, rfl⟩
          have HQE := Lib.hid HKO.out.hqe
          have hno9 : no < 1000000000 := by
            have h1 : (d' ++ [q']).length ≤ i + 2 := (by rw [← HD'.out]; simp; omega)
            have h2 := congrArg List.length HKO.out.ld
            rw [List.length_map, HGI.out] at h2
            simp at h1
            omega
          have hgi : gi < no := by omega
          obtain ⟨_, _, eg, _, hcg⟩ := (own_sl HKO.out.own (fun x => (okHE x).1)).at (i := gi) (x := hq) (by rw [List.getElem?_append_right (by rw [HGI.out]; exact Nat.le_refl _), HGI.out, Nat.sub_self]; rfl)
          injection eg with eg
          injection eg with eg eg2
          subst eg; subst eg2
          have HCG := Lib.hid (show W7.cell? ⟨g4, 0 + gi, none⟩ = some (.slice hq.1 nq hq.2.1) from by have := hcg 0 _ rfl; rw [hnq] at this; simpa using this)
          clear hcg hgie hnoe hhq hLD'
          obtain ⟨W9, hW9⟩ : ∃ Z, W7.drew.alloc (.cells #[.string x.1, .int .u64 x.2.1, .bool x.2.2.1, .string x.2.2.2] 53) = Z := ⟨_, rfl⟩
          have hb9 : Below W7.heap.size W7 W9 := by rw [← hW9]; exact ((Below.refl _ _).drew).alloc (Nat.le_refl _) _
          have hs7 := HB7.out.size
          have hs9 := hb9.size
          obtain ⟨v1, w2, hrun, ho1, hg1, hat1⟩ := run_app (P := Try.prog) (ty := 27) (base := w1.heap.size) uSlE infoE rfl (by decide) (by decide) okE (w := W9) (v := .slice hq.1 nq hq.2.1) (l := hq.2.2) (by rw [← hnq]; exact HKO.out.last.below hb9) (A := some ⟨W7.heap.size, 0, none⟩) (c := 1) (l' := [x]) (by have := Sl.one okE W7.drew x 53 (cs := #[.string x.1, .int .u64 x.2.1, .bool x.2.2.1, .string x.2.2.2]) rfl; rw [hW9] at this; exact this) (by have h1 : q'.length ≤ i + 1 := (by rw [← HQ'.out]; omega); rw [HQE.out]; simp; omega) (by omega)
          obtain ⟨A6, k6, rfl⟩ := own_slice ho1
          rw [HQE.out] at ho1 hat1 hrun
          have hka := HKO.out.add hno HGI.out hb9 hs7 (k1 := k6) (A1 := A6) ho1 (by rw [hnq]; exact hg1) (by rw [hnq]; exact hat1)
          have HKA := Lib.hid hka.1
          have HBA := Lib.hid ((HB7.out.trans (hb9.mono hs7)).trans hka.2)
          have elq : (q' ++ [x]).length = q'.length + 1 := by simp
          rw [elq] at HKA HBA hrun
          obtain ⟨nz, hnz⟩ : ∃ nz, q'.length + 1 = nz := ⟨_, rfl⟩
          rw [hnz] at HKA HBA hrun
          have ug : Upd (fun j => (Value.slice hq.1 nq hq.2.1).ownBlock = some j) W9 w2 := Upd.of_grown hg1 (fun j hj => hj)
          have hgb := (HKO.out.own.block_lt (k := g4) rfl)
          have hgo : (Value.slice hq.1 nq hq.2.1).ownBlock ≠ some g4 := fun hk => HKO.out.far g4 (by rw [hnq]; exact hk) rfl
          have hc9 := cell_later hb9 HCG.out
          have hc2 : w2.cell? ⟨g4, 0 + gi, none⟩ = some (.slice hq.1 nq hq.2.1) := ug.cell hc9 hgo
          have hcell : w2.cell? ⟨g4, gi, none⟩ = some (.slice hq.1 nq hq.2.1) := by rw [Nat.zero_add] at hc2; exact hc2
          have hfroz : w2.frozen? ⟨g4, gi, none⟩ = false := by
            have h1 : Own encHE 27 1 w2 w1.heap.size (.slice (some ⟨g4, 0, none⟩) no c4) (LD' ++ [hq]) := (HKO.out.own.below hb9).upd ug (fun k hk h2 => by
              have e : g4 = k := by simpa [Value.ownBlock] using hk
              exact hgo (by rw [e]; exact h2))
            have h2 : (LD' ++ [hq]).length = no := by rw [List.length_append, HGI.out, hno]; rfl
            rw [← h2] at h1
            exact World.ownsRow.frozenAt h1 gi
          have hbw2 : Below w1.heap.size w1 w2 := (HB7.out.trans (hb9.mono hs7)).trans (ug.bel (fun j hj => (HKO.out.last.block_lt (by rw [hnq]; exact hj)).1) (by omega))
          have E3 := Lib.hid (show ∀ (s' : Nat) (W : World), AtW [W7.drew, W9, w2] s' W → W.cell? ⟨g4, 0 + gi, none⟩ = some (.slice hq.1 nq hq.2.1) ∧ ∀ j v, (encE x)[j]? = some v → W.cell? ⟨bx, ox + i * 4 + j, none⟩ = some v from fun s' W hW => by
            match s', hW with
            | 0, hW => cases hW; exact ⟨HCG.out, HCX.out W7 HB7.out⟩
            | 1, hW => cases hW; exact ⟨hc9, HCX.out W9 (HB7.out.trans (hb9.mono HB7.out.size))⟩
            | 2, hW => cases hW; exact ⟨hc2, HCX.out w2 hbw2⟩)
          have HGN := Lib.hid (show (grpS (all.take (i + 1))).1 = d' ∧ (grpS (all.take (i + 1))).2 = q' ++ [x] from by rw [HGS.out, HGE.out]; exact ⟨rfl, rfl⟩)
          have HNO := Lib.hid hno
          have HRUN := Lib.hid hrun
          clear ho1 hg1 hat1 hka elq hb9 hc9 hc2 hbw2 hno hrun hgo hgb ug hs9 hnz
          go_wp2_with fail
          refine wp_region_step (AtW [W7.drew, W9, w2]) (· ≤ ·) Nat.le_refl (fun _ _ _ => Nat.le_trans) 0 [0, 0, 0, 0, 0, 0, 0, 0, 0, 0, 0, 0, 0, 0, 2, 2, 0] [.slice (some ⟨g4, 0, none⟩) no c4, .slice (some ⟨g4, 0, none⟩) no c4, .int .i64 (no : Int), .int .i64 (gi : Int), .slice (some ⟨g4, 0, none⟩) no c4, .slice (some ⟨g4, 0, none⟩) no c4, .int .i64 (no : Int), .int .i64 (gi : Int), .pointer (some ⟨g4, 0 + gi, none⟩), .slice hq.1 nq hq.2.1, .slice (some ⟨bx, ox, none⟩) m cA, .int .i64 (i : Int), .pointer (some ⟨bx, ox + i * 4, none⟩), .agg (encE x).toArray, undef, undef, .pointer (some ⟨g4, 0 + gi, none⟩)] 17 (by kernel_rfl) (by kernel_rfl) rfl ?_
          simp only [List.take_succ_cons, List.take_zero, List.drop_succ_cons, List.drop_zero]
          refine schain0 ?_
          refine @schain _ _ _ _ _ _ _ _ _ _ _ _ _ _ 33 (.slice (some ⟨g4, 0, none⟩) no c4) (by rfl) (by rfl) (by kernel_rfl) (by rfl) (by exact fun s' W2 hW => srun_mv (by rfl) (by exact eval_base (by kernel_rfl) (by rfl)) hW) ?_
          refine @schain _ _ _ _ _ _ _ _ _ _ _ _ _ _ 34 (.slice (some ⟨g4, 0, none⟩) no c4) (by rfl) (by rfl) (by kernel_rfl) (by rfl) (by exact fun s' W2 hW => srun_mv (by rfl) (by exact eval_base (by kernel_rfl) (by rfl)) hW) ?_
          refine @schain _ _ _ _ _ _ _ _ _ _ _ _ _ _ 35 (.int .i64 (no : Int)) (by rfl) (by rfl) (by kernel_rfl) (by rfl) (by exact fun s' W2 hW => srun_lnR (u := .slice (some ⟨g4, 0, none⟩) no c4) (by rfl) (by exact eval_look (by kernel_rfl) (by kernel_rfl)) (fun W => by go_simp) hW) ?_
          refine @schain _ _ _ _ _ _ _ _ _ _ _ _ _ _ 36 (.int .i64 (gi : Int)) (by rfl) (by rfl) (by kernel_rfl) (by rfl) (by exact fun s' W2 hW => srun_bo (u := .int .i64 (no : Int)) (v := .int .i64 1) (by rfl) (by exact eval_look (by kernel_rfl) (by kernel_rfl)) (by rfl) (fun W => sub1R _ _ _ _ _ HNO.out hno9 W) hW) ?_
          refine @schain _ _ _ _ _ _ _ _ _ _ _ _ _ _ 37 (.slice (some ⟨g4, 0, none⟩) no c4) (by rfl) (by rfl) (by kernel_rfl) (by rfl) (by exact fun s' W2 hW => srun_mv (by rfl) (by exact eval_base (by kernel_rfl) (by rfl)) hW) ?_
          refine @schain _ _ _ _ _ _ _ _ _ _ _ _ _ _ 38 (.slice (some ⟨g4, 0, none⟩) no c4) (by rfl) (by rfl) (by kernel_rfl) (by rfl) (by exact fun s' W2 hW => srun_mv (by rfl) (by exact eval_base (by kernel_rfl) (by rfl)) hW) ?_
          refine @schain _ _ _ _ _ _ _ _ _ _ _ _ _ _ 39 (.int .i64 (no : Int)) (by rfl) (by rfl) (by kernel_rfl) (by rfl) (by exact fun s' W2 hW => srun_lnR (u := .slice (some ⟨g4, 0, none⟩) no c4) (by rfl) (by exact eval_look (by kernel_rfl) (by kernel_rfl)) (fun W => by go_simp) hW) ?_
          refine @schain _ _ _ _ _ _ _ _ _ _ _ _ _ _ 40 (.int .i64 (gi : Int)) (by rfl) (by rfl) (by kernel_rfl) (by rfl) (by exact fun s' W2 hW => srun_bo (u := .int .i64 (no : Int)) (v := .int .i64 1) (by rfl) (by exact eval_look (by kernel_rfl) (by kernel_rfl)) (by rfl) (fun W => sub1R _ _ _ _ _ HNO.out hno9 W) hW) ?_
          refine @schain _ _ _ _ _ _ _ _ _ _ _ _ _ _ 41 (.pointer (some ⟨g4, 0 + gi, none⟩)) (by rfl) (by rfl) (by kernel_rfl) (by rfl) (by exact fun s' W2 hW => srun_ia (u := .slice (some ⟨g4, 0, none⟩) no c4) (v := .int .i64 (gi : Int)) (by rfl) (by exact eval_look (by kernel_rfl) (by kernel_rfl)) (by exact eval_look (by kernel_rfl) (by kernel_rfl)) (fun W => ixL _ _ _ _ _ hgi W) hW) ?_
          refine @schain _ _ _ _ _ _ _ _ _ _ _ _ _ _ 42 (.slice hq.1 nq hq.2.1) (by rfl) (by rfl) (by kernel_rfl) (by rfl) (by exact fun s' W2 hW => srun_ld (u := .pointer (some ⟨g4, 0 + gi, none⟩)) (by rfl) (by exact eval_look (by kernel_rfl) (by kernel_rfl)) (ldSlR _ _ _ _ _ _ (E3.out _ _ hW).1) hW) ?_
          refine @schain _ _ _ _ _ _ _ _ _ _ _ _ _ _ 43 (.slice (some ⟨bx, ox, none⟩) m cA) (by rfl) (by rfl) (by kernel_rfl) (by rfl) (by exact fun s' W2 hW => srun_mv (by rfl) (by exact eval_base (by kernel_rfl) (by rfl)) hW) ?_
          refine @schain _ _ _ _ _ _ _ _ _ _ _ _ _ _ 44 (.int .i64 (i : Int)) (by rfl) (by rfl) (by kernel_rfl) (by rfl) (by exact fun s' W2 hW => srun_mv (by rfl) (by exact eval_base (by kernel_rfl) (by rfl)) hW) ?_
          refine @schain _ _ _ _ _ _ _ _ _ _ _ _ _ _ 45 (.pointer (some ⟨bx, ox + i * 4, none⟩)) (by rfl) (by rfl) (by kernel_rfl) (by rfl) (by exact fun s' W2 hW => srun_ia (u := .slice (some ⟨bx, ox, none⟩) m cA) (v := .int .i64 (i : Int)) (by rfl) (by exact eval_look (by kernel_rfl) (by kernel_rfl)) (by exact eval_look (by kernel_rfl) (by kernel_rfl)) (fun W => ixE _ _ _ _ _ hlt W) hW) ?_
          refine @schain _ _ _ _ _ _ _ _ _ _ _ _ _ _ 46 (.agg (encE x).toArray) (by rfl) (by rfl) (by kernel_rfl) (by rfl) (by exact fun s' W2 hW => srun_ld (u := .pointer (some ⟨bx, ox + i * 4, none⟩)) (by rfl) (by exact eval_look (by kernel_rfl) (by kernel_rfl)) (ldER _ _ _ _ (E3.out _ _ hW).2) hW) ?_
          refine @schainW _ _ _ _ _ _ _ _ _ _ _ _ _ _ 47 (.slice (some ⟨W7.heap.size, 0, none⟩) 1 1) 1 (by rfl) (by kernel_rfl) (by rfl) (by decide) (by exact fun W2 hW => by cases hW; exact srun_bsW (W' := W9) (vs := #[(0, .agg (encE x).toArray)]) (by rfl) (by kernel_rfl) (by rw [← hW9]; unfold encE; go_simp) rfl) ?_
          refine @schainW _ _ _ _ _ _ _ _ _ _ _ _ _ _ 48 (.slice A6 nz k6) 2 (by rfl) (by kernel_rfl) (by rfl) (by decide) (by exact fun W2 hW => by cases hW; exact srun_apW (by rfl) (by exact eval_look (by kernel_rfl) (by kernel_rfl)) (by exact eval_look (by kernel_rfl) (by kernel_rfl)) HRUN.out rfl) ?_
          refine @schain _ _ _ _ _ _ _ _ _ _ _ _ _ _ 49 (.pointer (some ⟨g4, 0 + gi, none⟩)) (by rfl) (by rfl) (by kernel_rfl) (by rfl) (by exact fun s' W2 hW => srun_ia (u := .slice (some ⟨g4, 0, none⟩) no c4) (v := .int .i64 (gi : Int)) (by rfl) (by exact eval_look (by kernel_rfl) (by kernel_rfl)) (by exact eval_look (by kernel_rfl) (by kernel_rfl)) (fun W => ixL _ _ _ _ _ hgi W) hW) ?_
          refine snil (fun W2 hW2 => ?_)
          cases hW2
          refine Eq.mpr (congrArg (fun a => wpList _ _ _ _ a w2) (show _ = (⟨#[Value.slice A L.length c, undef, Value.slice none 0 0, Value.slice (some ⟨bx, ox, none⟩) m cA, Value.slice (some ⟨g4, 0, none⟩) no c4, Value.int IntKind.i64 (i : Int), Value.slice A L.length c, Value.slice (some ⟨bx, ox, none⟩) m cA, Value.int IntKind.i64 (i : Int), Value.slice (some ⟨bx, ox, none⟩) m cA, Value.int IntKind.i64 (m : Int), Value.bool true, u12, u13, Value.int IntKind.i64 (i : Int), Value.bool false, Value.bool false, Value.slice (some ⟨bx, ox, none⟩) m cA, Value.int IntKind.i64 (i : Int), Value.pointer (some ⟨bx, ox + i * 4, none⟩), Value.pointer (some ⟨bx, ox + i * 4, none⟩), Value.string x.fst, Value.slice (some ⟨bx, ox, none⟩) m cA, Value.int IntKind.i64 (i : Int), Value.int IntKind.i64 (i1 : Int), Value.pointer (some ⟨bx, ox + i1 * 4, none⟩), Value.pointer (some ⟨bx, ox + i1 * 4, none⟩), Value.string y.fst, Value.bool false, Value.bool false, u30, u31, u32, Value.slice (some ⟨g4, 0, none⟩) no c4, Value.slice (some ⟨g4, 0, none⟩) no c4, Value.int IntKind.i64 (no : Int), Value.int IntKind.i64 (gi : Int), Value.slice (some ⟨g4, 0, none⟩) no c4, Value.slice (some ⟨g4, 0, none⟩) no c4, Value.int IntKind.i64 (no : Int), Value.int IntKind.i64 (gi : Int), Value.pointer (some ⟨g4, 0 + gi, none⟩), Value.slice hq.fst nq hq.snd.fst, Value.slice (some ⟨bx, ox, none⟩) m cA, Value.int IntKind.i64 (i : Int), Value.pointer (some ⟨bx, ox + i * 4, none⟩), Value.agg (encE x).toArray, Value.slice (some ⟨W7.heap.size, 0, none⟩) 1 1, Value.slice A6 nz k6, Value.pointer (some ⟨g4, 0 + gi, none⟩), undef], []⟩ : Act) by kernel_rfl)) ?_
          go_wp2_with fail
          go_roundw
          case rel => exact ⟨i + 1, by first | rfl | simp, by omega, HBA.out, .inr ⟨by omega, by rw [HGN.out.2]; simp, LD', _, by rw [HGN.out.1, HGN.out.2]; exact HKA.out⟩⟩
          case measure => simp [intOf]; omega
        · have hkb : (x.1.toList == y.1.toList) = false := by
            rw [beq_eq_false_iff_ne]
            intro e
            exact hke (by rw [← HYO.out]; exact (bytes_inj e).symm)
          obtain ⟨d', hd'⟩ : ∃ d', d ++ [q] = d' := ⟨_, rfl⟩
          obtain ⟨q', hq'⟩ : ∃ q' : List Ent, [] = q' := ⟨_, rfl⟩
          have HGE := Lib.hid (show grpE (d, q) x = (d', q' ++ [x]) from by rw [← hd', ← hq', grpE_close (s := (d, q)) HOR.out hke]; rfl)
          have HD' := Lib.hid hd'
          have HQ' := Lib.hid hq'
          clear hke hd' hq'
          go_wp2_with fail
          go_quiet (fail)
          obtain ⟨W6, hW6⟩ : ∃ Z, W5.drewN nq = Z := ⟨_, rfl⟩
          have hbd : Below W5.heap.size W5 W6 := by rw [← hW6]; exact (Upd.drewN (S := fun _ => False) W5 nq).bel (fun _ h => h.elim) (Nat.le_refl _)
          have HB6 := Lib.hid (HB.out.trans (hbd.mono HB.out.size))
          have HK6 := Lib.hid (HKO0.out.later hbd)
          have HMD := Lib.hid HK6.out.made
          have hn4 : (LD ++ [hq0']).length = d.length + 1 := by rw [List.length_append, ← HK6.out.ld]; simp
          rw [HN4.out] at hn4
          have HN4D := Lib.hid hn4
          clear hn4
          rw [hW6]
          clear hW6 x0 z0 HB hbd HKO0 hdq hkb
          obtain ⟨LG0, hLG0⟩ : ∃ LG0, LD ++ [hq0'] = LG0 := ⟨_, rfl⟩
          have HLG := Lib.hid (show LG0.map (·.2.2) = d ++ [q] from by rw [← hLG0, List.map_append, HK6.out.ld]; simp [HK6.out.hqe])
          rw [hLG0] at HMD
          go_upto_region 8 with (at_builtin; refine wpList_app rfl (.tmp 30) (.tmp 31) rfl uSlEE infoEE rfl (by decide) (by decide) okHE (Value.slice (some ⟨g4, 0, none⟩) n4 c4) LG0 rfl (base := w1.heap.size) ?c1 (some ⟨W6.heap.size, 0, none⟩) 1 [((none, 0, []) : HE)] rfl ?c2 ?c3 ?c4 ?_; (case c1 => exact HMD.out.own.below ((Below.refl _ _).alloc (Nat.le_refl _) _)); (case c2 => exact Sl.one okHE W6 ((none, 0, []) : HE) _ rfl); (case c3 => have h1 := HN4D.out; have h2 := congrArg List.length HLG.out; simp at h2; simp; omega); (case c4 => have := HB6.out.size; simp; omega); intro v1 W7 ho1 hg1 hat1)
          obtain ⟨Ag, co', rfl⟩ := own_slice ho1
          obtain ⟨g', hAg, _⟩ := own_some ho1 (by simp)
          subst hAg
          have HKO := Lib.hid (show KO W7 w1.heap.size (.slice (some ⟨g', 0, none⟩) (LG0 ++ [((none, 0, []) : HE)]).length co') d' q' LG0 ((none, 0, []) : HE) from by rw [← HD'.out, ← HQ'.out]; exact KO.new HMD.out HLG.out ((Below.refl W6.heap.size W6).alloc (Nat.le_refl _) (.cells #[.slice none 0 0] 27)) ho1 hg1 (by simpa using hat1))
          have HB7 := Lib.hid (show Below w1.heap.size w1 W7 from (HB6.out.alloc HB6.out.size (.cells #[.slice none 0 0] 27)).trans ((Upd.of_grown (S := fun j => ((Value.slice (some ⟨g4, 0, none⟩) n4 c4)).ownBlock = some j) hg1 (fun j hj => hj)).bel (fun j hj => (HMD.out.own.block_lt hj).1) (by have := HB6.out.size; simp; omega)))
          clear ho1 hg1 hat1 HMD HB6
          obtain ⟨no, hnoe⟩ : ∃ no, (LG0 ++ [(((none, 0, []) : HE) : HE)]).length = no := ⟨_, rfl⟩
          obtain ⟨gi, hgie⟩ : ∃ gi, (LG0).length = gi := ⟨_, rfl⟩
          have hno : no = gi + 1 := by rw [← hnoe, ← hgie]; simp
          rw [hnoe] at HKO ⊢
          have HGI := Lib.hid hgie
          obtain ⟨hq, hhq⟩ : ∃ hq : HE, (((none, 0, []) : HE) : HE) = hq := ⟨_, rfl⟩
          obtain ⟨LD', hLD'⟩ : ∃ LD', LG0 = LD' := ⟨_, rfl⟩
          rw [hhq, hLD'] at HKO
          rw [hLD'] at HGI
          obtain ⟨nq, hnq⟩ : ∃ nq, hq.2.2.length = nq := ⟨_, rfl⟩
          have HQE := Lib.hid HKO.out.hqe
          have hno9 : no < 1000000000 := by
            have h1 : (d' ++ [q']).length ≤ i + 2 := (by rw [← HD'.out, ← HQ'.out]; simp; omega)
            have h2 := congrArg List.length HKO.out.ld
            rw [List.length_map, HGI.out] at h2
            simp at h1
            omega
          have hgi : gi < no := by omega
          obtain ⟨_, _, eg, _, hcg⟩ := (own_sl HKO.out.own (fun x => (okHE x).1)).at (i := gi) (x := hq) (by rw [List.getElem?_append_right (by rw [HGI.out]; exact Nat.le_refl _), HGI.out, Nat.sub_self]; rfl)
          injection eg with eg
          injection eg with eg eg2
          subst eg; subst eg2
          have HCG := Lib.hid (show W7.cell? ⟨g', 0 + gi, none⟩ = some (.slice hq.1 nq hq.2.1) from by have := hcg 0 _ rfl; rw [hnq] at this; simpa using this)
          clear hcg hgie hnoe hhq hLD'
          obtain ⟨W9, hW9⟩ : ∃ Z, W7.drew.alloc (.cells #[.string x.1, .int .u64 x.2.1, .bool x.2.2.1, .string x.2.2.2] 53) = Z := ⟨_, rfl⟩
          have hb9 : Below W7.heap.size W7 W9 := by rw [← hW9]; exact ((Below.refl _ _).drew).alloc (Nat.le_refl _) _
          have hs7 := HB7.out.size
          have hs9 := hb9.size
          obtain ⟨v1, w2, hrun, ho1, hg1, hat1⟩ := run_app (P := Try.prog) (ty := 27) (base := w1.heap.size) uSlE infoE rfl (by decide) (by decide) okE (w := W9) (v := .slice hq.1 nq hq.2.1) (l := hq.2.2) (by rw [← hnq]; exact HKO.out.last.below hb9) (A := some ⟨W7.heap.size, 0, none⟩) (c := 1) (l' := [x]) (by have := Sl.one okE W7.drew x 53 (cs := #[.string x.1, .int .u64 x.2.1, .bool x.2.2.1, .string x.2.2.2]) rfl; rw [hW9] at this; exact this) (by have h1 : q'.length ≤ i + 1 := (by rw [← HQ'.out]; simp); rw [HQE.out]; simp; omega) (by omega)
          obtain ⟨A6, k6, rfl⟩ := own_slice ho1
          rw [HQE.out] at ho1 hat1 hrun
          have hka := HKO.out.add hno HGI.out hb9 hs7 (k1 := k6) (A1 := A6) ho1 (by rw [hnq]; exact hg1) (by rw [hnq]; exact hat1)
          have HKA := Lib.hid hka.1
          have HBA := Lib.hid ((HB7.out.trans (hb9.mono hs7)).trans hka.2)
          have elq : (q' ++ [x]).length = q'.length + 1 := by simp
          rw [elq] at HKA HBA hrun
          obtain ⟨nz, hnz⟩ : ∃ nz, q'.length + 1 = nz := ⟨_, rfl⟩
          rw [hnz] at HKA HBA hrun
          have ug : Upd (fun j => (Value.slice hq.1 nq hq.2.1).ownBlock = some j) W9 w2 := Upd.of_grown hg1 (fun j hj => hj)
          have hgb := (HKO.out.own.block_lt (k := g') rfl)
          have hgo : (Value.slice hq.1 nq hq.2.1).ownBlock ≠ some g' := fun hk => HKO.out.far g' (by rw [hnq]; exact hk) rfl
          have hc9 := cell_later hb9 HCG.out
          have hc2 : w2.cell? ⟨g', 0 + gi, none⟩ = some (.slice hq.1 nq hq.2.1) := ug.cell hc9 hgo
          have hcell : w2.cell? ⟨g', gi, none⟩ = some (.slice hq.1 nq hq.2.1) := by rw [Nat.zero_add] at hc2; exact hc2
          have hfroz : w2.frozen? ⟨g', gi, none⟩ = false := by
            have h1 : Own encHE 27 1 w2 w1.heap.size (.slice (some ⟨g', 0, none⟩) no co') (LD' ++ [hq]) := (HKO.out.own.below hb9).upd ug (fun k hk h2 => by
              have e : g' = k := by simpa [Value.ownBlock] using hk
              exact hgo (by rw [e]; exact h2))
            have h2 : (LD' ++ [hq]).length = no := by rw [List.length_append, HGI.out, hno]; rfl
            rw [← h2] at h1
            exact World.ownsRow.frozenAt h1 gi
          have hbw2 : Below w1.heap.size w1 w2 := (HB7.out.trans (hb9.mono hs7)).trans (ug.bel (fun j hj => (HKO.out.last.block_lt (by rw [hnq]; exact hj)).1) (by omega))
          have E3 := Lib.hid (show ∀ (s' : Nat) (W : World), AtW [W7.drew, W9, w2] s' W → W.cell? ⟨g', 0 + gi, none⟩ = some (.slice hq.1 nq hq.2.1) ∧ ∀ j v, (encE x)[j]? = some v → W.cell? ⟨bx, ox + i * 4 + j, none⟩ = some v from fun s' W hW => by
            match s', hW with
            | 0, hW => cases hW; exact ⟨HCG.out, HCX.out W7 HB7.out⟩
            | 1, hW => cases hW; exact ⟨hc9, HCX.out W9 (HB7.out.trans (hb9.mono HB7.out.size))⟩
            | 2, hW => cases hW; exact ⟨hc2, HCX.out w2 hbw2⟩)
          have HGN := Lib.hid (show (grpS (all.take (i + 1))).1 = d' ∧ (grpS (all.take (i + 1))).2 = q' ++ [x] from by rw [HGS.out, HGE.out]; exact ⟨rfl, rfl⟩)
          have HNO := Lib.hid hno
          have HRUN := Lib.hid hrun
          clear ho1 hg1 hat1 hka elq hb9 hc9 hc2 hbw2 hno hrun hgo hgb ug hs9 hnz
          go_wp2_with fail
          refine wp_region_step (AtW [W7.drew, W9, w2]) (· ≤ ·) Nat.le_refl (fun _ _ _ => Nat.le_trans) 0 [0, 0, 0, 0, 0, 0, 0, 0, 0, 0, 0, 0, 0, 0, 2, 2, 0] [.slice (some ⟨g', 0, none⟩) no co', .slice (some ⟨g', 0, none⟩) no co', .int .i64 (no : Int), .int .i64 (gi : Int), .slice (some ⟨g', 0, none⟩) no co', .slice (some ⟨g', 0, none⟩) no co', .int .i64 (no : Int), .int .i64 (gi : Int), .pointer (some ⟨g', 0 + gi, none⟩), .slice hq.1 nq hq.2.1, .slice (some ⟨bx, ox, none⟩) m cA, .int .i64 (i : Int), .pointer (some ⟨bx, ox + i * 4, none⟩), .agg (encE x).toArray, undef, undef, .pointer (some ⟨g', 0 + gi, none⟩)] 17 (by kernel_rfl) (by kernel_rfl) rfl ?_
          simp only [List.take_succ_cons, List.take_zero, List.drop_succ_cons, List.drop_zero]
          refine schain0 ?_
          refine @schain _ _ _ _ _ _ _ _ _ _ _ _ _ _ 33 (.slice (some ⟨g', 0, none⟩) no co') (by rfl) (by rfl) (by kernel_rfl) (by rfl) (by exact fun s' W2 hW => srun_mv (by rfl) (by exact eval_base (by kernel_rfl) (by rfl)) hW) ?_
          refine @schain _ _ _ _ _ _ _ _ _ _ _ _ _ _ 34 (.slice (some ⟨g', 0, none⟩) no co') (by rfl) (by rfl) (by kernel_rfl) (by rfl) (by exact fun s' W2 hW => srun_mv (by rfl) (by exact eval_base (by kernel_rfl) (by rfl)) hW) ?_
          refine @schain _ _ _ _ _ _ _ _ _ _ _ _ _ _ 35 (.int .i64 (no : Int)) (by rfl) (by rfl) (by kernel_rfl) (by rfl) (by exact fun s' W2 hW => srun_lnR (u := .slice (some ⟨g', 0, none⟩) no co') (by rfl) (by exact eval_look (by kernel_rfl) (by kernel_rfl)) (fun W => by go_simp) hW) ?_
          refine @schain _ _ _ _ _ _ _ _ _ _ _ _ _ _ 36 (.int .i64 (gi : Int)) (by rfl) (by rfl) (by kernel_rfl) (by rfl) (by exact fun s' W2 hW => srun_bo (u := .int .i64 (no : Int)) (v := .int .i64 1) (by rfl) (by exact eval_look (by kernel_rfl) (by kernel_rfl)) (by rfl) (fun W => sub1R _ _ _ _ _ HNO.out hno9 W) hW) ?_
          refine @schain _ _ _ _ _ _ _ _ _ _ _ _ _ _ 37 (.slice (some ⟨g', 0, none⟩) no co') (by rfl) (by rfl) (by kernel_rfl) (by rfl) (by exact fun s' W2 hW => srun_mv (by rfl) (by exact eval_base (by kernel_rfl) (by rfl)) hW) ?_
          refine @schain _ _ _ _ _ _ _ _ _ _ _ _ _ _ 38 (.slice (some ⟨g', 0, none⟩) no co') (by rfl) (by rfl) (by kernel_rfl) (by rfl) (by exact fun s' W2 hW => srun_mv (by rfl) (by exact eval_base (by kernel_rfl) (by rfl)) hW) ?_
          refine @schain _ _ _ _ _ _ _ _ _ _ _ _ _ _ 39 (.int .i64 (no : Int)) (by rfl) (by rfl) (by kernel_rfl) (by rfl) (by exact fun s' W2 hW => srun_lnR (u := .slice (some ⟨g', 0, none⟩) no co') (by rfl) (by exact eval_look (by kernel_rfl) (by kernel_rfl)) (fun W => by go_simp) hW) ?_
          refine @schain _ _ _ _ _ _ _ _ _ _ _ _ _ _ 40 (.int .i64 (gi : Int)) (by rfl) (by rfl) (by kernel_rfl) (by rfl) (by exact fun s' W2 hW => srun_bo (u := .int .i64 (no : Int)) (v := .int .i64 1) (by rfl) (by exact eval_look (by kernel_rfl) (by kernel_rfl)) (by rfl) (fun W => sub1R _ _ _ _ _ HNO.out hno9 W) hW) ?_
          refine @schain _ _ _ _ _ _ _ _ _ _ _ _ _ _ 41 (.pointer (some ⟨g', 0 + gi, none⟩)) (by rfl) (by rfl) (by kernel_rfl) (by rfl) (by exact fun s' W2 hW => srun_ia (u := .slice (some ⟨g', 0, none⟩) no co') (v := .int .i64 (gi : Int)) (by rfl) (by exact eval_look (by kernel_rfl) (by kernel_rfl)) (by exact eval_look (by kernel_rfl) (by kernel_rfl)) (fun W => ixL _ _ _ _ _ hgi W) hW) ?_
          refine @schain _ _ _ _ _ _ _ _ _ _ _ _ _ _ 42 (.slice hq.1 nq hq.2.1) (by rfl) (by rfl) (by kernel_rfl) (by rfl) (by exact fun s' W2 hW => srun_ld (u := .pointer (some ⟨g', 0 + gi, none⟩)) (by rfl) (by exact eval_look (by kernel_rfl) (by kernel_rfl)) (ldSlR _ _ _ _ _ _ (E3.out _ _ hW).1) hW) ?_
          refine @schain _ _ _ _ _ _ _ _ _ _ _ _ _ _ 43 (.slice (some ⟨bx, ox, none⟩) m cA) (by rfl) (by rfl) (by kernel_rfl) (by rfl) (by exact fun s' W2 hW => srun_mv (by rfl) (by exact eval_base (by kernel_rfl) (by rfl)) hW) ?_
          refine @schain _ _ _ _ _ _ _ _ _ _ _ _ _ _ 44 (.int .i64 (i : Int)) (by rfl) (by rfl) (by kernel_rfl) (by rfl) (by exact fun s' W2 hW => srun_mv (by rfl) (by exact eval_base (by kernel_rfl) (by rfl)) hW) ?_
          refine @schain _ _ _ _ _ _ _ _ _ _ _ _ _ _ 45 (.pointer (some ⟨bx, ox + i * 4, none⟩)) (by rfl) (by rfl) (by kernel_rfl) (by rfl) (by exact fun s' W2 hW => srun_ia (u := .slice (some ⟨bx, ox, none⟩) m cA) (v := .int .i64 (i : Int)) (by rfl) (by exact eval_look (by kernel_rfl) (by kernel_rfl)) (by exact eval_look (by kernel_rfl) (by kernel_rfl)) (fun W => ixE _ _ _ _ _ hlt W) hW) ?_
          refine @schain _ _ _ _ _ _ _ _ _ _ _ _ _ _ 46 (.agg (encE x).toArray) (by rfl) (by rfl) (by kernel_rfl) (by rfl) (by exact fun s' W2 hW => srun_ld (u := .pointer (some ⟨bx, ox + i * 4, none⟩)) (by rfl) (by exact eval_look (by kernel_rfl) (by kernel_rfl)) (ldER _ _ _ _ (E3.out _ _ hW).2) hW) ?_
          refine @schainW _ _ _ _ _ _ _ _ _ _ _ _ _ _ 47 (.slice (some ⟨W7.heap.size, 0, none⟩) 1 1) 1 (by rfl) (by kernel_rfl) (by rfl) (by decide) (by exact fun W2 hW => by cases hW; exact srun_bsW (W' := W9) (vs := #[(0, .agg (encE x).toArray)]) (by rfl) (by kernel_rfl) (by rw [← hW9]; unfold encE; go_simp) rfl) ?_
          refine @schainW _ _ _ _ _ _ _ _ _ _ _ _ _ _ 48 (.slice A6 nz k6) 2 (by rfl) (by kernel_rfl) (by rfl) (by decide) (by exact fun W2 hW => by cases hW; exact srun_apW (by rfl) (by exact eval_look (by kernel_rfl) (by kernel_rfl)) (by exact eval_look (by kernel_rfl) (by kernel_rfl)) HRUN.out rfl) ?_
          refine @schain _ _ _ _ _ _ _ _ _ _ _ _ _ _ 49 (.pointer (some ⟨g', 0 + gi, none⟩)) (by rfl) (by rfl) (by kernel_rfl) (by rfl) (by exact fun s' W2 hW => srun_ia (u := .slice (some ⟨g', 0, none⟩) no co') (v := .int .i64 (gi : Int)) (by rfl) (by exact eval_look (by kernel_rfl) (by kernel_rfl)) (by exact eval_look (by kernel_rfl) (by kernel_rfl)) (fun W => ixL _ _ _ _ _ hgi W) hW) ?_
          refine snil (fun W2 hW2 => ?_)
          cases hW2
          refine Eq.mpr (congrArg (fun a => wpList _ _ _ _ a w2) (show _ = (⟨#[Value.slice A L.length c, undef, Value.slice none 0 0, Value.slice (some ⟨bx, ox, none⟩) m cA, Value.slice (some ⟨g', 0, none⟩) no co', Value.int IntKind.i64 (i : Int), Value.slice A L.length c, Value.slice (some ⟨bx, ox, none⟩) m cA, Value.int IntKind.i64 (i : Int), Value.slice (some ⟨bx, ox, none⟩) m cA, Value.int IntKind.i64 (m : Int), Value.bool true, u12, u13, Value.int IntKind.i64 (i : Int), Value.bool false, Value.bool false, Value.slice (some ⟨bx, ox, none⟩) m cA, Value.int IntKind.i64 (i : Int), Value.pointer (some ⟨bx, ox + i * 4, none⟩), Value.pointer (some ⟨bx, ox + i * 4, none⟩), Value.string x.fst, Value.slice (some ⟨bx, ox, none⟩) m cA, Value.int IntKind.i64 (i : Int), Value.int IntKind.i64 (i1 : Int), Value.pointer (some ⟨bx, ox + i1 * 4, none⟩), Value.pointer (some ⟨bx, ox + i1 * 4, none⟩), Value.string y.fst, Value.bool true, Value.bool true, Value.slice (some ⟨g4, 0, none⟩) n4 c4, Value.slice (some ⟨W6.heap.size, 0, none⟩) 1 1, Value.slice (some ⟨g', 0, none⟩) no co', Value.slice (some ⟨g', 0, none⟩) no co', Value.slice (some ⟨g', 0, none⟩) no co', Value.int IntKind.i64 (no : Int), Value.int IntKind.i64 (gi : Int), Value.slice (some ⟨g', 0, none⟩) no co', Value.slice (some ⟨g', 0, none⟩) no co', Value.int IntKind.i64 (no : Int), Value.int IntKind.i64 (gi : Int), Value.pointer (some ⟨g', 0 + gi, none⟩), Value.slice hq.fst nq hq.snd.fst, Value.slice (some ⟨bx, ox, none⟩) m cA, Value.int IntKind.i64 (i : Int), Value.pointer (some ⟨bx, ox + i * 4, none⟩), Value.agg (encE x).toArray, Value.slice (some ⟨W7.heap.size, 0, none⟩) 1 1, Value.slice A6 nz k6, Value.pointer (some ⟨g', 0 + gi, none⟩), undef], []⟩ : Act) by kernel_rfl)) ?_
          go_wp2_with fail
          go_roundw
          case rel => exact ⟨i + 1, by first | rfl | simp, by omega, HBA.out, .inr ⟨by omega, by rw [HGN.out.2]; simp, LD', _, by rw [HGN.out.1, HGN.out.2]; exact HKA.out⟩⟩
          case measure => simp [intOf]; omega
    · have e : m = i := by omega
      subst e
      have htk : all.take m = all := List.take_of_length_le (by rw [HM.out]; exact Nat.le_refl _)
      rw [htk] at hcase
      have HFIN := Lib.hid (keyFin HM.out hcase)
      clear hcase hlt hi
      go_wp2_with fail
      go_ret
      obtain ⟨LG, h1, h2⟩ := HFIN.out
      have hsz := HB1.out.size
      exact ⟨_, LG, rfl, h1, ⟨h2.own.lowB hsz, h2.rows, fun y hy b o e => ⟨Nat.le_trans hsz (h2.far y hy b o e).1, (h2.far y hy b o e).2⟩⟩, HB1.out.trans (HB.out.mono hsz)⟩
end Go.Proofs.Ytdpijhpjicbecaa.H
