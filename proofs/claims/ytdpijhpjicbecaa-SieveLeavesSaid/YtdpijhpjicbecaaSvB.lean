/- sieve.Keep: its iterator gives what stays of each key's entries. Conditions: sizes. | screelaw12's sources: lists as iterators. Conditions: sizes. | screelaw12's gives and same. Conditions: sizes. (genv6.py) -/
import Derived.Test.YtdpijhpjicbecaaSvA
import Derived.Test.YtdpijhpjicbecaaGOf4
namespace Go.Proofs.Ytdpijhpjicbecaa.H
open Go Go.RowKit Go.Deep Go.Shelf Go.Proofs Go.Proofs.YtdpijhpjicbecaaW.PrintWords
set_option linter.unusedVariables false
set_option linter.unusedSimpArgs false
attribute [local go_sem] Oper.semAt_some
theorem pickV_none : pickV none = .tuple #[.agg #[.string ⟨#[]⟩, .int .u64 0, .bool false, .string ⟨#[]⟩], .bool false] := rfl
theorem pickV_some (e : Ent) : pickV (some e) = .tuple #[.agg #[.string e.1, .int .u64 e.2.1, .bool e.2.2.1, .string e.2.2.2], .bool true] := rfl
def keepL (b : ByteArray → Bool) (l : List (List Ent)) : List Ent := l.filterMap (pickL b)
theorem keepL_snoc (b : ByteArray → Bool) (p : List (List Ent)) (x : List Ent) : keepL b (p ++ [x]) = keepL b p ++ (pickL b x).toList := by
  simp only [keepL, List.filterMap_append]
  cases h : pickL b x <;> simp [List.filterMap, h]
theorem keepL_pre (b : ByteArray → Bool) {p l : List (List Ent)} (h : p <+: l) : keepL b p <+: keepL b l := by
  obtain ⟨t, rfl⟩ := h
  exact ⟨keepL b t, by simp [keepL, List.filterMap_append]⟩
/-- A box that holds a function value, below n₀ and apart from U. -/
def BoxV (n₀ : Nat) (U : Nat → Prop) (t : TypeId) (b : Nat) (f : FV) (W : World) : Prop := b < n₀ ∧ ¬ U b ∧ W.heap[b]? = some (.cells #[valF f] t (0, 0))
theorem BoxV.upd {n₀ : Nat} {U X : Nat → Prop} {t : TypeId} {b : Nat} {f : FV} {W W' : World} (h : BoxV n₀ U t b f W) (u : Upd X W W') (hX : ∀ k, X k → U k ∨ n₀ ≤ k) : BoxV n₀ U t b f W' :=
  ⟨h.1, h.2.1, u.heap h.2.2 fun hx => by
    rcases hX b hx with k | k
    · exact h.2.1 k
    · have := h.1; omega⟩
/-- What the caller of Keep's iterator has, and the iterator's own block. -/
def KeepAt (J : List Ent → (Nat → Prop) → World → Prop) (bw : ByteArray → Bool) (clo : Obj) (b : Nat) (p : List (List Ent)) (S : Nat → Prop) (W : World) : Prop :=
  ∃ T, (∀ k, S k ↔ T k ∨ k = b) ∧ ¬ T b ∧ J (keepL bw p) T W ∧ W.heap[b]? = some clo
theorem keepAt_foot {J : List Ent → (Nat → Prop) → World → Prop} (h : Foot J) (bw : ByteArray → Bool) (clo : Obj) (b : Nat) : Foot (KeepAt J bw clo b) := by
  refine ⟨fun {s S W k} h1 hk => ?_, fun {s S W W'} h1 hs => ?_⟩
  · obtain ⟨T, hS, _, hj, hc⟩ := h1
    rcases (hS k).1 hk with hk | rfl
    · exact h.lt hj hk
    · exact blk_lt hc
  · obtain ⟨T, hS, hn, hj, hc⟩ := h1
    exact ⟨T, hS, hn, h.move hj (hs.mono fun k hk => (hS k).2 (.inl hk)), (hs.block _ ((hS _).2 (.inr rfl))).trans hc⟩
/-- What a function that tells of below needs to stand: blocks apart from U and from n₀ on. -/
structure TellsAt (g : FV) (b : ByteArray → Bool) (K : ByteArray → Prop) (n₀ : Nat) (U : Nat → Prop) (HB : World → Prop) : Prop where
  enter : ∀ args w, (callFunc g.1 args).run Try.prog w = .ok (.enter g.1 args) w
  stays : ∀ W W', HB W → Upd (fun k => U k ∨ n₀ ≤ k) W W' → HB W'
  tells : ∀ W, HB W → n₀ ≤ W.heap.size → Tells g b K W
set_option maxHeartbeats 6400000 in
set_option maxRecDepth 100000 in
theorem keep1_it (n₀ : Nat) (U : Nat → Prop) (I0 I1 : World → Prop) (L : List (List Ent)) (ba bb : Nat) (f g : FV) (bw : ByteArray → Bool) (K : ByteArray → Prop) (HB : World → Prop) (hf : KeyV f n₀ U I0 I1 L) (hg : TellsAt g bw K n₀ U HB) (hK : ∀ x ∈ L, ∀ e ∈ x, K e.1)
    (hI0 : Firm n₀ I0) (hI1 : Firm n₀ I1) (hUn : ∀ k, U k → k < n₀) (W : World) (hsz : n₀ ≤ W.heap.size) :
    IterU Try.prog 73 #[] #[.pointer (some ⟨ba, 0, none⟩), .pointer (some ⟨bb, 0, none⟩)] encA n₀ U
      (fun W => I0 W ∧ BoxV n₀ U 36 ba f W ∧ BoxV n₀ U 61 bb g W ∧ HB W)
      (fun W => I1 W ∧ BoxV n₀ U 36 ba f W ∧ BoxV n₀ U 61 bb g W ∧ HB W)
      (fun W => I1 W ∧ BoxV n₀ U 36 ba f W ∧ BoxV n₀ U 61 bb g W ∧ HB W) (keepL bw L) W := by
  intro fn cap J Jx T hJ hJx hT h0 hi0 hY
  obtain ⟨hi0, hba, hbb, hhb⟩ := hi0
  obtain ⟨gf, fa, lb, rfl, henter, hseq⟩ := hf
  obtain ⟨W2, hW2⟩ : ∃ W2, W.alloc (.cells #[.func fn #[] cap] 49) = W2 := ⟨_, rfl⟩
  have hb2 : Below W.heap.size W W2 := by rw [← hW2]; exact (Below.refl _ _).alloc (Nat.le_refl _) _
  have r2 : W2.heap[W.heap.size]? = some (.cells #[.func fn #[] cap] 49 (0, 0)) := by rw [← hW2]; exact heap_alloc_new _ _
  have hlt : ∀ k, T k → k < W.heap.size := fun k hk => hJ.lt h0 hk
  have hst0 : KeepAt J bw (.cells #[.func fn #[] cap] 49 (0, 0)) W.heap.size [] (fun k => T k ∨ k = W.heap.size) W2 :=
    ⟨T, fun _ => Iff.rfl, fun h => by have := hlt _ h; omega, hJ.move h0 (Same.of_below hb2 hlt), r2⟩
  have hcb : W2.cell? ⟨ba, 0, none⟩ = some (.func (.func gf) fa lb) := (blk_cell (hba.upd (Upd.of_below (S := fun _ => False) hb2) (fun k h => h.elim)).2.2 0).trans rfl
  rw [← hW2] at hcb
  have HY := Lib.hid hY
  have HJ := Lib.hid hJ
  have HJX := Lib.hid hJx
  have HT := Lib.hid hT
  have HB2 := Lib.hid hb2
  have HLT := Lib.hid hlt
  have HBA := Lib.hid hba
  have HBB := Lib.hid hbb
  have HHB := Lib.hid hhb
  have HST0 := Lib.hid hst0
  have HI0 := Lib.hid (hI0.later hi0 hb2)
  have HUN := Lib.hid hUn
  have HSZ := Lib.hid hsz
  have HKK := Lib.hid hK
  have HG := Lib.hid hg
  have HI1 := Lib.hid hI1
  clear hY hJx h0 hT hb2 hlt hba hbb hhb hst0 hi0 hUn hsz r2 hK hg
  have HWE := Lib.hid hW2
  clear hW2
  refine (callsIn_wide (n := 8)).1 ?_
  refine callsIn_of_wp_marks Try.func73 rfl trivial ?_ rfl
  simp only [Try.ntmps73, List.size_toArray, List.length_cons, List.length_nil, Nat.reduceAdd, Nat.reduceSub, Array.replicate_succ, Array.replicate_zero, List.push_toArray, List.append_toArray, List.nil_append, List.cons_append]
  gi_wp2
  rw [HWE.out]
  have HUW := Lib.hid (show ∀ (S' T1 : Nat → Prop) (W' : World), Grow (fun k => T k ∨ k = W.heap.size) S' W2 → Upd (fun k => (T k ∨ k = W.heap.size) ∨ U k) W2 W' → (∀ k, T1 k → S' k) → Grow T T1 W ∧ Upd (fun k => T k ∨ U k) W W' from fun S' T1 W' hg hu hS => by
    have hle : W.heap.size ≤ W2.heap.size := HB2.out.size
    refine ⟨fun k hk => ?_, (Upd.of_below HB2.out).step hu (fun k hk => ?_)⟩
    · rcases hg k (hS k hk) with (h | h) | h
      · exact .inl h
      · exact .inr (by omega)
      · exact .inr (by omega)
    · rcases hk with (h | h) | h
      · exact .inl (.inl h)
      · exact .inr (by omega)
      · exact .inl (.inr h))
  have HALL := Lib.hid (show ∀ W' : World, Upd (fun k => T k ∨ U k) W W' → BoxV n₀ U 36 ba (gf, fa, lb) W' ∧ BoxV n₀ U 61 bb g W' ∧ HB W' from fun W' u =>
    ⟨HBA.out.upd u (fun k hk => hk.elim (fun h => .inr (HT.out k h)) .inl), HBB.out.upd u (fun k hk => hk.elim (fun h => .inr (HT.out k h)) .inl), HG.out.stays _ _ HHB.out (u.mono fun k hk => hk.elim (fun h => .inr (HT.out k h)) .inl)⟩)
  refine rangeG (gf := gf) (fa := fa) (lb := lb) rfl henter (E := encR) (n₀ := n₀) (l := L) hseq hI0 hI1 hI1 encR_ok (fun x args F W h => by obtain ⟨A, c, rfl, _⟩ := h; rfl)
    (KeepAt J bw (.cells #[.func fn #[] cap] 49 (0, 0)) W.heap.size)
    (fun c p S' W' => (∃ T1 g, (∀ k, T1 k → S' k) ∧ (∀ k, S' k → k < W'.heap.size) ∧ g <+: keepL bw L ∧ Jx g T1 W') ∧ c = .ret)
    (fun p x args => fun a' S' W' => KeepAt J bw (.cells #[.func fn #[] cap] 49 (0, 0)) W.heap.size p S' W' ∧ a' = ({ tmps := #[.func fn #[] cap, .pointer (some ⟨ba, 0, none⟩), .pointer (some ⟨bb, 0, none⟩), .pointer (some ⟨W.heap.size, 0, none⟩), args.getD 0 undef, undef, undef, .func (.func gf) fa lb, args.getD 0 undef, undef, undef, undef, undef, undef, undef, undef, undef, undef, undef, undef, undef, undef], defers := [] } : Act))
    (keepAt_foot HJ.out _ _ _)
    (fun c => ⟨fun {s S' W' k'} h hk => by
        obtain ⟨⟨T1, g, hS, hl, _, hj⟩, _⟩ := h
        exact hl k' hk,
      fun {s S' W' W''} h hs => by
        obtain ⟨⟨T1, g, hS, hl, hg, hj⟩, hc⟩ := h
        exact ⟨⟨T1, g, hS, fun k hk => Nat.lt_of_lt_of_le (hl k hk) hs.size, hg, HJX.out.move hj (hs.mono fun k' hk => hS k' hk)⟩, hc⟩⟩)
    (fun p x args => foot_act (keepAt_foot HJ.out _ _ _) p _)
    _ (fun k hk => by
      have := HSZ.out
      rcases hk with h | h
      · exact HT.out k h
      · omega) (Nat.le_trans HSZ.out HB2.out.size) HST0.out HI0.out ?assign ?body ?done ?stop
  case assign =>
    intro lp p x T1 W' K hi him hg hu hp args F hE hF hK
    obtain ⟨A, c, rfl, hs, hl, hb⟩ := hE
    dsimp only
    gi_wp2
    exact hK _ T1 _ (Grow.refl _ _) (Upd.refl _ _) ⟨hi, rfl⟩
  case body =>
    rintro lp p x args F a' S' W' ⟨hst, rfl⟩ him hg hu hp hE hF
    obtain ⟨A, c, rfl, hs, hl, hb⟩ := hE
    obtain ⟨T1, hS, hn, hj, hr⟩ := hst
    have hsub : ∀ k, T1 k → S' k := fun k hk => (hS k).2 (.inl hk)
    have HUW1 := Lib.hid (HUW.out S' T1 W' hg hu hsub)
    have hall := HALL.out W' HUW1.out.2
    have hn0 : n₀ ≤ W'.heap.size := Nat.le_trans HSZ.out HUW1.out.2.size
    have c1 : W'.cell? ⟨bb, 0, none⟩ = some (valF g) := (blk_cell hall.2.1.2.2 0).trans rfl
    have hxL : x ∈ L := hp.subset (by simp)
    have HC := Lib.hid (pick_c A c x g bw K W' hs (fun e he => HKK.out x hxL e he) HG.out.enter (HG.out.tells W' hall.2.2 hn0))
    have HS := Lib.hid hS
    have HN := Lib.hid hn
    have HJ1 := Lib.hid hj
    have HR := Lib.hid hr
    have HI := Lib.hid him
    have HP := Lib.hid hp
    clear hS hn hj hr him hp hg hu hF hs hl hb hall hsub hxL hn0
    cases hpk : pickL bw x with
    | none =>
      rw [hpk, pickV_none] at HC
      have HKP := Lib.hid (show keepL bw (p ++ [x]) = keepL bw p from by rw [keepL_snoc, hpk]; simp)
      clear hpk
      refine wpIn_block ?_
      gi_upto_region 3 with fail
      refine wpIn_region_rndL (by kernel_rfl) (no_letsOut fun a w h => h) ?_
      go_wp2_with (go_at_call 32; refine HC.out.mono ?_; rintro _ W5 ⟨rfl, hb5⟩)
      have HB6 := Lib.hid (show Below W'.heap.size W' (W5.alloc (.cells #[.string ⟨#[]⟩, .int .u64 0, .bool false, .string ⟨#[]⟩] 53)) from hb5.alloc hb5.size _)
      gi_wp2
      refine ⟨(fun f h => by cases h), ?_⟩
      gi_wp2
      have hl1 : ∀ k, S' k → k < W'.heap.size := fun k hk => by
        rcases (HS.out k).1 hk with h | h
        · exact HJ.out.lt HJ1.out h
        · rw [h]; exact blk_lt HR.out
      exact ⟨S', Grow.refl _ _, Upd.of_below HB6.out, T1, HS.out, HN.out, by rw [HKP.out]; exact HJ.out.move HJ1.out (Same.of_below HB6.out (fun k hk => HJ.out.lt HJ1.out hk)), blk_below HR.out HB6.out⟩
    | some e =>
      rw [hpk, pickV_some] at HC
      have HKP := Lib.hid (show keepL bw (p ++ [x]) = keepL bw p ++ [e] from by rw [keepL_snoc, hpk]; rfl)
      clear hpk
      refine wpIn_block ?_
      gi_upto_region 3 with fail
      refine wpIn_region_rndL (by kernel_rfl) (no_letsOut fun a w h => h) ?_
      go_wp2_with (go_at_call 32; refine HC.out.mono ?_; rintro _ W5 ⟨rfl, hb5⟩)
      obtain ⟨W6, hW6⟩ : ∃ Z, W5.alloc (.cells #[.string e.1, .int .u64 e.2.1, .bool e.2.2.1, .string e.2.2.2] 53) = Z := ⟨_, rfl⟩
      have hb6 : Below W'.heap.size W' W6 := by rw [← hW6]; exact hb5.alloc hb5.size _
      have r6 : W6.heap[W5.heap.size]? = some (.cells #[.string e.1, .int .u64 e.2.1, .bool e.2.2.1, .string e.2.2.2] 53 (0, 0)) := by rw [← hW6]; exact heap_alloc_new _ _
      rw [hW6]
      have HB6 := Lib.hid hb6
      have hj6 : J (keepL bw p) T1 W6 := HJ.out.move HJ1.out (Same.of_below hb6 (fun k hk => HJ.out.lt HJ1.out hk))
      have hu6 : Upd (fun k => T k ∨ U k) W W6 := HUW1.out.2.trans (Upd.of_below hb6)
      have HCALL := Lib.hid ((HY.out (keepL bw p) e T1 W6 hj6 ⟨HI1.out.later HI.out (hb6), HALL.out W6 hu6⟩ HUW1.out.1 hu6 (by rw [← HKP.out]; exact keepL_pre bw HP.out)).mono fun e W1 h => h.bool)
      obtain ⟨x0, x1, x2, x3, _, _, _, _⟩ := four r6
      have hr6 := blk_below HR.out hb6
      have c2 : W6.cell? ⟨W.heap.size, 0, none⟩ = some (.func fn #[] cap) := (blk_cell hr6 0).trans rfl
      have HR6 := Lib.hid hr6
      have HU6 := Lib.hid (Upd.of_below (S := S') hb6)
      have hsT : ∀ k, T1 k → S' k := fun k hk => (HS.out k).2 (.inl hk)
      have HAFT := Lib.hid (show ∀ (T3 : Nat → Prop) (W7 : World), Grow T1 T3 W6 → Upd T1 W6 W7 → J (keepL bw p ++ [e]) T3 W7 → ∃ T', Grow S' T' W' ∧ Upd S' W' W7 ∧ KeepAt J bw (.cells #[.func fn #[] cap] 49 (0, 0)) W.heap.size (p ++ [x]) T' W7 from fun T3 W7 hg3 hu3 hj3 => by
        refine ⟨fun k => T3 k ∨ k = W.heap.size, fun k hk => ?_, HU6.out.trans (hu3.mono hsT), T3, fun _ => Iff.rfl, hg3.not HN.out (blk_lt HR6.out), by rw [HKP.out]; exact hj3, hu3.heap HR6.out HN.out⟩
        rcases hk with h | h
        · rcases hg3 k h with h | h
          · exact .inl (hsT k h)
          · exact .inr (Nat.le_trans HB6.out.size h)
        · exact .inl ((HS.out k).2 (.inr h)))
      have HLEFT := Lib.hid (show ∀ (T3 : Nat → Prop) (W7 : World), Grow T1 T3 W6 → Upd T1 W6 W7 → Jx (keepL bw p ++ [e]) T3 W7 → ∃ T', Grow S' T' W' ∧ Upd S' W' W7 ∧ (∃ T1 g, (∀ k, T1 k → T' k) ∧ (∀ k, T' k → k < W7.heap.size) ∧ g <+: keepL bw L ∧ Jx g T1 W7) from fun T3 W7 hg3 hu3 hj3 => by
        refine ⟨T3, fun k hk => ?_, HU6.out.trans (hu3.mono hsT), T3, _, fun k hk => hk, fun k hk => HJX.out.lt hj3 hk, by rw [← HKP.out]; exact keepL_pre bw HP.out, hj3⟩
        rcases hg3 k hk with h | h
        · exact .inl (hsT k h)
        · exact .inr (Nat.le_trans HB6.out.size h))
      clear hb6 r6 hj6 hu6 hr6 hsT hb5 hW6
      rcases HCALL.out with ⟨l2, rfl, rfl, fn', tmps', assign', body', hy', hR⟩ | ⟨f', rfl, henter', hC'⟩
      · have HC := Lib.hid (RoundIn.wide (m := 8 - 1 - 1 - 1) hR)
        have hy2 := show (Instr.yield l2 #[.agg #[.string e.1, .int .u64 e.2.1, .bool e.2.2.1, .string e.2.2.2]]).run Try.prog W6 = _ from hy'
        clear hR HCALL hy'
        gi_wp2_with fail
        refine (RoundIn.inR HC.out).mono ?_
        rintro e' W7 ⟨b, T3, rfl, hg3, hu3, hj3, hx3⟩
        cases b with
        | false =>
          have HF := Lib.hid (HLEFT.out T3 W7 hg3 hu3 (hx3 rfl))
          clear hj3 hx3 hg3 hu3
          gi_wp2
          obtain ⟨T', a1, a2, a3⟩ := HF.out
          exact ⟨T', a1, a2, a3, rfl⟩
        | true =>
          have HF := Lib.hid (HAFT.out T3 W7 hg3 hu3 (hj3 rfl))
          clear hj3 hx3 hg3 hu3
          gi_wp2
          exact HF.out
      · have HC := Lib.hid hC'
        clear hC' HCALL
        gi_wp2_with fail
        refine ⟨trivial, ?_⟩
        refine (CallsIn.inRound lp (callsIn_wide.2 HC.out)).mono ?_
        rintro e' W7 ⟨b, T3, rfl, hg3, hu3, hj3, hx3⟩
        cases b with
        | false =>
          have HF := Lib.hid (HLEFT.out T3 W7 hg3 hu3 (hx3 rfl))
          clear hj3 hx3 hg3 hu3
          gi_wp2
          obtain ⟨T', a1, a2, a3⟩ := HF.out
          exact ⟨T', a1, a2, a3, rfl⟩
        | true =>
          have HF := Lib.hid (HAFT.out T3 W7 hg3 hu3 (hj3 rfl))
          clear hj3 hx3 hg3 hu3
          gi_wp2
          exact HF.out
  case done =>
    intro D S' W' hD hnD hg hu hi h1 hK
    obtain ⟨T1, hS, hn, hj, hr⟩ := hi
    have hUW1 := HUW.out S' T1 W' hg hu (fun k hk => (hS k).2 (.inl hk))
    have hn0 := HSZ.out
    have hle := HB2.out.size
    have nD : ¬ T1 D := fun h => hnD ((hS D).2 (.inl h))
    have uD := upd_putObj (S := fun k => k = D) W' (l := D) (.deferred none) rfl
    have hu2 := hUW1.2.step uD (fun k hk => .inr (by omega))
    have HF := Lib.hid (show ∃ T', Grow T T' W ∧ Upd (fun k => T k ∨ U k) W (W'.putObj D (.deferred none)) ∧ ((J (keepL bw L) T' (W'.putObj D (.deferred none)) ∧ (I1 (W'.putObj D (.deferred none)) ∧ BoxV n₀ U 36 ba (gf, fa, lb) (W'.putObj D (.deferred none)) ∧ BoxV n₀ U 61 bb g (W'.putObj D (.deferred none)) ∧ HB (W'.putObj D (.deferred none)))) ∨ ∃ pre, pre <+: keepL bw L ∧ Jx pre T' (W'.putObj D (.deferred none)) ∧ (I1 (W'.putObj D (.deferred none)) ∧ BoxV n₀ U 36 ba (gf, fa, lb) (W'.putObj D (.deferred none)) ∧ BoxV n₀ U 61 bb g (W'.putObj D (.deferred none)) ∧ HB (W'.putObj D (.deferred none)))) from
      ⟨T1, hUW1.1, hu2, .inl ⟨HJ.out.move hj (same_putObj _ _ nD), HI1.out _ _ h1 (uD.mono fun k hk => by show n₀ ≤ k; omega), HALL.out _ hu2⟩⟩)
    clear hS hn hj hr hUW1 hn0 hle nD uD hu2 hg hu h1
    gi_wp2
    refine ⟨by simp, .inl ⟨_, _, rfl, run_takeDeferred hK, ?_⟩⟩
    exact ⟨_, results_none rfl _ _ _, ⟨_, rfl⟩, HF.out⟩
  case stop =>
    rintro D c p S' W' hD hnD hg hu hp ⟨⟨T1, g', hS, _, hgp, hj⟩, rfl⟩ hm hK
    obtain ⟨hgT, huT⟩ := HUW.out S' T1 W' hg hu hS
    have hn0 := HSZ.out
    have hle := HB2.out.size
    gi_wp2
    refine ⟨by simp, .inl ⟨_, _, rfl, run_takeDeferred hK, ?_⟩⟩
    have n1 : ¬ T1 D := fun h => hnD (hS D h)
    have uD := upd_putObj (S := fun k => k = D) W' (l := D) (.deferred none) rfl
    have hu2 := huT.step uD (fun k hk => .inr (by omega))
    exact ⟨_, results_none rfl _ _ _, ⟨_, rfl⟩, T1, hgT, hu2, .inr ⟨g', hgp, HJX.out.move hj (same_putObj _ _ n1), HI1.out _ _ hm (uD.mono fun k hk => by show n₀ ≤ k; omega), HALL.out _ hu2⟩⟩
end Go.Proofs.Ytdpijhpjicbecaa.H
namespace Go.Proofs.Ytdpijhpjicbecaa.H
open Go Go.RowKit Go.Deep Go.Shelf Go.Proofs Go.Proofs.YtdpijhpjicbecaaW.PrintWords
set_option linter.unusedVariables false
set_option linter.unusedSimpArgs false
attribute [local go_sem] Oper.semAt_some
def noU : Nat → Prop := fun _ => False
/-- A box at b that holds a list of entries; all below n₀. -/
structure SrcB (n₀ b : Nat) (A : Option Addr) (c : Nat) (l : List Ent) (W : World) : Prop where
  lt : b < n₀
  row : W.heap[b]? = some (.cells #[.slice A l.length c] 27 (0, 0))
  sl : Sl encE 4 W A l
  low : l ≠ [] → ∀ g o, A = some ⟨g, o, none⟩ → g < n₀
theorem SrcB.upd {n₀ b : Nat} {A : Option Addr} {c : Nat} {l : List Ent} {S : Nat → Prop} {W W' : World} (h : SrcB n₀ b A c l W) (u : Upd S W W') (hS : ∀ k, S k → n₀ ≤ k) : SrcB n₀ b A c l W' :=
  ⟨h.lt, u.heap h.row (fun hx => by have := hS _ hx; have := h.lt; omega), h.sl.upd2 u (fun hl g o e hx => by have := hS _ hx; have := h.low hl g o e; omega), h.low⟩
theorem srcB_firm (n₀ b : Nat) (A : Option Addr) (c : Nat) (l : List Ent) : Firm n₀ (SrcB n₀ b A c l) := fun W W' h u => h.upd u (fun k hk => hk)
theorem SrcB.mono {n₀ n b : Nat} {A : Option Addr} {c : Nat} {l : List Ent} {W : World} (h : SrcB n₀ b A c l W) (hn : n₀ ≤ n) : SrcB n b A c l W := ⟨Nat.lt_of_lt_of_le h.lt hn, h.row, h.sl, fun hl g o e => Nat.lt_of_lt_of_le (h.low hl g o e) hn⟩
set_option maxHeartbeats 1600000 in
set_option maxRecDepth 100000 in
theorem src_gen (b : Nat) (A : Option Addr) (c : Nat) (l : List Ent) (W : World) (fn : Fn) (cap : Array Value) (J Jx : List Ent → (Nat → Prop) → World → Prop) (T : Nat → Prop) (hJ : Foot J) (hJx : Foot Jx) (h0 : J [] T W)
    (hi0 : ∀ W', Upd T W W' → W'.heap[b]? = some (.cells #[.slice A l.length c] 27 (0, 0)) ∧ Sl encE 4 W' A l)
    (hY : ∀ pre x T1 W1, J pre T1 W1 → Grow T T1 W → Upd T W W1 → pre ++ [x] <+: l → CallT Try.prog fn cap (encA x) W1 (RoundT J Jx (pre ++ [x]) T1 W1)) :
    Calls Try.prog 75 (#[] ++ #[.func fn #[] cap] ++ #[.pointer (some ⟨b, 0, none⟩)]) W fun e W' => (∃ v, e = .returned v) ∧ ∃ T', Grow T T' W ∧ Upd T W W' ∧ (J l T' W' ∨ ∃ pre, pre <+: l ∧ Jx pre T' W') := by
  have hm := (hi0 W (Upd.refl _ _)).2.1
  obtain ⟨m, hmm⟩ : ∃ m, l.length = m := ⟨_, rfl⟩
  have HM := Lib.hid hmm
  rw [hmm] at hm
  have HEND := Lib.hid hi0
  have HY := Lib.hid hY
  have HJ := Lib.hid hJ
  have HJX := Lib.hid hJx
  have H0 := Lib.hid h0
  clear hY hJ hJx h0 hi0 hmm
  refine (callsIn_wide (n := 8)).1 ?_
  refine callsIn_of_wp Try.func75 rfl trivial ?_ rfl
  simp only [Try.ntmps75, List.size_toArray, List.length_cons, List.length_nil, Nat.reduceAdd, Nat.reduceSub, Array.replicate_succ, Array.replicate_zero, List.push_toArray, List.append_toArray, List.nil_append, List.cons_append]
  gi_wp2
  gi_loopw [3] (fun s3 wr => ∃ (i : Nat) (T1 : Nat → Prop), s3 = .int .i64 (i : Int) ∧ i ≤ m ∧ J (l.take i) T1 wr ∧ Grow T T1 W ∧ Upd T W wr) (fun s3 wr => m - (intOf s3).toNat)
  case atStart => exact ⟨0, T, rfl, by omega, by simpa using H0.out, Grow.refl _ _, Upd.refl _ _⟩
  case round =>
    obtain ⟨i, T1, rfl, hi, hj, hgr, hu⟩ := hrel
    generalize wr = W2 at *
    have hsb := HEND.out W2 hu
    have c0 : W2.cell? ⟨b, 0, none⟩ = some (.slice A m c) := by have := blk_cell hsb.1 0; rw [HM.out] at this; exact this.trans rfl
    have i1 : (0 : Int) ≤ i := by omega
    have HJ1 := Lib.hid hj
    have HG := Lib.hid hgr
    have HU := Lib.hid hu
    have HSL := Lib.hid hsb.2
    clear hj hgr hu hsb
    by_cases hlt : i < m
    · have i2 : (i : Int) < m := by omega
      obtain ⟨x, hx⟩ := getElem?_of_lt (l := l) (by rw [HM.out]; exact hlt : i < l.length)
      have hpre : l.take i ++ [x] = l.take (i + 1) := (take_suc hx).symm
      have HCALL := Lib.hid ((HY.out (l.take i) x T1 W2 HJ1.out HG.out HU.out (by rw [hpre]; exact List.take_prefix _ _)).mono fun e W1 h => h.bool)
      obtain ⟨b1, o1, hA1, hb1, hc1⟩ := HSL.out.at hx
      subst hA1
      have x0 : W2.cell? ⟨b1, o1 + i * 4, none⟩ = some (.string x.1) := hc1 0 _ rfl
      have x1 : W2.cell? ⟨b1, o1 + i * 4 + 1, none⟩ = some (.int .u64 x.2.1) := hc1 1 _ rfl
      have x2 : W2.cell? ⟨b1, o1 + i * 4 + 2, none⟩ = some (.bool x.2.2.1) := hc1 2 _ rfl
      have x3 : W2.cell? ⟨b1, o1 + i * 4 + 3, none⟩ = some (.string x.2.2.2) := hc1 3 _ rfl
      have HAFT := Lib.hid (show ∀ (T3 : Nat → Prop) (W5 : World), Grow T1 T3 W2 → Upd T1 W2 W5 → Grow T T3 W ∧ Upd T W W5 from fun T3 W5 hg3 hu3 =>
        ⟨HG.out.trans hg3 HU.out.size, HU.out.step hu3 (fun k hk => HG.out k hk)⟩)
      have HPR := Lib.hid hpre
      clear hc1 hb1 hpre hx
      rcases HCALL.out with ⟨l2, rfl, rfl, fn', tmps', assign', body', hy', hR⟩ | ⟨f', rfl, henter', hC'⟩
      · have HC := Lib.hid hR
        have hy2 := show (Instr.yield l2 #[.agg #[.string x.1, .int .u64 x.2.1, .bool x.2.2.1, .string x.2.2.2]]).run Try.prog W2 = _ from hy'
        clear hR HCALL hy'
        gi_wp2_with fail
        refine (RoundIn.wide HC.out).mono ?_
        rintro e' W5 ⟨b, T3, rfl, hg3, hu3, hj3, hx3⟩
        have HF := Lib.hid (HAFT.out T3 W5 hg3 hu3)
        cases b with
        | true =>
          have HJ3 := Lib.hid (hj3 rfl)
          clear hj3 hx3 hg3 hu3
          gi_wp2
          go_roundw
          case rel => exact ⟨i + 1, T3, by first | rfl | simp, by omega, by rw [← HPR.out]; exact HJ3.out, HF.out⟩
          case measure => simp [intOf]; omega
        | false =>
          have HJ3 := Lib.hid (hx3 rfl)
          clear hj3 hx3 hg3 hu3
          gi_wp2
          refine bodyPost_ret (results_none rfl _ _ _) rfl ?_
          exact ⟨⟨_, rfl⟩, T3, HF.out.1, HF.out.2, .inr ⟨_, by rw [HPR.out]; exact List.take_prefix _ _, HJ3.out⟩⟩
      · have HC := Lib.hid hC'
        clear hC' HCALL
        gi_wp2_with fail
        refine ⟨trivial, ?_⟩
        refine (callsIn_wide.2 HC.out).mono ?_
        rintro e' W5 ⟨b, T3, rfl, hg3, hu3, hj3, hx3⟩
        have HF := Lib.hid (HAFT.out T3 W5 hg3 hu3)
        cases b with
        | true =>
          have HJ3 := Lib.hid (hj3 rfl)
          clear hj3 hx3 hg3 hu3
          gi_wp2
          go_roundw
          case rel => exact ⟨i + 1, T3, by first | rfl | simp, by omega, by rw [← HPR.out]; exact HJ3.out, HF.out⟩
          case measure => simp [intOf]; omega
        | false =>
          have HJ3 := Lib.hid (hx3 rfl)
          clear hj3 hx3 hg3 hu3
          gi_wp2
          refine bodyPost_ret (results_none rfl _ _ _) rfl ?_
          exact ⟨⟨_, rfl⟩, T3, HF.out.1, HF.out.2, .inr ⟨_, by rw [HPR.out]; exact List.take_prefix _ _, HJ3.out⟩⟩
    · have him : m = i := by omega
      subst him
      have HFIN := Lib.hid (show ∃ T', Grow T T' W ∧ Upd T W W2 ∧ (J l T' W2 ∨ ∃ pre, pre <+: l ∧ Jx pre T' W2) from
        ⟨T1, HG.out, HU.out, .inl (by have := HJ1.out; rwa [List.take_of_length_le (by rw [HM.out]; exact Nat.le_refl _)] at this)⟩)
      gi_wp2
      go_end0
      exact ⟨⟨_, rfl⟩, HFIN.out⟩
theorem src1_it (n₀ b : Nat) (A : Option Addr) (c : Nat) (l : List Ent) (W : World) :
    IterU Try.prog 75 #[] #[.pointer (some ⟨b, 0, none⟩)] encA n₀ noU (SrcB n₀ b A c l) (SrcB n₀ b A c l) (SrcB n₀ b A c l) l W := by
  intro fn cap J Jx T hJ hJx hT h0 hi0 hY
  refine (src_gen b A c l W fn cap J Jx T hJ hJx h0 (fun W' u => ⟨(hi0.upd u hT).row, (hi0.upd u hT).sl⟩) (fun pre x T1 W1 hj hg hu hp => hY pre x T1 W1 hj (hi0.upd hu hT) hg (hu.mono fun k hk => .inl hk) hp)).mono ?_
  rintro e W' ⟨hv, T', hg, hu, hr⟩
  exact ⟨hv, T', hg, hu.mono fun k hk => .inl hk, hr.imp (fun h => ⟨h, hi0.upd hu hT⟩) (fun ⟨p, a, b⟩ => ⟨p, a, b, hi0.upd hu hT⟩)⟩
/-- source(l) as a value. -/
def fv1 (p : Nat) : FV := (75, #[], #[.pointer (some ⟨p, 0, none⟩)])
theorem src1_v (n₀ b : Nat) (A : Option Addr) (c : Nat) (l : List Ent) : IterUV Try.prog (valF (fv1 b)) encA n₀ noU (SrcB n₀ b A c l) (SrcB n₀ b A c l) (SrcB n₀ b A c l) l :=
  ⟨_, _, _, rfl, enters_of Try.func75 (by kernel_rfl) rfl, fun W => src1_it n₀ b A c l W⟩
set_option maxRecDepth 100000 in
theorem source_c (A : Option Addr) (n c : Nat) (w : World) :
    Calls Try.prog 43 #[.slice A n c] w fun e w' => e = .returned (valF (fv1 w.heap.size)) ∧ w' = w.alloc (.cells #[.slice A n c] 27) := by
  go_enter Try.func43, Try.ntmps43
  go_wp2
  go_ret
  exact ⟨rfl, rfl⟩
/-- Sources over lists: boxes ps. -/
def SrcsL (n₀ : Nat) (ps : List Nat) (L : List HE) (W : World) : Prop := ∀ (k : Nat) (p : Nat) (h : HE), ps[k]? = some p → L[k]? = some h → SrcB n₀ p h.1 h.2.1 h.2.2 W
theorem srcsL_firm (n₀ : Nat) (ps : List Nat) (L : List HE) : Firm n₀ (SrcsL n₀ ps L) := fun W W' h u k p x hp hx => (h k p x hp hx).upd u (fun k hk => hk)
theorem SrcsL.mono {n₀ n : Nat} {ps : List Nat} {L : List HE} {W : World} (h : SrcsL n₀ ps L W) (hn : n₀ ≤ n) : SrcsL n ps L W := fun k p x hp hx => (h k p x hp hx).mono hn
theorem srcs_L (n₀ : Nat) (ps : List Nat) (L : List HE) (hl : ps.length = L.length) : Srcs n₀ noU (fun _ => SrcsL n₀ ps L) (ps.map fv1) (L.map (·.2.2)) := by
  refine ⟨by simp [hl], fun k f l hf hl' => ?_⟩
  rw [List.getElem?_map] at hf hl'
  cases hp : ps[k]? with
  | none => rw [hp] at hf; cases hf
  | some p =>
    cases hx : L[k]? with
    | none => rw [hx] at hl'; cases hl'
    | some x =>
      rw [hp] at hf
      rw [hx] at hl'
      injection hf with hf
      injection hl' with hl'
      subst hf; subst hl'
      refine ⟨_, _, _, rfl, enters_of Try.func75 (by kernel_rfl) rfl, fun W => ?_⟩
      rintro fn cap J Jx T hJ hJx hT h0 hi hY
      have HEND : ∀ W', Upd (fun k => T k ∨ noU k) W W' → SrcsL n₀ ps L W' := fun W' u => srcsL_firm n₀ ps L _ _ hi (u.mono fun k hk => hk.elim (hT k) (fun h => h.elim))
      refine (src1_it n₀ p x.1 x.2.1 x.2.2 W fn cap J Jx T hJ hJx hT h0 (hi k p x hp hx) (fun pre y T1 W1 a b c d e => hY pre y T1 W1 a trivial c d e)).mono ?_
      rintro e W' ⟨hv, T', hg, hu, hr⟩
      exact ⟨hv, T', hg, hu, hr.imp (fun h => ⟨h.1, HEND _ hu⟩) (fun ⟨p, a, b, _⟩ => ⟨p, a, b, trivial⟩)⟩
theorem Sl2.low {w : World} {A : Option Addr} {L : List HE} (h : Sl2 w A L) : ∀ x ∈ L, x.2.2 ≠ [] → ∀ g o, x.1 = some ⟨g, o, none⟩ → g < w.heap.size := fun x hx hne g o e => by
  rcases (h.2 x hx).2 with h | ⟨b, o', hA, hlt, _⟩
  · exact absurd h hne
  · rw [hA] at e
    injection e with e
    injection e with e
    omega
set_option maxHeartbeats 3200000 in
set_option maxRecDepth 100000 in
theorem sources12_c (A : Option Addr) (c : Nat) (L : List HE) (w : World) (hs : Sl2 w A L) (hl : L.length < 1000000000) :
    Calls Try.prog 40 #[.slice A L.length c] w fun e w' => ∃ v ps, e = .returned v ∧ ps.length = L.length ∧ Own encF 31 1 w' w.heap.size v (ps.map fv1) ∧ SrcsL w'.heap.size ps L w' ∧ (∀ p ∈ ps, w.heap.size ≤ p ∧ v.ownBlock ≠ some p) ∧ Below w.heap.size w w' := by
  have hm := hs.1.1
  have HLOW := Lib.hid hs.low
  have HS := Lib.hid hs
  obtain ⟨n, hn⟩ : ∃ n, L.length = n := ⟨_, rfl⟩
  rw [hn] at hm hl ⊢
  have HN := Lib.hid hn
  clear hs hn
  go_enter Try.func40, Try.ntmps40
  go_wp2_with fail
  go_loopw [3, 4] (fun s3 s4 wr => ∃ (k : Nat) (ps : List Nat), s4 = .int .i64 k ∧ k ≤ n ∧ ps.length = k ∧ Own encF 31 1 wr w.heap.size s3 (ps.map fv1) ∧ (∀ (j p : Nat) (h : HE), ps[j]? = some p → L[j]? = some h → w.heap.size ≤ p ∧ wr.heap[p]? = some (.cells #[.slice h.1 h.2.2.length h.2.1] 27 (0, 0))) ∧ (∀ p ∈ ps, w.heap.size ≤ p ∧ s3.ownBlock ≠ some p) ∧ Below w.heap.size w wr) (fun s3 s4 wr => n - (intOf s4).toNat)
  case atStart => exact ⟨0, [], rfl, by omega, rfl, Own.nil _ _ _ _ _, (fun j p h hp => by cases hp), (fun p hp => by cases hp), Below.refl _ _⟩
  case round =>
    obtain ⟨k, ps, rfl, hk, hpl, ho, hps, hfar, hb⟩ := hrel
    obtain ⟨A1, c1, rfl⟩ := own_slice ho
    have hll : (ps.map fv1).length = k := by rw [List.length_map]; exact hpl
    rw [hll] at ho hfar ⊢
    have HO := Lib.hid ho
    have HB := Lib.hid hb
    have HLL := Lib.hid hll
    have HPL := Lib.hid hpl
    have HPS := Lib.hid hps
    have HFAR := Lib.hid hfar
    clear ho hb hll hpl hps hfar
    generalize wr = W5 at *
    by_cases hlt : k < n
    · obtain ⟨x, hx⟩ := getElem?_of_lt (l := L) (by rw [HN.out]; exact hlt : k < L.length)
      obtain ⟨b2, o2, hB2, hb2, hc2⟩ := (HS.out.1.later HB.out).at hx
      subst hB2
      obtain ⟨q, hq⟩ : ∃ q, x.2.2.length = q := ⟨_, rfl⟩
      have y0 : W5.cell? ⟨b2, o2 + k, none⟩ = some (.slice x.1 q x.2.1) := by have := hc2 0 _ rfl; rw [hq] at this; simpa using this
      have HX := Lib.hid hx
      have HQ := Lib.hid hq
      have HSC := Lib.hid (source_c x.1 q x.2.1 W5)
      clear hc2 hx hq
      have i1 : (0 : Int) ≤ k := by omega
      have i2 : (k : Int) < n := by omega
      have HSC := Lib.hid (show Calls Try.prog 43 #[.slice x.1 q x.2.1] W5 (fun e W6 => e = .returned (.func (.func 75) #[] #[.pointer (some ⟨W5.heap.size, 0, none⟩)]) ∧ Below W5.heap.size W5 W6 ∧ W6.heap[W5.heap.size]? = some (.cells #[.slice x.1 q x.2.1] 27 (0, 0)) ∧ W6.heap.size = W5.heap.size + 1) from HSC.out.mono fun e W6 ⟨h1, h2⟩ => ⟨h1, by rw [h2]; exact (Below.refl _ _).alloc (Nat.le_refl _) _, by rw [h2]; exact heap_alloc_new _ _, by rw [h2]; simp⟩)
      go_wp2_with (first | (go_at_call 43; refine HSC.out.mono ?_; rintro _ W6 ⟨rfl, hb6, hr6, hz6⟩; have HB6 := Lib.hid hb6; have HR6 := Lib.hid hr6; have HZ6 := Lib.hid hz6; clear hb6 hr6 hz6) | (at_builtin; refine wpList_app rfl (.tmp 11) (.tmp 17) rfl uSlF infoF rfl (by decide) (by decide) okF (.slice A1 k c1) (ps.map fv1) rfl (base := w.heap.size) ?c1 (some ⟨W6.heap.size, 0, none⟩) 1 [fv1 W5.heap.size] rfl ?c2 ?c3 ?c4 ?_))
      case c1 => exact (HO.out.below HB6.out).below ((Below.refl _ _).alloc (Nat.le_refl _) _)
      case c2 => exact Sl.one okF W6 (fv1 W5.heap.size) 31 rfl
      case c3 => have := HLL.out; simp only [this, List.length_cons, List.length_nil]; omega
      case c4 => have := HB.out.size; have := HB6.out.size; simp; omega
      intro v1 w1 ho1 hg1 hat1
      have hown : ∀ k, (Value.slice A1 (ps.map fv1).length c1).ownBlock = some k → k < W5.heap.size := fun k hk => (HO.out.block_lt (by rw [HLL.out] at hk; exact hk)).2
      obtain ⟨A2, c2, rfl⟩ := own_slice ho1
      have hsz1 : W6.heap.size + 1 ≤ w1.heap.size := by have := hg1.size; simpa using this
      have hnew : ∀ j : Nat, (Value.slice A1 k c1).ownBlock ≠ some j → j < W6.heap.size → w1.heap[j]? = W6.heap[j]? := fun j hj hlt => by
        have h1 := (Upd.of_grown hg1 (S := fun i => (Value.slice A1 k c1).ownBlock = some i) (fun i hi => hi)).block j (by simp; omega) (by exact hj)
        rw [h1]
        exact Below.heap_alloc _ _ _ hlt
      have HBN := Lib.hid (((HB.out.trans (HB6.out.mono HB.out.size)).alloc (by have := HB.out.size; have := HB6.out.size; omega) (.cells #[valF (fv1 W5.heap.size)] 31)).grown hg1 (by have := HB.out.size; have := HB6.out.size; simp; omega) (fun k hk => (HO.out.block_lt hk).1))
      have HON := Lib.hid (show Own encF 31 1 w1 w.heap.size (.slice A2 ((ps ++ [W5.heap.size]).map fv1).length c2) ((ps ++ [W5.heap.size]).map fv1) from by rw [List.map_append]; exact ho1)
      have h5 := HB.out.size
      have h6 := HZ6.out
      have HPN := Lib.hid (show ∀ (j p : Nat) (h : HE), (ps ++ [W5.heap.size])[j]? = some p → L[j]? = some h → w.heap.size ≤ p ∧ w1.heap[p]? = some (.cells #[.slice h.1 h.2.2.length h.2.1] 27 (0, 0)) from fun j p h hp hh => by
        by_cases hj : j < ps.length
        · rw [List.getElem?_append_left hj] at hp
          obtain ⟨h1, h2⟩ := HPS.out j p h hp hh
          have h3 := blk_lt h2
          exact ⟨h1, (hnew p (HFAR.out p (List.mem_of_getElem? hp)).2 (by omega)).trans (blk_below h2 HB6.out)⟩
        · rw [List.getElem?_append_right (by omega)] at hp
          have hj0 : j - ps.length = 0 := by
            by_cases h0 : j - ps.length = 0
            · exact h0
            · rw [List.getElem?_eq_none (by simp; omega)] at hp; cases hp
          rw [hj0] at hp
          injection hp with hp
          have hjk : j = k := by have := HPL.out; omega
          rw [hjk, HX.out] at hh
          injection hh with hh
          subst hh
          subst hp
          refine ⟨h5, (hnew _ (fun e => by have := (HO.out.block_lt e).2; omega) (by omega)).trans ?_⟩
          rw [HR6.out, HQ.out])
      have HFN := Lib.hid (show ∀ p ∈ ps ++ [W5.heap.size], w.heap.size ≤ p ∧ (Value.slice A2 ((ps ++ [W5.heap.size]).map fv1).length c2).ownBlock ≠ some p from fun p hp => by
        have hlt5 : p < W6.heap.size ∧ w.heap.size ≤ p ∧ (Value.slice A1 k c1).ownBlock ≠ some p := by
          rcases List.mem_append.1 hp with hp | hp
          · obtain ⟨j, hj⟩ := List.getElem?_of_mem hp
            have hjl : j < L.length := by have := (List.getElem?_eq_some_iff.1 hj).1; have := HPL.out; have := HN.out; omega
            obtain ⟨y, hy⟩ := getElem?_of_lt hjl
            have := blk_lt (HPS.out j p y hj hy).2
            exact ⟨by omega, (HFAR.out p hp).1, (HFAR.out p hp).2⟩
          · rw [List.mem_singleton.1 hp]
            exact ⟨by omega, h5, fun e => by have := (HO.out.block_lt e).2; omega⟩
        refine ⟨hlt5.2.1, fun e => ?_⟩
        have e : (Value.slice A2 (ps.map fv1 ++ [fv1 W5.heap.size]).length c2).ownBlock = some p := by rw [List.map_append] at e; exact e
        rcases hat1 with h | h
        · rw [e] at h; exact hlt5.2.2 h.symm
        · rw [e] at h; injection h with h; omega)
      have HPLN := Lib.hid (show (ps ++ [W5.heap.size]).length = k + 1 from by have := HPL.out; simp; omega)
      rw [show (ps.map fv1 ++ [fv1 W5.heap.size]).length = ((ps ++ [W5.heap.size]).map fv1).length from by simp]
      clear ho1 hg1 hat1 hown hsz1 hnew h5 h6
      go_wp2
      go_roundw
      case rel => exact ⟨k + 1, ps ++ [W5.heap.size], by first | rfl | simp, by omega, HPLN.out, HON.out, HPN.out, HFN.out, HBN.out⟩
      case measure => simp [intOf]; omega
    · have hk2 : n = k := by omega
      subst hk2
      have HFIN := Lib.hid (show SrcsL W5.heap.size ps L W5 from fun j p h hp hh => by
        obtain ⟨h1, h2⟩ := HPS.out j p h hp hh
        refine ⟨blk_lt h2, h2, (HS.out.2 h (List.mem_of_getElem? hh)).later HB.out, fun hl g o e => ?_⟩
        have := HLOW.out h (List.mem_of_getElem? hh) hl g o e
        have := HB.out.size
        omega)
      go_wp2
      go_ret
      exact ⟨_, ps, rfl, HPL.out, HO.out, HFIN.out, fun p hp => HFAR.out p hp, HB.out⟩
end Go.Proofs.Ytdpijhpjicbecaa.H
namespace Go.Proofs.Ytdpijhpjicbecaa.H
open Go Go.RowKit Go.Deep Go.Shelf Go.Proofs Go.Proofs.YtdpijhpjicbecaaW.PrintWords
set_option linter.unusedVariables false
set_option linter.unusedSimpArgs false
attribute [local go_sem] Oper.semAt_some
/-- The variables of gives' function: what came; T: their blocks. -/
structure GivAt (n₀ bK bO bN : Nat) (n : Int) (pre : List Ent) (T : Nat → Prop) (W : World) : Prop where
  w : W.heap[bK]? = some (.cells #[.bool true] 4 (0, 0))
  o : ∃ v, W.heap[bO]? = some (.cells #[v] 27 (0, 0)) ∧ Own encE 53 4 W n₀ v pre ∧ (∀ k, v.ownBlock = some k → k ≠ bK ∧ k ≠ bO ∧ k ≠ bN) ∧ ∀ k, T k ↔ k = bK ∨ k = bO ∨ k = bN ∨ v.ownBlock = some k
  n : W.heap[bN]? = some (.cells #[.int .i64 n] 3 (0, 0))
  far : bK ≠ bO ∧ bK ≠ bN ∧ bO ≠ bN
  up : n₀ ≤ bK ∧ n₀ ≤ bO ∧ n₀ ≤ bN
theorem giv_foot (n₀ bK bO bN : Nat) (n : Int) : Foot (GivAt n₀ bK bO bN n) := by
  refine ⟨fun {s T W k} h hk => ?_, fun {s T W W'} h hs => ?_⟩
  · obtain ⟨v, ho, hown, hv, hf⟩ := h.o
    rcases (hf k).1 hk with rfl | rfl | rfl | hk
    · exact blk_lt h.w
    · exact blk_lt ho
    · exact blk_lt h.n
    · exact (hown.block_lt hk).2
  · obtain ⟨v, ho, hown, hv, hf⟩ := h.o
    exact ⟨(hs.block _ ((hf _).2 (.inl rfl))).trans h.w, ⟨v, (hs.block _ ((hf _).2 (.inr (.inl rfl)))).trans ho, hown.move (fun k hk _ => hs.block k ((hf k).2 (.inr (.inr (.inr hk))))), hv, hf⟩,
      (hs.block _ ((hf _).2 (.inr (.inr (.inl rfl))))).trans h.n, h.far, h.up⟩
theorem GivAt.ge {n₀ bK bO bN : Nat} {n : Int} {pre : List Ent} {T : Nat → Prop} {W : World} (h : GivAt n₀ bK bO bN n pre T W) : ∀ k, T k → n₀ ≤ k := fun k hk => by
  obtain ⟨v, ho, hown, hv, hf⟩ := h.o
  obtain ⟨u2, u3, u4⟩ := h.up
  rcases (hf k).1 hk with rfl | rfl | rfl | hk
  · exact u2
  · exact u3
  · exact u4
  · exact (hown.block_lt hk).1
theorem giv_start (w0 w : World) (n : Int) (b : Nat) (hb : w0.heap.size ≤ b)
    (h1 : w.heap[b]? = some (.cells #[.int .i64 n] 3 (0, 0))) (h2 : w.heap[b + 1]? = some (.cells #[.slice none 0 0] 27 (0, 0))) (h3 : w.heap[b + 1 + 1]? = some (.cells #[.bool true] 4 (0, 0))) :
    GivAt w0.heap.size (b + 1 + 1) (b + 1) b n [] (fun k => k = b + 1 + 1 ∨ k = b + 1 ∨ k = b ∨ (Value.slice none 0 0).ownBlock = some k) w :=
  ⟨h3, ⟨_, h2, Own.nil _ _ _ _ _, (fun k hk => by cases hk), fun _ => Iff.rfl⟩, h1, by omega, by omega⟩
set_option maxHeartbeats 1600000 in
set_option maxRecDepth 100000 in
theorem gives1_c (n₀ bK bO bN : Nat) (n : Int) (pre : List Ent) (e : Ent) (T : Nat → Prop) (w : World) (h : GivAt n₀ bK bO bN n pre T w) (hl : pre.length < 2932031007319) (hle : (pre.length : Int) + 1 ≤ n) :
    Calls Try.prog 74 #[.agg (encE e).toArray, .pointer (some ⟨bO, 0, none⟩), .pointer (some ⟨bN, 0, none⟩), .pointer (some ⟨bK, 0, none⟩)] w fun en w' =>
      en = .returned (.bool true) ∧ ∃ T', Grow T T' w ∧ Upd T w w' ∧ GivAt n₀ bK bO bN n (pre ++ [e]) T' w' := by
  obtain ⟨v, ho, hown, hv, hft⟩ := h.o
  have hn : n₀ ≤ w.heap.size := Nat.le_trans h.up.1 (Nat.le_of_lt (blk_lt h.w))
  obtain ⟨A, c, rfl⟩ := own_slice hown
  have hb0 : Below n₀ w (w.alloc (.cells #[.string e.1, .int .u64 e.2.1, .bool e.2.2.1, .string e.2.2.2] 53)) := (Below.refl _ _).alloc hn _
  have e3 := blk_alloc ho (.cells #[.string e.1, .int .u64 e.2.1, .bool e.2.2.1, .string e.2.2.2] 53)
  have c2 := (blk_cell e3 0).trans (show _ = some (Value.slice A pre.length c) from rfl)
  have hb1 := boxEnt (e := e) (heap_alloc_new w (.cells #[.string e.1, .int .u64 e.2.1, .bool e.2.2.1, .string e.2.2.2] 53))
  have x0 := hb1 0 _ rfl
  have x1 := hb1 1 _ rfl
  have x2 := hb1 2 _ rfl
  have x3 := hb1 3 _ rfl
  have HT := Lib.hid h
  have HO := Lib.hid ho
  have HV := Lib.hid hv
  have HFT := Lib.hid hft
  have HOWN := Lib.hid hown
  have HB0 := Lib.hid hb0
  clear h ho hown hv hft e3 hb1 hb0
  unfold encE
  go_enter Try.func74, Try.ntmps74
  go_wp2_with (at_builtin; refine wpList_app rfl (.tmp 6) (.tmp 8) rfl uSlE infoE rfl (by decide) (by decide) okE (.slice A pre.length c) pre rfl (base := n₀) ?c1 (some ⟨w.heap.size + 1, 0, none⟩) 1 [e] rfl ?c2 ?c3 ?c4 ?_)
  case c1 => exact (HOWN.out.below ((Below.refl _ _).alloc (Nat.le_refl _) _)).below ((Below.refl _ _).alloc (Nat.le_refl _) _)
  case c2 => have := Sl.one okE (w.alloc (.cells #[.string e.1, .int .u64 e.2.1, .bool e.2.2.1, .string e.2.2.2] 53)) e 53 (cs := #[.string e.1, .int .u64 e.2.1, .bool e.2.2.1, .string e.2.2.2]) rfl; simpa using this
  case c3 => simp; omega
  case c4 => simp; omega
  intro v1 w1 ho1 hg1 hat1
  obtain ⟨A1, k1, rfl⟩ := own_slice ho1
  simp only [List.length_append, List.length_cons, List.length_nil, Nat.zero_add] at ho1 hat1 ⊢
  have hv := HV.out
  have hT := HT.out
  have r2 := blk_grown (blk_alloc (blk_alloc hT.w _) _) hg1 (by intro e1; exact (hv _ e1.symm).1 rfl)
  have r3 := blk_grown (blk_alloc (blk_alloc HO.out _) _) hg1 (by intro e1; exact (hv _ e1.symm).2.1 rfl)
  have r4 := blk_grown (blk_alloc (blk_alloc hT.n _) _) hg1 (by intro e1; exact (hv _ e1.symm).2.2 rfl)
  have hlt2 := blk_lt hT.w
  have hlt3 := blk_lt HO.out
  have hlt4 := blk_lt hT.n
  have hv1 : ∀ k, (Value.slice A1 (pre.length + 1) k1).ownBlock = some k → k ≠ bK ∧ k ≠ bO ∧ k ≠ bN := by
    intro k hk
    rcases hat1 with h | h
    · exact hv k (by rw [← h]; exact hk)
    · rw [h] at hk
      injection hk with hk
      try simp at hk
      exact ⟨by omega, by omega, by omega⟩
  obtain ⟨fWO, fWN, fON⟩ := hT.far
  obtain ⟨uW, uO, uN⟩ := hT.up
  have hb1 : Below n₀ w w1 := (HB0.out.alloc (Nat.le_trans hn HB0.out.size) _).grown hg1 (by simp; omega) (fun k hk => (HOWN.out.block_lt hk).1)
  have f3 : w1.frozen? ⟨bO, 0, none⟩ = false := blk_frozen r3 0
  have d3 : w1.cell? ⟨bO, 0, none⟩ = some (.slice A pre.length c) := (blk_cell r3 0).trans rfl
  have s2 := blk_far (p := ⟨bO, 0, none⟩) r2 fWO (.slice A1 (pre.length + 1) k1)
  have s3 := blk_set r3 0 (.slice A1 (pre.length + 1) k1)
  have s4 := blk_far (p := ⟨bO, 0, none⟩) r4 fON.symm (.slice A1 (pre.length + 1) k1)
  have ho2 : Own encE 53 4 (w1.setCell ⟨bO, 0, none⟩ (.slice A1 (pre.length + 1) k1)) n₀ (.slice A1 (pre.length + 1) k1) (pre ++ [e]) := ho1.upd (Upd.setCell (S := fun k => k = bO) w1 0 _ rfl) (fun k hk => (hv1 k hk).2.1)
  have g1 : (w1.setCell ⟨bO, 0, none⟩ (.slice A1 (pre.length + 1) k1)).cell? ⟨bK, 0, none⟩ = some (.bool true) := (blk_cell s2 0).trans rfl
  have g2 : (w1.setCell ⟨bO, 0, none⟩ (.slice A1 (pre.length + 1) k1)).frozen? ⟨bK, 0, none⟩ = false := blk_frozen s2 0
  have g3 : (w1.setCell ⟨bO, 0, none⟩ (.slice A1 (pre.length + 1) k1)).cell? ⟨bO, 0, none⟩ = some (.slice A1 (pre.length + 1) k1) := (blk_cell s3 0).trans rfl
  have g4 : (w1.setCell ⟨bO, 0, none⟩ (.slice A1 (pre.length + 1) k1)).cell? ⟨bN, 0, none⟩ = some (.int .i64 n) := (blk_cell s4 0).trans rfl
  have hft := HFT.out
  have hku : Upd T w w1 := ((Upd.alloc w _).trans (Upd.alloc _ _)).trans (Upd.of_grown hg1 (fun k hk => (hft k).2 (.inr (.inr (.inr hk)))))
  have hTO : T bO := (hft _).2 (.inr (.inl rfl))
  have hTK : T bK := (hft _).2 (.inl rfl)
  have hgr : Grow T (fun k => k = bK ∨ k = bO ∨ k = bN ∨ (Value.slice A1 (pre.length + 1) k1).ownBlock = some k) w := fun k hk => by
    rcases hk with h | h | h | h
    · exact .inl ((hft _).2 (.inl h))
    · exact .inl ((hft _).2 (.inr (.inl h)))
    · exact .inl ((hft _).2 (.inr (.inr (.inl h))))
    · rcases hat1 with h2 | h2
      · exact .inl ((hft _).2 (.inr (.inr (.inr (by rw [← h2]; exact h)))))
      · rw [h2] at h
        injection h with h
        try simp at h
        exact .inr (by omega)
  have HFIN := Lib.hid (show ∃ T', Grow T T' w ∧ Upd T w ((w1.setCell ⟨bO, 0, none⟩ (.slice A1 (pre.length + 1) k1)).setCell ⟨bK, 0, none⟩ (.bool true)) ∧ GivAt n₀ bK bO bN n (pre ++ [e]) T' ((w1.setCell ⟨bO, 0, none⟩ (.slice A1 (pre.length + 1) k1)).setCell ⟨bK, 0, none⟩ (.bool true)) from
    ⟨_, hgr, (hku.trans (Upd.setCell _ _ _ hTO)).trans (Upd.setCell _ _ _ hTK), ⟨blk_set s2 0 _, ⟨_, blk_far s3 fWO.symm _, ho2.upd (Upd.setCell (S := fun k => k = bK) _ 0 _ rfl) (fun k hk => (hv1 k hk).1), hv1, fun _ => Iff.rfl⟩, blk_far s4 fWN.symm _, hT.far, hT.up⟩⟩)
  clear hft hku hTO hTK hgr HFT
  clear s2 s3 s4 r2 r3 r4 hv hT hlt2 hlt3 hlt4 hv1 fWO fWN fON uW uO uN hb1 ho2 ho1 hg1 hat1 c2 x0 x1 x2 x3 HT HO HV HOWN HB0
  have n1 : pre.length + 1 < 2932031007320 := by omega
  go_wp2
  go_ret
  exact ⟨rfl, HFIN.out⟩
set_option maxHeartbeats 1600000 in
set_option maxRecDepth 100000 in
/-- All that an iterator gives, where it gives no more than n. -/
theorem gives_c (f : Value) (n : Int) (n₀ : Nat) (U : Nat → Prop) (I0 I1 : World → Prop) (l : List Ent) (w : World) (hf : IterUV Try.prog f encA n₀ U I0 I1 I1 l) (hI0 : Firm n₀ I0) (hI1 : Firm n₀ I1) (hi0 : I0 w) (hn₀ : n₀ ≤ w.heap.size) (hl : l.length < 2932031007319) (hln : (l.length : Int) ≤ n) :
    Calls Try.prog 42 #[f, .int .i64 n] w fun e w' => ∃ v, e = .returned (.tuple #[v, .bool true]) ∧ Own encE 53 4 w' w.heap.size v l ∧ Upd U w w' ∧ I1 w' := by
  obtain ⟨gf, fa, lb, rfl, henter, hit⟩ := hf
  have HIT := Lib.hid hit
  clear hit
  have hnil : ∀ w : World, (binOp .eql 31 (.func (.func gf) fa lb) .nilFunc).run Try.prog w = .ok (.bool false) w := fun _ => rfl
  go_enter Try.func42, Try.ntmps42
  go_wp2_with fail
  go_at_fn gf
  obtain ⟨W4, hW4⟩ : ∃ W4, ((w.alloc (.cells #[.int .i64 n] 3)).alloc (.cells #[.slice none 0 0] 27)).alloc (.cells #[.bool true] 4) = W4 := ⟨_, rfl⟩
  have k1 : W4.heap[w.heap.size]? = some (.cells #[.int .i64 n] 3 (0, 0)) := by rw [← hW4]; exact blk_alloc (blk_alloc (heap_alloc_new _ _) _) _
  have k2 : W4.heap[w.heap.size + 1]? = some (.cells #[.slice none 0 0] 27 (0, 0)) := by rw [← hW4]; exact blk_alloc (by simpa using heap_alloc_new (w.alloc (.cells #[.int .i64 n] 3)) (.cells #[.slice none 0 0] 27)) _
  have k3 : W4.heap[w.heap.size + 1 + 1]? = some (.cells #[.bool true] 4 (0, 0)) := by rw [← hW4]; simpa using heap_alloc_new ((w.alloc (.cells #[.int .i64 n] 3)).alloc (.cells #[.slice none 0 0] 27)) (.cells #[.bool true] 4)
  have hb4 : Below w.heap.size w W4 := by rw [← hW4]; exact (((Below.refl _ _).alloc (Nat.le_refl _) _).alloc (by simp) _).alloc (by simp; omega) _
  rw [hW4]
  have H0 := giv_start w W4 n w.heap.size (Nat.le_refl _) k1 k2 k3
  have hcall := HIT.out W4 (.func 74) #[.pointer (some ⟨w.heap.size + 1, 0, none⟩), .pointer (some ⟨w.heap.size, 0, none⟩), .pointer (some ⟨w.heap.size + 1 + 1, 0, none⟩)]
    (fun p T W => GivAt w.heap.size (w.heap.size + 1 + 1) (w.heap.size + 1) w.heap.size n p T W) (fun p T W => False) _
    (giv_foot _ _ _ _ _) ⟨fun h => h.elim, fun h => h.elim⟩ (fun k hk => Nat.le_trans hn₀ (H0.ge k hk)) H0 (hI0.later hi0 hb4)
    (fun p x T1 W1 hj him hg hu hp => by
      have hpl : p.length + 1 ≤ l.length := by have := hp.length_le; simpa using this
      refine .inr ⟨_, rfl, enters_of Try.func74 (by kernel_rfl) rfl, (gives1_c _ _ _ _ n p x T1 W1 hj (by omega) (by omega)).mono ?_⟩
      rintro e W2 ⟨rfl, T2, hg2, hu2, ht2⟩
      exact ⟨T2, hg2, hu2, .inl ⟨rfl, ht2⟩⟩)
  refine hcall.mono ?_
  clear hcall H0 k1 k2 k3
  rintro e W5 ⟨⟨v5, rfl⟩, T5, hg5, hu5, hres⟩
  obtain ⟨ht5, hi5⟩ : GivAt w.heap.size (w.heap.size + 1 + 1) (w.heap.size + 1) w.heap.size n l T5 W5 ∧ I1 W5 := by
    rcases hres with h | ⟨p, hp, h, _⟩
    · exact h
    · exact h.elim
  obtain ⟨v, ho, hown, hv, hf⟩ := ht5.o
  have hu6 : Upd U w W5 := (Upd.of_below hb4).step hu5 (fun k hk => by
    rcases hk with (h | h | h | h) | h
    · exact .inr (by omega)
    · exact .inr (by omega)
    · exact .inr (by omega)
    · cases h
    · exact .inl h)
  have q1 : W5.cell? ⟨w.heap.size + 1, 0, none⟩ = some v := (blk_cell ho 0).trans rfl
  have q2 : W5.cell? ⟨w.heap.size + 1 + 1, 0, none⟩ = some (.bool true) := (blk_cell ht5.w 0).trans rfl
  obtain ⟨A, c, rfl⟩ := own_slice hown
  have HB := Lib.hid hu6
  have HI5 := Lib.hid hi5
  have HO := Lib.hid hown
  clear ht5 ho hown hv hf hres hu6 hi5 hu5 hg5 hb4 HIT hln
  obtain ⟨m, hm⟩ : ∃ m, l.length = m := ⟨_, rfl⟩
  rw [hm] at q1 HO
  go_wp2_with fail
  go_region
  go_wp2
  go_ret2
  exact ⟨_, rfl, HO.out, HB.out.trans (Upd.drew _), hI1 _ _ HI5.out (Upd.drew _)⟩
set_option maxHeartbeats 1600000 in
set_option maxRecDepth 100000 in
theorem same12_c (A : Option Addr) (c : Nat) (l : List Ent) (B : Option Addr) (d : Nat) (m : List Ent) (w : World) (ha : Sl encE 4 w A l) (hb : Sl encE 4 w B m) :
    Calls Try.prog 34 #[.slice A l.length c, .slice B m.length d] w fun e w' => e = .returned (.bool (decide (l = m))) ∧ Below w.heap.size w w' := by
  have la := ha.1
  have lb := hb.1
  have HA := Lib.hid ha
  have HB := Lib.hid hb
  clear ha hb
  obtain ⟨n, hn⟩ : ∃ n, l.length = n := ⟨_, rfl⟩
  obtain ⟨n', hn'⟩ : ∃ n, m.length = n := ⟨_, rfl⟩
  rw [hn] at la ⊢
  rw [hn'] at lb ⊢
  have HN := Lib.hid hn
  have HM := Lib.hid hn'
  clear hn hn'
  go_enter Try.func34, Try.ntmps34
  by_cases hlen : n = n'
  · subst hlen
    go_wp2_with fail
    go_loopw [5] (fun s5 wr => ∃ k : Nat, s5 = .int .i64 k ∧ k ≤ n ∧ l.take k = m.take k ∧ Below w.heap.size w wr) (fun s5 wr => n - (intOf s5).toNat)
    case atStart => exact ⟨0, rfl, by omega, by simp, Below.refl _ _⟩
    case round =>
      obtain ⟨k, rfl, hk, htk, hbw⟩ := hrel
      have HT := Lib.hid htk
      have HBW := Lib.hid hbw
      clear htk hbw
      by_cases hlt : k < n
      · obtain ⟨x, hx⟩ := getElem?_of_lt (l := l) (by rw [HN.out]; exact hlt : k < l.length)
        obtain ⟨y, hy⟩ := getElem?_of_lt (l := m) (by rw [HM.out]; exact hlt : k < m.length)
        obtain ⟨b1, o1, hA1, hb1, hc1⟩ := HA.out.at hx
        obtain ⟨b2, o2, hA2, hb2, hc2⟩ := HB.out.at hy
        subst hA1
        subst hA2
        have x0 := (HBW.out.cell (p := ⟨b1, o1 + k * 4 + 0, none⟩) hb1).trans (hc1 0 _ rfl)
        have x1 := (HBW.out.cell (p := ⟨b1, o1 + k * 4 + 1, none⟩) hb1).trans (hc1 1 _ rfl)
        have x2 := (HBW.out.cell (p := ⟨b1, o1 + k * 4 + 2, none⟩) hb1).trans (hc1 2 _ rfl)
        have x3 := (HBW.out.cell (p := ⟨b1, o1 + k * 4 + 3, none⟩) hb1).trans (hc1 3 _ rfl)
        have y0 := (HBW.out.cell (p := ⟨b2, o2 + k * 4 + 0, none⟩) hb2).trans (hc2 0 _ rfl)
        have y1 := (HBW.out.cell (p := ⟨b2, o2 + k * 4 + 1, none⟩) hb2).trans (hc2 1 _ rfl)
        have y2 := (HBW.out.cell (p := ⟨b2, o2 + k * 4 + 2, none⟩) hb2).trans (hc2 2 _ rfl)
        have y3 := (HBW.out.cell (p := ⟨b2, o2 + k * 4 + 3, none⟩) hb2).trans (hc2 3 _ rfl)
        have HX := Lib.hid hx
        have HY := Lib.hid hy
        clear hc1 hc2 hx hy hb1 hb2
        have hne := neE_run x y
        simp only [Nat.add_zero] at x0 y0
        have i1 : (0 : Int) ≤ k := by omega
        have i2 : (k : Int) < n := by omega
        go_wp2_with fail
        go_region
        by_cases hxy : x = y
        · have hd : decide (x = y) = true := decide_eq_true hxy
          simp only [hd, Bool.not_true]
          go_wp2
          go_roundw
          case rel => exact ⟨k + 1, by first | rfl | simp, by omega, take_same HT.out HX.out (by rw [hxy]; exact HY.out), HBW.out.drew⟩
          case measure => simp [intOf]; omega
        · have hd : decide (x = y) = false := decide_eq_false hxy
          simp only [hd, Bool.not_false]
          go_wp2
          go_ret
          have hlm : ¬ l = m := fun e => hxy (by
            have h1 := HX.out
            have h2 := HY.out
            rw [e, h2] at h1
            injection h1 with h1
            exact h1.symm)
          rw [decide_eq_false hlm]
          exact ⟨rfl, HBW.out.drew⟩
      · have hkn : k = n := by omega
        subst hkn
        have hlm : l = m := by
          have := HT.out
          rwa [List.take_of_length_le (by rw [HN.out]; exact Nat.le_refl _), List.take_of_length_le (by rw [HM.out]; exact Nat.le_refl _)] at this
        have HD := Lib.hid (decide_eq_true hlm)
        clear hlm
        go_wp2
        go_ret
        rw [HD.out]
        exact ⟨rfl, HBW.out⟩
  · have hne : ¬ l = m := fun h => hlen (by rw [← HN.out, ← HM.out, h])
    have HNE := Lib.hid (decide_eq_false hne)
    have h1 : ¬ (n : Int) = (n' : Int) := by omega
    go_wp2
    go_ret
    rw [HNE.out]
    exact ⟨rfl, Below.refl _ _⟩
end Go.Proofs.Ytdpijhpjicbecaa.H
