/- sieve.Keep: its iterator gives what stays of each key's entries. Conditions: sizes. -/
import Derived.Test.YtdpijhpjicbecaaV3
import Derived.Test.YtdpijhpjicbecaaGOf4
namespace Go.Proofs.Ytdpijhpjicbecaa.H
open Go Go.RowKit Go.Deep Go.Shelf Go.Proofs Go.Proofs.YtdpijhpjicbecaaW.PrintWords
set_option linter.unusedVariables false
set_option linter.unusedSimpArgs false
attribute [local go_sem] Oper.semAt_some
theorem pickV_none : pickV none = .tuple #[.agg #[.string ⟨#[]⟩, .int .u64 0, .bool false, .string ⟨#[]⟩], .bool false] := rfl
theorem pickV_some (e : Ent) : pickV (some e) = .tuple #[.agg #[.string e.1, .int .u64 e.2.1, .bool e.2.2.1, .string e.2.2.2], .bool true] := rfl
def keepL (b : ByteArray → Bool) (l : List (List Ent)) : List Ent := l.filterMap (pickL b)
theorem keepL_snoc (b : ByteArray → Bool) (p : List (List Ent)) (x : List Ent) : keepL b (p ++ [x]) = keepL b p ++ (pickL b x).toList := by
  simp only [keepL, List.filterMap_append]
  cases h : pickL b x <;> simp [List.filterMap, h]
theorem keepL_pre (b : ByteArray → Bool) {p l : List (List Ent)} (h : p <+: l) : keepL b p <+: keepL b l := by
  obtain ⟨t, rfl⟩ := h
  exact ⟨keepL b t, by simp [keepL, List.filterMap_append]⟩
/-- A box that holds a function value, below n₀ and apart from U. -/
def BoxV (n₀ : Nat) (U : Nat → Prop) (t : TypeId) (b : Nat) (f : FV) (W : World) : Prop := b < n₀ ∧ ¬ U b ∧ W.heap[b]? = some (.cells #[valF f] t (0, 0))
theorem BoxV.upd {n₀ : Nat} {U X : Nat → Prop} {t : TypeId} {b : Nat} {f : FV} {W W' : World} (h : BoxV n₀ U t b f W) (u : Upd X W W') (hX : ∀ k, X k → U k ∨ n₀ ≤ k) : BoxV n₀ U t b f W' :=
  ⟨h.1, h.2.1, u.heap h.2.2 fun hx => by
    rcases hX b hx with k | k
    · exact h.2.1 k
    · have := h.1; omega⟩
/-- What the caller of Keep's iterator has, and the iterator's own block. -/
def KeepAt (J : List Ent → (Nat → Prop) → World → Prop) (bw : ByteArray → Bool) (clo : Obj) (b : Nat) (p : List (List Ent)) (S : Nat → Prop) (W : World) : Prop :=
  ∃ T, (∀ k, S k ↔ T k ∨ k = b) ∧ ¬ T b ∧ J (keepL bw p) T W ∧ W.heap[b]? = some clo
theorem keepAt_foot {J : List Ent → (Nat → Prop) → World → Prop} (h : Foot J) (bw : ByteArray → Bool) (clo : Obj) (b : Nat) : Foot (KeepAt J bw clo b) := by
  refine ⟨fun {s S W k} h1 hk => ?_, fun {s S W W'} h1 hs => ?_⟩
  · obtain ⟨T, hS, _, hj, hc⟩ := h1
    rcases (hS k).1 hk with hk | rfl
    · exact h.lt hj hk
    · exact blk_lt hc
  · obtain ⟨T, hS, hn, hj, hc⟩ := h1
    exact ⟨T, hS, hn, h.move hj (hs.mono fun k hk => (hS k).2 (.inl hk)), (hs.block _ ((hS _).2 (.inr rfl))).trans hc⟩
/-- What a function that tells of below needs to stand: blocks apart from U and from n₀ on. -/
structure TellsAt (g : FV) (b : ByteArray → Bool) (K : ByteArray → Prop) (n₀ : Nat) (U : Nat → Prop) (HB : World → Prop) : Prop where
  enter : ∀ args w, (callFunc g.1 args).run Try.prog w = .ok (.enter g.1 args) w
  stays : ∀ W W', HB W → Upd (fun k => U k ∨ n₀ ≤ k) W W' → HB W'
  tells : ∀ W, HB W → n₀ ≤ W.heap.size → Tells g b K W
set_option maxHeartbeats 6400000 in
set_option maxRecDepth 100000 in
theorem keep1_it (n₀ : Nat) (U : Nat → Prop) (I0 I1 : World → Prop) (L : List (List Ent)) (ba bb : Nat) (f g : FV) (bw : ByteArray → Bool) (K : ByteArray → Prop) (HB : World → Prop) (hf : KeyV f n₀ U I0 I1 L) (hg : TellsAt g bw K n₀ U HB) (hK : ∀ x ∈ L, ∀ e ∈ x, K e.1)
    (hI0 : Firm n₀ I0) (hI1 : Firm n₀ I1) (hUn : ∀ k, U k → k < n₀) (W : World) (hsz : n₀ ≤ W.heap.size) :
    IterU Try.prog 73 #[] #[.pointer (some ⟨ba, 0, none⟩), .pointer (some ⟨bb, 0, none⟩)] encA n₀ U
      (fun W => I0 W ∧ BoxV n₀ U 36 ba f W ∧ BoxV n₀ U 61 bb g W ∧ HB W)
      (fun W => I1 W ∧ BoxV n₀ U 36 ba f W ∧ BoxV n₀ U 61 bb g W ∧ HB W)
      (fun W => I1 W ∧ BoxV n₀ U 36 ba f W ∧ BoxV n₀ U 61 bb g W ∧ HB W) (keepL bw L) W := by
  intro fn cap J Jx T hJ hJx hT h0 hi0 hY
  obtain ⟨hi0, hba, hbb, hhb⟩ := hi0
  obtain ⟨gf, fa, lb, rfl, henter, hseq⟩ := hf
  obtain ⟨W2, hW2⟩ : ∃ W2, W.alloc (.cells #[.func fn #[] cap] 49) = W2 := ⟨_, rfl⟩
  have hb2 : Below W.heap.size W W2 := by rw [← hW2]; exact (Below.refl _ _).alloc (Nat.le_refl _) _
  have r2 : W2.heap[W.heap.size]? = some (.cells #[.func fn #[] cap] 49 (0, 0)) := by rw [← hW2]; exact heap_alloc_new _ _
  have hlt : ∀ k, T k → k < W.heap.size := fun k hk => hJ.lt h0 hk
  have hst0 : KeepAt J bw (.cells #[.func fn #[] cap] 49 (0, 0)) W.heap.size [] (fun k => T k ∨ k = W.heap.size) W2 :=
    ⟨T, fun _ => Iff.rfl, fun h => by have := hlt _ h; omega, hJ.move h0 (Same.of_below hb2 hlt), r2⟩
  have hcb : W2.cell? ⟨ba, 0, none⟩ = some (.func (.func gf) fa lb) := (blk_cell (hba.upd (Upd.of_below (S := fun _ => False) hb2) (fun k h => h.elim)).2.2 0).trans rfl
  rw [← hW2] at hcb
  have HY := Lib.hid hY
  have HJ := Lib.hid hJ
  have HJX := Lib.hid hJx
  have HT := Lib.hid hT
  have HB2 := Lib.hid hb2
  have HLT := Lib.hid hlt
  have HBA := Lib.hid hba
  have HBB := Lib.hid hbb
  have HHB := Lib.hid hhb
  have HST0 := Lib.hid hst0
  have HI0 := Lib.hid (hI0.later hi0 hb2)
  have HUN := Lib.hid hUn
  have HSZ := Lib.hid hsz
  have HKK := Lib.hid hK
  have HG := Lib.hid hg
  have HI1 := Lib.hid hI1
  clear hY hJx h0 hT hb2 hlt hba hbb hhb hst0 hi0 hUn hsz r2 hK hg
  have HWE := Lib.hid hW2
  clear hW2
  refine (callsIn_wide (n := 8)).1 ?_
  refine callsIn_of_wp_marks Try.func73 rfl trivial ?_ rfl
  simp only [Try.ntmps73, List.size_toArray, List.length_cons, List.length_nil, Nat.reduceAdd, Nat.reduceSub, Array.replicate_succ, Array.replicate_zero, List.push_toArray, List.append_toArray, List.nil_append, List.cons_append]
  gi_wp2
  rw [HWE.out]
  have HUW := Lib.hid (show ∀ (S' T1 : Nat → Prop) (W' : World), Grow (fun k => T k ∨ k = W.heap.size) S' W2 → Upd (fun k => (T k ∨ k = W.heap.size) ∨ U k) W2 W' → (∀ k, T1 k → S' k) → Grow T T1 W ∧ Upd (fun k => T k ∨ U k) W W' from fun S' T1 W' hg hu hS => by
    have hle : W.heap.size ≤ W2.heap.size := HB2.out.size
    refine ⟨fun k hk => ?_, (Upd.of_below HB2.out).step hu (fun k hk => ?_)⟩
    · rcases hg k (hS k hk) with (h | h) | h
      · exact .inl h
      · exact .inr (by omega)
      · exact .inr (by omega)
    · rcases hk with (h | h) | h
      · exact .inl (.inl h)
      · exact .inr (by omega)
      · exact .inl (.inr h))
  have HALL := Lib.hid (show ∀ W' : World, Upd (fun k => T k ∨ U k) W W' → BoxV n₀ U 36 ba (gf, fa, lb) W' ∧ BoxV n₀ U 61 bb g W' ∧ HB W' from fun W' u =>
    ⟨HBA.out.upd u (fun k hk => hk.elim (fun h => .inr (HT.out k h)) .inl), HBB.out.upd u (fun k hk => hk.elim (fun h => .inr (HT.out k h)) .inl), HG.out.stays _ _ HHB.out (u.mono fun k hk => hk.elim (fun h => .inr (HT.out k h)) .inl)⟩)
  refine rangeG (gf := gf) (fa := fa) (lb := lb) rfl henter (E := encR) (n₀ := n₀) (l := L) hseq hI0 hI1 hI1 encR_ok (fun x args F W h => by obtain ⟨A, c, rfl, _⟩ := h; rfl)
    (KeepAt J bw (.cells #[.func fn #[] cap] 49 (0, 0)) W.heap.size)
    (fun c p S' W' => (∃ T1 g, (∀ k, T1 k → S' k) ∧ (∀ k, S' k → k < W'.heap.size) ∧ g <+: keepL bw L ∧ Jx g T1 W') ∧ c = .ret)
    (fun p x args => fun a' S' W' => KeepAt J bw (.cells #[.func fn #[] cap] 49 (0, 0)) W.heap.size p S' W' ∧ a' = ({ tmps := #[.func fn #[] cap, .pointer (some ⟨ba, 0, none⟩), .pointer (some ⟨bb, 0, none⟩), .pointer (some ⟨W.heap.size, 0, none⟩), args.getD 0 undef, undef, undef, .func (.func gf) fa lb, args.getD 0 undef, undef, undef, undef, undef, undef, undef, undef, undef, undef, undef, undef, undef, undef], defers := [] } : Act))
    (keepAt_foot HJ.out _ _ _)
    (fun c => ⟨fun {s S' W' k'} h hk => by
        obtain ⟨⟨T1, g, hS, hl, _, hj⟩, _⟩ := h
        exact hl k' hk,
      fun {s S' W' W''} h hs => by
        obtain ⟨⟨T1, g, hS, hl, hg, hj⟩, hc⟩ := h
        exact ⟨⟨T1, g, hS, fun k hk => Nat.lt_of_lt_of_le (hl k hk) hs.size, hg, HJX.out.move hj (hs.mono fun k' hk => hS k' hk)⟩, hc⟩⟩)
    (fun p x args => foot_act (keepAt_foot HJ.out _ _ _) p _)
    _ (fun k hk => by
      have := HSZ.out
      rcases hk with h | h
      · exact HT.out k h
      · omega) (Nat.le_trans HSZ.out HB2.out.size) HST0.out HI0.out ?assign ?body ?done ?stop
  case assign =>
    intro lp p x T1 W' K hi him hg hu hp args F hE hF hK
    obtain ⟨A, c, rfl, hs, hl, hb⟩ := hE
    dsimp only
    gi_wp2
    exact hK _ T1 _ (Grow.refl _ _) (Upd.refl _ _) ⟨hi, rfl⟩
  case body =>
    rintro lp p x args F a' S' W' ⟨hst, rfl⟩ him hg hu hp hE hF
    obtain ⟨A, c, rfl, hs, hl, hb⟩ := hE
    obtain ⟨T1, hS, hn, hj, hr⟩ := hst
    have hsub : ∀ k, T1 k → S' k := fun k hk => (hS k).2 (.inl hk)
    have HUW1 := Lib.hid (HUW.out S' T1 W' hg hu hsub)
    have hall := HALL.out W' HUW1.out.2
    have hn0 : n₀ ≤ W'.heap.size := Nat.le_trans HSZ.out HUW1.out.2.size
    have c1 : W'.cell? ⟨bb, 0, none⟩ = some (valF g) := (blk_cell hall.2.1.2.2 0).trans rfl
    have hxL : x ∈ L := hp.subset (by simp)
    have HC := Lib.hid (pick_c A c x g bw K W' hs (fun e he => HKK.out x hxL e he) HG.out.enter (HG.out.tells W' hall.2.2 hn0))
    have HS := Lib.hid hS
    have HN := Lib.hid hn
    have HJ1 := Lib.hid hj
    have HR := Lib.hid hr
    have HI := Lib.hid him
    have HP := Lib.hid hp
    clear hS hn hj hr him hp hg hu hF hs hl hb hall hsub hxL hn0
    cases hpk : pickL bw x with
    | none =>
      rw [hpk, pickV_none] at HC
      have HKP := Lib.hid (show keepL bw (p ++ [x]) = keepL bw p from by rw [keepL_snoc, hpk]; simp)
      clear hpk
      refine wpIn_block ?_
      gi_upto_region 3 with fail
      refine wpIn_region_rndL (by kernel_rfl) (no_letsOut fun a w h => h) ?_
      go_wp2_with (go_at_call 32; refine HC.out.mono ?_; rintro _ W5 ⟨rfl, hb5⟩)
      have HB6 := Lib.hid (show Below W'.heap.size W' (W5.alloc (.cells #[.string ⟨#[]⟩, .int .u64 0, .bool false, .string ⟨#[]⟩] 53)) from hb5.alloc hb5.size _)
      gi_wp2
      refine ⟨(fun f h => by cases h), ?_⟩
      gi_wp2
      have hl1 : ∀ k, S' k → k < W'.heap.size := fun k hk => by
        rcases (HS.out k).1 hk with h | h
        · exact HJ.out.lt HJ1.out h
        · rw [h]; exact blk_lt HR.out
      exact ⟨S', Grow.refl _ _, Upd.of_below HB6.out, T1, HS.out, HN.out, by rw [HKP.out]; exact HJ.out.move HJ1.out (Same.of_below HB6.out (fun k hk => HJ.out.lt HJ1.out hk)), blk_below HR.out HB6.out⟩
    | some e =>
      rw [hpk, pickV_some] at HC
      have HKP := Lib.hid (show keepL bw (p ++ [x]) = keepL bw p ++ [e] from by rw [keepL_snoc, hpk]; rfl)
      clear hpk
      refine wpIn_block ?_
      gi_upto_region 3 with fail
      refine wpIn_region_rndL (by kernel_rfl) (no_letsOut fun a w h => h) ?_
      go_wp2_with (go_at_call 32; refine HC.out.mono ?_; rintro _ W5 ⟨rfl, hb5⟩)
      obtain ⟨W6, hW6⟩ : ∃ Z, W5.alloc (.cells #[.string e.1, .int .u64 e.2.1, .bool e.2.2.1, .string e.2.2.2] 53) = Z := ⟨_, rfl⟩
      have hb6 : Below W'.heap.size W' W6 := by rw [← hW6]; exact hb5.alloc hb5.size _
      have r6 : W6.heap[W5.heap.size]? = some (.cells #[.string e.1, .int .u64 e.2.1, .bool e.2.2.1, .string e.2.2.2] 53 (0, 0)) := by rw [← hW6]; exact heap_alloc_new _ _
      rw [hW6]
      have HB6 := Lib.hid hb6
      have hj6 : J (keepL bw p) T1 W6 := HJ.out.move HJ1.out (Same.of_below hb6 (fun k hk => HJ.out.lt HJ1.out hk))
      have hu6 : Upd (fun k => T k ∨ U k) W W6 := HUW1.out.2.trans (Upd.of_below hb6)
      have HCALL := Lib.hid ((HY.out (keepL bw p) e T1 W6 hj6 ⟨HI1.out.later HI.out (hb6), HALL.out W6 hu6⟩ HUW1.out.1 hu6 (by rw [← HKP.out]; exact keepL_pre bw HP.out)).mono fun e W1 h => h.bool)
      obtain ⟨x0, x1, x2, x3, _, _, _, _⟩ := four r6
      have hr6 := blk_below HR.out hb6
      have c2 : W6.cell? ⟨W.heap.size, 0, none⟩ = some (.func fn #[] cap) := (blk_cell hr6 0).trans rfl
      have HR6 := Lib.hid hr6
      have HU6 := Lib.hid (Upd.of_below (S := S') hb6)
      have hsT : ∀ k, T1 k → S' k := fun k hk => (HS.out k).2 (.inl hk)
      have HAFT := Lib.hid (show ∀ (T3 : Nat → Prop) (W7 : World), Grow T1 T3 W6 → Upd T1 W6 W7 → J (keepL bw p ++ [e]) T3 W7 → ∃ T', Grow S' T' W' ∧ Upd S' W' W7 ∧ KeepAt J bw (.cells #[.func fn #[] cap] 49 (0, 0)) W.heap.size (p ++ [x]) T' W7 from fun T3 W7 hg3 hu3 hj3 => by
        refine ⟨fun k => T3 k ∨ k = W.heap.size, fun k hk => ?_, HU6.out.trans (hu3.mono hsT), T3, fun _ => Iff.rfl, hg3.not HN.out (blk_lt HR6.out), by rw [HKP.out]; exact hj3, hu3.heap HR6.out HN.out⟩
        rcases hk with h | h
        · rcases hg3 k h with h | h
          · exact .inl (hsT k h)
          · exact .inr (Nat.le_trans HB6.out.size h)
        · exact .inl ((HS.out k).2 (.inr h)))
      have HLEFT := Lib.hid (show ∀ (T3 : Nat → Prop) (W7 : World), Grow T1 T3 W6 → Upd T1 W6 W7 → Jx (keepL bw p ++ [e]) T3 W7 → ∃ T', Grow S' T' W' ∧ Upd S' W' W7 ∧ (∃ T1 g, (∀ k, T1 k → T' k) ∧ (∀ k, T' k → k < W7.heap.size) ∧ g <+: keepL bw L ∧ Jx g T1 W7) from fun T3 W7 hg3 hu3 hj3 => by
        refine ⟨T3, fun k hk => ?_, HU6.out.trans (hu3.mono hsT), T3, _, fun k hk => hk, fun k hk => HJX.out.lt hj3 hk, by rw [← HKP.out]; exact keepL_pre bw HP.out, hj3⟩
        rcases hg3 k hk with h | h
        · exact .inl (hsT k h)
        · exact .inr (Nat.le_trans HB6.out.size h))
      clear hb6 r6 hj6 hu6 hr6 hsT hb5 hW6
      rcases HCALL.out with ⟨l2, rfl, rfl, fn', tmps', assign', body', hy', hR⟩ | ⟨f', rfl, henter', hC'⟩
      · have HC := Lib.hid (RoundIn.wide (m := 8 - 1 - 1 - 1) hR)
        have hy2 := show (Instr.yield l2 #[.agg #[.string e.1, .int .u64 e.2.1, .bool e.2.2.1, .string e.2.2.2]]).run Try.prog W6 = _ from hy'
        clear hR HCALL hy'
        gi_wp2_with fail
        refine (RoundIn.inR HC.out).mono ?_
        rintro e' W7 ⟨b, T3, rfl, hg3, hu3, hj3, hx3⟩
        cases b with
        | false =>
          have HF := Lib.hid (HLEFT.out T3 W7 hg3 hu3 (hx3 rfl))
          clear hj3 hx3 hg3 hu3
          gi_wp2
          obtain ⟨T', a1, a2, a3⟩ := HF.out
          exact ⟨T', a1, a2, a3, rfl⟩
        | true =>
          have HF := Lib.hid (HAFT.out T3 W7 hg3 hu3 (hj3 rfl))
          clear hj3 hx3 hg3 hu3
          gi_wp2
          exact HF.out
      · have HC := Lib.hid hC'
        clear hC' HCALL
        gi_wp2_with fail
        refine ⟨trivial, ?_⟩
        refine (CallsIn.inRound lp (callsIn_wide.2 HC.out)).mono ?_
        rintro e' W7 ⟨b, T3, rfl, hg3, hu3, hj3, hx3⟩
        cases b with
        | false =>
          have HF := Lib.hid (HLEFT.out T3 W7 hg3 hu3 (hx3 rfl))
          clear hj3 hx3 hg3 hu3
          gi_wp2
          obtain ⟨T', a1, a2, a3⟩ := HF.out
          exact ⟨T', a1, a2, a3, rfl⟩
        | true =>
          have HF := Lib.hid (HAFT.out T3 W7 hg3 hu3 (hj3 rfl))
          clear hj3 hx3 hg3 hu3
          gi_wp2
          exact HF.out
  case done =>
    intro D S' W' hD hnD hg hu hi h1 hK
    obtain ⟨T1, hS, hn, hj, hr⟩ := hi
    have hUW1 := HUW.out S' T1 W' hg hu (fun k hk => (hS k).2 (.inl hk))
    have hn0 := HSZ.out
    have hle := HB2.out.size
    have nD : ¬ T1 D := fun h => hnD ((hS D).2 (.inl h))
    have uD := upd_putObj (S := fun k => k = D) W' (l := D) (.deferred none) rfl
    have hu2 := hUW1.2.step uD (fun k hk => .inr (by omega))
    have HF := Lib.hid (show ∃ T', Grow T T' W ∧ Upd (fun k => T k ∨ U k) W (W'.putObj D (.deferred none)) ∧ ((J (keepL bw L) T' (W'.putObj D (.deferred none)) ∧ (I1 (W'.putObj D (.deferred none)) ∧ BoxV n₀ U 36 ba (gf, fa, lb) (W'.putObj D (.deferred none)) ∧ BoxV n₀ U 61 bb g (W'.putObj D (.deferred none)) ∧ HB (W'.putObj D (.deferred none)))) ∨ ∃ pre, pre <+: keepL bw L ∧ Jx pre T' (W'.putObj D (.deferred none)) ∧ (I1 (W'.putObj D (.deferred none)) ∧ BoxV n₀ U 36 ba (gf, fa, lb) (W'.putObj D (.deferred none)) ∧ BoxV n₀ U 61 bb g (W'.putObj D (.deferred none)) ∧ HB (W'.putObj D (.deferred none)))) from
      ⟨T1, hUW1.1, hu2, .inl ⟨HJ.out.move hj (same_putObj _ _ nD), HI1.out _ _ h1 (uD.mono fun k hk => by show n₀ ≤ k; omega), HALL.out _ hu2⟩⟩)
    clear hS hn hj hr hUW1 hn0 hle nD uD hu2 hg hu h1
    gi_wp2
    refine ⟨by simp, .inl ⟨_, _, rfl, run_takeDeferred hK, ?_⟩⟩
    exact ⟨_, results_none rfl _ _ _, ⟨_, rfl⟩, HF.out⟩
  case stop =>
    rintro D c p S' W' hD hnD hg hu hp ⟨⟨T1, g', hS, _, hgp, hj⟩, rfl⟩ hm hK
    obtain ⟨hgT, huT⟩ := HUW.out S' T1 W' hg hu hS
    have hn0 := HSZ.out
    have hle := HB2.out.size
    gi_wp2
    refine ⟨by simp, .inl ⟨_, _, rfl, run_takeDeferred hK, ?_⟩⟩
    have n1 : ¬ T1 D := fun h => hnD (hS D h)
    have uD := upd_putObj (S := fun k => k = D) W' (l := D) (.deferred none) rfl
    have hu2 := huT.step uD (fun k hk => .inr (by omega))
    exact ⟨_, results_none rfl _ _ _, ⟨_, rfl⟩, T1, hgT, hu2, .inr ⟨g', hgp, HJX.out.move hj (same_putObj _ _ n1), HI1.out _ _ hm (uD.mono fun k hk => by show n₀ ≤ k; omega), HALL.out _ hu2⟩⟩
end Go.Proofs.Ytdpijhpjicbecaa.H
