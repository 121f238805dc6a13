/- skip.List.From's iterator, whatever it is handed. No conditions. -/
import Derived.Test.YtjbbobhjomhnmaaSk8
namespace Go.Proofs.Ytjbbobhjomhnmaa.H
open Go Go.RowKit Go.Deep Go.Shelf Go.Proofs Go.Proofs.YtjbbobhjomhnmaaW.PrintWords
set_option linter.unusedVariables false
set_option linter.unusedSimpArgs false
attribute [local go_sem] Oper.semAt_some
/-- What J says, and of the block b that o lies there. -/
def WithBox {β : Type} (b : Nat) (o : Obj) (J : β → (Nat → Prop) → World → Prop) (s : β) (S : Nat → Prop) (W : World) : Prop :=
  ∃ T, (∀ k, S k ↔ T k ∨ k = b) ∧ ¬ T b ∧ J s T W ∧ W.heap[b]? = some o
theorem withBox_foot {β : Type} {b : Nat} {o : Obj} {J : β → (Nat → Prop) → World → Prop} (h : Foot J) : Foot (WithBox b o J) := by
  refine ⟨fun {s S W k} h1 hk => ?_, fun {s S W W'} h1 hs => ?_⟩
  · obtain ⟨T, hS, hn, hj, hb⟩ := h1
    rcases (hS k).1 hk with hk | rfl
    · exact h.lt hj hk
    · exact blk_lt hb
  · obtain ⟨T, hS, hn, hj, hb⟩ := h1
    exact ⟨T, hS, hn, h.move hj (hs.mono fun k hk => (hS k).2 (.inl hk)), (hs.block b ((hS b).2 (.inr rfl))).trans hb⟩
theorem foot_map {α β : Type} {J : α → (Nat → Prop) → World → Prop} (h : Foot J) (f : β → α) : Foot (fun s => J (f s)) := ⟨fun h1 hk => h.lt h1 hk, fun h1 hs => h.move h1 hs⟩
theorem foot_and {β : Type} {J : β → (Nat → Prop) → World → Prop} (h : Foot J) (p : β → Prop) : Foot (fun s T W => J s T W ∧ p s) := ⟨fun h1 hk => h.lt h1.1 hk, fun h1 hs => ⟨h.move h1.1 hs, h1.2⟩⟩
theorem foot_act {α β : Type} {I : α → (Nat → Prop) → World → Prop} (h : Foot I) (p : α) (X : β) : Foot (fun (a : β) S W => I p S W ∧ a = X) := ⟨fun h1 hk => h.lt h1.1 hk, fun h1 hs => ⟨h.move h1.1 hs, h1.2⟩⟩
/-- A node that lies in w. -/
def Lies (w : World) (x : Nd) : Prop := x.b < w.heap.size ∧ ∀ i v, (encE x.e)[i]? = some v → w.cell? ⟨x.b, i, none⟩ = some v
theorem NodesAt.lies {w : World} {g : Nat} {l : List Nd} (hN : NodesAt w g l) : ∀ x ∈ l, Lies w x := fun x hx => by
  obtain ⟨a, c, rfl⟩ := List.append_of_mem hx
  obtain ⟨h1, _⟩ := hN.node a x c rfl
  exact ⟨World.block_lt_of_cell? w ⟨x.b, 0, none⟩ (h1 0 _ rfl), h1⟩
theorem prefix_mem {α : Type} {p : List α} {x : α} {l : List α} (h : p ++ [x] <+: l) : x ∈ l := h.subset (by simp)
set_option maxHeartbeats 3200000 in
set_option maxRecDepth 100000 in
theorem from1_it (w0 W : World) (g : Nat) (pre post : List Nd) (k : ByteArray) (q : Int) (hb : Below w0.heap.size w0 W) (hN : NodesAt w0 g (pre ++ post)) (h1 : ∀ x ∈ pre, ltE x.e (k, q, false, ⟨#[]⟩)) (h2 : ∀ x ∈ post, ¬ ltE x.e (k, q, false, ⟨#[]⟩))
    (B1 B2 B3 : Nat) (c1 : W.cell? ⟨B1, 0, none⟩ = some (.pointer (some ⟨g, 0, none⟩))) (c2 : W.cell? ⟨B2, 0, none⟩ = some (.string k)) (c3 : W.cell? ⟨B3, 0, none⟩ = some (.int .u64 q)) :
    IterT Try.prog 79 #[.pointer (some ⟨B1, 0, none⟩), .pointer (some ⟨B2, 0, none⟩), .pointer (some ⟨B3, 0, none⟩)] (fun e : Ent => #[.agg (encE e).toArray]) w0.heap.size (post.map (·.e)) W := by
  intro fn cap J Jx T hJ hJx hT h0 hY
  obtain ⟨clo, hclo⟩ : ∃ clo, clo = Obj.cells #[.func fn #[] cap] 72 := ⟨_, rfl⟩
  have hba : Below w0.heap.size W (W.alloc clo) := (Below.refl _ _).alloc hb.size _
  have hNa : NodesAt (W.alloc clo) g (pre ++ post) := hN.later (hb.trans hba)
  have HA := Lib.hid (ahead_c g pre post (k, q, false, ⟨#[]⟩) (W.alloc clo) hNa h1 h2)
  have d1 : (W.alloc clo).cell? ⟨B1, 0, none⟩ = some (.pointer (some ⟨g, 0, none⟩)) := cell_later ((Below.refl _ _).alloc (Nat.le_refl _) _) c1
  have d2 : (W.alloc clo).cell? ⟨B2, 0, none⟩ = some (.string k) := cell_later ((Below.refl _ _).alloc (Nat.le_refl _) _) c2
  have d3 : (W.alloc clo).cell? ⟨B3, 0, none⟩ = some (.int .u64 q) := cell_later ((Below.refl _ _).alloc (Nat.le_refl _) _) c3
  have HBA := Lib.hid hba
  have HN := Lib.hid hN
  have HB := Lib.hid hb
  have HY := Lib.hid hY
  have HJ := Lib.hid hJ
  have HJX := Lib.hid hJx
  have H0 := Lib.hid h0
  have HT := Lib.hid hT
  have HR := Lib.hid (heap_alloc_new W clo)
  rw [hclo] at d1 d2 d3
  clear h1 h2 hba hNa hN hb c1 c2 c3 hY hJ hJx h0 hT
  have hidx : ∀ W : World, (Instr.index 117 (.agg #[atV g (prv 0 pre), atV g (prv 1 pre), atV g (prv 2 pre), atV g (prv 3 pre), atV g (prv 4 pre), atV g (prv 5 pre), atV g (prv 6 pre), atV g (prv 7 pre), atV g (prv 8 pre), atV g (prv 9 pre), atV g (prv 10 pre), atV g (prv 11 pre)]) (.int .i64 0)).run Try.prog W = .ok (.pointer (some ⟨atB g (prv 0 pre), 0, none⟩)) W := fun W => by first | kernel_rfl | (unfold atV; go_simp)
  refine (callsIn_wide (n := 8)).1 ?_
  refine callsIn_of_wp_marks Try.func79 rfl trivial ?_ rfl
  simp only [Try.ntmps79, List.size_toArray, List.length_cons, List.length_nil, Nat.reduceAdd, Nat.reduceSub, Array.replicate_succ, Array.replicate_zero, List.push_toArray, List.append_toArray, List.nil_append, List.cons_append]
  gi_wp2_with (first
    | (refine ⟨trivial, ?_⟩; gi_at_call 80; refine (callsIn_wide.2 (hclo ▸ HA.out)).mono ?_; rintro e w2 ⟨rfl, hb2⟩; rw [show (pathC fun i => atV g (prv i pre)) = #[atV g (prv 0 pre), atV g (prv 1 pre), atV g (prv 2 pre), atV g (prv 3 pre), atV g (prv 4 pre), atV g (prv 5 pre), atV g (prv 6 pre), atV g (prv 7 pre), atV g (prv 8 pre), atV g (prv 9 pre), atV g (prv 10 pre), atV g (prv 11 pre)] from rfl])
    | (refine ⟨trivial, ?_⟩; gi_at_call 81; refine (nodes_c Fence.wide _ trivial rfl _ _).mono ?_; rintro e w3 ⟨rfl, rfl⟩))
  have hb2' : Below W.heap.size W w2 := ((Below.refl _ _).alloc (Nat.le_refl _) _).trans ((hclo ▸ hb2).mono (by simp))
  obtain ⟨Wb, hWb⟩ : ∃ Wb, w2.alloc (.cells #[.pointer (some ⟨atB g (prv 0 pre), 0, none⟩)] 116) = Wb := ⟨_, rfl⟩
  have hwb : Below W.heap.size W Wb := by rw [← hWb]; exact hb2'.alloc hb2'.size _
  have hrow : Wb.heap[W.heap.size]? = some clo := by
    rw [← hWb]
    exact blk_alloc (blk_below HR.out (hclo ▸ hb2)) _
  have hbox : Wb.cell? ⟨w2.heap.size, 0, none⟩ = some (.pointer (some ⟨atB g (prv 0 pre), 0, none⟩)) := by
    rw [← hWb]
    exact (blk_cell (heap_alloc_new _ _) 0).trans rfl
  have hle : w0.heap.size ≤ W.heap.size := HB.out.size
  have hleb : W.heap.size ≤ Wb.heap.size := hwb.size
  have hw0b : Below w0.heap.size w0 Wb := HB.out.trans (hwb.mono hle)
  have hch : ChainAt w0.heap.size Wb (atB g (prv 0 pre)) post := by
    have := HN.out.chain post pre rfl
    rw [← prv_zero (fun x hx => by
      obtain ⟨a, c, hac⟩ := List.append_of_mem hx
      exact (HN.out.node a x (c ++ post) (by rw [hac]; simp)).2.2.2.1)] at this
    exact this.below hw0b
  have hlies : ∀ x ∈ post, Lies w0 x := fun x hx => HN.out.lies x (List.mem_append_right _ hx)
  have hTW : ∀ k, T k → k < W.heap.size := fun k hk => HJ.out.lt H0.out hk
  rw [hWb]
  have HJ0 := Lib.hid (show J [] T Wb from HJ.out.move H0.out (Same.of_below hwb hTW))
  obtain ⟨TB, hTB⟩ : ∃ TB : Nat → Prop, TB = fun k => T k ∨ k = W.heap.size := ⟨_, rfl⟩
  have hUW : ∀ (S T1 : Nat → Prop) (W' : World), Grow TB S Wb → Upd TB Wb W' → (∀ k, S k ↔ T1 k ∨ k = W.heap.size) → Grow T T1 W ∧ Upd T W W' := fun S T1 W' hg hu hS => by
    refine ⟨fun k hk => ?_, (Upd.of_below hwb).step hu (fun k hk => ?_)⟩
    · rcases hg k ((hS k).2 (.inl hk)) with h | h
      · rw [hTB] at h
        rcases h with h | rfl
        · exact .inl h
        · exact .inr (Nat.le_refl _)
      · exact .inr (by omega)
    · rw [hTB] at hk
      rcases hk with h | rfl
      · exact .inl h
      · exact .inr (Nat.le_refl _)
  refine rangeT (gf := 108) (lb := #[.pointer (some ⟨w2.heap.size, 0, none⟩)]) rfl (enters_of Try.func108 (by kernel_rfl) rfl) (n₀ := w0.heap.size) (l := post)
    (fun W3 hb3 => nodes_it w2.heap.size w0.heap.size (atB g (prv 0 pre)) post W3 (Nat.le_trans hle (Nat.le_trans hleb hb3.size)) (cell_later hb3 hbox) (hch.below (hb3.mono (Nat.le_trans hle hleb)))) (fun _ => rfl)
    (WithBox W.heap.size clo (fun p => J (p.map (·.e))))
    (fun c => fun p S W' => WithBox W.heap.size clo (fun p => Jx (p.map (·.e))) p S W' ∧ c = .ret)
    (fun p x a' S W' => WithBox W.heap.size clo (fun p => J (p.map (·.e))) p S W' ∧ a' = { tmps := #[.func fn #[] cap, .pointer (some ⟨B1, 0, none⟩), .pointer (some ⟨B2, 0, none⟩), .pointer (some ⟨B3, 0, none⟩), .pointer (some ⟨W.heap.size, 0, none⟩), .pointer (some ⟨x.b, 0, none⟩), .pointer (some ⟨g, 0, none⟩), .string k, .int .u64 q, .agg #[.string k, .int .u64 q, .bool false, .string ⟨#[]⟩], .agg #[atV g (prv 0 pre), atV g (prv 1 pre), atV g (prv 2 pre), atV g (prv 3 pre), atV g (prv 4 pre), atV g (prv 5 pre), atV g (prv 6 pre), atV g (prv 7 pre), atV g (prv 8 pre), atV g (prv 9 pre), atV g (prv 10 pre), atV g (prv 11 pre)], .pointer (some ⟨atB g (prv 0 pre), 0, none⟩), .func (.func 108) #[] #[.pointer (some ⟨w2.heap.size, 0, none⟩)], .pointer (some ⟨x.b, 0, none⟩), undef, undef, undef, undef, undef, undef, undef], defers := [] })
    (withBox_foot (foot_map HJ.out (fun p : List Nd => p.map (·.e)))) (fun c => foot_and (withBox_foot (foot_map HJX.out (fun p : List Nd => p.map (·.e)))) (fun _ => c = .ret))
    (fun p x => foot_act (withBox_foot (foot_map HJ.out (fun p : List Nd => p.map (·.e)))) p _)
    TB (fun k hk => by rw [hTB] at hk; rcases hk with h | rfl; exact HT.out k h; exact hle) (Nat.le_trans hle hleb)
    ⟨T, fun k => by rw [hTB], fun h => Nat.lt_irrefl _ (hTW _ h), HJ0.out, hrow⟩ ?assign ?body ?done ?stop
  case assign =>
    intro lp p x T1 W' K hi _ _ hp hK
    gi_wp2
    exact hK _ _ _ (Grow.refl _ _) (Upd.refl _ _) ⟨hi, rfl⟩
  case body =>
    rintro lp p x a' S W' ⟨⟨T1, hS, hnb, hj, hR⟩, rfl⟩ hg0 hu0 hp
    obtain ⟨hgT, huT⟩ := hUW S T1 W' hg0 hu0 hS
    have hBW : Below w0.heap.size w0 W' := HB.out.trans (huT.bel HT.out hle)
    have hcx : ∀ i v, (encE x.e)[i]? = some v → W'.cell? ⟨x.b, i, none⟩ = some v := fun i v hv => (hBW.cell (p := ⟨x.b, i, none⟩) (hlies x (prefix_mem hp)).1).trans ((hlies x (prefix_mem hp)).2 i v hv)
    have x0 := hcx 0 _ rfl
    have x1 := hcx 1 _ rfl
    have x2 := hcx 2 _ rfl
    have x3 := hcx 3 _ rfl
    have hjd : J (p.map (·.e)) T1 W'.drew := HJ.out.move hj (Same.drew _)
    have hcall := (HY.out (p.map (·.e)) x.e T1 W'.drew hjd hgT (huT.trans (Upd.drew _)) (by have := hp.map (·.e); simpa using this)).mono fun e W1 h => h.bool
    have y0 : W'.cell? ⟨W.heap.size, 0, none⟩ = some (.func fn #[] cap) := by
      rw [hclo] at hR
      exact (blk_cell hR 0).trans rfl
    have hRlt : W.heap.size < W'.heap.size := blk_lt hR
    have HS := Lib.hid hS
    have HNB := Lib.hid hnb
    have HRR := Lib.hid hR
    have HF := Lib.hid (show ∀ (T3 : Nat → Prop) (W3 : World), Grow T1 T3 W'.drew → Upd T1 W'.drew W3 → ∃ S3, Grow S S3 W' ∧ Upd S W' W3 ∧ (∀ k, S3 k ↔ T3 k ∨ k = W.heap.size) ∧ ¬ T3 W.heap.size ∧ W3.heap[W.heap.size]? = some clo from fun T3 W3 hg3 hu3 => by
      have hu3' : Upd T1 W' W3 := (Upd.drew W').trans hu3
      refine ⟨fun k => T3 k ∨ k = W.heap.size, fun k hk => ?_, hu3'.mono (fun k hk => (hS k).2 (.inl hk)), fun _ => Iff.rfl, hg3.not hnb hRlt, hu3'.heap hR hnb⟩
      rcases hk with hk | rfl
      · rcases hg3 k hk with h | h
        · exact .inl ((hS k).2 (.inl h))
        · exact .inr h
      · exact .inl ((hS _).2 (.inr rfl)))
    obtain ⟨f0, f1⟩ : (∀ e W3, (∃ b T', e = Ending.returned (.bool b) ∧ Grow T1 T' W'.drew ∧ Upd T1 W'.drew W3 ∧ (b = true → J (p.map (·.e) ++ [x.e]) T' W3) ∧ (b = false → Jx (p.map (·.e) ++ [x.e]) T' W3)) → ∃ b, e = Ending.returned (.bool b) ∧ (b = true → ∃ S', Grow S S' W' ∧ Upd S W' W3 ∧ WithBox W.heap.size clo (fun p => J (p.map (·.e))) (p ++ [x]) S' W3) ∧ (b = false → ∃ S', Grow S S' W' ∧ Upd S W' W3 ∧ WithBox W.heap.size clo (fun p => Jx (p.map (·.e))) (p ++ [x]) S' W3)) ∧ True := by
      refine ⟨fun e W3 h => ?_, trivial⟩
      obtain ⟨b, T', rfl, hg3, hu3, hq1, hq2⟩ := h
      obtain ⟨S3, a1, a2, a3, a4, a5⟩ := HF.out T' W3 hg3 hu3
      exact ⟨b, rfl, (fun hb => ⟨S3, a1, a2, T', a3, a4, by simpa using hq1 hb, a5⟩), (fun hb => ⟨S3, a1, a2, T', a3, a4, by simpa using hq2 hb, a5⟩)⟩
    have hcall := hcall.mono f0
    have hmx : Try.prog.follows .mixedOrders = true := by kernel_rfl
    clear f0 f1 hS hnb hj hR hjd hcx hBW hgT huT hg0 hu0 hUW hlies hch hw0b hbox hrow hwb hb2' d1 d2 d3 hidx hTB
    rcases hcall with ⟨l2, rfl, rfl, fn, tmps, assign, body, hy, hC⟩ | ⟨f, rfl, henter, hC⟩
    · have HC := Lib.hid (RoundIn.wide (m := 8 - 1 - 1 - 1) hC)
      clear hC
      dsimp only [encE] at hy
      gi_wp2
      gi_region_with_o (first | (refine ⟨(fun h => by cases h), ?_⟩; refine (RoundIn.inR HC.out).mono ?_; rintro e W3 ⟨b, rfl, hq1, hq2⟩) | (refine (RoundIn.inR HC.out).mono ?_; rintro e W3 ⟨b, rfl, hq1, hq2⟩))
      all_goals cases b
      all_goals gi_wp2
      all_goals (try subst hclo)
      all_goals first | exact hq1 rfl | exact hq1 trivial | exact Exists.imp (fun S' h => ⟨h.1, h.2.1, h.2.2, rfl⟩) (hq2 rfl) | exact Exists.imp (fun S' h => ⟨h.1, h.2.1, h.2.2, rfl⟩) (hq2 trivial)
    · have HC := Lib.hid hC
      clear hC
      gi_wp2
      gi_region_with_o (first | (refine ⟨trivial, ?_⟩; gi_at_fn f; refine (CallsIn.inRound lp (callsIn_wide.2 HC.out)).mono ?_; rintro e W3 ⟨b, rfl, hq1, hq2⟩) | (gi_at_fn f; refine (CallsIn.inRound lp (callsIn_wide.2 HC.out)).mono ?_; rintro e W3 ⟨b, rfl, hq1, hq2⟩))
      all_goals cases b
      all_goals gi_wp2
      all_goals (try subst hclo)
      all_goals first | exact hq1 rfl | exact hq1 trivial | exact Exists.imp (fun S' h => ⟨h.1, h.2.1, h.2.2, rfl⟩) (hq2 rfl) | exact Exists.imp (fun S' h => ⟨h.1, h.2.1, h.2.2, rfl⟩) (hq2 trivial)
  case done =>
    rintro D S W' hD hnD hg hu ⟨T1, hS, hnb, hj, hR⟩ hK
    obtain ⟨hgT, huT⟩ := hUW S T1 W' hg hu hS
    gi_wp2
    refine ⟨by simp, .inl ⟨_, _, rfl, run_takeDeferred hK, ?_⟩⟩
    have n1 : ¬ T1 D := fun h => hnD ((hS D).2 (.inl h))
    refine ⟨_, results_none rfl _ _ _, ⟨_, rfl⟩, T1, hgT, huT.step (upd_putObj (S := fun k => k = D) _ _ rfl) (fun k hk => .inr (by omega)), .inl (HJ.out.move hj (same_putObj _ _ n1))⟩
  case stop =>
    rintro D c p S W' hD hnD hg hu hp ⟨⟨T1, hS, hnb, hj, hR⟩, rfl⟩ hK
    obtain ⟨hgT, huT⟩ := hUW S T1 W' hg hu hS
    gi_wp2
    refine ⟨by simp, .inl ⟨_, _, rfl, run_takeDeferred hK, ?_⟩⟩
    have n1 : ¬ T1 D := fun h => hnD ((hS D).2 (.inl h))
    refine ⟨_, results_none rfl _ _ _, ⟨_, rfl⟩, T1, hgT, huT.step (upd_putObj (S := fun k => k = D) _ _ rfl) (fun k hk => .inr (by omega)), .inr ⟨_, hp.map _, HJX.out.move hj (same_putObj _ _ n1)⟩⟩
end Go.Proofs.Ytjbbobhjomhnmaa.H
