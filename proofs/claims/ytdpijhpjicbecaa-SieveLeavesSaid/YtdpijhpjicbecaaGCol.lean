/- slices.Collect of an iterator that writes on its way. Conditions: sizes. -/
import Derived.Test.YtdpijhpjicbecaaGLem
namespace Go.Proofs.Ytdpijhpjicbecaa.H
open Go Go.RowKit Go.Deep Go.Shelf Go.Proofs Go.Proofs.YtdpijhpjicbecaaW.PrintWords
set_option linter.unusedVariables false
set_option linter.unusedSimpArgs false
attribute [local go_sem] Oper.semAt_some
/-- What has come so far: the variable's box at b. -/
def ColAt (n₀ b : Nat) (p : List Ent) (T : Nat → Prop) (W : World) : Prop :=
  ∃ v, W.heap[b]? = some (.cells #[v] 27 (0, 0)) ∧ Own encE 53 4 W n₀ v p ∧ v.ownBlock ≠ some b ∧ ∀ k, T k ↔ k = b ∨ v.ownBlock = some k
theorem colAt_foot (n₀ b : Nat) : Foot (ColAt n₀ b) := by
  refine ⟨fun {s T W k} h hk => ?_, fun {s T W W'} h hs => ?_⟩
  · obtain ⟨v, hb, ho, _, hT⟩ := h
    rcases (hT k).1 hk with rfl | hk
    · exact blk_lt hb
    · exact (ho.block_lt hk).2
  · obtain ⟨v, hb, ho, hn, hT⟩ := h
    exact ⟨v, (hs.block _ ((hT b).2 (.inl rfl))).trans hb, ho.move (fun k hk _ => hs.block k ((hT k).2 (.inr hk))), hn, hT⟩
set_option maxHeartbeats 1600000 in
set_option maxRecDepth 100000 in
theorem appendSeq_c (f : Value) (n₀ : Nat) (U : Nat → Prop) (I0 Im I1 : World → Prop) (l : List Ent) (w : World) (hf : IterUV Try.prog f encA n₀ U I0 Im I1 l) (hI0 : Firm n₀ I0) (hIm : Firm n₀ Im) (hI1 : Firm n₀ I1) (hn₀ : n₀ ≤ w.heap.size) (h0 : I0 w) (hl : l.length < 2932031007319) :
    Calls Try.prog 78 #[.slice none 0 0, f] w fun e w' => ∃ v, e = .returned v ∧ Own encE 53 4 w' w.heap.size v l ∧ Upd U w w' ∧ I1 w' := by
  obtain ⟨gf, fa, lb, rfl, henter, hit⟩ := hf
  obtain ⟨W1, hW1⟩ : ∃ W1, w.alloc (.cells #[.slice none 0 0] 27) = W1 := ⟨_, rfl⟩
  have r1 : W1.heap[w.heap.size]? = some (.cells #[.slice none 0 0] 27 (0, 0)) := by rw [← hW1]; exact heap_alloc_new _ _
  have hb1 : Below w.heap.size w W1 := by rw [← hW1]; exact (Below.refl _ _).alloc (Nat.le_refl _) _
  have hcol : ColAt w.heap.size w.heap.size [] (fun k => k = w.heap.size ∨ (Value.slice none 0 0).ownBlock = some k) W1 := ⟨_, r1, Own.nil _ _ _ _ _, by simp [Value.ownBlock], fun _ => Iff.rfl⟩
  refine (callsIn_wide (n := 8)).1 ?_
  refine callsIn_of_wp_marks Try.func78 rfl trivial ?_ rfl
  simp only [Try.ntmps78, List.size_toArray, List.length_cons, List.length_nil, Nat.reduceAdd, Nat.reduceSub, Array.replicate_succ, Array.replicate_zero, List.push_toArray, List.append_toArray, List.nil_append, List.cons_append]
  gi_wp2
  refine rangeU (gf := gf) (fa := fa) (lb := lb) rfl henter (encs := encA) (n₀ := n₀) (l := l) hit hI0 hIm hI1 (fun _ => rfl)
    (ColAt w.heap.size w.heap.size) (fun _ _ _ _ => False) (fun p x => fun a' S' W' => ∃ b7 S0, W'.heap[b7]? = some (.cells (encE x).toArray 53 (0, 0)) ∧ ColAt w.heap.size w.heap.size p S0 W' ∧ (∀ k, S' k ↔ S0 k ∨ k = b7) ∧ ¬ S0 b7 ∧ a' = ({ tmps := #[Value.slice none 0 0, Value.func (Fn.func gf) fa lb, Value.pointer (some ⟨w.heap.size, 0, none⟩), undef, Value.slice none 0 0, Value.pointer (some ⟨b7, 0, none⟩), Value.func (Fn.func gf) fa lb, .agg (encE x).toArray, undef, undef, undef, undef, undef], defers := [] } : Act))
    (colAt_foot _ _) (fun c => ⟨fun h => h.elim, fun h => h.elim⟩) (fun p x => foot_box (colAt_foot _ _) p x (fun b7 => _) _)
    _ (fun k hk => by rcases hk with rfl | hk; exact hn₀; cases hk) (Nat.le_trans hn₀ hb1.size) hcol (hI0.later h0 hb1) ?assign ?body ?done ?stop
  case assign =>
    intro lp p x T1 W' K hi him hg hu hp hK
    have r8 := heap_alloc_new W' (.cells #[.string ⟨#[]⟩, .int .u64 0, .bool false, .string ⟨#[]⟩] 53)
    have hst := store4 r8 x
    have r9 := setRow_heap _ _ _ (encE x).toArray _ _ r8
    have hlt1 := fun k hk => (colAt_foot _ _).lt (k := k) hi hk
    dsimp only [encA]
    gi_wp2
    refine hK _ (fun k => T1 k ∨ k = W'.heap.size) _ (fun k hk => by rcases hk with h | rfl; exact .inl h; exact .inr (Nat.le_refl _)) ?_ ⟨W'.heap.size, T1, r9, ?_, fun _ => Iff.rfl, (fun h => Nat.lt_irrefl _ (hlt1 _ h)), rfl⟩
    · exact (Upd.alloc _ _).step (upd_setRow (S := fun k => k = W'.heap.size) _ _ rfl) (fun k hk => .inr (by omega))
    · exact ((colAt_foot _ _).move hi (same_alloc _ _ hlt1)) |> fun h => (colAt_foot _ _).move h (same_setRow _ _ (fun h2 => Nat.lt_irrefl _ (hlt1 _ h2)))
  case body =>
    rintro lp p x a' S' W' ⟨b7, S0, r7, hst, hS', hn7, rfl⟩ him hg hu hp
    obtain ⟨v, hv, ho, hne, hT⟩ := hst
    obtain ⟨A, c, rfl⟩ := own_slice ho
    have hpl : p.length < 2932031007319 := by have := hp.length_le; simp at this; omega
    have hnb : b7 ≠ w.heap.size := fun e => hn7 (by rw [e]; exact (hT _).2 (.inl rfl))
    have ux := boxEnt (e := x) r7
    have x0 := ux 0 _ rfl
    have x1 := ux 1 _ rfl
    have x2 := ux 2 _ rfl
    have x3 := ux 3 _ rfl
    have c1 : W'.cell? ⟨w.heap.size, 0, none⟩ = some (.slice A p.length c) := (blk_cell hv 0).trans rfl
    have HO := Lib.hid ho
    have HV := Lib.hid hv
    have HNE := Lib.hid hne
    have HT := Lib.hid hT
    have HS' := Lib.hid hS'
    clear ux ho hv hne hT hS' hg hu hp him
    refine wpIn_block ?_
    refine wpIn_region_rndL (by kernel_rfl) (no_letsOut fun a w h => h) ?_
    have hwn : w.heap.size ≤ W'.heap.size := Nat.le_of_lt (blk_lt HV.out)
    go_wp2_with (at_builtin; refine wpList_app rfl (.tmp 8) (.tmp 10) rfl uSlE infoE rfl (by decide) (by decide) okE (.slice A p.length c) p rfl (base := w.heap.size) ?c1 (some ⟨W'.heap.size, 0, none⟩) 1 [x] rfl ?c2 ?c3 ?c4 ?_)
    case c1 => exact HO.out.below ((Below.refl _ _).alloc (Nat.le_refl _) _)
    case c2 => exact Sl.one okE W' x 53 (cs := #[.string x.1, .int .u64 x.2.1, .bool x.2.2.1, .string x.2.2.2]) rfl
    case c3 => simp; omega
    case c4 => simp; omega
    intro v1 w1 ho1 hg1 hat1
    obtain ⟨A1, k1, rfl⟩ := own_slice ho1
    simp only [List.length_append, List.length_cons, List.length_nil, Nat.zero_add] at ho1 hat1 ⊢
    have r1' := blk_grown (blk_alloc HV.out _) hg1 (fun e => HNE.out e.symm)
    have f3 : w1.frozen? ⟨w.heap.size, 0, none⟩ = false := blk_frozen r1' 0
    have d3 : w1.cell? ⟨w.heap.size, 0, none⟩ = some (.slice A p.length c) := (blk_cell r1' 0).trans rfl
    have s3 := blk_set r1' 0 (.slice A1 (p.length + 1) k1)
    have hv1 : (Value.slice A1 (p.length + 1) k1).ownBlock ≠ some w.heap.size := fun hk => by
      rcases hat1 with h | h
      · exact HNE.out (by rw [← h]; exact hk)
      · rw [h] at hk
        injection hk with hk
        have := blk_lt HV.out
        try simp at hk
        omega
    have ho2 : Own encE 53 4 (w1.setCell ⟨w.heap.size, 0, none⟩ (.slice A1 (p.length + 1) k1)) w.heap.size (.slice A1 (p.length + 1) k1) (p ++ [x]) := ho1.upd (Upd.setCell (S := fun k => k = w.heap.size) w1 0 _ rfl) (fun k hk e => hv1 (by rw [hk, e]))
    have hft := HT.out
    have hfs := HS'.out
    have hku : Upd S' W' w1 := (Upd.alloc W' _).trans (Upd.of_grown hg1 (fun k hk => (hfs k).2 (.inl ((hft k).2 (.inr hk)))))
    have hTO : S' w.heap.size := (hfs _).2 (.inl ((hft _).2 (.inl rfl)))
    have hgr : Grow S' (fun k => k = w.heap.size ∨ (Value.slice A1 (p.length + 1) k1).ownBlock = some k) W' := fun k hk => by
      rcases hk with h | h
      · exact .inl (by rw [h]; exact hTO)
      · rcases hat1 with h2 | h2
        · exact .inl ((hfs _).2 (.inl ((hft _).2 (.inr (by rw [← h2]; exact h)))))
        · rw [h2] at h
          injection h with h
          try simp at h
          exact .inr (by omega)
    have HFIN := Lib.hid (show ∃ T', Grow S' T' W' ∧ Upd S' W' (w1.setCell ⟨w.heap.size, 0, none⟩ (.slice A1 (p.length + 1) k1)) ∧ ColAt w.heap.size w.heap.size (p ++ [x]) T' (w1.setCell ⟨w.heap.size, 0, none⟩ (.slice A1 (p.length + 1) k1)) from
      ⟨_, hgr, hku.trans (Upd.setCell _ _ _ hTO), _, s3, ho2, hv1, fun _ => Iff.rfl⟩)
    clear ho1 hg1 hat1 r1' s3 hv1 ho2 hft hfs hku hTO hgr
    go_wp2
    exact HFIN.out
  case done =>
    intro D T' W hD hnD hg hu hi h1 hK
    obtain ⟨v, hv, ho, hne, hT⟩ := hi
    have c1 : W.cell? ⟨w.heap.size, 0, none⟩ = some v := (blk_cell hv 0).trans rfl
    obtain ⟨A, c, rfl⟩ := own_slice ho
    have hnk : ∀ k, (Value.slice A l.length c).ownBlock = some k → k ≠ D := fun k hk e => hnD ((hT D).2 (.inr (by rw [← e]; exact hk)))
    have HNK := Lib.hid hnk
    have HO := Lib.hid ho
    have HU := Lib.hid hu
    have H1 := Lib.hid h1
    have HK := Lib.hid hK
    clear hg hv ho hne hT hu h1 hK hnk
    gi_wp2
    refine ⟨by simp, .inl ⟨_, _, rfl, run_takeDeferred HK.out, ?_⟩⟩
    refine ⟨_, results_tmp rfl _ _ _, ?_⟩
    have u2 : Upd (fun k => k = D) W (W.putObj D (.deferred none)) := upd_putObj _ _ rfl
    have hD1 : w.heap.size ≤ D := Nat.le_trans hb1.size hD
    refine ⟨_, rfl, HO.out.upd u2 HNK.out, ((Upd.of_below hb1).step HU.out (fun k hk => ?_)).step u2 (fun k hk => .inr (by omega)), hI1 _ _ H1.out (u2.mono (fun k hk => by show n₀ ≤ k; omega))⟩
    rcases hk with (hk | hk) | hk
    · exact .inr (by omega)
    · cases hk
    · exact .inl hk
  case stop =>
    intro D c pre T' W _ _ _ _ _ h
    exact h.elim
set_option maxRecDepth 100000 in
theorem collect_c (f : Value) (n₀ : Nat) (U : Nat → Prop) (I0 Im I1 : World → Prop) (l : List Ent) (w : World) (hf : IterUV Try.prog f encA n₀ U I0 Im I1 l) (hI0 : Firm n₀ I0) (hIm : Firm n₀ Im) (hI1 : Firm n₀ I1) (hn₀ : n₀ ≤ w.heap.size) (h0 : I0 w) (hl : l.length < 2932031007319) :
    Calls Try.prog 62 #[f] w fun e w' => ∃ v, e = .returned v ∧ Own encE 53 4 w' w.heap.size v l ∧ Upd U w w' ∧ I1 w' := by
  have HA := Lib.hid (appendSeq_c f n₀ U I0 Im I1 l w hf hI0 hIm hI1 hn₀ h0 hl)
  obtain ⟨gf, fa, lb, rfl, _, _⟩ := hf
  go_enter Try.func62, Try.ntmps62
  go_wp2_with fail
  refine HA.out.mono ?_
  rintro _ w1 ⟨v, rfl, ho, hu, h1⟩
  go_wp2
  go_ret
  exact ⟨_, rfl, ho, hu, h1⟩
end Go.Proofs.Ytdpijhpjicbecaa.H
