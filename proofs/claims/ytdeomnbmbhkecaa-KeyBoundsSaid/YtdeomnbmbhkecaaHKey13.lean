/- The law KeyBounds, walked. No conditions but bounds. -/
import Derived.Test.YtdeomnbmbhkecaaHKey12
namespace Go.Proofs.Ytdeomnbmbhkecaa.H
open Go.RowKit Go.Deep Go.Proofs.YtdeomnbmbhkecaaW.PrintWords
set_option linter.unusedVariables false
set_option linter.unusedSimpArgs false
theorem Sl.take_ {α : Type} {enc : α → List Value} {sz : Nat} {w : World} {A : Option Addr} {l : List α} (h : Sl enc sz w A l) (k : Nat) : Sl enc sz w A (l.take k) := by
  refine ⟨by rw [List.length_take]; have := h.1; omega, ?_⟩
  rcases h.2 with rfl | ⟨b, o, hA, hlt, hc⟩
  · exact .inl (by simp)
  · refine .inr ⟨b, o, hA, hlt, fun i x hx j u hu => ?_⟩
    rw [List.getElem?_take] at hx
    split at hx
    · exact hc i x hx j u hu
    · cases hx
theorem Sl.drop_ {α : Type} {enc : α → List Value} {sz : Nat} {w : World} {b o : Nat} {l : List α} (h : Sl enc sz w (some ⟨b, o, none⟩) l) (k : Nat) : Sl enc sz w (some ⟨b, o + k * sz, none⟩) (l.drop k) := by
  refine ⟨by rw [List.length_drop]; have := h.1; omega, ?_⟩
  rcases h.2 with rfl | ⟨b', o', hA, hlt, hc⟩
  · exact .inl (by simp)
  · injection hA with hA
    injection hA with h1 h2
    subst h1; subst h2
    refine .inr ⟨b, _, rfl, hlt, fun i x hx j u hu => ?_⟩
    rw [List.getElem?_drop] at hx
    have := hc (k + i) x hx j u hu
    rw [Nat.add_mul] at this
    rw [← this]
    congr 2
    omega
theorem Sl.dropA {α : Type} {enc : α → List Value} {sz : Nat} {w : World} {A : Option Addr} {l : List α} (h : Sl enc sz w A l) (k : Nat) : Sl enc sz w (Option.map (fun x => x.add (k * sz)) A) (l.drop k) := by
  rcases h.2 with rfl | ⟨b, o, rfl, _⟩
  · simpa using Sl.nil enc sz w _
  · have := h.drop_ k
    simpa [add_at] using this
theorem wt_ent (f : Int) (i : Nat) (x : Wri) : wt (ent f i x).1 (ent f i x).2.2.1 (ent f i x).2.2.2 = wt x.1 x.2.1 x.2.2 := by
  obtain ⟨k, d, v⟩ := x
  cases d <;> simp [wt, ent]
theorem chk_bd {k : ByteArray} (h : chk k = 0) : 0 < k.size ∧ k.size ≤ 64 := by
  unfold chk at h
  split at h
  · cases h
  · split at h
    · cases h
    · omega
theorem sum_bd : ∀ (l : List Wri), firstE l = 0 → sumW l ≤ 1088 * (l.length : Int)
  | [], _ => by simp [sumW]
  | x :: l, h => by
    have h0 : chkW x = 0 := by
      simp only [firstE] at h
      split at h
      · assumption
      · exact h
    have h1 : firstE l = 0 := by
      simp only [firstE, if_pos h0] at h
      exact h
    have ih := sum_bd l h1
    have hw : wt x.1 x.2.1 x.2.2 ≤ 1088 := by
      unfold chkW at h0
      split at h0
      · rename_i hk
        have := chk_bd hk
        unfold wt
        split at h0
        · rename_i hd
          simp only [hd, if_true]
          omega
        · rename_i hd
          simp only [hd]
          split at h0
          · cases h0
          · simp; omega
      · rename_i hk; exact absurd h0 hk
    simp only [sumW, List.map_cons, List.sum_cons, List.length_cons] at *
    omega
theorem batch_bd {l : List Wri} (h : chkB l = 0) : sumW l ≤ 17408 := by
  unfold chkB at h
  split at h
  · cases h
  · have := sum_bd l h
    omega
theorem sumW_split (l : List Wri) (k : Nat) : sumW (l.take k) + sumW (l.drop k) = sumW l := by
  have : sumW (l.take k ++ l.drop k) = sumW (l.take k) + sumW (l.drop k) := by simp only [sumW, List.map_append, List.sum_append]
  rw [← this, List.take_append_drop]
set_option maxHeartbeats 6400000 in
set_option maxRecDepth 100000 in
theorem keyBounds_c (f : Int) (A : Option Addr) (c : Nat) (l : List Wri) (hlc : l.length ≤ c) (q : ∀ x ∈ l, OkW x) (cut : Int) (hcut : -9223372036854775808 ≤ cut ∧ cut ≤ 9223372036854775807) (w : World) (hs : Sl encW 3 w A l) :
    Calls Try.prog 15 #[.int .u64 f, .slice A l.length c, .int .i64 cut] w fun e w' => e = .returned (.bool true) ∧ Below w.heap.size w w' := by
  have hm := hs.1
  by_cases h1 : 4096 < l.length
  · go_enter Try.func15, Try.ntmps15
    go_wp2
    go_ret
    exact ⟨by simp, Below.refl _ _⟩
  · go_enter Try.func15, Try.ntmps15
    go_wp2_with fail
    refine (known_c _).mono ?_
    rintro e W0 ⟨rfl, hb0⟩
    have hs0 := hs.later hb0
    go_wp2_with fail
    refine (entries_c f A c l (by omega) _ hs0).mono ?_
    rintro e W1 ⟨v, rfl, ho, hb1⟩
    have hB1 : Below w.heap.size w W1 := hb0.trans (hb1.mono hb0.size)
    have hs1 := hs0.later hb1
    obtain ⟨A', c', rfl, _, hx1, _⟩ := ho.slice encE_len
    rw [ents_len]
    clear ho hs hs0 hb0 hb1
    have HS1 := Lib.hid hs1
    have HX1 := Lib.hid hx1
    have HQ := Lib.hid q
    clear hs1 hx1 q
    go_wp2_with fail
    go_loopg [8, 9] l.length (fun gk v8 v9 wr => ∃ i : Nat, gk = l.length - i ∧ i ≤ l.length ∧ v9 = .int .i64 i ∧ v8 = .int .i64 (sumW (l.take i)) ∧ Below W1.heap.size W1 wr)
    case atStart => exact ⟨0, by omega, by omega, rfl, by simp [sumW], Below.refl _ _⟩
    case round =>
      obtain ⟨i, hg, hi, rfl, rfl, hB⟩ := hrel
      have HG := Lib.hid hg
      have HB := Lib.hid hB
      clear hg hB
      have b1 := sumW_bd (l.take i) (fun x hx => HQ.out x (List.mem_of_mem_take hx))
      have b2 : ((l.take i).length : Int) ≤ 4096 := by rw [List.length_take]; omega
      by_cases hlt : i < l.length
      · obtain ⟨x, hx⟩ := getElem?_of_lt hlt
        have hox := HQ.out x (List.mem_of_getElem? hx)
        have hei := ents_get f l i x hx
        have hwt := wt_ent f i x
        have b3 := wt_bd x.1 x.2.1 x.2.2 hox.1 hox.2
        have hsum : sumW (l.take (i + 1)) = sumW (l.take i) + wt x.1 x.2.1 x.2.2 := by rw [take_succ_of hx, sumW_snoc]
        have g1 : (ent f i x).1.size ≤ 140737488351232 := hox.1
        have g2 : (ent f i x).2.2.2.size ≤ 140737488351232 := by
          show (if x.2.1 then (⟨#[]⟩ : ByteArray) else x.2.2).size ≤ _
          split
          · decide
          · exact hox.2
        generalize ent f i x = ei at hei hwt g1 g2
        obtain ⟨ek, en, ed, ev⟩ := ei
        obtain ⟨b, o, rfl, hbl, hc⟩ := (HX1.out.later HB.out).at hei
        have c0 : wr.cell? ⟨b, o + i * 4, none⟩ = some (.string ek) := hc 0 _ rfl
        have c1 : wr.cell? ⟨b, o + i * 4 + 1, none⟩ = some (.int .u64 en) := hc 1 _ rfl
        have c2 : wr.cell? ⟨b, o + i * 4 + 2, none⟩ = some (.bool ed) := hc 2 _ rfl
        have c3 : wr.cell? ⟨b, o + i * 4 + 3, none⟩ = some (.string ev) := hc 3 _ rfl
        have i0 : (0 : Int) ≤ (i : Int) := by omega
        have i1 : (i : Int) < (l.length : Int) := by omega
        have q25 : ∀ W : World, Calls Try.prog 25 #[.agg #[.string ek, .int .u64 en, .bool ed, .string ev]] W fun e w' => e = .returned (.int .i64 (wt x.1 x.2.1 x.2.2)) ∧ Below W.heap.size W w' := fun W => by
          have := weight_c ek en ed ev g1 g2 W
          rw [hwt] at this
          exact this
        have hbig : chk ek = 0 → ev.size ≤ 512 → 450 ≤ wt x.1 x.2.1 x.2.2 ∧ wt x.1 x.2.1 x.2.2 ≤ 1088 := by
          intro h h'
          have := chk_bd h
          rw [← hwt]
          show 450 ≤ 2 * (ek.size : Int) + 448 + (if ed then 0 else (ev.size : Int)) ∧ 2 * (ek.size : Int) + 448 + (if ed then 0 else (ev.size : Int)) ≤ 1088
          split <;> omega
        have Q25 := Lib.hid q25
        have HS := Lib.hid hsum
        have HBg := Lib.hid hbig
        have HW := Lib.hid hwt
        clear hc hei hwt hsum q25 hbig hx hox
        by_cases e0 : chk ek = 0
        · by_cases e1 : ev.size ≤ 512
          · have hbb := HBg.out e0 e1
            have e2 : (chk ek == 0) = true := by simp [e0]
            clear e0
            go_wp2_with fail
            refine (Q25.out _).mono ?_
            rintro e w2 ⟨rfl, hb⟩
            have d0 : w2.cell? ⟨b, o + i * 4, none⟩ = some (.string ek) := (hb.cell (by simp <;> omega)).trans c0
            have d3 : w2.cell? ⟨b, o + i * 4 + 3, none⟩ = some (.string ev) := (hb.cell (by simp <;> omega)).trans c3
            have hB2 := HB.out.trans (hb.mono HB.out.size)
            clear hb
            go_wp2_with (first | (go_at_call 17; refine (check_c _ _).mono ?_; rintro e w2 ⟨rfl, rfl⟩) | (go_at_call 16; refine (num_c _ _).mono ?_; rintro e w2 ⟨rfl, rfl⟩))
            go_roundg (l.length - (i + 1))
            case measure => have := HG.out; omega
            case rel => exact ⟨i + 1, rfl, by omega, by go_num, by rw [HS.out], hB2⟩
          · have e2 : (chk ek == 0) = true := by simp [e0]
            clear e0
            go_wp2_with fail
            refine (Q25.out _).mono ?_
            rintro e w2 ⟨rfl, hb⟩
            have d0 : w2.cell? ⟨b, o + i * 4, none⟩ = some (.string ek) := (hb.cell (by simp <;> omega)).trans c0
            have d3 : w2.cell? ⟨b, o + i * 4 + 3, none⟩ = some (.string ev) := (hb.cell (by simp <;> omega)).trans c3
            have hB2 := HB.out.trans (hb.mono HB.out.size)
            clear hb
            go_wp2_with (first | (go_at_call 17; refine (check_c _ _).mono ?_; rintro e w2 ⟨rfl, rfl⟩) | (go_at_call 16; refine (num_c _ _).mono ?_; rintro e w2 ⟨rfl, rfl⟩))
            go_roundg (l.length - (i + 1))
            case measure => have := HG.out; omega
            case rel => exact ⟨i + 1, rfl, by omega, by go_num, by rw [HS.out], hB2⟩
        · have e2 : (chk ek == 0) = false := by simp [e0]
          clear e0
          go_wp2_with fail
          refine (Q25.out _).mono ?_
          rintro e w2 ⟨rfl, hb⟩
          have d0 : w2.cell? ⟨b, o + i * 4, none⟩ = some (.string ek) := (hb.cell (by simp <;> omega)).trans c0
          have d3 : w2.cell? ⟨b, o + i * 4 + 3, none⟩ = some (.string ev) := (hb.cell (by simp <;> omega)).trans c3
          have hB2 := HB.out.trans (hb.mono HB.out.size)
          clear hb
          go_wp2_with (first | (go_at_call 17; refine (check_c _ _).mono ?_; rintro e w2 ⟨rfl, rfl⟩) | (go_at_call 16; refine (num_c _ _).mono ?_; rintro e w2 ⟨rfl, rfl⟩))
          go_roundg (l.length - (i + 1))
          case measure => have := HG.out; omega
          case rel => exact ⟨i + 1, rfl, by omega, by go_num, by rw [HS.out], hB2⟩
      · have hii : i = l.length := by omega
        subst hii
        rw [List.take_length]
        have b3 := sumW_bd l HQ.out
        clear b1 b2
        by_cases g1 : cut < 0
        · go_wp2_with fail
          have e : ((l.length : Int) / 2) = ((l.length / 2 : Nat) : Int) := by omega
          rw [e]
          have hk : l.length / 2 ≤ l.length := by omega
          generalize l.length / 2 = k at hk
          clear e
          refine (checkbatch_c A c l _ (HS1.out.later HB.out)).mono ?_
          rintro e w2 ⟨rfl, hb⟩
          have HB2 := Lib.hid (HB.out.trans (hb.mono HB.out.size))
          clear hb
          have q1 : ∀ W : World, Sl encW 3 W A l → Calls Try.prog 27 #[.slice A l.length c] W fun e w' => e = .returned (.int .i64 (sumW l)) ∧ Below W.heap.size W w' := fun W h => batchweight_c A c l (by omega) HQ.out W h
          have q2 : ∀ W : World, Sl encW 3 W A l → Calls Try.prog 27 #[.slice A k c] W fun e w' => e = .returned (.int .i64 (sumW (l.take k))) ∧ Below W.heap.size W w' := fun W h => by
            have := batchweight_c A c (l.take k) (by rw [List.length_take]; omega) (fun x hx => HQ.out x (List.mem_of_mem_take hx)) W (h.take_ k)
            rw [List.length_take, Nat.min_eq_left hk] at this
            exact this
          have q3 : ∀ W : World, Sl encW 3 W A l → Calls Try.prog 27 #[.slice (Option.map (fun x => x.add (k * 3)) A) (l.length - k) (c - k)] W fun e w' => e = .returned (.int .i64 (sumW (l.drop k))) ∧ Below W.heap.size W w' := fun W h => by
            have := batchweight_c (Option.map (fun x => x.add (k * 3)) A) (c - k) (l.drop k) (by rw [List.length_drop]; omega) (fun x hx => HQ.out x (List.mem_of_mem_drop hx)) W (h.dropA k)
            rw [List.length_drop] at this
            exact this
          have q4 : k = l.length → ∀ W : World, Calls Try.prog 27 #[.slice A 0 0] W fun e w' => e = .returned (.int .i64 0) ∧ Below W.heap.size W w' := fun _ W => batchweight_c A 0 [] (by simp) (by simp) W (Sl.nil _ _ _ _)
          have k0 : (0 : Int) ≤ (k : Int) := by omega
          have k1 : (k : Int) ≤ (l.length : Int) := by omega
          have k2 : (k : Int) ≤ (c : Int) := by omega
          have ew : IntKind.i64.wrap (sumW (l.take k) + sumW (l.drop k)) = sumW l := by rw [sumW_split]; exact IntWalk.i64_in _ (by omega)
          have Q1 := Lib.hid q1
          have Q2 := Lib.hid q2
          have Q3 := Lib.hid q3
          have Q4 := Lib.hid q4
          clear q1 q2 q3 q4
          cases e0 : (chkB l == 0) with
          | true =>
            have b4 := batch_bd (l := l) (by simpa using e0)
            go_wp2_with (first | (go_at_call 16; refine (num_c _ _).mono ?_; rintro e w2 ⟨rfl, rfl⟩))
            by_cases hck : c = k
            · have hkl : k = l.length := by omega
              subst hkl
              subst hck
              have Q4' := Lib.hid (Q4.out rfl)
              clear Q2 Q3 Q4 ew k1 k2
              have ew1 : IntKind.i64.wrap (sumW l) = sumW l := IntWalk.i64_in _ (by omega)
              have k1 : (l.length : Int) ≤ (l.length : Int) := by omega
              go_region_held3 (fun w' => Below W1.heap.size W1 w') (first | (exact HB2.out.drew) | assumption | (exact Below.trans (by assumption) (hb.mono (Below.size (by assumption)))))
                (first | (go_at_call 27; (with_reducible refine (Q1.out _ ?_).mono ?_); (exact HS1.out.later (by assumption)); rintro e w2 ⟨rfl, hb⟩) | (go_at_call 27; (with_reducible refine (Q4'.out _).mono ?_); rintro e w2 ⟨rfl, hb⟩))
              rename_i hH
              have hfin := hB1.trans (hH.mono hB1.size)
              clear hH
              go_wp2
              go_ret
              exact ⟨by simp, hfin⟩
            · go_region_held3 (fun w' => Below W1.heap.size W1 w') (first | (exact HB2.out.drew) | assumption | (exact Below.trans (by assumption) (hb.mono (Below.size (by assumption)))))
                (first | (go_at_call 27; (with_reducible refine (Q1.out _ ?_).mono ?_); (exact HS1.out.later (by assumption)); rintro e w2 ⟨rfl, hb⟩) | (go_at_call 27; (with_reducible refine (Q2.out _ ?_).mono ?_); (exact HS1.out.later (by assumption)); rintro e w2 ⟨rfl, hb⟩) | (go_at_call 27; (with_reducible refine (Q3.out _ ?_).mono ?_); (exact HS1.out.later (by assumption)); rintro e w2 ⟨rfl, hb⟩))
              rename_i hH
              have hfin := hB1.trans (hH.mono hB1.size)
              clear hH
              go_wp2
              go_ret
              exact ⟨by simp, hfin⟩
          | false =>
            go_wp2_with (first | (go_at_call 16; refine (num_c _ _).mono ?_; rintro e w2 ⟨rfl, rfl⟩))
            by_cases hck : c = k
            · have hkl : k = l.length := by omega
              subst hkl
              subst hck
              have Q4' := Lib.hid (Q4.out rfl)
              clear Q2 Q3 Q4 ew k1 k2
              have ew1 : IntKind.i64.wrap (sumW l) = sumW l := IntWalk.i64_in _ (by omega)
              have k1 : (l.length : Int) ≤ (l.length : Int) := by omega
              go_region_held3 (fun w' => Below W1.heap.size W1 w') (first | (exact HB2.out.drew) | assumption | (exact Below.trans (by assumption) (hb.mono (Below.size (by assumption)))))
                (first | (go_at_call 27; (with_reducible refine (Q1.out _ ?_).mono ?_); (exact HS1.out.later (by assumption)); rintro e w2 ⟨rfl, hb⟩) | (go_at_call 27; (with_reducible refine (Q4'.out _).mono ?_); rintro e w2 ⟨rfl, hb⟩))
              rename_i hH
              have hfin := hB1.trans (hH.mono hB1.size)
              clear hH
              go_wp2
              go_ret
              exact ⟨by simp, hfin⟩
            · go_region_held3 (fun w' => Below W1.heap.size W1 w') (first | (exact HB2.out.drew) | assumption | (exact Below.trans (by assumption) (hb.mono (Below.size (by assumption)))))
                (first | (go_at_call 27; (with_reducible refine (Q1.out _ ?_).mono ?_); (exact HS1.out.later (by assumption)); rintro e w2 ⟨rfl, hb⟩) | (go_at_call 27; (with_reducible refine (Q2.out _ ?_).mono ?_); (exact HS1.out.later (by assumption)); rintro e w2 ⟨rfl, hb⟩) | (go_at_call 27; (with_reducible refine (Q3.out _ ?_).mono ?_); (exact HS1.out.later (by assumption)); rintro e w2 ⟨rfl, hb⟩))
              rename_i hH
              have hfin := hB1.trans (hH.mono hB1.size)
              clear hH
              go_wp2
              go_ret
              exact ⟨by simp, hfin⟩
        · by_cases g2 : (l.length : Int) < cut
          · go_wp2_with fail
            have e : ((l.length : Int) / 2) = ((l.length / 2 : Nat) : Int) := by omega
            rw [e]
            have hk : l.length / 2 ≤ l.length := by omega
            generalize l.length / 2 = k at hk
            clear e
            refine (checkbatch_c A c l _ (HS1.out.later HB.out)).mono ?_
            rintro e w2 ⟨rfl, hb⟩
            have HB2 := Lib.hid (HB.out.trans (hb.mono HB.out.size))
            clear hb
            have q1 : ∀ W : World, Sl encW 3 W A l → Calls Try.prog 27 #[.slice A l.length c] W fun e w' => e = .returned (.int .i64 (sumW l)) ∧ Below W.heap.size W w' := fun W h => batchweight_c A c l (by omega) HQ.out W h
            have q2 : ∀ W : World, Sl encW 3 W A l → Calls Try.prog 27 #[.slice A k c] W fun e w' => e = .returned (.int .i64 (sumW (l.take k))) ∧ Below W.heap.size W w' := fun W h => by
              have := batchweight_c A c (l.take k) (by rw [List.length_take]; omega) (fun x hx => HQ.out x (List.mem_of_mem_take hx)) W (h.take_ k)
              rw [List.length_take, Nat.min_eq_left hk] at this
              exact this
            have q3 : ∀ W : World, Sl encW 3 W A l → Calls Try.prog 27 #[.slice (Option.map (fun x => x.add (k * 3)) A) (l.length - k) (c - k)] W fun e w' => e = .returned (.int .i64 (sumW (l.drop k))) ∧ Below W.heap.size W w' := fun W h => by
              have := batchweight_c (Option.map (fun x => x.add (k * 3)) A) (c - k) (l.drop k) (by rw [List.length_drop]; omega) (fun x hx => HQ.out x (List.mem_of_mem_drop hx)) W (h.dropA k)
              rw [List.length_drop] at this
              exact this
            have q4 : k = l.length → ∀ W : World, Calls Try.prog 27 #[.slice A 0 0] W fun e w' => e = .returned (.int .i64 0) ∧ Below W.heap.size W w' := fun _ W => batchweight_c A 0 [] (by simp) (by simp) W (Sl.nil _ _ _ _)
            have k0 : (0 : Int) ≤ (k : Int) := by omega
            have k1 : (k : Int) ≤ (l.length : Int) := by omega
            have k2 : (k : Int) ≤ (c : Int) := by omega
            have ew : IntKind.i64.wrap (sumW (l.take k) + sumW (l.drop k)) = sumW l := by rw [sumW_split]; exact IntWalk.i64_in _ (by omega)
            have Q1 := Lib.hid q1
            have Q2 := Lib.hid q2
            have Q3 := Lib.hid q3
            have Q4 := Lib.hid q4
            clear q1 q2 q3 q4
            cases e0 : (chkB l == 0) with
            | true =>
              have b4 := batch_bd (l := l) (by simpa using e0)
              go_wp2_with (first | (go_at_call 16; refine (num_c _ _).mono ?_; rintro e w2 ⟨rfl, rfl⟩))
              by_cases hck : c = k
              · have hkl : k = l.length := by omega
                subst hkl
                subst hck
                have Q4' := Lib.hid (Q4.out rfl)
                clear Q2 Q3 Q4 ew k1 k2
                have ew1 : IntKind.i64.wrap (sumW l) = sumW l := IntWalk.i64_in _ (by omega)
                have k1 : (l.length : Int) ≤ (l.length : Int) := by omega
                go_region_held3 (fun w' => Below W1.heap.size W1 w') (first | (exact HB2.out.drew) | assumption | (exact Below.trans (by assumption) (hb.mono (Below.size (by assumption)))))
                  (first | (go_at_call 27; (with_reducible refine (Q1.out _ ?_).mono ?_); (exact HS1.out.later (by assumption)); rintro e w2 ⟨rfl, hb⟩) | (go_at_call 27; (with_reducible refine (Q4'.out _).mono ?_); rintro e w2 ⟨rfl, hb⟩))
                rename_i hH
                have hfin := hB1.trans (hH.mono hB1.size)
                clear hH
                go_wp2
                go_ret
                exact ⟨by simp, hfin⟩
              · go_region_held3 (fun w' => Below W1.heap.size W1 w') (first | (exact HB2.out.drew) | assumption | (exact Below.trans (by assumption) (hb.mono (Below.size (by assumption)))))
                  (first | (go_at_call 27; (with_reducible refine (Q1.out _ ?_).mono ?_); (exact HS1.out.later (by assumption)); rintro e w2 ⟨rfl, hb⟩) | (go_at_call 27; (with_reducible refine (Q2.out _ ?_).mono ?_); (exact HS1.out.later (by assumption)); rintro e w2 ⟨rfl, hb⟩) | (go_at_call 27; (with_reducible refine (Q3.out _ ?_).mono ?_); (exact HS1.out.later (by assumption)); rintro e w2 ⟨rfl, hb⟩))
                rename_i hH
                have hfin := hB1.trans (hH.mono hB1.size)
                clear hH
                go_wp2
                go_ret
                exact ⟨by simp, hfin⟩
            | false =>
              go_wp2_with (first | (go_at_call 16; refine (num_c _ _).mono ?_; rintro e w2 ⟨rfl, rfl⟩))
              by_cases hck : c = k
              · have hkl : k = l.length := by omega
                subst hkl
                subst hck
                have Q4' := Lib.hid (Q4.out rfl)
                clear Q2 Q3 Q4 ew k1 k2
                have ew1 : IntKind.i64.wrap (sumW l) = sumW l := IntWalk.i64_in _ (by omega)
                have k1 : (l.length : Int) ≤ (l.length : Int) := by omega
                go_region_held3 (fun w' => Below W1.heap.size W1 w') (first | (exact HB2.out.drew) | assumption | (exact Below.trans (by assumption) (hb.mono (Below.size (by assumption)))))
                  (first | (go_at_call 27; (with_reducible refine (Q1.out _ ?_).mono ?_); (exact HS1.out.later (by assumption)); rintro e w2 ⟨rfl, hb⟩) | (go_at_call 27; (with_reducible refine (Q4'.out _).mono ?_); rintro e w2 ⟨rfl, hb⟩))
                rename_i hH
                have hfin := hB1.trans (hH.mono hB1.size)
                clear hH
                go_wp2
                go_ret
                exact ⟨by simp, hfin⟩
              · go_region_held3 (fun w' => Below W1.heap.size W1 w') (first | (exact HB2.out.drew) | assumption | (exact Below.trans (by assumption) (hb.mono (Below.size (by assumption)))))
                  (first | (go_at_call 27; (with_reducible refine (Q1.out _ ?_).mono ?_); (exact HS1.out.later (by assumption)); rintro e w2 ⟨rfl, hb⟩) | (go_at_call 27; (with_reducible refine (Q2.out _ ?_).mono ?_); (exact HS1.out.later (by assumption)); rintro e w2 ⟨rfl, hb⟩) | (go_at_call 27; (with_reducible refine (Q3.out _ ?_).mono ?_); (exact HS1.out.later (by assumption)); rintro e w2 ⟨rfl, hb⟩))
                rename_i hH
                have hfin := hB1.trans (hH.mono hB1.size)
                clear hH
                go_wp2
                go_ret
                exact ⟨by simp, hfin⟩
          · obtain ⟨k, rfl⟩ := Int.eq_ofNat_of_zero_le (a := cut) (by omega)
            have hk : k ≤ l.length := by omega
            go_wp2_with fail
            refine (checkbatch_c A c l _ (HS1.out.later HB.out)).mono ?_
            rintro e w2 ⟨rfl, hb⟩
            have HB2 := Lib.hid (HB.out.trans (hb.mono HB.out.size))
            clear hb
            have q1 : ∀ W : World, Sl encW 3 W A l → Calls Try.prog 27 #[.slice A l.length c] W fun e w' => e = .returned (.int .i64 (sumW l)) ∧ Below W.heap.size W w' := fun W h => batchweight_c A c l (by omega) HQ.out W h
            have q2 : ∀ W : World, Sl encW 3 W A l → Calls Try.prog 27 #[.slice A k c] W fun e w' => e = .returned (.int .i64 (sumW (l.take k))) ∧ Below W.heap.size W w' := fun W h => by
              have := batchweight_c A c (l.take k) (by rw [List.length_take]; omega) (fun x hx => HQ.out x (List.mem_of_mem_take hx)) W (h.take_ k)
              rw [List.length_take, Nat.min_eq_left hk] at this
              exact this
            have q3 : ∀ W : World, Sl encW 3 W A l → Calls Try.prog 27 #[.slice (Option.map (fun x => x.add (k * 3)) A) (l.length - k) (c - k)] W fun e w' => e = .returned (.int .i64 (sumW (l.drop k))) ∧ Below W.heap.size W w' := fun W h => by
              have := batchweight_c (Option.map (fun x => x.add (k * 3)) A) (c - k) (l.drop k) (by rw [List.length_drop]; omega) (fun x hx => HQ.out x (List.mem_of_mem_drop hx)) W (h.dropA k)
              rw [List.length_drop] at this
              exact this
            have q4 : k = l.length → ∀ W : World, Calls Try.prog 27 #[.slice A 0 0] W fun e w' => e = .returned (.int .i64 0) ∧ Below W.heap.size W w' := fun _ W => batchweight_c A 0 [] (by simp) (by simp) W (Sl.nil _ _ _ _)
            have k0 : (0 : Int) ≤ (k : Int) := by omega
            have k1 : (k : Int) ≤ (l.length : Int) := by omega
            have k2 : (k : Int) ≤ (c : Int) := by omega
            have ew : IntKind.i64.wrap (sumW (l.take k) + sumW (l.drop k)) = sumW l := by rw [sumW_split]; exact IntWalk.i64_in _ (by omega)
            have Q1 := Lib.hid q1
            have Q2 := Lib.hid q2
            have Q3 := Lib.hid q3
            have Q4 := Lib.hid q4
            clear q1 q2 q3 q4
            cases e0 : (chkB l == 0) with
            | true =>
              have b4 := batch_bd (l := l) (by simpa using e0)
              go_wp2_with (first | (go_at_call 16; refine (num_c _ _).mono ?_; rintro e w2 ⟨rfl, rfl⟩))
              by_cases hck : c = k
              · have hkl : k = l.length := by omega
                subst hkl
                subst hck
                have Q4' := Lib.hid (Q4.out rfl)
                clear Q2 Q3 Q4 ew k1 k2
                have ew1 : IntKind.i64.wrap (sumW l) = sumW l := IntWalk.i64_in _ (by omega)
                have k1 : (l.length : Int) ≤ (l.length : Int) := by omega
                go_region_held3 (fun w' => Below W1.heap.size W1 w') (first | (exact HB2.out.drew) | assumption | (exact Below.trans (by assumption) (hb.mono (Below.size (by assumption)))))
                  (first | (go_at_call 27; (with_reducible refine (Q1.out _ ?_).mono ?_); (exact HS1.out.later (by assumption)); rintro e w2 ⟨rfl, hb⟩) | (go_at_call 27; (with_reducible refine (Q4'.out _).mono ?_); rintro e w2 ⟨rfl, hb⟩))
                rename_i hH
                have hfin := hB1.trans (hH.mono hB1.size)
                clear hH
                go_wp2
                go_ret
                exact ⟨by simp, hfin⟩
              · go_region_held3 (fun w' => Below W1.heap.size W1 w') (first | (exact HB2.out.drew) | assumption | (exact Below.trans (by assumption) (hb.mono (Below.size (by assumption)))))
                  (first | (go_at_call 27; (with_reducible refine (Q1.out _ ?_).mono ?_); (exact HS1.out.later (by assumption)); rintro e w2 ⟨rfl, hb⟩) | (go_at_call 27; (with_reducible refine (Q2.out _ ?_).mono ?_); (exact HS1.out.later (by assumption)); rintro e w2 ⟨rfl, hb⟩) | (go_at_call 27; (with_reducible refine (Q3.out _ ?_).mono ?_); (exact HS1.out.later (by assumption)); rintro e w2 ⟨rfl, hb⟩))
                rename_i hH
                have hfin := hB1.trans (hH.mono hB1.size)
                clear hH
                go_wp2
                go_ret
                exact ⟨by simp, hfin⟩
            | false =>
              go_wp2_with (first | (go_at_call 16; refine (num_c _ _).mono ?_; rintro e w2 ⟨rfl, rfl⟩))
              by_cases hck : c = k
              · have hkl : k = l.length := by omega
                subst hkl
                subst hck
                have Q4' := Lib.hid (Q4.out rfl)
                clear Q2 Q3 Q4 ew k1 k2
                have ew1 : IntKind.i64.wrap (sumW l) = sumW l := IntWalk.i64_in _ (by omega)
                have k1 : (l.length : Int) ≤ (l.length : Int) := by omega
                go_region_held3 (fun w' => Below W1.heap.size W1 w') (first | (exact HB2.out.drew) | assumption | (exact Below.trans (by assumption) (hb.mono (Below.size (by assumption)))))
                  (first | (go_at_call 27; (with_reducible refine (Q1.out _ ?_).mono ?_); (exact HS1.out.later (by assumption)); rintro e w2 ⟨rfl, hb⟩) | (go_at_call 27; (with_reducible refine (Q4'.out _).mono ?_); rintro e w2 ⟨rfl, hb⟩))
                rename_i hH
                have hfin := hB1.trans (hH.mono hB1.size)
                clear hH
                go_wp2
                go_ret
                exact ⟨by simp, hfin⟩
              · go_region_held3 (fun w' => Below W1.heap.size W1 w') (first | (exact HB2.out.drew) | assumption | (exact Below.trans (by assumption) (hb.mono (Below.size (by assumption)))))
                  (first | (go_at_call 27; (with_reducible refine (Q1.out _ ?_).mono ?_); (exact HS1.out.later (by assumption)); rintro e w2 ⟨rfl, hb⟩) | (go_at_call 27; (with_reducible refine (Q2.out _ ?_).mono ?_); (exact HS1.out.later (by assumption)); rintro e w2 ⟨rfl, hb⟩) | (go_at_call 27; (with_reducible refine (Q3.out _ ?_).mono ?_); (exact HS1.out.later (by assumption)); rintro e w2 ⟨rfl, hb⟩))
                rename_i hH
                have hfin := hB1.trans (hH.mono hB1.size)
                clear hH
                go_wp2
                go_ret
                exact ⟨by simp, hfin⟩
end Go.Proofs.Ytdeomnbmbhkecaa.H
