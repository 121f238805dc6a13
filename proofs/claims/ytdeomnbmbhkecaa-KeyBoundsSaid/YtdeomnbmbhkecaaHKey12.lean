/- The law KeyLater, walked. No conditions but bounds. -/
import Derived.Test.YtdeomnbmbhkecaaHKey10
namespace Go.Proofs.Ytdeomnbmbhkecaa.H
open Go.RowKit Go.Deep Go.Proofs.YtdeomnbmbhkecaaW.PrintWords
set_option linter.unusedVariables false
set_option linter.unusedSimpArgs false
theorem ents_get (f : Int) (l : List Wri) (i : Nat) (x : Wri) (h : l[i]? = some x) : (ents f l)[i]? = some (ent f i x) := by simp [ents, h]
theorem wrap_u64 {n : Int} (h0 : 0 ≤ n) (h1 : n ≤ 18446744073709551615) : IntKind.u64.wrap n = n := by
  simp only [IntKind.wrap, IntKind.signed, IntKind.bits]
  simp
  omega
theorem later_cmp (f : Int) (hf0 : 0 ≤ f) {n : Nat} (hf : f ≤ 18446744073709551615 - ((n : Int) - 1)) (i k : Nat) (hik : i < k) (hk : k < n) (xi xk : Wri) (he : xi.1.toList = xk.1.toList) :
    cmpE (ent f k xk).1.toList (ent f i xi).1.toList (ent f k xk).2.1 (ent f i xi).2.1 = -1 := by
  have e1 : (ent f k xk).2.1 = f + k := wrap_u64 (by omega) (by omega)
  have e2 : (ent f i xi).2.1 = f + i := wrap_u64 (by omega) (by omega)
  have e3 : (ent f k xk).1.toList = xi.1.toList := he.symm
  have e4 : (ent f i xi).1.toList = xi.1.toList := rfl
  rw [e1, e2, e3, e4, cmpE_eq _ _ (less_irrefl _) (less_irrefl _)]
  unfold cmpN
  rw [if_pos (by omega)]
set_option maxHeartbeats 6400000 in
set_option maxRecDepth 100000 in
theorem keyLater_c (f : Int) (hf0 : 0 ≤ f) (hf1 : f ≤ 18446744073709551615) (A : Option Addr) (c : Nat) (l : List Wri) (w : World) (hs : Sl encW 3 w A l) :
    Calls Try.prog 14 #[.int .u64 f, .slice A l.length c] w fun e w' => e = .returned (.bool true) ∧ Below w.heap.size w w' := by
  have hm := hs.1
  by_cases h1 : 200 < l.length
  · have HF := Lib.hid hf1
    clear hf1
    go_enter Try.func14, Try.ntmps14
    go_wp2
    go_ret
    exact ⟨by simp, Below.refl _ _⟩
  · have hov : l.length = 0 ∨ f ≤ 18446744073709551615 - ((l.length : Int) - 1) ∨ 18446744073709551615 - ((l.length : Int) - 1) < f := by omega
    by_cases h2 : 0 < l.length
    · have HF := Lib.hid hf1
      clear hf1 hov
      go_enter Try.func14, Try.ntmps14
      go_wp2_with fail
      · go_ret
        exact ⟨by simp, Below.refl _ _⟩
      have hf2 : ((l.length : Int) ≤ 200 ∧ f ≤ 18446744073709551615 - ((l.length : Int) - 1)) := by assumption
      have HF2 := Lib.hid hf2.2
      clear hf2
      go_wp2_with fail
      refine (known_c _).mono ?_
      rintro e W0 ⟨rfl, hb0⟩
      have hs0 := hs.later hb0
      go_wp2_with fail
      refine (entries_c f A c l (by omega) _ hs0).mono ?_
      rintro e W1 ⟨v, rfl, ho, hb1⟩
      have hB1 : Below w.heap.size w W1 := hb0.trans (hb1.mono hb0.size)
      have hs1 := hs0.later hb1
      obtain ⟨A', c', rfl, _, hx1, _⟩ := ho.slice encE_len
      rw [ents_len]
      clear ho hs hs0 hb0 hb1
      have HS1 := Lib.hid hs1
      have HX1 := Lib.hid hx1
      clear hs1 hx1
      go_wp2_with fail
      go_loopg [6] l.length (fun gk v6 wr => ∃ i : Nat, gk = l.length - i ∧ i ≤ l.length ∧ v6 = .int .i64 i ∧ Below W1.heap.size W1 wr)
      case atStart => exact ⟨0, by omega, by omega, rfl, Below.refl _ _⟩
      case round =>
        obtain ⟨i, hg, hi, rfl, hB⟩ := hrel
        have HG := Lib.hid hg
        have HB := Lib.hid hB
        clear hg hB
        by_cases hlt : i < l.length
        · go_wp2_with fail
          go_loopg [7] (l.length - (i + 1)) (fun gk v7 wr => ∃ k : Nat, gk = l.length - k ∧ i < k ∧ k ≤ l.length ∧ v7 = .int .i64 k ∧ Below W1.heap.size W1 wr)
          case atStart => exact ⟨i + 1, by omega, by omega, by omega, by go_num, HB.out⟩
          case round =>
            obtain ⟨k, hg2, hik, hk, rfl, hB2⟩ := hrel
            have HG2 := Lib.hid hg2
            have HB2 := Lib.hid hB2
            clear hg2 hB2
            by_cases hlt2 : k < l.length
            · obtain ⟨xi, hxi⟩ := getElem?_of_lt hlt
              obtain ⟨xk, hxk⟩ := getElem?_of_lt hlt2
              have hei := ents_get f l i xi hxi
              have hek := ents_get f l k xk hxk
              have hcmp := later_cmp f hf0 HF2.out i k hik hlt2 xi xk
              rcases (HS1.out.later HB2.out).2 with h0 | ⟨b, o, rfl, hbl, hc⟩
              · rw [h0] at hlt; exact absurd hlt (by simp)
              rcases (HX1.out.later HB2.out).2 with h0 | ⟨b', o', rfl, hbl', hc'⟩
              · rw [h0] at hei; exact absurd hei (by simp)
              obtain ⟨ik, id_, iv⟩ := xi
              obtain ⟨kk, kd, kv⟩ := xk
              have a0 : wr.cell? ⟨b, o + i * 3, none⟩ = some (.string ik) := hc i _ hxi 0 _ rfl
              have a1 : wr.cell? ⟨b, o + k * 3, none⟩ = some (.string kk) := hc k _ hxk 0 _ rfl
              generalize ent f i (ik, id_, iv) = ei at hei hcmp
              generalize ent f k (kk, kd, kv) = ek at hek hcmp
              obtain ⟨ei0, ei1, ei2, ei3⟩ := ei
              obtain ⟨ek0, ek1, ek2, ek3⟩ := ek
              have b0 : wr.cell? ⟨b', o' + i * 4, none⟩ = some (.string ei0) := hc' i _ hei 0 _ rfl
              have b1 : wr.cell? ⟨b', o' + i * 4 + 1, none⟩ = some (.int .u64 ei1) := hc' i _ hei 1 _ rfl
              have b2 : wr.cell? ⟨b', o' + i * 4 + 2, none⟩ = some (.bool ei2) := hc' i _ hei 2 _ rfl
              have b3 : wr.cell? ⟨b', o' + i * 4 + 3, none⟩ = some (.string ei3) := hc' i _ hei 3 _ rfl
              have c0 : wr.cell? ⟨b', o' + k * 4, none⟩ = some (.string ek0) := hc' k _ hek 0 _ rfl
              have c1 : wr.cell? ⟨b', o' + k * 4 + 1, none⟩ = some (.int .u64 ek1) := hc' k _ hek 1 _ rfl
              have c2 : wr.cell? ⟨b', o' + k * 4 + 2, none⟩ = some (.bool ek2) := hc' k _ hek 2 _ rfl
              have c3 : wr.cell? ⟨b', o' + k * 4 + 3, none⟩ = some (.string ek3) := hc' k _ hek 3 _ rfl
              clear hc hc' hei hek hxi hxk
              have i0 : (0 : Int) ≤ (i : Int) := by omega
              have i1 : (i : Int) < (l.length : Int) := by omega
              have k0 : (0 : Int) ≤ (k : Int) := by omega
              have k1 : (k : Int) < (l.length : Int) := by omega
              cases hkey : (ik.toList == kk.toList) with
              | false =>
                clear hcmp
                go_wp2_with fail
                go_quiet (fail)
                go_wp2
                go_roundg (l.length - (k + 1))
                case measure => have := HG2.out; omega
                case rel => exact ⟨k + 1, rfl, by omega, by omega, by go_num, HB2.out.trans (Dr.below (Dr.drewN (Dr.refl _) _) _)⟩
              | true =>
                have hc1 := hcmp (by simpa using hkey)
                have q : ∀ W : World, Calls Try.prog 31 #[.agg #[.string ek0, .int .u64 ek1, .bool ek2, .string ek3], .agg #[.string ei0, .int .u64 ei1, .bool ei2, .string ei3]] W fun e w' => e = .returned (.int .i64 (-1)) ∧ Below W.heap.size W w' := fun W => by
                  have := compare_c ek0 ek1 ek2 ek3 ei0 ei1 ei2 ei3 W
                  rw [hc1] at this
                  exact this
                clear hcmp hc1
                have Q := Lib.hid q
                clear q
                go_wp2_with fail
                go_region_held3 (fun w' => wr.heap.size ≤ w'.heap.size ∧ Below W1.heap.size W1 w' ∧ w'.cell? ⟨b, o + i * 3, none⟩ = some (.string ik) ∧ w'.cell? ⟨b, o + k * 3, none⟩ = some (.string kk) ∧
                    w'.cell? ⟨b', o' + i * 4, none⟩ = some (.string ei0) ∧ w'.cell? ⟨b', o' + i * 4 + 1, none⟩ = some (.int .u64 ei1) ∧ w'.cell? ⟨b', o' + i * 4 + 2, none⟩ = some (.bool ei2) ∧ w'.cell? ⟨b', o' + i * 4 + 3, none⟩ = some (.string ei3) ∧
                    w'.cell? ⟨b', o' + k * 4, none⟩ = some (.string ek0) ∧ w'.cell? ⟨b', o' + k * 4 + 1, none⟩ = some (.int .u64 ek1) ∧ w'.cell? ⟨b', o' + k * 4 + 2, none⟩ = some (.bool ek2) ∧ w'.cell? ⟨b', o' + k * 4 + 3, none⟩ = some (.string ek3))
                  (first | (exact ⟨Nat.le_refl _, HB2.out.drew, a0, a1, b0, b1, b2, b3, c0, c1, c2, c3⟩) | assumption | (go_split_ands; refine ⟨by have := hb.size; omega, Below.trans (by assumption) (hb.mono (by have := HB2.out.size; omega)), ?_, ?_, ?_, ?_, ?_, ?_, ?_, ?_, ?_, ?_⟩ <;> (rw [hb.cell (by simp <;> omega)]; assumption)))
                  (first | (go_at_call 31; refine (Q.out _).mono ?_; rintro e w2 ⟨rfl, hb⟩))
                rename_i hH
                have hfin := hH.2.1
                clear hH
                go_wp2
                go_roundg (l.length - (k + 1))
                case measure => have := HG2.out; omega
                case rel => exact ⟨k + 1, rfl, by omega, by omega, by go_num, hfin⟩
            · go_wp2
              go_roundg (l.length - (i + 1))
              case measure => have := HG.out; omega
              case rel => exact ⟨i + 1, rfl, by omega, by go_num, HB2.out⟩
        · go_wp2
          go_ret
          exact ⟨by simp, hB1.trans (HB.out.mono hB1.size)⟩
    · have hl : l = [] := List.eq_nil_of_length_eq_zero (by omega)
      have HF := Lib.hid hf1
      subst hl
      clear hf1 hov
      go_enter Try.func14, Try.ntmps14
      go_wp2_with fail
      refine (known_c _).mono ?_
      rintro e W0 ⟨rfl, hb0⟩
      have hs0 := hs.later hb0
      go_wp2_with fail
      refine (entries_c f A c [] (by simp) _ hs0).mono ?_
      rintro e W1 ⟨v, rfl, ho, hb1⟩
      have hB1 : Below w.heap.size w W1 := hb0.trans (hb1.mono hb0.size)
      obtain ⟨A', c', rfl, _, hx1, _⟩ := ho.slice encE_len
      rw [ents_len]
      clear ho hs hs0 hb0 hb1 hx1
      go_wp2_with fail
      refine wp_loop_rounds 1 ?_
      rw [rounds_succ]
      go_wp2
      go_ret
      exact ⟨by simp, hB1⟩
end Go.Proofs.Ytdeomnbmbhkecaa.H
