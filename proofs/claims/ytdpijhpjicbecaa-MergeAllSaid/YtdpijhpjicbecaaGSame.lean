/- sameRuns of lists that are alike. Conditions: sizes. -/
import Derived.Test.YtdpijhpjicbecaaGRfK
import Derived.StillTailTactics
namespace Go.Proofs.Ytdpijhpjicbecaa.H
open Go Go.RowKit Go.Deep Go.Shelf Go.Proofs Go.Proofs.YtdpijhpjicbecaaW.PrintWords
set_option linter.unusedVariables false
set_option linter.unusedSimpArgs false
attribute [local go_sem] Oper.semAt_some
set_option maxHeartbeats 1600000 in
set_option maxRecDepth 100000 in
theorem sameRuns11_c (A : Option Addr) (c : Nat) (L : List HE) (B : Option Addr) (d : Nat) (M : List HE) (w : World) (ha : Sl2 w A L) (hb : Sl2 w B M) (he : L.map (·.2.2) = M.map (·.2.2)) :
    Calls Try.prog 22 #[.slice A L.length c, .slice B M.length d] w fun e w' => e = .returned (.bool true) ∧ Below w.heap.size w w' := by
  have hm := ha.1.1
  have hlm : M.length = L.length := by
    have := congrArg List.length he
    rw [List.length_map, List.length_map] at this
    exact this.symm
  have HA := Lib.hid ha
  have HB := Lib.hid hb
  have HE := Lib.hid he
  rw [hlm]
  obtain ⟨n, hn⟩ : ∃ n, L.length = n := ⟨_, rfl⟩
  rw [hn] at hm hlm ⊢
  have HN := Lib.hid hn
  have HM := Lib.hid hlm
  clear ha hb he hn hlm
  go_enter Try.func22, Try.ntmps22
  go_wp2_with fail
  go_loopw [5] (fun s5 wr => ∃ k : Nat, s5 = .int .i64 k ∧ k ≤ n ∧ Below w.heap.size w wr) (fun s5 wr => n - (intOf s5).toNat)
  case atStart => exact ⟨0, rfl, by omega, Below.refl _ _⟩
  case round =>
    obtain ⟨k, rfl, hk, hb⟩ := hrel
    generalize wr = W5 at *
    have HBW := Lib.hid hb
    clear hb
    have i0 : (0 : Int) ≤ k := by omega
    by_cases hlt : k < n
    · have i1 : (k : Int) < n := by omega
      obtain ⟨x, hx⟩ := getElem?_of_lt (l := L) (by rw [HN.out]; exact hlt : k < L.length)
      obtain ⟨y, hy⟩ := getElem?_of_lt (l := M) (by rw [HM.out]; exact hlt : k < M.length)
      obtain ⟨b1, o1, hA1, _, hc1⟩ := (HA.out.1.later HBW.out).at hx
      obtain ⟨b2, o2, hB1, _, hc2⟩ := (HB.out.1.later HBW.out).at hy
      subst hA1
      subst hB1
      have hxy : x.2.2 = y.2.2 := by
        have := congrArg (fun l => l[k]?) HE.out
        simp only [List.getElem?_map, hx, hy] at this
        simpa using this
      obtain ⟨q, hq⟩ : ∃ q, x.2.2.length = q := ⟨_, rfl⟩
      have x0 : W5.cell? ⟨b1, o1 + k, none⟩ = some (.slice x.1 q x.2.1) := by have := hc1 0 _ rfl; rw [hq] at this; simpa using this
      have y0 : W5.cell? ⟨b2, o2 + k, none⟩ = some (.slice y.1 q y.2.1) := by have := hc2 0 _ rfl; rw [← hxy, hq] at this; simpa using this
      have HS := Lib.hid (sameEntries11_c x.1 x.2.1 x.2.2 y.1 y.2.1 y.2.2 W5.drew (((HA.out.2 x (List.mem_of_getElem? hx)).later HBW.out).drew) (((HB.out.2 y (List.mem_of_getElem? hy)).later HBW.out).drew))
      rw [decide_eq_true hxy, ← hxy, hq] at HS
      have hmx : Try.prog.follows .mixedOrders = true := by kernel_rfl
      clear hc1 hc2 hx hy hxy hq
      go_wp2_with fail
      go_still_tail 8, hmx
      change wpList _ _ _ _ _ W5.drew
      go_wp2_with (go_at_call 21; refine HS.out.mono ?_; rintro e W6 ⟨rfl, hb6⟩; have HBN := Lib.hid (HBW.out.trans ((((Below.refl _ _).drew).trans hb6).mono HBW.out.size)); clear hb6)
      go_roundw
      case rel => exact ⟨k + 1, by first | rfl | simp, by omega, HBN.out⟩
      case measure => simp [intOf]; omega
    · have hkn : n = k := by omega
      subst hkn
      go_wp2
      go_ret
      exact ⟨rfl, HBW.out⟩
end Go.Proofs.Ytdpijhpjicbecaa.H
