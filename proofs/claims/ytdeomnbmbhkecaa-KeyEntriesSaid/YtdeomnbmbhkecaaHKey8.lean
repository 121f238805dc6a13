/- The document's errors and weights of batches. Conditions: a batch holds at most 4096 writes, a text takes at most 2^47 - 4096 bytes. -/
import Derived.Test.YtdeomnbmbhkecaaHKey7
import Derived.IntWalk
namespace Go.Proofs.Ytdeomnbmbhkecaa.H
open Go.RowKit Go.Deep Go.Proofs.YtdeomnbmbhkecaaW.PrintWords
set_option linter.unusedVariables false
set_option linter.unusedSimpArgs false
set_option maxHeartbeats 1600000 in
set_option maxRecDepth 100000 in
theorem refcheckbatch_c (A : Option Addr) (c : Nat) (l : List Wri) (w : World) (hs : Sl encW 3 w A l) :
    Calls Try.prog 30 #[.slice A l.length c] w fun e w' => e = .returned (.int .i64 (chkB l)) ∧ Below w.heap.size w w' := by
  have hm := hs.1
  by_cases hb : 16 < l.length
  · go_enter Try.func30, Try.ntmps30
    go_wp2
    go_ret
    exact ⟨by simp [chkB, hb], Below.refl _ _⟩
  · have hcb : chkB l = firstE l := by simp [chkB, hb]
    have HCB := Lib.hid hcb
    clear hcb
    go_enter Try.func30, Try.ntmps30
    go_wp2
    go_loopg [3] l.length (fun gk v11 wr => ∃ k : Nat, gk = l.length - k ∧ k ≤ l.length ∧ v11 = .int .i64 k ∧ firstE l = firstE (l.drop k) ∧ Below w.heap.size w wr)
    case atStart => exact ⟨0, by omega, by omega, rfl, by simp, Below.refl _ _⟩
    case round =>
      obtain ⟨k, hg, hk, rfl, hf, hB⟩ := hrel
      have HG := Lib.hid hg
      have HF := Lib.hid hf
      clear hg hf
      by_cases hlt : k < l.length
      · obtain ⟨x, hx⟩ := getElem?_of_lt hlt
        have hfd := firstE_drop l k x hx
        obtain ⟨b, o, rfl, hbl, hc⟩ := (hs.later hB).at hx
        obtain ⟨xk, xd, xv⟩ := x
        have c0 : wr.cell? ⟨b, o + k * 3, none⟩ = some (.string xk) := hc 0 _ rfl
        have c1 : wr.cell? ⟨b, o + k * 3 + 1, none⟩ = some (.bool xd) := hc 1 _ rfl
        have c2 : wr.cell? ⟨b, o + k * 3 + 2, none⟩ = some (.string xv) := hc 2 _ rfl
        have HX := Lib.hid hx
        have HH := Lib.hid hs
        have HC := Lib.hid hc
        have HD := Lib.hid hfd
        clear hx hs hc hfd
        have hB1 := hB
        have i0' : (0 : Int) ≤ (k : Int) := by omega
        have i1' : (k : Int) < (l.length : Int) := by omega
        by_cases e0 : chk xk = 0
        · have e1 : (chk xk != 0) = false := by simp [e0]
          have E0 := Lib.hid e0
          clear e0
          cases xd with
          | true =>
            go_wp2_with (go_at_call 18; refine (refcheck_c _ _).mono ?_; rintro e w' ⟨rfl, rfl⟩)
            go_roundg (l.length - (k + 1))
            case measure => have := HG.out; omega
            case rel => exact ⟨k + 1, rfl, by omega, by go_num, by rw [HF.out, HD.out]; simp [chkW, E0.out], hB1⟩
          | false =>
            by_cases e2 : 512 < xv.size
            · go_wp2_with (go_at_call 18; refine (refcheck_c _ _).mono ?_; rintro e w' ⟨rfl, rfl⟩)
              go_ret
              exact ⟨by rw [HCB.out, HF.out, HD.out]; simp [chkW, E0.out, e2], hB1⟩
            · go_wp2_with (go_at_call 18; refine (refcheck_c _ _).mono ?_; rintro e w' ⟨rfl, rfl⟩)
              go_roundg (l.length - (k + 1))
              case measure => have := HG.out; omega
              case rel => exact ⟨k + 1, rfl, by omega, by go_num, by rw [HF.out, HD.out]; simp [chkW, E0.out, e2], hB1⟩
        · have e1 : (chk xk != 0) = true := by simp [e0]
          go_wp2_with (go_at_call 18; refine (refcheck_c _ _).mono ?_; rintro e w' ⟨rfl, rfl⟩)
          go_ret
          exact ⟨by rw [HCB.out, HF.out, HD.out]; simp [chkW, e0], hB1⟩
      · have hkk : k = l.length := by omega
        subst hkk
        go_wp2
        go_ret
        exact ⟨by rw [HCB.out, HF.out]; simp [firstE], hB⟩
set_option maxHeartbeats 3200000 in
set_option maxRecDepth 100000 in
theorem refbatchweight_c (A : Option Addr) (c : Nat) (l : List Wri) (hn : l.length ≤ 4096) (hq : ∀ x ∈ l, OkW x) (w : World) (hs : Sl encW 3 w A l) :
    Calls Try.prog 28 #[.slice A l.length c] w fun e w' => e = .returned (.int .i64 (sumW l)) ∧ Below w.heap.size w w' := by
  go_enter Try.func28, Try.ntmps28
  go_wp2
  go_loopg [3, 4] l.length (fun gk v3 v8 wr => ∃ k : Nat, gk = l.length - k ∧ k ≤ l.length ∧ v8 = .int .i64 k ∧ v3 = .int .i64 (sumW (l.take k)) ∧ Below w.heap.size w wr)
  case atStart => exact ⟨0, by omega, by omega, rfl, by simp [sumW], Below.refl _ _⟩
  case round =>
    obtain ⟨k, hg, hk, rfl, rfl, hB⟩ := hrel
    have HG := Lib.hid hg
    clear hg
    have b1 := sumW_bd (l.take k) (fun x hx => hq x (List.mem_of_mem_take hx))
    have b2 : ((l.take k).length : Int) ≤ 4096 := by rw [List.length_take]; omega
    by_cases hlt : k < l.length
    · obtain ⟨x, hx⟩ := getElem?_of_lt hlt
      have hox := hq x (List.mem_of_getElem? hx)
      have h1 := hox.1
      have h2 := hox.2
      have b3 := wt_bd x.1 x.2.1 x.2.2 h1 h2
      have hsum : sumW (l.take (k + 1)) = sumW (l.take k) + wt x.1 x.2.1 x.2.2 := by rw [take_succ_of hx, sumW_snoc]
      obtain ⟨b, o, rfl, hbl, hc⟩ := (hs.later hB).at hx
      have c0 : wr.cell? ⟨b, o + k * 3, none⟩ = some (.string x.1) := hc 0 _ rfl
      have c1 : wr.cell? ⟨b, o + k * 3 + 1, none⟩ = some (.bool x.2.1) := hc 1 _ rfl
      have c2 : wr.cell? ⟨b, o + k * 3 + 2, none⟩ = some (.string x.2.2) := hc 2 _ rfl
      have HS := Lib.hid hsum
      have HX := Lib.hid hx
      have HO := Lib.hid hox
      have HH := Lib.hid hs
      have HC := Lib.hid hc
      have HQ := Lib.hid hq
      clear hsum hx hox hs hc hq
      have i0' : (0 : Int) ≤ (k : Int) := by omega
      have i1' : (k : Int) < (l.length : Int) := by omega
      have ew : IntKind.i64.wrap (sumW (l.take k) + wt x.1 x.2.1 x.2.2) = sumW (l.take k) + wt x.1 x.2.1 x.2.2 := IntWalk.i64_in _ (by omega)
      go_wp2_with fail
      go_region_held3 (fun w' => w'.cell? ⟨b, o + k * 3, none⟩ = some (.string x.1) ∧ w'.cell? ⟨b, o + k * 3 + 1, none⟩ = some (.bool x.2.1) ∧ w'.cell? ⟨b, o + k * 3 + 2, none⟩ = some (.string x.2.2)) (first | go_keep | (exact ⟨(hb.cell (by exact hbl)).trans c0, (hb.cell (by exact hbl)).trans c1, (hb.cell (by exact hbl)).trans c2⟩))
        (first | (go_at_call 26; refine (refweight_c _ _ _ _ h1 h2 _).mono ?_; rintro e w1 ⟨rfl, hb⟩))
      rename_i hH
      clear hH ew
      go_wp2
      go_roundg (l.length - (k + 1))
      case measure => have := HG.out; omega
      case rel => exact ⟨k + 1, rfl, by omega, by go_num, by rw [HS.out], hB.drew.trans (hb.mono hB.size)⟩
    · have hkk : k = l.length := by omega
      subst hkk
      go_wp2
      go_ret
      exact ⟨by simp, hB⟩
end Go.Proofs.Ytdeomnbmbhkecaa.H
