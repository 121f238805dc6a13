/- Lists that are held against each other; the errors of batches; the document's weights. Conditions: a batch holds at most 4096 writes, a text takes at most 2^47 - 4096 bytes. -/
import Derived.Test.YtdeomnbmbhkecaaHKey5
namespace Go.Proofs.Ytdeomnbmbhkecaa.H
open Go.RowKit Go.Deep Go.Proofs.YtdeomnbmbhkecaaW.PrintWords
set_option linter.unusedVariables false
set_option linter.unusedSimpArgs false
set_option maxHeartbeats 1600000 in
set_option maxRecDepth 100000 in
theorem sameEntries_c (A A' : Option Addr) (c c' : Nat) (l : List Ent) (w : World) (hs : Sl encE 4 w A l) (hs' : Sl encE 4 w A' l) :
    Calls Try.prog 20 #[.slice A l.length c, .slice A' l.length c'] w fun e w' => e = .returned (.bool true) ∧ Dr w w' := by
  have hm := hs.1
  go_enter Try.func20, Try.ntmps20
  go_wp2
  go_loopg [5] l.length (fun gk v5 wr => ∃ k : Nat, gk = l.length - k ∧ k ≤ l.length ∧ v5 = .int .i64 k ∧ Dr w wr)
  case atStart => exact ⟨0, by omega, by omega, rfl, Dr.refl _⟩
  case round =>
    obtain ⟨k, hg, hk, rfl, hB⟩ := hrel
    have HG := Lib.hid hg
    clear hg
    by_cases hlt : k < l.length
    · obtain ⟨x, hx⟩ := getElem?_of_lt hlt
      obtain ⟨b, o, rfl, hbl, hc⟩ := (hs.later (hB.below _)).at hx
      obtain ⟨b', o', rfl, hbl', hc'⟩ := (hs'.later (hB.below _)).at hx
      obtain ⟨xk, xn, xd, xv⟩ := x
      have c0 : wr.cell? ⟨b, o + k * 4, none⟩ = some (.string xk) := hc 0 _ rfl
      have c1 : wr.cell? ⟨b, o + k * 4 + 1, none⟩ = some (.int .u64 xn) := hc 1 _ rfl
      have c2 : wr.cell? ⟨b, o + k * 4 + 2, none⟩ = some (.bool xd) := hc 2 _ rfl
      have c3 : wr.cell? ⟨b, o + k * 4 + 3, none⟩ = some (.string xv) := hc 3 _ rfl
      have d0 : wr.cell? ⟨b', o' + k * 4, none⟩ = some (.string xk) := hc' 0 _ rfl
      have d1 : wr.cell? ⟨b', o' + k * 4 + 1, none⟩ = some (.int .u64 xn) := hc' 1 _ rfl
      have d2 : wr.cell? ⟨b', o' + k * 4 + 2, none⟩ = some (.bool xd) := hc' 2 _ rfl
      have d3 : wr.cell? ⟨b', o' + k * 4 + 3, none⟩ = some (.string xv) := hc' 3 _ rfl
      have HX := Lib.hid hx
      have HH := Lib.hid hs
      have HC := Lib.hid hc
      have HH' := Lib.hid hs'
      have HC' := Lib.hid hc'
      clear hx hs hc hs' hc'
      have i0' : (0 : Int) ≤ (k : Int) := by omega
      have i1' : (k : Int) < (l.length : Int) := by omega
      go_wp2_with fail
      go_quiet (fail)
      go_wp2
      go_roundg (l.length - (k + 1))
      case measure => have := HG.out; omega
      case rel => exact ⟨k + 1, rfl, by omega, by go_num, hB.drewN _⟩
    · have hkk : k = l.length := by omega
      subst hkk
      go_wp2
      go_ret
      exact ⟨by simp, hB⟩
set_option maxHeartbeats 1600000 in
set_option maxRecDepth 100000 in
theorem sameWrites_c (A A' : Option Addr) (c c' : Nat) (l : List Wri) (w : World) (hs : Sl encW 3 w A l) (hs' : Sl encW 3 w A' l) :
    Calls Try.prog 23 #[.slice A l.length c, .slice A' l.length c'] w fun e w' => e = .returned (.bool true) ∧ Dr w w' := by
  have hm := hs.1
  go_enter Try.func23, Try.ntmps23
  go_wp2
  go_loopg [5] l.length (fun gk v5 wr => ∃ k : Nat, gk = l.length - k ∧ k ≤ l.length ∧ v5 = .int .i64 k ∧ Dr w wr)
  case atStart => exact ⟨0, by omega, by omega, rfl, Dr.refl _⟩
  case round =>
    obtain ⟨k, hg, hk, rfl, hB⟩ := hrel
    have HG := Lib.hid hg
    clear hg
    by_cases hlt : k < l.length
    · obtain ⟨x, hx⟩ := getElem?_of_lt hlt
      obtain ⟨b, o, rfl, hbl, hc⟩ := (hs.later (hB.below _)).at hx
      obtain ⟨b', o', rfl, hbl', hc'⟩ := (hs'.later (hB.below _)).at hx
      obtain ⟨xk, xd, xv⟩ := x
      have c0 : wr.cell? ⟨b, o + k * 3, none⟩ = some (.string xk) := hc 0 _ rfl
      have c2 : wr.cell? ⟨b, o + k * 3 + 1, none⟩ = some (.bool xd) := hc 1 _ rfl
      have c3 : wr.cell? ⟨b, o + k * 3 + 2, none⟩ = some (.string xv) := hc 2 _ rfl
      have d0 : wr.cell? ⟨b', o' + k * 3, none⟩ = some (.string xk) := hc' 0 _ rfl
      have d2 : wr.cell? ⟨b', o' + k * 3 + 1, none⟩ = some (.bool xd) := hc' 1 _ rfl
      have d3 : wr.cell? ⟨b', o' + k * 3 + 2, none⟩ = some (.string xv) := hc' 2 _ rfl
      have HX := Lib.hid hx
      have HH := Lib.hid hs
      have HC := Lib.hid hc
      have HH' := Lib.hid hs'
      have HC' := Lib.hid hc'
      clear hx hs hc hs' hc'
      have i0' : (0 : Int) ≤ (k : Int) := by omega
      have i1' : (k : Int) < (l.length : Int) := by omega
      go_wp2_with fail
      go_quiet (fail)
      go_wp2
      go_roundg (l.length - (k + 1))
      case measure => have := HG.out; omega
      case rel => exact ⟨k + 1, rfl, by omega, by go_num, hB.drewN _⟩
    · have hkk : k = l.length := by omega
      subst hkk
      go_wp2
      go_ret
      exact ⟨by simp, hB⟩
/-- The error of a write; of a batch. -/
def chkW (x : Wri) : Int := if chk x.1 = 0 then (if x.2.1 then 0 else if 512 < x.2.2.size then 12 else 0) else chk x.1
def firstE : List Wri → Int
  | [] => 0
  | x :: l => if chkW x = 0 then firstE l else chkW x
def chkB (l : List Wri) : Int := if 16 < l.length then 13 else firstE l
theorem firstE_drop (l : List Wri) (k : Nat) (x : Wri) (h : l[k]? = some x) : firstE (l.drop k) = if chkW x = 0 then firstE (l.drop (k + 1)) else chkW x := by
  have hk := (List.getElem?_eq_some_iff.1 h).1
  rw [List.drop_eq_getElem_cons hk]
  have : l[k] = x := by rw [List.getElem?_eq_getElem hk] at h; exact Option.some.inj h
  rw [this]
  rfl
set_option maxHeartbeats 1600000 in
set_option maxRecDepth 100000 in
theorem checkbatch_c (A : Option Addr) (c : Nat) (l : List Wri) (w : World) (hs : Sl encW 3 w A l) :
    Calls Try.prog 29 #[.slice A l.length c] w fun e w' => e = .returned (.int .i64 (chkB l)) ∧ Below w.heap.size w w' := by
  have hm := hs.1
  by_cases hb : 16 < l.length
  · go_enter Try.func29, Try.ntmps29
    go_wp2
    go_ret
    exact ⟨by simp [chkB, hb], Below.refl _ _⟩
  · have hcb : chkB l = firstE l := by simp [chkB, hb]
    have HCB := Lib.hid hcb
    clear hcb
    go_enter Try.func29, Try.ntmps29
    go_wp2
    go_loopg [11] l.length (fun gk v11 wr => ∃ k : Nat, gk = l.length - k ∧ k ≤ l.length ∧ v11 = .int .i64 k ∧ firstE l = firstE (l.drop k) ∧ Below w.heap.size w wr)
    case atStart => exact ⟨0, by omega, by omega, rfl, by simp, Below.refl _ _⟩
    case round =>
      obtain ⟨k, hg, hk, rfl, hf, hB⟩ := hrel
      have HG := Lib.hid hg
      have HF := Lib.hid hf
      clear hg hf
      by_cases hlt : k < l.length
      · obtain ⟨x, hx⟩ := getElem?_of_lt hlt
        have hfd := firstE_drop l k x hx
        obtain ⟨b, o, rfl, hbl, hc⟩ := (hs.later hB).at hx
        obtain ⟨xk, xd, xv⟩ := x
        have c0 : wr.cell? ⟨b, o + k * 3, none⟩ = some (.string xk) := hc 0 _ rfl
        have c1 : wr.cell? ⟨b, o + k * 3 + 1, none⟩ = some (.bool xd) := hc 1 _ rfl
        have c2 : wr.cell? ⟨b, o + k * 3 + 2, none⟩ = some (.string xv) := hc 2 _ rfl
        have HX := Lib.hid hx
        have HH := Lib.hid hs
        have HC := Lib.hid hc
        have HD := Lib.hid hfd
        clear hx hs hc hfd
        have hB1 : Below w.heap.size w (wr.alloc (.cells #[.string xk, .bool xd, .string xv] 65)) := hB.alloc hB.size _
        by_cases e0 : chk xk = 0
        · have e1 : (chk xk != 0) = false := by simp [e0]
          have E0 := Lib.hid e0
          clear e0
          cases xd with
          | true =>
            go_wp2_with (go_at_call 17; refine (check_c _ _).mono ?_; rintro e w' ⟨rfl, rfl⟩)
            go_roundg (l.length - (k + 1))
            case measure => have := HG.out; omega
            case rel => exact ⟨k + 1, rfl, by omega, by go_num, by rw [HF.out, HD.out]; simp [chkW, E0.out], hB1⟩
          | false =>
            by_cases e2 : 512 < xv.size
            · go_wp2_with (go_at_call 17; refine (check_c _ _).mono ?_; rintro e w' ⟨rfl, rfl⟩)
              go_ret
              exact ⟨by rw [HCB.out, HF.out, HD.out]; simp [chkW, E0.out, e2], hB1⟩
            · go_wp2_with (go_at_call 17; refine (check_c _ _).mono ?_; rintro e w' ⟨rfl, rfl⟩)
              go_roundg (l.length - (k + 1))
              case measure => have := HG.out; omega
              case rel => exact ⟨k + 1, rfl, by omega, by go_num, by rw [HF.out, HD.out]; simp [chkW, E0.out, e2], hB1⟩
        · have e1 : (chk xk != 0) = true := by simp [e0]
          go_wp2_with (go_at_call 17; refine (check_c _ _).mono ?_; rintro e w' ⟨rfl, rfl⟩)
          go_ret
          exact ⟨by rw [HCB.out, HF.out, HD.out]; simp [chkW, e0], hB1⟩
      · have hkk : k = l.length := by omega
        subst hkk
        go_wp2
        go_ret
        exact ⟨by rw [HCB.out, HF.out]; simp [firstE], hB⟩
end Go.Proofs.Ytdeomnbmbhkecaa.H
