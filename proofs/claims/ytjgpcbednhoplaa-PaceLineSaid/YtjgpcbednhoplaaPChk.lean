/- pace: Check. Conditions: the fields are ints. -/
import Derived.Test.YtjgpcbednhoplaaPConf
namespace Go.Proofs.Ytjgpcbednhoplaa.H
open Go.RowKit Go.Deep Go.Shelf Go.Proofs Go.Proofs.YtjgpcbednhoplaaW.PrintWords
set_option linter.unusedVariables false
set_option linter.unusedSimpArgs false
def badSp (s : Int × Int × Int) : Bool := decide (s.1 < s.2.1) || decide (s.1 > s.2.2)
def firstBad : Nat → List (Int × Int × Int) → Option Nat
  | _, [] => none
  | i, s :: l => if badSp s then some i else firstBad (i + 1) l
def chkV : Option Nat → Value
  | some i => .tuple #[.int .i64 i, .int .i64 150]
  | none => .tuple #[.int .i64 0, .int .i64 0]
def ChkE (w : World) (o : Option Nat) (e : Ending) (w' : World) : Prop := e = .returned (chkV o) ∧ Below w.heap.size w w'
set_option maxHeartbeats 1600000 in
set_option maxRecDepth 100000 in
theorem Check_c (c : Cfg) (hc : CfgOk c) (w : World) : Calls Try.prog 12 #[cfgV c] w (ChkE w (firstBad 0 (spansL c))) := by
  have HSP := Lib.hid (fun W => spans_c c hc W)
  have HBX := Lib.hid (cfgBlk c w)
  have HBA := Lib.hid ((Below.refl w.heap.size w).alloc (Nat.le_refl _) (.cells (cfgC c) 23))
  have HSZ := Lib.hid (World.size_alloc w (.cells (cfgC c) 23))
  have HLN := Lib.hid (show (spansL c).length = 27 from rfl)
  clear hc
  unfold cfgV at *
  go_enter Try.func12, Try.ntmps12
  go_wp2_with (refine wpList_load_row rfl 23 (.tmp 1) rfl _ rfl _ _ _ _ HBX.out Try.underlying23 rfl (iCfg c) ?_)
  generalize w.alloc (.cells (cfgC c) 23) = wa at *
  refine (HSP.out _).mono ?_
  rintro e w1 ⟨v, rfl, b, rfl, hlb, hS, hb1⟩
  have HB1 := Lib.hid (HBA.out.trans (hb1.mono HBA.out.size))
  have HS := Lib.hid hS
  have HLB := Lib.hid hlb
  generalize hR : firstBad 0 (spansL c) = R
  have HR := Lib.hid hR
  generalize spansL c = l at *
  clear hR hS hb1 hlb
  go_wp2
  go_loopw [9] (fun s9 wr => ∃ k : Nat, s9 = .int .i64 k ∧ k ≤ 27 ∧ firstBad k (l.drop k) = R ∧ Below w1.heap.size w1 wr) (fun s9 _ => 27 - (intOf s9).toNat)
  case atStart => exact ⟨0, rfl, by omega, HR.out, Below.refl _ _⟩
  case round =>
    obtain ⟨k, rfl, hk, hF, hB⟩ := hrel
    have HB := Lib.hid hB
    clear hB
    by_cases hlt : k < 27
    · obtain ⟨⟨x, lo, hi⟩, hx⟩ := getElem?_of_lt (l := l) (by have := HLN.out; omega : k < l.length)
      obtain ⟨b', o', hA, hbl, hcs⟩ := HS.out.at hx
      injection hA with hA; injection hA with hA1 hA2 hA3
      subst hA1; subst hA2
      have a0 : wr.cell? ⟨b, k * 3, none⟩ = some (.int .i64 x) := (HB.out.cell (p := ⟨b, k * 3, none⟩) hbl).trans (by simpa using hcs 0 _ rfl)
      have a1 : wr.cell? ⟨b, k * 3 + 1, none⟩ = some (.int .i64 lo) := (HB.out.cell (p := ⟨b, k * 3 + 1, none⟩) hbl).trans (by simpa using hcs 1 _ rfl)
      have a2 : wr.cell? ⟨b, k * 3 + 2, none⟩ = some (.int .i64 hi) := (HB.out.cell (p := ⟨b, k * 3 + 2, none⟩) hbl).trans (by simpa using hcs 2 _ rfl)
      have ed : l.drop k = (x, lo, hi) :: l.drop (k + 1) := List.drop_eq_getElem_cons (by have := HLN.out; omega) |>.trans (by rw [(List.getElem?_eq_some_iff.1 hx).2])
      rw [ed] at hF
      simp only [firstBad] at hF
      have i1 : (0 : Int) ≤ (k : Int) := by omega
      have i2 : (k : Int) < 27 := by omega
      clear hcs ed hx
      by_cases h1 : x < lo
      · have eb : badSp (x, lo, hi) = true := by simp [badSp, h1]
        rw [eb, if_pos rfl] at hF
        have HF := Lib.hid hF
        clear hF eb
        go_wp2
        go_ret2
        refine ⟨?_, ?_⟩
        · first | rw [HR.out, ← HF.out]; rfl | (rw [← HF.out]; rfl)
        · exact ((HB1.out.trans (HB.out.mono HB1.out.size)).alloc (by have := HB1.out.size; have := HB.out.size; omega) _)
      · by_cases h2 : x > hi
        · have eb : badSp (x, lo, hi) = true := by simp [badSp, h2]
          rw [eb, if_pos rfl] at hF
          have HF := Lib.hid hF
          clear hF eb
          go_wp2
          go_ret2
          refine ⟨?_, ?_⟩
          · first | rw [HR.out, ← HF.out]; rfl | (rw [← HF.out]; rfl)
          · exact ((HB1.out.trans (HB.out.mono HB1.out.size)).alloc (by have := HB1.out.size; have := HB.out.size; omega) _)
        · have eb : badSp (x, lo, hi) = false := by simp [badSp]; omega
          rw [eb, if_neg (by simp)] at hF
          have HF := Lib.hid hF
          clear hF eb
          go_wp2
          go_roundw
          case rel => exact ⟨k + 1, by go_num, by omega, HF.out, HB.out.alloc HB.out.size _⟩
          case measure => simp [intOf]; omega
    · have hk : k = 27 := by omega
      subst hk
      rw [List.drop_eq_nil_of_le (by rw [HLN.out]; omega)] at hF
      have HF := Lib.hid hF
      clear hF
      go_wp2
      go_ret2
      refine ⟨?_, ?_⟩
      · first | rw [HR.out, ← HF.out]; rfl | (rw [← HF.out]; rfl)
      · exact (HB1.out.trans (HB.out.mono HB1.out.size))
end Go.Proofs.Ytjgpcbednhoplaa.H
