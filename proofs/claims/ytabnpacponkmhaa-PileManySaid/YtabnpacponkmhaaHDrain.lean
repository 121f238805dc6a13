/- screelaw4: plays, any call; drains; many sides beside one another. Conditions: fewer than 2^40 lie in each. -/
import Derived.Test.YtabnpacponkmhaaHSide2
import Derived.Test.YtabnpacponkmhaaHFair1
namespace Go.Proofs.Ytabnpacponkmhaa.H
open Go.RowKit Go.Deep Go.Proofs Go.Proofs.YtabnpacponkmhaaW.PrintWords
set_option linter.unusedVariables false
set_option linter.unusedSimpArgs false
def nAfter (K : Int) (n : Nat) : Nat := if K = 1 then n + 1 else if K = 2 then n - 1 else n
theorem plays_c (sp : Nat) (S : Nat → Prop) (o : Int) (n : Nat) (K N : Int) (sec : Bool) (hn : n < 100000000000) (w : World) (h : SideIs w sp S o n) :
    Calls Try.prog 15 #[.pointer (some ⟨sp, 0, none⟩), opV K N sec] w fun e w' => e = .returned (.bool true) ∧ Played w sp S o (nAfter K n) w' := by
  by_cases k1 : K = 1
  · subst k1
    exact plays_1 sp S o n N sec hn w h
  obtain ⟨g, bp, c, SH, SB, H, B, top, told, h, hlen⟩ := h
  by_cases k2 : K = 2
  · subst k2
    rcases H with _ | ⟨x, r⟩
    · exact plays_2n sp S o n N sec hn w g bp c SH SB B top told h hlen
    · exact plays_2s sp S o n N sec hn w g bp c SH SB x r B top told h hlen
  have e : nAfter K n = n := by unfold nAfter; rw [if_neg k1, if_neg k2]
  rw [e]
  by_cases k3 : K = 3
  · subst k3
    rcases H with _ | ⟨x, r⟩
    · exact plays_3n sp S o n N sec hn w g bp c SH SB B top told h hlen
    · exact plays_3s sp S o n N sec hn w g bp c SH SB x r B top told h hlen
  by_cases k4 : K = 4
  · subst k4
    exact plays_4 sp S o n N sec hn w g bp c SH SB H B top told h hlen
  exact plays_o sp S o n N sec hn w g bp c SH SB H B top told h hlen K (by simpa using k1) (by simpa using k2) (by simpa using k3) (by simpa using k4)
/-- One call behind others. -/
theorem Played.fold {w wr w' : World} {sp : Nat} {S : Nat → Prop} {o : Int} {n : Nat} (hu : Upd S w wr) (h : Played wr sp (New S w) o n w') : SideIs w' sp (New S w) o n ∧ Upd S w w' := by
  obtain ⟨⟨g, bp, c, SH, SB, H, B, top, told, h, hl⟩, u⟩ := h
  refine ⟨⟨g, bp, c, SH, SB, H, B, top, told, h.mono (fun k hk => ?_), hl⟩, hu.step u (fun i hi => hi)⟩
  rcases hk with hk | hk
  · exact hk
  · exact .inr (Nat.le_trans hu.size hk)
theorem SideIs.mono {w : World} {sp : Nat} {S S' : Nat → Prop} {o : Int} {n : Nat} (h : SideIs w sp S o n) (hs : ∀ k, S k → S' k) : SideIs w sp S' o n := by
  obtain ⟨g, bp, c, SH, SB, H, B, top, told, h, hl⟩ := h
  exact ⟨g, bp, c, SH, SB, H, B, top, told, h.mono hs, hl⟩
theorem SideIs.tight {w : World} {sp : Nat} {S : Nat → Prop} {o : Int} {n : Nat} (h : SideIs w sp S o n) : SideIs w sp (fun k => S k ∧ k < w.heap.size) o n := by
  obtain ⟨g, bp, c, SH, SB, H, B, top, told, h, hl⟩ := h
  exact ⟨g, bp, c, _, _, H, B, top, told, h.tight, hl⟩
theorem SideIs.upd {w w' : World} {sp : Nat} {S T : Nat → Prop} {o : Int} {n : Nat} (h : SideIs w sp S o n) (u : Upd T w w') (hd : ∀ k, S k → ¬ T k) : SideIs w' sp S o n := by
  obtain ⟨g, bp, c, SH, SB, H, B, top, told, h, hl⟩ := h
  exact ⟨g, bp, c, SH, SB, H, B, top, told, h.upd u hd, hl⟩
/-- The cells on the way to the bag's length. -/
theorem SideIs.bagLen {w : World} {sp : Nat} {S : Nat → Prop} {o : Int} {n : Nat} (h : SideIs w sp S o n) : ∃ bp A c, w.cell? ⟨sp, 1, none⟩ = some (.pointer (some ⟨bp, 0, none⟩)) ∧ w.cell? ⟨bp, 1, none⟩ = some (.slice A n c) := by
  obtain ⟨g, bp, c, SH, SB, H, B, top, told, h, hl⟩ := h
  obtain ⟨A, cp, hb, _⟩ := h.bg.parts
  exact ⟨bp, A, cp, (blk_cell h.st 1).trans rfl, by rw [← hl]; exact (blk_cell hb 1).trans rfl⟩
theorem SideIs.heapPtr {w : World} {sp : Nat} {S : Nat → Prop} {o : Int} {n : Nat} (h : SideIs w sp S o n) : ∃ g, w.cell? ⟨sp, 0, none⟩ = some (.pointer (some ⟨g, 0, none⟩)) := by
  obtain ⟨g, bp, c, SH, SB, H, B, top, told, h, hl⟩ := h
  exact ⟨g, (blk_cell h.st 0).trans rfl⟩
theorem opV_zero (K : Int) : opV K 0 false = .agg #[.int .i64 K, .int .i64 0, .bool false] := rfl
set_option maxHeartbeats 3200000 in
theorem drains_c (sp : Nat) (S : Nat → Prop) (o : Int) (n : Nat) (hn : n < 100000000000) (w : World) (h : SideIs w sp S o n) :
    Calls Try.prog 16 #[.pointer (some ⟨sp, 0, none⟩)] w fun e w' => e = .returned (.bool true) ∧ Played w sp S o 0 w' := by
  obtain ⟨bp, A, c, b1, b2⟩ := h.bagLen
  have HH := Lib.hid h
  clear h
  go_enter Try.func16, Try.ntmps16
  go_wp2
  clear b1 b2
  go_loopw [3] (fun s3 wr => ∃ k : Nat, s3 = .int .i64 k ∧ k ≤ n ∧ SideIs wr sp (New S w) o k ∧ Upd S w wr) (fun s3 _ => (intOf s3).toNat)
  case atStart => exact ⟨n, rfl, Nat.le_refl _, HH.out.mono (fun k hk => .inl hk), Upd.refl _ _⟩
  case round =>
    obtain ⟨k, rfl, hk, hs, hu⟩ := hrel
    have HP := Lib.hid (fun K => plays_c sp (New S w) o k K 0 false (by omega) wr hs)
    have HU := Lib.hid hu
    clear hs hu
    rcases k with _ | k
    · clear hk
      go_wp2_with fail
      refine (HP.out 2).mono ?_
      rintro e w1 ⟨rfl, hp1⟩
      obtain ⟨hs1, hu1⟩ := hp1.fold HU.out
      have HP2 := Lib.hid (fun K => plays_c sp (New S w) o 0 K 0 false (by omega) w1 hs1)
      have HU1 := Lib.hid hu1
      clear hp1 hs1 hu1
      go_wp2_with fail
      refine (HP2.out 3).mono ?_
      rintro e w2 ⟨rfl, hp2⟩
      obtain ⟨hs2, hu2⟩ := hp2.fold HU1.out
      have HP3 := Lib.hid (fun K => plays_c sp (New S w) o 0 K 0 false (by omega) w2 hs2)
      have HU2 := Lib.hid hu2
      clear hp2 hs2 hu2
      go_wp2_with fail
      refine (HP3.out 4).mono ?_
      rintro e w3 ⟨rfl, hp3⟩
      have hfin := hp3.fold HU2.out
      have HF := Lib.hid hfin
      clear hp3 hfin
      go_wp2
      go_ret
      exact ⟨rfl, HF.out⟩
    · have i1 : (0 : Int) < ((k + 1 : Nat) : Int) := by omega
      have i2 : (((k + 1 : Nat) : Int)) - 1 = (k : Int) := by omega
      have I2 := Lib.hid i2
      clear i2
      go_wp2_with fail
      refine (HP.out 2).mono ?_
      rintro e w1 ⟨rfl, hp1⟩
      obtain ⟨hs1, hu1⟩ := hp1.fold HU.out
      have hs1' : SideIs w1 sp (New S w) o k := hs1
      obtain ⟨bp', A', c', d1, d2⟩ := hs1'.bagLen
      have HS1 := Lib.hid hs1'
      have HU1 := Lib.hid hu1
      clear hp1 hs1 hu1 hs1'
      go_wp2
      go_roundw
      case rel => exact ⟨k, by go_num, by omega, HS1.out, HU1.out⟩
      case measure => simp [intOf]
end Go.Proofs.Ytabnpacponkmhaa.H
