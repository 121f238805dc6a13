/- The law's sources with exact counters; gone. No conditions. -/
import Derived.Test.YtdpijhpjicbecaaGSame
import Derived.Test.YtdpijhpjicbecaaGUse
namespace Go.Proofs.Ytdpijhpjicbecaa.H
open Go Go.RowKit Go.Deep Go.Shelf Go.Proofs Go.Proofs.YtdpijhpjicbecaaW.PrintWords
set_option linter.unusedVariables false
set_option linter.unusedSimpArgs false
attribute [local go_sem] Oper.semAt_some
/-- The counters when the k-th source's turn begins. -/
def cntAt (X : List Src) (f : Cnt) : Nat → Cnt
  | 0 => f
  | k + 1 => match X[k]? with
    | some s => raise k s.l.length (cntAt X f k)
    | none => cntAt X f k
theorem srcs_exact (n₀ : Nat) (X : List Src) (f : Cnt) (hd : NoDup X) : Srcs n₀ (InU X) (fun k => SrcsE n₀ X (cntAt X f k)) (X.map fvS) (X.map (·.l)) := by
  refine ⟨by simp, fun k g l hf hl => ?_⟩
  rw [List.getElem?_map] at hf hl
  cases hs : X[k]? with
  | none => rw [hs] at hf; cases hf
  | some s =>
    rw [hs] at hf hl
    injection hf with hf
    injection hl with hl
    subst hf; subst hl
    refine (all_v n₀ X (cntAt X f k) hd k s hs).mono (Nat.le_refl _) (fun _ h => h) (fun _ h => h) (fun _ _ => trivial) (fun W h => ?_)
    have e : cntAt X f (k + 1) = raise k s.l.length (cntAt X f k) := by simp only [cntAt, hs]
    show SrcsE n₀ X (cntAt X f (k + 1)) W
    rw [e]
    exact h
/-- What the first k sources' counters add up to. -/
def goneN (f : Cnt) : Nat → Int × Int
  | 0 => (0, 0)
  | k + 1 => (wrap64 ((goneN f k).1 + (f k).1), wrap64 ((goneN f k).2 + (f k).2))
set_option maxHeartbeats 1600000 in
set_option maxRecDepth 100000 in
theorem gone_c (A : Option Addr) (c : Nat) (n₀ : Nat) (X : List Src) (f : Cnt) (w : World) (hs : Sl encSr 1 w A X) (hx : SrcsE n₀ X f w) :
    Calls Try.prog 69 #[.slice A X.length c] w fun e w' => e = .returned (.tuple #[.int .i64 (goneN f X.length).1, .int .i64 (goneN f X.length).2]) ∧ Below w.heap.size w w' := by
  have hm := hs.1
  have HS := Lib.hid hs
  have HX := Lib.hid hx
  obtain ⟨n, hn⟩ : ∃ n, X.length = n := ⟨_, rfl⟩
  rw [hn] at hm ⊢
  have HN := Lib.hid hn
  clear hs hx hn
  go_enter Try.func69, Try.ntmps69
  go_wp2_with fail
  go_loopw [4, 5, 6] (fun s4 s5 s6 wr => ∃ k : Nat, s4 = .int .i64 (goneN f k).1 ∧ s5 = .int .i64 (goneN f k).2 ∧ s6 = .int .i64 k ∧ k ≤ n ∧ Below w.heap.size w wr) (fun s4 s5 s6 wr => n - (intOf s6).toNat)
  case atStart => exact ⟨0, rfl, rfl, rfl, by omega, Below.refl _ _⟩
  case round =>
    obtain ⟨k, rfl, rfl, rfl, hk, hb⟩ := hrel
    generalize wr = W5 at *
    have HBW := Lib.hid hb
    clear hb
    have i0 : (0 : Int) ≤ k := by omega
    by_cases hlt : k < n
    · have i1 : (k : Int) < n := by omega
      obtain ⟨x, hx⟩ := getElem?_of_lt (l := X) (by rw [HN.out]; exact hlt : k < X.length)
      obtain ⟨b1, o1, hA1, _, hc1⟩ := (HS.out.later HBW.out).at hx
      subst hA1
      have x0 : W5.cell? ⟨b1, o1 + k, none⟩ = some (.pointer (some ⟨x.p, 0, none⟩)) := by have := hc1 0 _ rfl; simpa using this
      have hblk := blk_below (HX.out k x hx).1 HBW.out
      obtain ⟨p, hp⟩ : ∃ p, x.p = p := ⟨_, rfl⟩
      obtain ⟨a, ha⟩ : ∃ a, (f k).1 = a := ⟨_, rfl⟩
      obtain ⟨g, hg⟩ : ∃ g, (f k).2 = g := ⟨_, rfl⟩
      rw [hp, ha, hg] at hblk
      rw [hp] at x0
      have c1 : W5.cell? ⟨p, 1, none⟩ = some (.int .i64 a) := (blk_cell hblk 1).trans rfl
      have c2 : W5.cell? ⟨p, 2, none⟩ = some (.int .i64 g) := (blk_cell hblk 2).trans rfl
      have HA := Lib.hid ha
      have HG := Lib.hid hg
      obtain ⟨u, hu⟩ : ∃ u, (goneN f k).1 = u := ⟨_, rfl⟩
      obtain ⟨v, hv⟩ : ∃ v, (goneN f k).2 = v := ⟨_, rfl⟩
      rw [hu, hv]
      have HU := Lib.hid (show (goneN f (k + 1)).1 = wrap64 (u + a) from by rw [goneN, hu, ha])
      have HV := Lib.hid (show (goneN f (k + 1)).2 = wrap64 (v + g) from by rw [goneN, hv, hg])
      clear hc1 hx hblk hp ha hg hu hv
      go_wp2
      go_roundw
      case rel => exact ⟨k + 1, by rw [HU.out], by rw [HV.out], by first | rfl | simp, by omega, HBW.out⟩
      case measure => simp [intOf]; omega
    · have hkn : n = k := by omega
      subst hkn
      go_wp2
      go_ret2
      exact ⟨rfl, HBW.out⟩
end Go.Proofs.Ytdpijhpjicbecaa.H
