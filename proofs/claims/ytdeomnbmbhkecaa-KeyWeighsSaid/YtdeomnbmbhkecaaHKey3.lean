/- Contracts of layer 1: batches. Conditions: a text takes at most 2^47 - 4096 bytes, a batch holds at most 4096 writes. -/
import Derived.Test.YtdeomnbmbhkecaaHKey2
import Derived.Test.YtdeomnbmbhkecaaHSl
namespace Go.Proofs.Ytdeomnbmbhkecaa.H
open Go.RowKit Go.Deep Go.Proofs.YtdeomnbmbhkecaaW.PrintWords
set_option linter.unusedVariables false
set_option linter.unusedSimpArgs false
def encE (e : Ent) : List Value := [.string e.1, .int .u64 e.2.1, .bool e.2.2.1, .string e.2.2.2]
def encW (e : Wri) : List Value := [.string e.1, .bool e.2.1, .string e.2.2]
def OkW (x : Wri) : Prop := x.1.size ≤ 140737488351232 ∧ x.2.2.size ≤ 140737488351232
def sumW (l : List Wri) : Int := (l.map fun x => wt x.1 x.2.1 x.2.2).sum
theorem wt_bd (k : ByteArray) (d : Bool) (v : ByteArray) (hk : k.size ≤ 140737488351232) (hv : v.size ≤ 140737488351232) : 448 ≤ wt k d v ∧ wt k d v ≤ 422212465054144 := by
  unfold wt; split <;> omega
theorem sumW_bd : ∀ (l : List Wri), (∀ x ∈ l, OkW x) → 0 ≤ sumW l ∧ sumW l ≤ 422212465054144 * (l.length : Int)
  | [], _ => by simp [sumW]
  | x :: l, h => by
    have h1 := sumW_bd l (fun y hy => h y (List.mem_cons_of_mem _ hy))
    have h2 := wt_bd x.1 x.2.1 x.2.2 (h x List.mem_cons_self).1 (h x List.mem_cons_self).2
    simp only [sumW, List.map_cons, List.sum_cons, List.length_cons] at *
    omega
theorem sumW_snoc (l : List Wri) (x : Wri) : sumW (l ++ [x]) = sumW l + wt x.1 x.2.1 x.2.2 := by simp [sumW]
theorem batchweight_c (A : Option Addr) (c : Nat) (l : List Wri) (hn : l.length ≤ 4096) (hq : ∀ x ∈ l, OkW x) (w : World) (hs : Sl encW 3 w A l) :
    Calls Try.prog 27 #[.slice A l.length c] w fun e w' => e = .returned (.int .i64 (sumW l)) ∧ Below w.heap.size w w' := by
  go_enter Try.func27, Try.ntmps27
  go_wp2
  go_loopg [3, 8] l.length (fun gk v3 v8 wr => ∃ k : Nat, gk = l.length - k ∧ k ≤ l.length ∧ v8 = .int .i64 k ∧ v3 = .int .i64 (sumW (l.take k)) ∧ Below w.heap.size w wr)
  case atStart => exact ⟨0, by omega, by omega, rfl, by simp [sumW], Below.refl _ _⟩
  case round =>
    obtain ⟨k, hg, hk, rfl, rfl, hB⟩ := hrel
    have HG := Lib.hid hg
    clear hg
    have b1 := sumW_bd (l.take k) (fun x hx => hq x (List.mem_of_mem_take hx))
    have b2 : ((l.take k).length : Int) ≤ 4096 := by rw [List.length_take]; omega
    by_cases hlt : k < l.length
    · obtain ⟨x, hx⟩ := getElem?_of_lt hlt
      have hox := hq x (List.mem_of_getElem? hx)
      have h1 := hox.1
      have h2 := hox.2
      have b3 := wt_bd x.1 x.2.1 x.2.2 h1 h2
      have hsum : sumW (l.take (k + 1)) = sumW (l.take k) + wt x.1 x.2.1 x.2.2 := by rw [take_succ_of hx, sumW_snoc]
      obtain ⟨b, o, rfl, hbl, hc⟩ := (hs.later hB).at hx
      have c0 : wr.cell? ⟨b, o + k * 3, none⟩ = some (.string x.1) := hc 0 _ rfl
      have c1 := hc 1 _ rfl
      have c2 := hc 2 _ rfl
      have HS := Lib.hid hsum
      have HX := Lib.hid hx
      have HO := Lib.hid hox
      have HH := Lib.hid hs
      have HC := Lib.hid hc
      have HQ := Lib.hid hq
      clear hsum hx hox hs hc hq
      go_wp2_with (go_at_call 49; refine (charge_c _ _ _ h1 h2 _).mono ?_; rintro e w' ⟨rfl, rfl⟩)
      go_roundg (l.length - (k + 1))
      case measure => have := HG.out; omega
      case rel => exact ⟨k + 1, rfl, by omega, by go_num, by rw [HS.out], hB.alloc hB.size _⟩
    · have hkk : k = l.length := by omega
      subst hkk
      go_wp2
      go_ret
      exact ⟨by simp, hB⟩
end Go.Proofs.Ytdeomnbmbhkecaa.H
