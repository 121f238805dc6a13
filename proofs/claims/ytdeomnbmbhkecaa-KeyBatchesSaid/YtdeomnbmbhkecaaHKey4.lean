/- The document's order of two texts, of two entries; the law KeyCompares, walked. Conditions: a text takes at most 2^47 - 4096 bytes. -/
import Derived.Test.YtdeomnbmbhkecaaHKey3
import Derived.Deep.QuietTactic
namespace Go.Proofs.Ytdeomnbmbhkecaa.H
open Go.RowKit Go.Deep Go.Proofs.YtdeomnbmbhkecaaW.PrintWords
set_option linter.unusedVariables false
set_option linter.unusedSimpArgs false
theorem drop_byte (s : ByteArray) (i : Nat) (h : i < s.size) : s.toList.drop i = s[i] :: s.toList.drop (i + 1) := by
  have hl : i < s.toList.length := by rw [toList_len]; exact h
  rw [List.drop_eq_getElem_cons hl]
  congr 1
  have e : s.toList = s.data.toList := ByteArray.toList_eq s
  simp only [e, Array.getElem_toList]
  rfl
theorem drop_end (s : ByteArray) (i : Nat) (h : s.size ≤ i) : s.toList.drop i = [] := List.drop_of_length_le (by rw [toList_len]; exact h)
/-- Nothing but draws. -/
def Dr (w w' : World) : Prop := ∃ n, w' = w.drewN n
theorem Dr.refl (w : World) : Dr w w := ⟨0, rfl⟩
theorem Dr.drewN {w W : World} (h : Dr w W) (n : Nat) : Dr w (W.drewN n) := by
  obtain ⟨m, rfl⟩ := h
  exact ⟨m + n, by simp [World.drewN, Nat.add_assoc]⟩
theorem Dr.below {w W : World} (h : Dr w W) (B : Nat) : Below B w W := by
  obtain ⟨m, rfl⟩ := h
  exact ⟨rfl, rfl, rfl, Nat.le_refl _, fun _ _ => rfl⟩
theorem below_c (a b : ByteArray) (ha : a.size ≤ 140737488351232) (hb : b.size ≤ 140737488351232) (w : World) :
    Calls Try.prog 53 #[.string a, .string b] w fun e w' => e = .returned (.bool (Op.bytesLess a.toList b.toList)) ∧ Dr w w' := by
  go_enter Try.func53, Try.ntmps53
  go_wp2
  go_loopg [5] a.size (fun gk v5 wr => ∃ k : Nat, gk = a.size - k ∧ k ≤ a.size ∧ k ≤ b.size ∧ v5 = .int .i64 k ∧ Op.bytesLess a.toList b.toList = Op.bytesLess (a.toList.drop k) (b.toList.drop k) ∧ Dr w wr)
  case atStart => exact ⟨0, by omega, by omega, by omega, rfl, by simp, Dr.refl _⟩
  case round =>
    obtain ⟨k, hg, hk, hk2, rfl, hl, hB⟩ := hrel
    have HG := Lib.hid hg
    have HL := Lib.hid hl
    clear hg hl
    by_cases h1 : k < a.size
    · have i1 : (k : Int) < (a.size : Int) := by omega
      have i0 : (0 : Int) ≤ (k : Int) := by omega
      by_cases h2 : k < b.size
      · have i2 : (k : Int) < (b.size : Int) := by omega
        by_cases e : a[k] = b[k]
        · have e1 : (((a[k].toNat : Nat) : Int) != ((b[k].toNat : Nat) : Int)) = false := by simp [e]
          have E := Lib.hid e
          clear e
          go_wp2_with fail
          go_quiet (fail)
          go_wp2
          go_roundg (a.size - (k + 1))
          case measure => have := HG.out; omega
          case rel =>
            refine ⟨k + 1, rfl, by omega, by omega, by go_num, ?_, hB.drewN _⟩
            rw [HL.out, drop_byte a k h1, drop_byte b k h2]
            simp [Op.bytesLess, E.out]
        · have e1 : (((a[k].toNat : Nat) : Int) != ((b[k].toNat : Nat) : Int)) = true := by
            have : ¬ a[k].toNat = b[k].toNat := fun h => e (UInt8.toNat_inj.1 h)
            rw [bne_iff_ne]; omega
          have hfin : decide (((a[k].toNat : Nat) : Int) < ((b[k].toNat : Nat) : Int)) = Op.bytesLess a.toList b.toList := by
            rw [HL.out, drop_byte a k h1, drop_byte b k h2]
            simp [Op.bytesLess, e, UInt8.lt_iff_toNat_lt]
          have HF := Lib.hid hfin
          clear hfin e
          go_wp2_with fail
          go_quiet (fail)
          go_wp2_with fail
          go_quiet (fail)
          go_wp2
          go_ret
          exact ⟨by rw [← HF.out]; simp, (hB.drewN _).drewN _⟩
      · have i2 : ¬ (k : Int) < (b.size : Int) := by omega
        have hfin : decide ((a.size : Int) < (b.size : Int)) = Op.bytesLess a.toList b.toList := by
          rw [HL.out, drop_byte a k h1, drop_end b k (by omega)]
          have : ¬ (a.size : Int) < (b.size : Int) := by omega
          simp only [this, decide_false]
          rfl
        have HF := Lib.hid hfin
        clear hfin
        go_wp2
        go_ret
        exact ⟨by rw [← HF.out]; simp, hB⟩
    · have hfin : decide ((a.size : Int) < (b.size : Int)) = Op.bytesLess a.toList b.toList := by
        rw [HL.out, drop_end a k (by omega)]
        by_cases h2 : k < b.size
        · rw [drop_byte b k h2]
          have : (a.size : Int) < (b.size : Int) := by omega
          simp only [this, decide_true]
          rfl
        · rw [drop_end b k (by omega)]
          have : ¬ (a.size : Int) < (b.size : Int) := by omega
          simp only [this, decide_false]
          rfl
      have HF := Lib.hid hfin
      clear hfin
      go_wp2
      go_ret
      exact ⟨by rw [← HF.out]; simp, hB⟩
theorem cmpE_lt {a b : List UInt8} (m n : Int) (h : Op.bytesLess a b = true) : cmpE a b m n = -1 := by simp [cmpE, cmpS, or2, h]
theorem cmpE_gt {a b : List UInt8} (m n : Int) (h : Op.bytesLess a b = false) (h2 : Op.bytesLess b a = true) : cmpE a b m n = 1 := by simp [cmpE, cmpS, or2, h, h2]
theorem cmpE_eq {a b : List UInt8} (m n : Int) (h : Op.bytesLess a b = false) (h2 : Op.bytesLess b a = false) : cmpE a b m n = cmpN n m := by simp [cmpE, cmpS, or2, h, h2]
theorem cmpE_self (a : List UInt8) (m : Int) : cmpE a a m m = 0 := by rw [cmpE_eq m m (less_irrefl a) (less_irrefl a)]; simp [cmpN]
theorem refcompare_c (s : ByteArray) (m : Int) (d : Bool) (v : ByteArray) (s' : ByteArray) (m' : Int) (d' : Bool) (v' : ByteArray) (hs : s.size ≤ 140737488351232) (hs' : s'.size ≤ 140737488351232) (w : World) :
    Calls Try.prog 32 #[.agg #[.string s, .int .u64 m, .bool d, .string v], .agg #[.string s', .int .u64 m', .bool d', .string v']] w fun e w' => e = .returned (.int .i64 (cmpE s.toList s'.toList m m')) ∧ Below w.heap.size w w' := by
  have hB0 : ∀ n k, Below w.heap.size w ((((w.alloc (.cells #[.string s, .int .u64 m, .bool d, .string v] 55)).alloc (.cells #[.string s', .int .u64 m', .bool d', .string v'] 55)).drewN n).drewN k) := fun n k =>
    (((Below.refl _ _).alloc (Nat.le_refl _) _).alloc (by simp) _).trans ((Dr.drewN (Dr.drewN (Dr.refl _) n) k).below _)
  cases h1 : Op.bytesLess s.toList s'.toList with
  | true =>
    have H := Lib.hid (cmpE_lt m m' h1)
    go_enter Try.func32, Try.ntmps32
    go_wp2_with (go_at_call 53; refine (below_c _ _ hs hs' _).mono ?_; rintro e w1 ⟨rfl, n, rfl⟩)
    go_ret
    exact ⟨by rw [H.out]; simp, hB0 n 0⟩
  | false =>
    cases h2 : Op.bytesLess s'.toList s.toList with
    | true =>
      have H := Lib.hid (cmpE_gt m m' h1 h2)
      go_enter Try.func32, Try.ntmps32
      go_wp2_with fail
      refine (below_c _ _ hs hs' _).mono ?_
      rintro e w1 ⟨rfl, n, rfl⟩
      go_wp2_with fail
      refine (below_c _ _ hs' hs _).mono ?_
      rintro e w1 ⟨rfl, k, rfl⟩
      go_wp2
      go_ret
      exact ⟨by rw [H.out]; simp, hB0 0 (n + k)⟩
    | false =>
      have H := Lib.hid (cmpE_eq m m' h1 h2)
      have key : ∀ r, cmpN m' m = r → Calls Try.prog 32 #[.agg #[.string s, .int .u64 m, .bool d, .string v], .agg #[.string s', .int .u64 m', .bool d', .string v']] w fun e w' => e = .returned (.int .i64 r) ∧ Below w.heap.size w w' := by
        intro r hr
        unfold cmpN at hr
        by_cases h3 : m' < m
        · rw [if_pos h3] at hr
          subst hr
          go_enter Try.func32, Try.ntmps32
          go_wp2_with fail
          refine (below_c _ _ hs hs' _).mono ?_
          rintro e w1 ⟨rfl, n, rfl⟩
          go_wp2_with fail
          refine (below_c _ _ hs' hs _).mono ?_
          rintro e w1 ⟨rfl, k, rfl⟩
          go_wp2
          go_ret
          exact ⟨by simp, hB0 0 (n + k)⟩
        · rw [if_neg h3] at hr
          by_cases h4 : m < m'
          · rw [if_pos h4] at hr
            subst hr
            go_enter Try.func32, Try.ntmps32
            go_wp2_with fail
            refine (below_c _ _ hs hs' _).mono ?_
            rintro e w1 ⟨rfl, n, rfl⟩
            go_wp2_with fail
            refine (below_c _ _ hs' hs _).mono ?_
            rintro e w1 ⟨rfl, k, rfl⟩
            go_wp2
            go_ret
            exact ⟨by simp, hB0 0 (n + k)⟩
          · rw [if_neg h4] at hr
            subst hr
            go_enter Try.func32, Try.ntmps32
            go_wp2_with fail
            refine (below_c _ _ hs hs' _).mono ?_
            rintro e w1 ⟨rfl, n, rfl⟩
            go_wp2_with fail
            refine (below_c _ _ hs' hs _).mono ?_
            rintro e w1 ⟨rfl, k, rfl⟩
            go_wp2
            go_ret
            exact ⟨by simp, hB0 0 (n + k)⟩
      rw [H.out]
      exact key _ rfl
theorem box2a (w : World) (c0 c1 : Array Value) (t u : TypeId) (i : Nat) : ((w.alloc (.cells c0 t)).alloc (.cells c1 u)).cell? ⟨w.heap.size, i, none⟩ = c0[i]? := by
  rw [World.cell?_alloc_lt _ _ _ (by simp)]
  exact cell_of_row _ _ _ _ _ _ (heap_alloc_new w _)
theorem box2b (w : World) (c0 c1 : Array Value) (t u : TypeId) (i : Nat) : ((w.alloc (.cells c0 t)).alloc (.cells c1 u)).cell? ⟨w.heap.size + 1, i, none⟩ = c1[i]? := by
  have := heap_alloc_new (w.alloc (.cells c0 t)) (.cells c1 u)
  simp only [World.size_alloc] at this
  exact cell_of_row _ _ _ _ _ _ this
/-- The law KeyCompares. -/
theorem keyCompares_c (s : ByteArray) (m : Int) (d : Bool) (v : ByteArray) (s' : ByteArray) (m' : Int) (d' : Bool) (v' : ByteArray) (hs : s.size ≤ 140737488351232) (hs' : s'.size ≤ 140737488351232) (w : World) :
    Calls Try.prog 12 #[.agg #[.string s, .int .u64 m, .bool d, .string v], .agg #[.string s', .int .u64 m', .bool d', .string v']] w fun e w' => e = .returned (.bool true) ∧ Below w.heap.size w w' := by
  go_enter Try.func12, Try.ntmps12
  have hself : cmpE s.toList s.toList m m = 0 := cmpE_self _ _
  have hB0 : Below w.heap.size w ((w.alloc (.cells #[.string s, .int .u64 m, .bool d, .string v] 55)).alloc (.cells #[.string s', .int .u64 m', .bool d', .string v'] 55)) :=
    ((Below.refl _ _).alloc (Nat.le_refl _) _).alloc (by simp) _
  go_wp2_with fail
  generalize hW : (w.alloc (.cells #[.string s, .int .u64 m, .bool d, .string v] 55)).alloc (.cells #[.string s', .int .u64 m', .bool d', .string v'] 55) = W at hB0 ⊢
  have z : w.heap.size + 1 < W.heap.size := by rw [← hW]; simp
  have a0 : W.cell? ⟨w.heap.size, 0, none⟩ = some (.string s) := by rw [← hW]; exact box2a _ _ _ _ _ _
  have a1 : W.cell? ⟨w.heap.size, 1, none⟩ = some (.int .u64 m) := by rw [← hW]; exact box2a _ _ _ _ _ _
  have a2 : W.cell? ⟨w.heap.size, 2, none⟩ = some (.bool d) := by rw [← hW]; exact box2a _ _ _ _ _ _
  have a3 : W.cell? ⟨w.heap.size, 3, none⟩ = some (.string v) := by rw [← hW]; exact box2a _ _ _ _ _ _
  have b0 : W.cell? ⟨w.heap.size + 1, 0, none⟩ = some (.string s') := by rw [← hW]; exact box2b _ _ _ _ _ _
  have b1 : W.cell? ⟨w.heap.size + 1, 1, none⟩ = some (.int .u64 m') := by rw [← hW]; exact box2b _ _ _ _ _ _
  have b2 : W.cell? ⟨w.heap.size + 1, 2, none⟩ = some (.bool d') := by rw [← hW]; exact box2b _ _ _ _ _ _
  have b3 : W.cell? ⟨w.heap.size + 1, 3, none⟩ = some (.string v') := by rw [← hW]; exact box2b _ _ _ _ _ _
  clear hW
  go_region_held3 (fun w' => w.heap.size + 1 < w'.heap.size ∧ Below w.heap.size w w' ∧ w'.cell? ⟨w.heap.size, 0, none⟩ = some (.string s) ∧ w'.cell? ⟨w.heap.size, 1, none⟩ = some (.int .u64 m) ∧ w'.cell? ⟨w.heap.size, 2, none⟩ = some (.bool d) ∧ w'.cell? ⟨w.heap.size, 3, none⟩ = some (.string v) ∧
      w'.cell? ⟨w.heap.size + 1, 0, none⟩ = some (.string s') ∧ w'.cell? ⟨w.heap.size + 1, 1, none⟩ = some (.int .u64 m') ∧ w'.cell? ⟨w.heap.size + 1, 2, none⟩ = some (.bool d') ∧ w'.cell? ⟨w.heap.size + 1, 3, none⟩ = some (.string v'))
    (first | (refine ⟨?_, ?_, a0, a1, a2, a3, b0, b1, b2, b3⟩; (simp; omega); exact hB0.drew) | go_keep | (go_split_ands; refine ⟨by have := hb.size; omega, Below.trans (by assumption) (hb.mono (by omega)), ?_, ?_, ?_, ?_, ?_, ?_, ?_, ?_⟩ <;> (rw [hb.cell (by simp; omega)]; assumption)))
    (first | (go_at_call 31; refine (compare_c _ _ _ _ _ _ _ _ _).mono ?_; rintro e w1 ⟨rfl, hb⟩) | (go_at_call 32; refine (refcompare_c _ _ _ _ _ _ _ _ (by assumption) (by assumption) _).mono ?_; rintro e w1 ⟨rfl, hb⟩))
  rename_i hH
  have hfin := hH.2.1
  clear hH
  go_wp2
  go_ret
  exact ⟨by simp, hfin⟩
end Go.Proofs.Ytdeomnbmbhkecaa.H
