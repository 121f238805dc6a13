/- PileSorts: where an entry stands in a list; the two orders; what is left. No conditions but sizes. -/
import Derived.Test.YtabnpacponkmhaaEHeap3
import Derived.Test.YtabnpacponkmhaaHKnown
namespace Go.Proofs.Ytabnpacponkmhaa.H
open Go.RowKit Go.Deep Go.Proofs Go.Proofs.YtabnpacponkmhaaW.PrintWords
set_option linter.unusedVariables false
set_option linter.unusedSimpArgs false
theorem bytes_inj {a b : ByteArray} : a.toList = b.toList ↔ a = b := by
  rw [ByteArray.toList_eq, ByteArray.toList_eq]
  exact ⟨fun h => ByteArray.ext (Array.ext' h), fun h => by rw [h]⟩
theorem ent_eq (x y : Ent) : x = y ↔ x.1.toList = y.1.toList ∧ x.2.1 = y.2.1 ∧ x.2.2.1 = y.2.2.1 ∧ x.2.2.2.toList = y.2.2.2.toList := by
  rw [bytes_inj, bytes_inj]
  obtain ⟨a, b, c, d⟩ := x
  obtain ⟨a', b', c', d'⟩ := y
  simp
theorem eqE_run (x y : Ent) (W : World) : (binOp .eql 51 (.agg #[.string x.1, .int .u64 x.2.1, .bool x.2.2.1, .string x.2.2.2]) (.agg #[.string y.1, .int .u64 y.2.1, .bool y.2.2.1, .string y.2.2.2])).run Try.prog W = .ok (.bool (decide (x = y))) W := by
  have hd : (x = y) = _ := propext (ent_eq x y)
  simp only [hd]
  go_simp
  (repeat' split) <;> simp_all
set_option maxHeartbeats 3200000 in
set_option maxRecDepth 100000 in
theorem where_c (A : Option Addr) (c : Nat) (l : List Ent) (e : Ent) (w : World) (hs : Sl encE 4 w A l) (he : e ∈ l) :
    Calls Try.prog 22 #[.slice A l.length c, .agg #[.string e.1, .int .u64 e.2.1, .bool e.2.2.1, .string e.2.2.2]] w fun en w' => ∃ q : Nat, en = .returned (.int .i64 (q : Int)) ∧ l[q]? = some e ∧ Below w.heap.size w w' := by
  have hm := hs.1
  have HS := Lib.hid hs
  have HE := Lib.hid he
  obtain ⟨n, hn⟩ : ∃ n, l.length = n := ⟨_, rfl⟩
  have HN := Lib.hid hn
  rw [hn] at hm ⊢
  clear hs he hn
  go_enter Try.func22, Try.ntmps22
  obtain ⟨w2, hw2⟩ : ∃ Z, w.alloc (.cells #[.string e.1, .int .u64 e.2.1, .bool e.2.2.1, .string e.2.2.2] 51) = Z := ⟨_, rfl⟩
  have hb2 : Below w.heap.size w w2 := by rw [← hw2]; exact (Below.refl _ _).alloc (Nat.le_refl _) _
  have r2 : w2.heap[w.heap.size]? = some (.cells #[.string e.1, .int .u64 e.2.1, .bool e.2.2.1, .string e.2.2.2] 51 (0, 0)) := by rw [← hw2]; exact heap_alloc_new _ _
  have HB2 := Lib.hid hb2
  have R2 := Lib.hid r2
  clear hb2 r2
  go_wp2_with fail
  try rw [hw2]
  go_loopw [5] (fun s5 wr => ∃ i : Nat, s5 = .int .i64 (i : Int) ∧ i ≤ n ∧ (∀ k, k < i → l[k]? ≠ some e) ∧ Below w2.heap.size w2 wr) (fun s5 wr => n - (intOf s5).toNat)
  case atStart => exact ⟨0, rfl, by omega, fun k hk => by omega, Below.refl _ _⟩
  case round =>
    obtain ⟨i, rfl, hi, hno, hb⟩ := hrel
    generalize wr = wq at *
    have HB := Lib.hid (HB2.out.trans (hb.mono HB2.out.size))
    have HBQ := Lib.hid hb
    have HNO := Lib.hid hno
    obtain ⟨⟨y0, y1, y2, y3⟩, _⟩ := cells4 (blk_below R2.out hb)
    clear hb hno
    have i1 : (0 : Int) ≤ i := by omega
    by_cases hlt : i < n
    · have i2 : (i : Int) < n := by omega
      obtain ⟨x, hx⟩ := getElem?_of_lt (l := l) (by rw [HN.out]; exact hlt : i < l.length)
      obtain ⟨b, o, hA, _, hc⟩ := (HS.out.later HB.out).at hx
      subst hA
      have x0 : wq.cell? ⟨b, o + i * 4, none⟩ = some (.string x.1) := hc 0 _ rfl
      have x1 : wq.cell? ⟨b, o + i * 4 + 1, none⟩ = some (.int .u64 x.2.1) := hc 1 _ rfl
      have x2 : wq.cell? ⟨b, o + i * 4 + 2, none⟩ = some (.bool x.2.2.1) := hc 2 _ rfl
      have x3 : wq.cell? ⟨b, o + i * 4 + 3, none⟩ = some (.string x.2.2.2) := hc 3 _ rfl
      have hq := eqE_run x e
      have HX := Lib.hid hx
      clear hc hx
      go_wp2_with fail
      go_region
      by_cases hxe : x = e
      · have hd : decide (x = e) = true := decide_eq_true hxe
        simp only [hd]
        go_wp2
        go_ret
        exact ⟨i, rfl, by rw [← hxe]; exact HX.out, HB.out.drew⟩
      · have hd : decide (x = e) = false := decide_eq_false hxe
        simp only [hd]
        go_wp2
        go_roundw
        case rel => exact ⟨i + 1, by first | rfl | simp, by omega, fun k hk => by
          rcases Nat.lt_succ_iff_lt_or_eq.1 hk with h | h
          · exact HNO.out k h
          · rw [h, HX.out]
            intro h9
            injection h9 with h9
            exact hxe h9, HBQ.out.drew⟩
        case measure => simp [intOf]; omega
    · have hni : n = i := by omega
      obtain ⟨k, hk⟩ := List.getElem?_of_mem HE.out
      have hkl := (List.getElem?_eq_some_iff.1 hk).1
      rw [HN.out] at hkl
      exact absurd hk (HNO.out k (by omega))
/-- The two orders. -/
def lessB (byKey : Bool) (x y : Ent) : Bool := if byKey then decide (x.1.size < y.1.size) else decide (y.2.1 < x.2.1)
theorem lessB_weak (byKey : Bool) : Weak (lessB byKey) := by
  refine ⟨fun x y h => ?_, fun x y z h1 h2 => ?_⟩
  · cases byKey <;> simp [lessB] at h ⊢ <;> omega
  · cases byKey <;> simp [lessB] at h1 h2 ⊢ <;> omega
theorem erase_at {l : List Ent} {p : Nat} {e : Ent} (h : l[p]? = some e) : l.Perm (e :: (l.take p ++ l.drop (p + 1))) := by
  have hp : p < l.length := (List.getElem?_eq_some_iff.1 h).1
  have he : l[p] = e := (List.getElem?_eq_some_iff.1 h).2
  have h1 : l = l.take p ++ e :: l.drop (p + 1) := by
    rw [← he, List.getElem_cons_drop]
    exact (List.take_append_drop p l).symm
  exact (List.Perm.of_eq h1).trans List.perm_middle
end Go.Proofs.Ytabnpacponkmhaa.H
