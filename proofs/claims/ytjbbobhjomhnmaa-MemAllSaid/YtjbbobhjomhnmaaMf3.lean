/- The document's memtable (screeref6.Table): Get, From. Conditions: sizes. -/
import Derived.Test.YtjbbobhjomhnmaaMf2
import Derived.Test.YtjbbobhjomhnmaaMe5
namespace Go.Proofs.Ytjbbobhjomhnmaa.H
open Go Go.RowKit Go.Deep Go.Shelf Go.Proofs Go.Proofs.YtjbbobhjomhnmaaW.PrintWords
set_option linter.unusedVariables false
set_option linter.unusedSimpArgs false
set_option maxHeartbeats 1600000 in
set_option maxRecDepth 100000 in
theorem refGet6_c {w : World} {m r : Nat} {R : Nat → Prop} {P Q : List Ent} {fz : Bool} (h : RTab w m r R (P ++ Q) fz) (k : ByteArray) (q : Int) (h1 : ∀ x ∈ P, ltE x (k, q, false, ⟨#[]⟩)) (h2 : ∀ x ∈ Q, ¬ ltE x (k, q, false, ⟨#[]⟩)) :
    Calls Try.prog 97 #[.pointer (some ⟨m, 0, none⟩), .string k, .int .u64 q] w fun e w' => e = .returned (.tuple #[.agg (encE (getP k Q).1).toArray, .bool (getP k Q).2]) ∧ Below w.heap.size w w' := by
  obtain ⟨w2, hw2⟩ : ∃ w2, w.alloc (.cells #[.string ⟨#[]⟩, .int .u64 0, .bool false, .string ⟨#[]⟩] 53) = w2 := ⟨_, rfl⟩
  have hb2 : Below w.heap.size w w2 := by rw [← hw2]; exact (Below.refl _ _).alloc (Nat.le_refl _) _
  have r6 : w2.heap[w.heap.size]? = some (.cells #[.string ⟨#[]⟩, .int .u64 0, .bool false, .string ⟨#[]⟩] 53 (0, 0)) := by rw [← hw2]; exact heap_alloc_new _ _
  have h3 := h.later hb2
  have t0 := h3.c0
  obtain ⟨hs, h4, h5⟩ := h3.rf
  have hsk := refSeek_c h5 k q h1 h2
  have HB2 := Lib.hid hb2
  have R6 := Lib.hid r6
  clear h h1 h2 h3 h4 h5 hb2 r6
  cases Q with
  | nil =>
    have HS := Lib.hid (show Calls Try.prog 74 #[.pointer (some ⟨r, 0, none⟩), .string k, .int .u64 q] w2 fun e w' => e = .returned (.tuple #[.agg #[.string ⟨#[]⟩, .int .u64 0, .bool false, .string ⟨#[]⟩], .bool false]) ∧ Below w2.heap.size w2 w' from hsk)
    rw [show getP k [] = (zeroE, false) from rfl]
    clear hsk
    go_enter Try.func97, Try.ntmps97
    go_wp2_with fail
    refine HS.out.mono ?_
    rintro e w3 ⟨rfl, hb3⟩
    obtain ⟨X, hX⟩ : ∃ Z, w3.alloc (.cells #[.string ⟨#[]⟩, .int .u64 0, .bool false, .string ⟨#[]⟩] 53) = Z := ⟨_, rfl⟩
    have rX : X.heap[w3.heap.size]? = some (.cells #[.string ⟨#[]⟩, .int .u64 0, .bool false, .string ⟨#[]⟩] 53 (0, 0)) := by rw [← hX]; exact heap_alloc_new _ _
    obtain ⟨⟨v0, v1, v2, v3⟩, u0, u1, u2, u3⟩ := cells4 rX
    obtain ⟨Xa, hXa⟩ : ∃ Z4, (((X.setCell ⟨w3.heap.size, 0, none⟩ (.string ⟨#[]⟩)).setCell ⟨w3.heap.size, 1, none⟩ (.int .u64 0)).setCell ⟨w3.heap.size, 2, none⟩ (.bool false)).setCell ⟨w3.heap.size, 3, none⟩ (.string ⟨#[]⟩) = Z4 := ⟨_, rfl⟩
    have qX : Xa.heap[w3.heap.size]? = some (.cells #[.string ⟨#[]⟩, .int .u64 0, .bool false, .string ⟨#[]⟩] 53 (0, 0)) := by rw [← hXa]; exact put4_heap rX
    have bX : Below w3.heap.size w3 Xa := by
      rw [← hXa, ← hX]
      exact ((Below.refl _ _).alloc (Nat.le_refl _) _).trans ((put4_upd (S := fun k => k = w3.heap.size) _ _ _ _ _ rfl).bel (fun k hk => by omega) (by simp))
    have BX := Lib.hid bX
    have QX := Lib.hid qX
    clear bX qX rX
    have r6a := blk_below (blk_below R6.out hb3) BX.out
    obtain ⟨⟨y0, y1, y2, y3⟩, f0, f1, f2, f3⟩ := cells4 r6a
    have HB3 := Lib.hid ((HB2.out.trans (hb3.mono HB2.out.size)).trans (BX.out.mono (HB2.out.trans (hb3.mono HB2.out.size)).size))
    have R6A := Lib.hid r6a
    clear hb3 r6a
    go_wp2
    refine bodyPost_ret (res_cell_tmp rfl _ _ w.heap.size zeroE _ rfl rfl (put4_heap R6A.out)) rfl ?_
    exact ⟨rfl, HB3.out.trans ((put4_upd (S := fun k => k = w.heap.size) _ _ _ _ _ rfl).bel (fun k hk => by omega) HB3.out.size)⟩
  | cons x tl =>
    have HS := Lib.hid (show Calls Try.prog 74 #[.pointer (some ⟨r, 0, none⟩), .string k, .int .u64 q] w2 fun e w' => e = .returned (.tuple #[.agg #[.string x.1, .int .u64 x.2.1, .bool x.2.2.1, .string x.2.2.2], .bool true]) ∧ Below w2.heap.size w2 w' from hsk)
    clear hsk
    by_cases hk : x.1.toList = k.toList
    · rw [show getP k (x :: tl) = (x, true) from if_pos hk]
      go_enter Try.func97, Try.ntmps97
      go_wp2_with fail
      refine HS.out.mono ?_
      rintro e w3 ⟨rfl, hb3⟩
      obtain ⟨X, hX⟩ : ∃ Z, w3.alloc (.cells #[.string ⟨#[]⟩, .int .u64 0, .bool false, .string ⟨#[]⟩] 53) = Z := ⟨_, rfl⟩
      have rX : X.heap[w3.heap.size]? = some (.cells #[.string ⟨#[]⟩, .int .u64 0, .bool false, .string ⟨#[]⟩] 53 (0, 0)) := by rw [← hX]; exact heap_alloc_new _ _
      obtain ⟨⟨v0, v1, v2, v3⟩, u0, u1, u2, u3⟩ := cells4 rX
      obtain ⟨Xa, hXa⟩ : ∃ Z4, (((X.setCell ⟨w3.heap.size, 0, none⟩ (.string x.1)).setCell ⟨w3.heap.size, 1, none⟩ (.int .u64 x.2.1)).setCell ⟨w3.heap.size, 2, none⟩ (.bool x.2.2.1)).setCell ⟨w3.heap.size, 3, none⟩ (.string x.2.2.2) = Z4 := ⟨_, rfl⟩
      have qX : Xa.heap[w3.heap.size]? = some (.cells #[.string x.1, .int .u64 x.2.1, .bool x.2.2.1, .string x.2.2.2] 53 (0, 0)) := by rw [← hXa]; exact put4_heap rX
      have bX : Below w3.heap.size w3 Xa := by
        rw [← hXa, ← hX]
        exact ((Below.refl _ _).alloc (Nat.le_refl _) _).trans ((put4_upd (S := fun k => k = w3.heap.size) _ _ _ _ _ rfl).bel (fun k hk => by omega) (by simp))
      have BX := Lib.hid bX
      have QX := Lib.hid qX
      clear bX qX rX
      have r6a := blk_below (blk_below R6.out hb3) BX.out
      obtain ⟨⟨y0, y1, y2, y3⟩, f0, f1, f2, f3⟩ := cells4 r6a
      obtain ⟨⟨z0, z1, z2, z3⟩, _⟩ := cells4 QX.out
      have HB3 := Lib.hid ((HB2.out.trans (hb3.mono HB2.out.size)).trans (BX.out.mono (HB2.out.trans (hb3.mono HB2.out.size)).size))
      have R6A := Lib.hid r6a
      clear hb3 r6a
      go_wp2
      refine bodyPost_ret (res_cell_tmp rfl _ _ w.heap.size x _ rfl rfl (put4_heap R6A.out)) rfl ?_
      exact ⟨rfl, HB3.out.trans ((put4_upd (S := fun k => k = w.heap.size) _ _ _ _ _ rfl).bel (fun k hk => by omega) HB3.out.size)⟩
    · rw [show getP k (x :: tl) = (zeroE, false) from if_neg hk]
      go_enter Try.func97, Try.ntmps97
      go_wp2_with fail
      refine HS.out.mono ?_
      rintro e w3 ⟨rfl, hb3⟩
      obtain ⟨X, hX⟩ : ∃ Z, w3.alloc (.cells #[.string ⟨#[]⟩, .int .u64 0, .bool false, .string ⟨#[]⟩] 53) = Z := ⟨_, rfl⟩
      have rX : X.heap[w3.heap.size]? = some (.cells #[.string ⟨#[]⟩, .int .u64 0, .bool false, .string ⟨#[]⟩] 53 (0, 0)) := by rw [← hX]; exact heap_alloc_new _ _
      obtain ⟨⟨v0, v1, v2, v3⟩, u0, u1, u2, u3⟩ := cells4 rX
      obtain ⟨Xa, hXa⟩ : ∃ Z4, (((X.setCell ⟨w3.heap.size, 0, none⟩ (.string x.1)).setCell ⟨w3.heap.size, 1, none⟩ (.int .u64 x.2.1)).setCell ⟨w3.heap.size, 2, none⟩ (.bool x.2.2.1)).setCell ⟨w3.heap.size, 3, none⟩ (.string x.2.2.2) = Z4 := ⟨_, rfl⟩
      have qX : Xa.heap[w3.heap.size]? = some (.cells #[.string x.1, .int .u64 x.2.1, .bool x.2.2.1, .string x.2.2.2] 53 (0, 0)) := by rw [← hXa]; exact put4_heap rX
      have bX : Below w3.heap.size w3 Xa := by
        rw [← hXa, ← hX]
        exact ((Below.refl _ _).alloc (Nat.le_refl _) _).trans ((put4_upd (S := fun k => k = w3.heap.size) _ _ _ _ _ rfl).bel (fun k hk => by omega) (by simp))
      have BX := Lib.hid bX
      have QX := Lib.hid qX
      clear bX qX rX
      have r6a := blk_below (blk_below R6.out hb3) BX.out
      obtain ⟨⟨y0, y1, y2, y3⟩, f0, f1, f2, f3⟩ := cells4 r6a
      obtain ⟨⟨z0, z1, z2, z3⟩, _⟩ := cells4 QX.out
      have HB3 := Lib.hid ((HB2.out.trans (hb3.mono HB2.out.size)).trans (BX.out.mono (HB2.out.trans (hb3.mono HB2.out.size)).size))
      have R6A := Lib.hid r6a
      clear hb3 r6a
      have hk' : (x.1.toList == k.toList) = false := by simpa using hk
      go_wp2
      refine bodyPost_ret (res_cell_tmp rfl _ _ w.heap.size zeroE _ rfl rfl (put4_heap R6A.out)) rfl ?_
      exact ⟨rfl, HB3.out.trans ((put4_upd (S := fun k => k = w.heap.size) _ _ _ _ _ rfl).bel (fun k hk => by omega) HB3.out.size)⟩
theorem list_end {α : Type} (l : List α) : l = [] ∨ ∃ p x, l = p ++ [x] := by
  rcases List.eq_nil_or_concat l with h | ⟨p, x, h⟩
  · exact .inl h
  · exact .inr ⟨p, x, by rw [h]; simp⟩
theorem behind6 {e : Ent} {key : ByteArray} (hq : e.2.1 ≤ 18446744073709551615) : ¬ ltE e (key, 18446744073709551615, false, ⟨#[]⟩) ↔ Op.bytesLess e.1.toList key.toList = false := by
  constructor
  · intro h
    cases hb : Op.bytesLess e.1.toList key.toList with
    | false => rfl
    | true => exact absurd ((ltE_iff _ _).2 (.inl hb)) h
  · intro h hl
    rcases (ltE_iff _ _).1 hl with h1 | ⟨_, h1⟩
    · simp only at h1
      rw [h] at h1
      cases h1
    · simp only at h1
      omega
/-- What From gives of a list. -/
def fromT (key : ByteArray) (q : Int) (l : List Ent) : List Ent := thin q (notAhead key 18446744073709551615 l)
theorem last_thin (q : Int) (l : List Ent) : (thinF q l).1 = (thin q l).getLast?.map (·.1) := by
  have key : ∀ (l : List Ent) (s : Option ByteArray × List Ent), s.1 = s.2.getLast?.map (·.1) → (l.foldl (thinS q) s).1 = (l.foldl (thinS q) s).2.getLast?.map (·.1) := by
    intro l
    induction l with
    | nil => exact fun s h => h
    | cons e l ih =>
      intro s h
      refine ih _ ?_
      unfold thinS
      split
      · exact h
      · simp
  exact key l (none, []) rfl
theorem fromT_low {key : ByteArray} {q : Int} {l : List Ent} {x : Ent} (hx : x.2.1 ≤ 18446744073709551615) (h : Op.bytesLess x.1.toList key.toList = true) : fromT key q (l ++ [x]) = fromT key q l := by
  unfold fromT notAhead
  rw [List.filter_append]
  have : ltE x (key, 18446744073709551615, false, ⟨#[]⟩) := (ltE_iff _ _).2 (.inl h)
  simp [this]
theorem fromT_in {key : ByteArray} {q : Int} {l : List Ent} {x : Ent} (hx : x.2.1 ≤ 18446744073709551615) (h : Op.bytesLess x.1.toList key.toList = false) :
    fromT key q (l ++ [x]) = if q < x.2.1 ∨ (fromT key q l).getLast?.map (·.1) = some x.1 then fromT key q l else fromT key q l ++ [x] := by
  have e1 : notAhead key 18446744073709551615 (l ++ [x]) = notAhead key 18446744073709551615 l ++ [x] := by
    unfold notAhead
    rw [List.filter_append]
    have := (behind6 hx).2 h
    simp [this]
  unfold fromT
  rw [e1, ← last_thin]
  unfold thin
  rw [thinF_snoc]
  unfold thinS skipB
  obtain ⟨g, o⟩ := thinF q (notAhead key 18446744073709551615 l)
  cases g with
  | none => by_cases hq : q < x.2.1 <;> simp [hq]
  | some k =>
    by_cases hk : k = x.1
    · simp [hk]
    · have : ¬ x.1.toList = k.toList := fun e => hk (toList_inj e.symm)
      by_cases hq : q < x.2.1 <;> simp [hq, hk, this]
theorem fromT_len (key : ByteArray) (q : Int) (l : List Ent) : (fromT key q l).length ≤ l.length := by
  have key2 : ∀ (l : List Ent) (s : Option ByteArray × List Ent), (l.foldl (thinS q) s).2.length ≤ s.2.length + l.length := by
    intro l
    induction l with
    | nil => exact fun s => Nat.le_refl _
    | cons e l ih =>
      intro s
      refine Nat.le_trans (ih _) ?_
      unfold thinS
      split
      · simp
      · simp; omega
  have h1 := key2 (notAhead key 18446744073709551615 l) (none, [])
  have h2 : (notAhead key 18446744073709551615 l).length ≤ l.length := by unfold notAhead; exact List.length_filter_le _ _
  unfold fromT thin thinF
  simp only [List.length_nil, Nat.zero_add] at h1
  omega
set_option maxHeartbeats 6400000 in
set_option maxRecDepth 100000 in
theorem refFrom6_c {w : World} {m r : Nat} {R : Nat → Prop} {es : List Ent} {fz : Bool} (h : RTab w m r R es fz) (hq : ∀ x ∈ es, x.2.1 ≤ 18446744073709551615) (hl : es.length ≤ 1000000) (key : ByteArray) (at_ : Int) :
    Calls Try.prog 99 #[.pointer (some ⟨m, 0, none⟩), .string key, .int .u64 at_] w fun e w' => ∃ v, e = .returned v ∧ Own encE 53 4 w' w.heap.size v (fromT key at_ es) ∧ Below w.heap.size w w' := by
  have HA := Lib.hid (refAll6_c h hq hl)
  have HQ := Lib.hid hq
  obtain ⟨n, hn⟩ : ∃ n, es.length = n := ⟨_, rfl⟩
  have HN := Lib.hid hn
  rw [hn] at hl
  clear h hq hn
  go_enter Try.func99, Try.ntmps99
  go_wp2_with fail
  refine HA.out.mono ?_
  rintro _ w1 ⟨v, rfl, ho, hb⟩
  obtain ⟨A, c, rfl⟩ := own_slice ho
  obtain ⟨_, _, ev, _, hs, _⟩ := ho.slice (fun _ => rfl)
  injection ev with e1 e2 e3
  rw [← e1] at hs
  rw [HN.out]
  have HS := Lib.hid hs
  have HB := Lib.hid hb
  clear ho hb hs e1 e2 e3
  go_wp2_with fail
  go_loopw [7, 9] (fun s7 s9 wr => ∃ j : Nat, s9 = .int .i64 (j : Int) ∧ j ≤ n ∧ Own encE 53 4 wr w1.heap.size s7 (fromT key at_ (es.take j)) ∧ Below w1.heap.size w1 wr) (fun s7 s9 wr => n - (intOf s9).toNat)
  case atStart => exact ⟨0, rfl, by omega, Own.nil _ _ _ _ _, Below.refl _ _⟩
  case round =>
    obtain ⟨j, rfl, hj, ho, hbw⟩ := hrel
    have HBW := Lib.hid hbw
    have HO := Lib.hid ho
    clear hbw ho
    have i1 : (0 : Int) ≤ j := by omega
    by_cases hlt : j < n
    · have i2 : (j : Int) < n := by omega
      obtain ⟨x, hx⟩ := getElem?_of_lt (l := es) (by rw [HN.out]; exact hlt : j < es.length)
      have hqx := HQ.out x (List.mem_of_getElem? hx)
      have HT := Lib.hid (take_snoc hx)
      have HF1 := Lib.hid (fun h => fromT_low (key := key) (q := at_) (l := es.take j) hqx h)
      have HF2 := Lib.hid (fun h => fromT_in (key := key) (q := at_) (l := es.take j) hqx h)
      have HLE := Lib.hid (fromT_len key at_ (es.take j))
      obtain ⟨b, o, hA, hbl, hc⟩ := (HS.out.later HBW.out).at hx
      subst hA
      have c0 : wr.cell? ⟨b, o + j * 4, none⟩ = some (.string x.1) := hc 0 _ rfl
      have c1 : wr.cell? ⟨b, o + j * 4 + 1, none⟩ = some (.int .u64 x.2.1) := hc 1 _ rfl
      have c2 : wr.cell? ⟨b, o + j * 4 + 2, none⟩ = some (.bool x.2.2.1) := hc 2 _ rfl
      have c3 : wr.cell? ⟨b, o + j * 4 + 3, none⟩ = some (.string x.2.2.2) := hc 3 _ rfl
      obtain ⟨ou, hou⟩ : ∃ l, fromT key at_ (es.take j) = l := ⟨_, rfl⟩
      rw [hou] at HO HF1 HF2 HLE
      clear hc hx hbl hou
      obtain ⟨w2, hw2⟩ : ∃ Z, wr.alloc (.cells #[.string x.1, .int .u64 x.2.1, .bool x.2.2.1, .string x.2.2.2] 53) = Z := ⟨_, rfl⟩
      have hb2 : Below wr.heap.size wr w2 := by rw [← hw2]; exact (Below.refl _ _).alloc (Nat.le_refl _) _
      have r2 : w2.heap[wr.heap.size]? = some (.cells #[.string x.1, .int .u64 x.2.1, .bool x.2.2.1, .string x.2.2.2] 53 (0, 0)) := by rw [← hw2]; exact heap_alloc_new _ _
      have HB2 := Lib.hid hb2
      have R2 := Lib.hid r2
      have x0 : w2.cell? ⟨wr.heap.size, 0, none⟩ = some (.string x.1) := (blk_cell r2 0).trans rfl
      have x1 : w2.cell? ⟨wr.heap.size, 1, none⟩ = some (.int .u64 x.2.1) := (blk_cell r2 1).trans rfl
      clear hb2 r2
      by_cases hA : Op.bytesLess x.1.toList key.toList = true
      · go_wp2_with fail
        try rw [hw2]
        go_region
        go_wp2
        go_roundw
        case rel => exact ⟨j + 1, by first | rfl | simp, by omega, by rw [HT.out, HF1.out hA]; exact HO.out.below (HB2.out.drew), (HBW.out.trans (HB2.out.mono HBW.out.size)).drew⟩
        case measure => simp [intOf]; omega
      · have hA : Op.bytesLess x.1.toList key.toList = false := by simpa using hA
        by_cases hB : at_ < x.2.1
        · have hB2 : decide (x.2.1 ≤ at_) = false := decide_eq_false (by omega)
          go_wp2_with fail
          try rw [hw2]
          go_region
          go_wp2
          go_roundw
          case rel => exact ⟨j + 1, by first | rfl | simp, by omega, by rw [HT.out, HF2.out hA, if_pos (.inl hB)]; exact HO.out.below (HB2.out.drew), (HBW.out.trans (HB2.out.mono HBW.out.size)).drew⟩
          case measure => simp [intOf]; omega
        · have hB2 : decide (x.2.1 ≤ at_) = true := decide_eq_true (by omega)
          rcases list_end ou with hou | ⟨op, y, hou⟩
          · subst hou
            obtain ⟨Ao, co, hvo⟩ := own_slice HO.out
            subst hvo
            go_wp2_with fail
            try rw [hw2]
            go_region
            have HD2 := Lib.hid (show Below wr.heap.size wr w2.drew from HB2.out.drew)
            have z0 : w2.drew.cell? ⟨wr.heap.size, 0, none⟩ = some (.string x.1) := x0
            have z1 : w2.drew.cell? ⟨wr.heap.size, 1, none⟩ = some (.int .u64 x.2.1) := x1
            have z2 : w2.drew.cell? ⟨wr.heap.size, 2, none⟩ = some (.bool x.2.2.1) := (blk_cell R2.out 2).trans rfl
            have z3 : w2.drew.cell? ⟨wr.heap.size, 3, none⟩ = some (.string x.2.2.2) := (blk_cell R2.out 3).trans rfl
            go_wp2_with (at_builtin; refine wpList_app rfl (.tmp 50) (.tmp 52) rfl uSlEx infoEx rfl (by decide) (by decide) okE (.slice Ao 0 co) [] rfl (base := w1.heap.size) ?c1 (some ⟨w2.heap.size, 0, none⟩) 1 [x] rfl ?c2 ?c3 ?c4 ?_)
            case c1 => exact (HO.out.below HD2.out).below ((Below.refl _ _).alloc (Nat.le_refl _) _)
            case c2 => exact Sl.one okE _ x _ rfl
            case c3 => have := HLE.out; (try simp at this ⊢); (try omega)
            case c4 => have := HBW.out.size; have := HB2.out.size; simp; omega
            intro v3 w3 ho3 hg3 _
            have hb4 : Below w1.heap.size w1 w3 := (HBW.out.trans (HD2.out.mono HBW.out.size)).trans (((Below.refl _ _).alloc (show w1.heap.size ≤ w2.drew.heap.size from Nat.le_trans HBW.out.size HD2.out.size) _).grown hg3 (by have := HBW.out.size; have := HD2.out.size; simp at this ⊢; omega) (fun k hk => (HO.out.block_lt hk).1))
            have HO3 := Lib.hid (show Own encE 53 4 w3 w1.heap.size v3 ([] ++ [x]) from ho3)
            have HB4 := Lib.hid hb4
            clear ho3 hg3 hb4
            go_wp2
            go_roundw
            case rel => exact ⟨j + 1, by first | rfl | simp, by omega, by rw [HT.out, HF2.out hA, if_neg (by simp; omega)]; exact HO3.out, HB4.out⟩
            case measure => simp [intOf]; omega
          · obtain ⟨pn, hpn⟩ : ∃ n, op.length = n := ⟨_, rfl⟩
            have hol : ou.length = pn + 1 := by rw [hou, List.length_append, hpn]; rfl
            obtain ⟨Ao, co, hvo⟩ := own_slice HO.out
            rw [hol] at hvo
            subst hvo
            obtain ⟨_, _, ev, _, hs8, _⟩ := HO.out.slice (fun _ => rfl)
            injection ev with e1 e2 e3
            rw [← e1] at hs8
            obtain ⟨b8, o8, hA8, _, hc8⟩ := hs8.at (show ou[pn]? = some y by rw [hou, List.getElem?_append_right (by omega), hpn]; simp)
            subst hA8
            have y0 : w2.cell? ⟨b8, o8 + pn * 4, none⟩ = some (.string y.1) := cell_later HB2.out (hc8 0 _ rfl)
            have p0 : (0 : Int) ≤ (pn : Int) := by omega
            have p1 : (pn : Int) < (pn : Int) + 1 := by omega
            have p2 : ((pn : Int) + 1 == 0) = false := by rw [beq_eq_false_iff_ne]; omega
            have HOL := Lib.hid hol
            have HOU := Lib.hid hou
            have hpn9 : pn < 1000000 := by have := HLE.out; rw [hol] at this; have h2 := List.length_take_le j es; omega
            clear hs8 hc8 e1 e2 e3 hol hou
            by_cases hk : y.1 = x.1
            · have hk2 : (y.1.toList == x.1.toList) = true := by rw [hk]; exact beq_self_eq_true _
              go_wp2_with fail
              try rw [hw2]
              go_region
              go_wp2
              go_roundw
              case rel => exact ⟨j + 1, by first | rfl | simp, by omega, by rw [HT.out, HF2.out hA, if_pos (.inr (by rw [HOU.out]; simp [hk]))]; exact HO.out.below (HB2.out.drew), (HBW.out.trans (HB2.out.mono HBW.out.size)).drew⟩
              case measure => simp [intOf]; omega
            · have hk2 : (y.1.toList == x.1.toList) = false := by rw [beq_eq_false_iff_ne]; exact fun e => hk (toList_inj e)
              go_wp2_with fail
              try rw [hw2]
              go_region
              have HD2 := Lib.hid (show Below wr.heap.size wr w2.drew from HB2.out.drew)
              have z0 : w2.drew.cell? ⟨wr.heap.size, 0, none⟩ = some (.string x.1) := x0
              have z1 : w2.drew.cell? ⟨wr.heap.size, 1, none⟩ = some (.int .u64 x.2.1) := x1
              have z2 : w2.drew.cell? ⟨wr.heap.size, 2, none⟩ = some (.bool x.2.2.1) := (blk_cell R2.out 2).trans rfl
              have z3 : w2.drew.cell? ⟨wr.heap.size, 3, none⟩ = some (.string x.2.2.2) := (blk_cell R2.out 3).trans rfl
              go_wp2_with (at_builtin; refine wpList_app rfl (.tmp 50) (.tmp 52) rfl uSlEx infoEx rfl (by decide) (by decide) okE (.slice (some ⟨b8, o8, none⟩) (pn + 1) co) ou rfl (base := w1.heap.size) ?c1 (some ⟨w2.heap.size, 0, none⟩) 1 [x] rfl ?c2 ?c3 ?c4 ?_)
              case c1 => exact (HO.out.below HD2.out).below ((Below.refl _ _).alloc (Nat.le_refl _) _)
              case c2 => exact Sl.one okE _ x _ rfl
              case c3 => have := HLE.out; (try simp at this ⊢); (try omega)
              case c4 => have := HBW.out.size; have := HB2.out.size; simp; omega
              intro v3 w3 ho3 hg3 _
              have hb4 : Below w1.heap.size w1 w3 := (HBW.out.trans (HD2.out.mono HBW.out.size)).trans (((Below.refl _ _).alloc (show w1.heap.size ≤ w2.drew.heap.size from Nat.le_trans HBW.out.size HD2.out.size) _).grown hg3 (by have := HBW.out.size; have := HD2.out.size; simp at this ⊢; omega) (fun k hk => (HO.out.block_lt hk).1))
              have HO3 := Lib.hid (show Own encE 53 4 w3 w1.heap.size v3 (ou ++ [x]) from ho3)
              have HB4 := Lib.hid hb4
              clear ho3 hg3 hb4
              go_wp2
              go_roundw
              case rel => exact ⟨j + 1, by first | rfl | simp, by omega, by rw [HT.out, HF2.out hA, if_neg (by rw [HOU.out]; simp [hk]; omega)]; exact HO3.out, HB4.out⟩
              case measure => simp [intOf]; omega
    · have hjn : n = j := by omega
      clear hlt hj
      subst hjn
      have HX := Lib.hid (show es.take n = es from List.take_of_length_le (by rw [HN.out]; exact Nat.le_refl _))
      rw [HX.out] at HO
      go_wp2
      go_ret
      exact ⟨_, rfl, HO.out.weaken HB.out.size, HB.out.trans (HBW.out.mono HB.out.size)⟩
end Go.Proofs.Ytjbbobhjomhnmaa.H
