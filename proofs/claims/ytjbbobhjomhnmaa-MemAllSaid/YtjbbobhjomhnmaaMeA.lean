/- mem.Table: what it is; New, Weight, Last, Frozen, Freeze, Get. Conditions: sizes. | mem.Table.Get (printed by genme2.py). No conditions. -/
import Derived.Test.YtjbbobhjomhnmaaSk18
import Derived.Laws.ResultCell
namespace Go.Proofs.Ytjbbobhjomhnmaa.H
open Go Go.RowKit Go.Deep Go.Shelf Go.Proofs Go.Proofs.YtjbbobhjomhnmaaW.PrintWords
set_option linter.unusedVariables false
set_option linter.unusedSimpArgs false
/-- A memtable: its list, its weight, its greatest number, whether it is frozen. -/
structure MemV where
  L : List EH
  wt : Int
  last : Int
  fz : Bool
def mem0 : MemV := ⟨[], 0, 0, false⟩
structure MemIs (w : World) (t g : Nat) (S : Nat → Prop) (draws : List Int) (m : MemV) : Prop where
  row : w.heap[t]? = some (.cells #[.pointer (some ⟨g, 0, none⟩), .int .i64 m.wt, .int .u64 m.last, .bool m.fz] 135 (0, 0))
  list : SkL w g S draws m.L
  apart : ¬ S t
theorem MemIs.upd {w w' : World} {t g : Nat} {S T : Nat → Prop} {draws : List Int} {m : MemV} (h : MemIs w t g S draws m) (hu : Upd T w w') (hT : ∀ k, S k → ¬ T k) (ht : ¬ T t) : MemIs w' t g S draws m :=
  ⟨hu.heap h.row ht, h.list.upd hu hT, h.apart⟩
theorem MemIs.later {w w' : World} {t g : Nat} {S : Nat → Prop} {draws : List Int} {m : MemV} (h : MemIs w t g S draws m) (hb : Below w.heap.size w w') : MemIs w' t g S draws m :=
  ⟨blk_below h.row hb, h.list.later hb, h.apart⟩
theorem MemIs.cells {w : World} {t g : Nat} {S : Nat → Prop} {draws : List Int} {m : MemV} (h : MemIs w t g S draws m) :
    (w.cell? ⟨t, 0, none⟩ = some (.pointer (some ⟨g, 0, none⟩)) ∧ w.cell? ⟨t, 1, none⟩ = some (.int .i64 m.wt) ∧ w.cell? ⟨t, 2, none⟩ = some (.int .u64 m.last) ∧ w.cell? ⟨t, 3, none⟩ = some (.bool m.fz)) ∧ w.frozen? ⟨t, 1, none⟩ = false ∧ w.frozen? ⟨t, 2, none⟩ = false ∧ w.frozen? ⟨t, 3, none⟩ = false :=
  ⟨⟨(blk_cell h.row 0).trans rfl, (blk_cell h.row 1).trans rfl, (blk_cell h.row 2).trans rfl, (blk_cell h.row 3).trans rfl⟩, blk_frozen h.row 1, blk_frozen h.row 2, blk_frozen h.row 3⟩
set_option maxHeartbeats 1600000 in
set_option maxRecDepth 100000 in
theorem mnew_c (A : Option Addr) (c : Nat) (l : List Int) (w : World) (hs : Sl encB 1 w A l) (hl : l.length < 140737488351233) (hby : ∀ x ∈ l, U8 x) :
    Calls Try.prog 33 #[.slice A l.length c] w fun e w' => ∃ t g S, e = .returned (.pointer (some ⟨t, 0, none⟩)) ∧ MemIs w' t g S l mem0 ∧ (∀ k, S k → w.heap.size ≤ k) ∧ w.heap.size ≤ t ∧ Below w.heap.size w w' := by
  have HN := Lib.hid (new_L A c l w hs hl hby)
  obtain ⟨n, hn⟩ : ∃ n, l.length = n := ⟨_, rfl⟩
  rw [hn] at HN ⊢
  clear hs hl hby hn
  go_enter Try.func33, Try.ntmps33
  go_wp2_with fail
  refine HN.out.mono ?_
  rintro e w2 ⟨g, S, rfl, hS, hsk, hb⟩
  have HS := Lib.hid hS
  have HSK := Lib.hid hsk
  have HB := Lib.hid hb
  clear hS hsk hb
  go_wp2
  go_ret
  exact ⟨w2.heap.size, g, S, rfl, ⟨heap_alloc_new _ _, HSK.out.later ((Below.refl _ _).alloc (Nat.le_refl _) _), fun h => Nat.lt_irrefl _ (HSK.out.lt _ h)⟩, HS.out, HB.out.size, HB.out.alloc HB.out.size _⟩
section
variable {t g : Nat} {S : Nat → Prop} {draws : List Int} {m : MemV} {w : World}
theorem mweight_c (h : MemIs w t g S draws m) : Calls Try.prog 39 #[.pointer (some ⟨t, 0, none⟩)] w fun e w' => e = .returned (.int .i64 m.wt) ∧ w = w' := by
  obtain ⟨⟨c0, c1, c2, c3⟩, _⟩ := h.cells
  clear h
  go_enter Try.func39, Try.ntmps39
  go_wp2
  go_ret
  exact ⟨rfl, rfl⟩
theorem mlast_c (h : MemIs w t g S draws m) : Calls Try.prog 40 #[.pointer (some ⟨t, 0, none⟩)] w fun e w' => e = .returned (.int .u64 m.last) ∧ w = w' := by
  obtain ⟨⟨c0, c1, c2, c3⟩, _⟩ := h.cells
  clear h
  go_enter Try.func40, Try.ntmps40
  go_wp2
  go_ret
  exact ⟨rfl, rfl⟩
theorem mfrozen_c (h : MemIs w t g S draws m) : Calls Try.prog 53 #[.pointer (some ⟨t, 0, none⟩)] w fun e w' => e = .returned (.bool m.fz) ∧ w = w' := by
  obtain ⟨⟨c0, c1, c2, c3⟩, _⟩ := h.cells
  clear h
  go_enter Try.func53, Try.ntmps53
  go_wp2
  go_ret
  exact ⟨rfl, rfl⟩
theorem mfreeze_c (h : MemIs w t g S draws m) : Calls Try.prog 54 #[.pointer (some ⟨t, 0, none⟩)] w fun e w' => (∃ v, e = .returned v) ∧ Upd (fun k => k = t) w w' ∧ MemIs w' t g S draws { m with fz := true } := by
  obtain ⟨⟨c0, c1, c2, c3⟩, f1, f2, f3⟩ := h.cells
  have HM := Lib.hid h
  clear h
  go_enter Try.func54, Try.ntmps54
  go_wp2
  go_end0
  have hu : Upd (fun k => k = t) w (w.setCell ⟨t, 3, none⟩ (.bool true)) := Upd.setCell _ _ _ rfl
  exact ⟨⟨_, rfl⟩, hu, ⟨blk_set HM.out.row 3 (.bool true), HM.out.list.upd hu (fun k hk e => HM.out.apart (by rw [← e]; exact hk)), HM.out.apart⟩⟩
end
/-- What Get tells. -/
def getP (k : ByteArray) : List Ent → Ent × Bool
  | [] => (zeroE, false)
  | x :: _ => if x.1.toList = k.toList then (x, true) else (zeroE, false)
def getM (L : List EH) (k : ByteArray) (q : Int) : Ent × Bool := getP k (notAhead k q (allE L))
theorem res_cell_tmp {fn : Func} {p u : Tmp} (h : fn.results = #[.cell p 53, .tmp u]) (tmps : Array Value) (W : World) (b : Nat) (e : Ent) (v : Value) (hp : tmps.getD p undef = .pointer (some ⟨b, 0, none⟩)) (hu : tmps.getD u undef = v)
    (hr : W.heap[b]? = some (.cells (encE e).toArray 53 (0, 0))) : (results fn tmps).run Try.prog W = .ok (.tuple #[.agg (encE e).toArray, v]) W := by
  obtain ⟨⟨x0, x1, x2, x3⟩, _⟩ := cells4 (t := 53) (show W.heap[b]? = some (.cells #[.string e.1, .int .u64 e.2.1, .bool e.2.2.1, .string e.2.2.2] 53 (0, 0)) from hr)
  have hp' : tmps[p]?.getD undef = .pointer (some ⟨b, 0, none⟩) := by simpa using hp
  have hu' : tmps[u]?.getD undef = v := by simpa using hu
  clear hr
  unfold encE
  simp [results, h, hp', hu', asAddr]
  go_simp
end Go.Proofs.Ytjbbobhjomhnmaa.H
namespace Go.Proofs.Ytjbbobhjomhnmaa.H
open Go Go.RowKit Go.Deep Go.Shelf Go.Proofs Go.Proofs.YtjbbobhjomhnmaaW.PrintWords
set_option linter.unusedVariables false
set_option linter.unusedSimpArgs false
set_option maxHeartbeats 1600000 in
set_option maxRecDepth 100000 in
theorem get_c {t g : Nat} {S : Nat → Prop} {draws : List Int} {m : MemV} {w : World} (h : MemIs w t g S draws m) (k : ByteArray) (q : Int) :
    Calls Try.prog 43 #[.pointer (some ⟨t, 0, none⟩), .string k, .int .u64 q] w fun e w' => e = .returned (.tuple #[.agg (encE (getM m.L k q).1).toArray, .bool (getM m.L k q).2]) ∧ Below w.heap.size w w' := by
  obtain ⟨w2, hw2⟩ : ∃ w2, w.alloc (.cells #[.string ⟨#[]⟩, .int .u64 0, .bool false, .string ⟨#[]⟩] 53) = w2 := ⟨_, rfl⟩
  have hb2 : Below w.heap.size w w2 := by rw [← hw2]; exact (Below.refl _ _).alloc (Nat.le_refl _) _
  have r6 : w2.heap[w.heap.size]? = some (.cells #[.string ⟨#[]⟩, .int .u64 0, .bool false, .string ⟨#[]⟩] 53 (0, 0)) := by rw [← hw2]; exact heap_alloc_new _ _
  have h2 := h.later hb2
  obtain ⟨⟨t0, t1, t2, t3⟩, _⟩ := h2.cells
  have hsk := seek_L g S draws m.L k q w2 h2.list
  obtain ⟨P, hP⟩ : ∃ P, notAhead k q (allE m.L) = P := ⟨_, rfl⟩
  rw [hP] at hsk
  have HG := Lib.hid (show getM m.L k q = getP k P by unfold getM; rw [hP])
  have HB2 := Lib.hid hb2
  have R6 := Lib.hid r6
  clear h h2 hP hb2 r6
  cases P with
  | nil =>
    have HS := Lib.hid (show Calls Try.prog 29 #[.pointer (some ⟨g, 0, none⟩), .string k, .int .u64 q] w2 fun e w' => e = .returned (.tuple #[.agg #[.string ⟨#[]⟩, .int .u64 0, .bool false, .string ⟨#[]⟩], .bool false]) ∧ Below w2.heap.size w2 w' from hsk)
    rw [HG.out, show getP k [] = (zeroE, false) from rfl]
    clear hsk
    go_enter Try.func43, Try.ntmps43
    go_wp2_with fail
    refine HS.out.mono ?_
    rintro e w3 ⟨rfl, hb3⟩
    obtain ⟨X, hX⟩ : ∃ Z, w3.alloc (.cells #[.string ⟨#[]⟩, .int .u64 0, .bool false, .string ⟨#[]⟩] 53) = Z := ⟨_, rfl⟩
    have rX : X.heap[w3.heap.size]? = some (.cells #[.string ⟨#[]⟩, .int .u64 0, .bool false, .string ⟨#[]⟩] 53 (0, 0)) := by rw [← hX]; exact heap_alloc_new _ _
    obtain ⟨⟨v0, v1, v2, v3⟩, u0, u1, u2, u3⟩ := cells4 rX
    obtain ⟨Xa, hXa⟩ : ∃ Z4, (((X.setCell ⟨w3.heap.size, 0, none⟩ (.string ⟨#[]⟩)).setCell ⟨w3.heap.size, 1, none⟩ (.int .u64 0)).setCell ⟨w3.heap.size, 2, none⟩ (.bool false)).setCell ⟨w3.heap.size, 3, none⟩ (.string ⟨#[]⟩) = Z4 := ⟨_, rfl⟩
    have qX : Xa.heap[w3.heap.size]? = some (.cells #[.string ⟨#[]⟩, .int .u64 0, .bool false, .string ⟨#[]⟩] 53 (0, 0)) := by rw [← hXa]; exact put4_heap rX
    have bX : Below w3.heap.size w3 Xa := by
      rw [← hXa, ← hX]
      exact ((Below.refl _ _).alloc (Nat.le_refl _) _).trans ((put4_upd (S := fun k => k = w3.heap.size) _ _ _ _ _ rfl).bel (fun k hk => by omega) (by simp))
    have BX := Lib.hid bX
    have QX := Lib.hid qX
    clear bX qX rX
    have r6a := blk_below (blk_below R6.out hb3) BX.out
    obtain ⟨⟨y0, y1, y2, y3⟩, f0, f1, f2, f3⟩ := cells4 r6a
    have HB3 := Lib.hid ((HB2.out.trans (hb3.mono HB2.out.size)).trans (BX.out.mono (HB2.out.trans (hb3.mono HB2.out.size)).size))
    have R6A := Lib.hid r6a
    clear hb3 r6a
    go_wp2
    refine bodyPost_ret (res_cell_tmp rfl _ _ w.heap.size zeroE _ rfl rfl (put4_heap R6A.out)) rfl ?_
    exact ⟨rfl, HB3.out.trans ((put4_upd (S := fun k => k = w.heap.size) _ _ _ _ _ rfl).bel (fun k hk => by omega) HB3.out.size)⟩
  | cons x tl =>
    have HS := Lib.hid (show Calls Try.prog 29 #[.pointer (some ⟨g, 0, none⟩), .string k, .int .u64 q] w2 fun e w' => e = .returned (.tuple #[.agg #[.string x.1, .int .u64 x.2.1, .bool x.2.2.1, .string x.2.2.2], .bool true]) ∧ Below w2.heap.size w2 w' from hsk)
    clear hsk
    by_cases hk : x.1.toList = k.toList
    · rw [HG.out, show getP k (x :: tl) = (x, true) from if_pos hk]
      go_enter Try.func43, Try.ntmps43
      go_wp2_with fail
      refine HS.out.mono ?_
      rintro e w3 ⟨rfl, hb3⟩
      obtain ⟨X, hX⟩ : ∃ Z, w3.alloc (.cells #[.string ⟨#[]⟩, .int .u64 0, .bool false, .string ⟨#[]⟩] 53) = Z := ⟨_, rfl⟩
      have rX : X.heap[w3.heap.size]? = some (.cells #[.string ⟨#[]⟩, .int .u64 0, .bool false, .string ⟨#[]⟩] 53 (0, 0)) := by rw [← hX]; exact heap_alloc_new _ _
      obtain ⟨⟨v0, v1, v2, v3⟩, u0, u1, u2, u3⟩ := cells4 rX
      obtain ⟨Xa, hXa⟩ : ∃ Z4, (((X.setCell ⟨w3.heap.size, 0, none⟩ (.string x.1)).setCell ⟨w3.heap.size, 1, none⟩ (.int .u64 x.2.1)).setCell ⟨w3.heap.size, 2, none⟩ (.bool x.2.2.1)).setCell ⟨w3.heap.size, 3, none⟩ (.string x.2.2.2) = Z4 := ⟨_, rfl⟩
      have qX : Xa.heap[w3.heap.size]? = some (.cells #[.string x.1, .int .u64 x.2.1, .bool x.2.2.1, .string x.2.2.2] 53 (0, 0)) := by rw [← hXa]; exact put4_heap rX
      have bX : Below w3.heap.size w3 Xa := by
        rw [← hXa, ← hX]
        exact ((Below.refl _ _).alloc (Nat.le_refl _) _).trans ((put4_upd (S := fun k => k = w3.heap.size) _ _ _ _ _ rfl).bel (fun k hk => by omega) (by simp))
      have BX := Lib.hid bX
      have QX := Lib.hid qX
      clear bX qX rX
      have r6a := blk_below (blk_below R6.out hb3) BX.out
      obtain ⟨⟨y0, y1, y2, y3⟩, f0, f1, f2, f3⟩ := cells4 r6a
      obtain ⟨⟨z0, z1, z2, z3⟩, _⟩ := cells4 QX.out
      have HB3 := Lib.hid ((HB2.out.trans (hb3.mono HB2.out.size)).trans (BX.out.mono (HB2.out.trans (hb3.mono HB2.out.size)).size))
      have R6A := Lib.hid r6a
      clear hb3 r6a
      go_wp2
      refine bodyPost_ret (res_cell_tmp rfl _ _ w.heap.size x _ rfl rfl (put4_heap R6A.out)) rfl ?_
      exact ⟨rfl, HB3.out.trans ((put4_upd (S := fun k => k = w.heap.size) _ _ _ _ _ rfl).bel (fun k hk => by omega) HB3.out.size)⟩
    · rw [HG.out, show getP k (x :: tl) = (zeroE, false) from if_neg hk]
      go_enter Try.func43, Try.ntmps43
      go_wp2_with fail
      refine HS.out.mono ?_
      rintro e w3 ⟨rfl, hb3⟩
      obtain ⟨X, hX⟩ : ∃ Z, w3.alloc (.cells #[.string ⟨#[]⟩, .int .u64 0, .bool false, .string ⟨#[]⟩] 53) = Z := ⟨_, rfl⟩
      have rX : X.heap[w3.heap.size]? = some (.cells #[.string ⟨#[]⟩, .int .u64 0, .bool false, .string ⟨#[]⟩] 53 (0, 0)) := by rw [← hX]; exact heap_alloc_new _ _
      obtain ⟨⟨v0, v1, v2, v3⟩, u0, u1, u2, u3⟩ := cells4 rX
      obtain ⟨Xa, hXa⟩ : ∃ Z4, (((X.setCell ⟨w3.heap.size, 0, none⟩ (.string x.1)).setCell ⟨w3.heap.size, 1, none⟩ (.int .u64 x.2.1)).setCell ⟨w3.heap.size, 2, none⟩ (.bool x.2.2.1)).setCell ⟨w3.heap.size, 3, none⟩ (.string x.2.2.2) = Z4 := ⟨_, rfl⟩
      have qX : Xa.heap[w3.heap.size]? = some (.cells #[.string x.1, .int .u64 x.2.1, .bool x.2.2.1, .string x.2.2.2] 53 (0, 0)) := by rw [← hXa]; exact put4_heap rX
      have bX : Below w3.heap.size w3 Xa := by
        rw [← hXa, ← hX]
        exact ((Below.refl _ _).alloc (Nat.le_refl _) _).trans ((put4_upd (S := fun k => k = w3.heap.size) _ _ _ _ _ rfl).bel (fun k hk => by omega) (by simp))
      have BX := Lib.hid bX
      have QX := Lib.hid qX
      clear bX qX rX
      have r6a := blk_below (blk_below R6.out hb3) BX.out
      obtain ⟨⟨y0, y1, y2, y3⟩, f0, f1, f2, f3⟩ := cells4 r6a
      obtain ⟨⟨z0, z1, z2, z3⟩, _⟩ := cells4 QX.out
      have HB3 := Lib.hid ((HB2.out.trans (hb3.mono HB2.out.size)).trans (BX.out.mono (HB2.out.trans (hb3.mono HB2.out.size)).size))
      have R6A := Lib.hid r6a
      clear hb3 r6a
      have hk' : (x.1.toList == k.toList) = false := by simpa using hk
      go_wp2
      refine bodyPost_ret (res_cell_tmp rfl _ _ w.heap.size zeroE _ rfl rfl (put4_heap R6A.out)) rfl ?_
      exact ⟨rfl, HB3.out.trans ((put4_upd (S := fun k => k = w.heap.size) _ _ _ _ _ rfl).bel (fun k hk => by omega) HB3.out.size)⟩
end Go.Proofs.Ytjbbobhjomhnmaa.H
