/- merge's cursors: what their methods answer; merge.ahead. No conditions. -/
import Derived.Test.YtdpijhpjicbecaaSHeap2
import Derived.Test.YtdpijhpjicbecaaGgP
namespace Go.Proofs.Ytdpijhpjicbecaa.H
open Go.RowKit Go.Deep Go.Proofs Go.Proofs.YtdpijhpjicbecaaW.PrintWords
set_option linter.unusedVariables false
set_option linter.unusedSimpArgs false
theorem okE : EncOk encE 4 := fun x => ⟨rfl, by simp [encE, Value.oneCell']⟩
def zeroE : Ent := (⟨#[]⟩, 0, false, ⟨#[]⟩)
theorem cells4 {w : World} {b : Nat} {t : TypeId} {a0 a1 a2 a3 : Value} (h : w.heap[b]? = some (.cells #[a0, a1, a2, a3] t (0, 0))) :
    (w.cell? ⟨b, 0, none⟩ = some a0 ∧ w.cell? ⟨b, 1, none⟩ = some a1 ∧ w.cell? ⟨b, 2, none⟩ = some a2 ∧ w.cell? ⟨b, 3, none⟩ = some a3) ∧ w.frozen? ⟨b, 0, none⟩ = false ∧ w.frozen? ⟨b, 1, none⟩ = false ∧ w.frozen? ⟨b, 2, none⟩ = false ∧ w.frozen? ⟨b, 3, none⟩ = false :=
  ⟨⟨(blk_cell h 0).trans rfl, (blk_cell h 1).trans rfl, (blk_cell h 2).trans rfl, (blk_cell h 3).trans rfl⟩, blk_frozen h 0, blk_frozen h 1, blk_frozen h 2, blk_frozen h 3⟩
theorem put4_heap {w : World} {b : Nat} {t : TypeId} {a0 a1 a2 a3 v0 v1 v2 v3 : Value} (h : w.heap[b]? = some (.cells #[a0, a1, a2, a3] t (0, 0))) :
    ((((w.setCell ⟨b, 0, none⟩ v0).setCell ⟨b, 1, none⟩ v1).setCell ⟨b, 2, none⟩ v2).setCell ⟨b, 3, none⟩ v3).heap[b]? = some (.cells #[v0, v1, v2, v3] t (0, 0)) :=
  (blk_set (blk_set (blk_set (blk_set h 0 v0) 1 v1) 2 v2) 3 v3).trans rfl
theorem puts4_upd {S : Nat → Prop} {w : World} {b : Nat} {v0 v1 v2 v3 : Value} (h : S b) : Upd S w ((((w.setCell ⟨b, 0, none⟩ v0).setCell ⟨b, 1, none⟩ v1).setCell ⟨b, 2, none⟩ v2).setCell ⟨b, 3, none⟩ v3) :=
  (((Upd.setCell w 0 v0 h).trans (Upd.setCell _ 1 v1 h)).trans (Upd.setCell _ 2 v2 h)).trans (Upd.setCell _ 3 v3 h)
theorem res_cell_tmp {fn : Func} {p u : Tmp} (h : fn.results = #[.cell p 53, .tmp u]) (tmps : Array Value) (W : World) (b : Nat) (e : Ent) (v : Value) (hp : tmps.getD p undef = .pointer (some ⟨b, 0, none⟩)) (hu : tmps.getD u undef = v)
    (hr : W.heap[b]? = some (.cells (encE e).toArray 53 (0, 0))) : (results fn tmps).run Try.prog W = .ok (.tuple #[.agg (encE e).toArray, v]) W := by
  obtain ⟨⟨x0, x1, x2, x3⟩, _⟩ := cells4 (t := 53) (show W.heap[b]? = some (.cells #[.string e.1, .int .u64 e.2.1, .bool e.2.2.1, .string e.2.2.2] 53 (0, 0)) from hr)
  have hp' : tmps[p]?.getD undef = .pointer (some ⟨b, 0, none⟩) := by simpa using hp
  have hu' : tmps[u]?.getD undef = v := by simpa using hu
  clear hr
  unfold encE
  simp [results, h, hp', hu', asAddr]
  go_simp
/-- A cursor: its list, how many are taken, its rank. -/
def CurAt (w : World) (b : Nat) (A : Option Addr) (c : Nat) (L : List Ent) (i k : Nat) : Prop :=
  w.heap[b]? = some (.cells #[.slice A L.length c, .int .i64 i, .int .i64 k] 94 (0, 0)) ∧ Sl encE 4 w A L ∧ i ≤ L.length
theorem CurAt.upd {w w' : World} {b c : Nat} {A : Option Addr} {L : List Ent} {i k : Nat} {S : Nat → Prop} (h : CurAt w b A c L i k) (u : Upd S w w') (hb : ¬ S b) (hA : ∀ g o, A = some ⟨g, o, none⟩ → ¬ S g) : CurAt w' b A c L i k :=
  ⟨u.heap h.1 hb, h.2.1.upd u hA, h.2.2⟩
theorem CurAt.later {w w' : World} {b c : Nat} {A : Option Addr} {L : List Ent} {i k : Nat} (h : CurAt w b A c L i k) (hb : Below w.heap.size w w') : CurAt w' b A c L i k :=
  h.upd (Upd.of_below (S := fun _ => False) hb) (fun h => h) (fun _ _ _ h => h)
theorem cell_alloc {w : World} {b j : Nat} {v : Value} (h : w.cell? ⟨b, j, none⟩ = some v) (o : Obj) : (w.alloc o).cell? ⟨b, j, none⟩ = some v :=
  (((Below.refl w.heap.size w).alloc (Nat.le_refl _) o).cell (p := ⟨b, j, none⟩) (World.block_lt_of_cell? w _ h)).trans h
theorem next_none (b : Nat) (A : Option Addr) (c : Nat) (L : List Ent) (k : Nat) (w : World) (h : CurAt w b A c L L.length k) :
    Calls Try.prog 104 #[.pointer (some ⟨b, 0, none⟩)] w fun e w' => e = .returned (.tuple #[.agg #[.string ⟨#[]⟩, .int .u64 0, .bool false, .string ⟨#[]⟩], .bool false]) ∧ Below w.heap.size w w' := by
  obtain ⟨hb, hs, hi⟩ := h
  have hm := hs.1
  have c0 : w.cell? ⟨b, 0, none⟩ = some (.slice A L.length c) := (blk_cell hb 0).trans rfl
  have c1 : w.cell? ⟨b, 1, none⟩ = some (.int .i64 L.length) := (blk_cell hb 1).trans rfl
  clear hb hs hi
  generalize L.length = n at *
  have d0 := cell_alloc c0
  have d1 := cell_alloc c1
  go_enter Try.func104, Try.ntmps104
  go_wp2_with fail
  go_region
  go_wp2
  refine bodyPost_ret (res_cell_tmp rfl _ _ w.heap.size zeroE _ rfl rfl (heap_alloc_new w _)) rfl ?_
  exact ⟨rfl, ((Below.refl _ _).alloc (Nat.le_refl _) _).drew⟩
theorem next_some (b : Nat) (A : Option Addr) (c : Nat) (L : List Ent) (i k : Nat) (x : Ent) (hx : L[i]? = some x) (w : World) (h : CurAt w b A c L i k) :
    Calls Try.prog 104 #[.pointer (some ⟨b, 0, none⟩)] w fun e w' => e = .returned (.tuple #[.agg #[.string x.1, .int .u64 x.2.1, .bool x.2.2.1, .string x.2.2.2], .bool true]) ∧ Below w.heap.size w w' := by
  obtain ⟨hb, hs, hi⟩ := h
  have hm := hs.1
  have hl : i < L.length := (List.getElem?_eq_some_iff.1 hx).1
  have c0 : w.cell? ⟨b, 0, none⟩ = some (.slice A L.length c) := (blk_cell hb 0).trans rfl
  have c1 : w.cell? ⟨b, 1, none⟩ = some (.int .i64 i) := (blk_cell hb 1).trans rfl
  obtain ⟨ba, o, rfl, _, hc⟩ := hs.at hx
  have x0 := cell_alloc (hc 0 _ rfl)
  simp only [Nat.add_zero] at x0
  have x1 := cell_alloc (hc 1 _ rfl)
  have x2 := cell_alloc (hc 2 _ rfl)
  have x3 := cell_alloc (hc 3 _ rfl)
  clear hb hs hi hc hx
  generalize L.length = n at *
  have d0 := cell_alloc c0
  have d1 := cell_alloc c1
  have i1 : (0 : Int) ≤ (i : Int) := by omega
  have i2 : (i : Int) < (n : Int) := by omega
  have i3 : ¬ (i : Int) = (n : Int) := by omega
  go_enter Try.func104, Try.ntmps104
  go_wp2_with fail
  go_region
  go_wp2_with fail
  go_region
  go_wp2
  refine bodyPost_ret (res_cell_tmp rfl _ _ w.heap.size x _ rfl rfl (heap_alloc_new w _)) rfl ?_
  exact ⟨rfl, ((Below.refl _ _).alloc (Nat.le_refl _) _).drew.drew⟩
theorem goOn_c (b : Nat) (A : Option Addr) (c : Nat) (L : List Ent) (i k : Nat) (w : World) (h : CurAt w b A c L i k) (hi : i < L.length) (hA : ∀ g o, A = some ⟨g, o, none⟩ → g ≠ b) :
    Calls Try.prog 103 #[.pointer (some ⟨b, 0, none⟩)] w fun e w' => e = .returned (.tuple #[]) ∧ CurAt w' b A c L (i + 1) k ∧ Upd (fun j => j = b) w w' := by
  obtain ⟨hb, hs, _⟩ := h
  have hm := hs.1
  have c1 : w.cell? ⟨b, 1, none⟩ = some (.int .i64 i) := (blk_cell hb 1).trans rfl
  have f1 : w.frozen? ⟨b, 1, none⟩ = false := blk_frozen hb 1
  have HB := Lib.hid hb
  have HS := Lib.hid hs
  clear hb hs
  go_enter Try.func103, Try.ntmps103
  go_wp2
  go_end0
  have hu := Upd.setCell (S := fun j => j = b) w 1 (.int .i64 ((i : Int) + 1)) rfl
  exact ⟨rfl, ⟨by simpa using blk_set HB.out 1 (.int .i64 ((i : Int) + 1)), HS.out.upd hu (fun g o e => hA g o e), hi⟩, hu⟩
theorem rank_c (b : Nat) (A : Option Addr) (c : Nat) (L : List Ent) (i k : Nat) (w : World) (h : CurAt w b A c L i k) :
    Calls Try.prog 105 #[.pointer (some ⟨b, 0, none⟩)] w fun e w' => e = .returned (.int .i64 k) ∧ w = w' := by
  have c2 : w.cell? ⟨b, 2, none⟩ = some (.int .i64 k) := (blk_cell h.1 2).trans rfl
  clear h
  go_enter Try.func105, Try.ntmps105
  go_wp2
  go_ret
  exact ⟨rfl, rfl⟩
theorem meth_next (a : Addr) (w : World) : (method 235 91 (.pointer (some a)) "scree/merge.next").run Try.prog w = .ok (104, .pointer (some a)) w := by kernel_rfl
theorem meth_goOn (a : Addr) (w : World) : (method 235 91 (.pointer (some a)) "scree/merge.goOn").run Try.prog w = .ok (103, .pointer (some a)) w := by kernel_rfl
theorem meth_rank (a : Addr) (w : World) : (method 235 91 (.pointer (some a)) "scree/merge.rank").run Try.prog w = .ok (105, .pointer (some a)) w := by kernel_rfl
set_option maxRecDepth 100000 in
set_option maxHeartbeats 1600000 in
theorem mAhead_c (b : Nat) (A : Option Addr) (c : Nat) (L : List Ent) (i k : Nat) (x : Ent) (hx : L[i]? = some x) (b' : Nat) (A' : Option Addr) (c' : Nat) (L' : List Ent) (i' k' : Nat) (y : Ent) (hy : L'[i']? = some y) (w : World) (h : CurAt w b A c L i k) (h' : CurAt w b' A' c' L' i' k') :
    Calls Try.prog 61 #[.iface 91 (.pointer (some ⟨b, 0, none⟩)), .iface 91 (.pointer (some ⟨b', 0, none⟩))] w fun e w' => e = .returned (.bool (lessR x k y k')) ∧ Below w.heap.size w w' := by
  have HX := Lib.hid hx
  have HY := Lib.hid hy
  have H1 := Lib.hid h
  have H2 := Lib.hid h'
  clear h h' hx hy
  go_enter Try.func61, Try.ntmps61
  have m1 := meth_next
  have m3 := meth_rank
  have hn1 := fun (W : World) (hb : Below w.heap.size w W) => next_some b A c L i k x HX.out W (H1.out.later hb)
  have hn2 := fun (W : World) (hb : Below w.heap.size w W) => next_some b' A' c' L' i' k' y HY.out W (H2.out.later hb)
  have hr1 := fun (W : World) (hb : Below w.heap.size w W) => rank_c b A c L i k W (H1.out.later hb)
  have hr2 := fun (W : World) (hb : Below w.heap.size w W) => rank_c b' A' c' L' i' k' W (H2.out.later hb)
  have HN1 := Lib.hid hn1
  have HN2 := Lib.hid hn2
  have HR1 := Lib.hid hr1
  have HR2 := Lib.hid hr2
  clear hn1 hn2 hr1 hr2
  go_wp2_with fail
  go_at_call 104
  refine (HN1.out _ (Below.refl _ _)).mono ?_
  rintro e w1 ⟨rfl, hb1⟩
  have HB1 := Lib.hid hb1
  clear hb1
  go_wp2_with fail
  obtain ⟨X1, hX1⟩ : ∃ Z, w1.alloc (.cells #[.string x.1, .int .u64 x.2.1, .bool x.2.2.1, .string x.2.2.2] 53) = Z := ⟨_, rfl⟩
  have r1 : X1.heap[w1.heap.size]? = some (.cells #[.string x.1, .int .u64 x.2.1, .bool x.2.2.1, .string x.2.2.2] 53 (0, 0)) := by rw [← hX1]; exact heap_alloc_new _ _
  have HBX1 := Lib.hid (show Below w1.heap.size w1 X1 from by rw [← hX1]; exact (Below.refl _ _).alloc (Nat.le_refl _) _)
  have R1 := Lib.hid r1
  clear r1
  rw [hX1]
  refine (HN2.out _ (HB1.out.trans (HBX1.out.mono HB1.out.size))).mono ?_
  rintro e w2 ⟨rfl, hb2⟩
  have HB2 := Lib.hid hb2
  obtain ⟨X2, hX2⟩ : ∃ Z, w2.alloc (.cells #[.string y.1, .int .u64 y.2.1, .bool y.2.2.1, .string y.2.2.2] 53) = Z := ⟨_, rfl⟩
  have r2 : X2.heap[w2.heap.size]? = some (.cells #[.string y.1, .int .u64 y.2.1, .bool y.2.2.1, .string y.2.2.2] 53 (0, 0)) := by rw [← hX2]; exact heap_alloc_new _ _
  have HBX2 := Lib.hid (show Below w2.heap.size w2 X2 from by rw [← hX2]; exact (Below.refl _ _).alloc (Nat.le_refl _) _)
  have HB := Lib.hid (show Below w.heap.size w X2 from ((HB1.out.trans (HBX1.out.mono HB1.out.size)).trans (hb2.mono (HB1.out.trans (HBX1.out.mono HB1.out.size)).size)).trans (HBX2.out.mono (((HB1.out.trans (HBX1.out.mono HB1.out.size)).trans (hb2.mono (HB1.out.trans (HBX1.out.mono HB1.out.size)).size)).size)))
  obtain ⟨⟨x0, x1, x2, x3⟩, _⟩ := cells4 (blk_below (blk_below R1.out hb2) HBX2.out)
  obtain ⟨⟨y0, y1, y2, y3⟩, _⟩ := cells4 r2
  clear hb2 r2
  go_wp2_with fail
  refine (compare_c x.1 x.2.1 x.2.2.1 x.2.2.2 y.1 y.2.1 y.2.2.1 y.2.2.2 _).mono ?_
  rintro e w3 ⟨rfl, hb3⟩
  have HB3 := Lib.hid (HB.out.trans (hb3.mono HB.out.size))
  clear hb3
  obtain ⟨cv, hcv⟩ : ∃ cv, cmpE x.1.toList y.1.toList x.2.1 y.2.1 = cv := ⟨_, rfl⟩
  have hcv' : cmpEE x y = cv := hcv
  rw [hcv]
  have HL := Lib.hid (show lessR x k y k' = if cv ≠ 0 then decide (cv < 0) else decide (k < k') from by unfold lessR; rw [hcv'])
  clear hcv hcv'
  by_cases h0 : cv = 0
  · subst h0
    go_wp2_with fail
    refine (HR1.out _ HB3.out).mono ?_
    rintro e w4 ⟨rfl, rfl⟩
    go_wp2_with fail
    refine (HR2.out _ HB3.out).mono ?_
    rintro e w4 ⟨rfl, rfl⟩
    go_wp2
    go_ret
    exact ⟨by rw [HL.out]; simp, HB3.out⟩
  · have h1 : (cv != 0) = true := by simpa using h0
    go_wp2
    go_ret
    exact ⟨by rw [HL.out]; simp [h0], HB3.out⟩
theorem enters_mAhead : Enters Try.prog 61 := enters_of Try.func61 (by kernel_rfl) rfl
end Go.Proofs.Ytdpijhpjicbecaa.H
