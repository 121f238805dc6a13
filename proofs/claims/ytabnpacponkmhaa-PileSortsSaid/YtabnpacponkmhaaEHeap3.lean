/- pile.Heap of entries: Pop (geneheap.py). Conditions: fewer than 2^40 stand in it. -/
import Derived.Test.YtabnpacponkmhaaEHeap2
namespace Go.Proofs.Ytabnpacponkmhaa.H
open Go.RowKit Go.Deep Go.Proofs Go.Proofs.YtabnpacponkmhaaW.PrintWords
set_option linter.unusedVariables false
set_option linter.unusedSimpArgs false
def zeroE : Ent := (⟨#[]⟩, 0, false, ⟨#[]⟩)
theorem Own.take4 {e : TypeId} {w : World} {base : Nat} {A : Option Addr} {n c : Nat} {l : List Ent} (h : Own encE e 4 w base (.slice A n c) l) (hn : n = l.length) (k : Nat) (hk : k ≤ l.length) :
    Own encE e 4 w base (.slice A k c) (l.take k) := by
  subst hn
  obtain ⟨h1, h2⟩ := h
  have e1 : (l.take k).flatMap encE = (l.flatMap encE).take (k * 4) := by
    have hsplit : l.flatMap encE = (l.take k).flatMap encE ++ (l.drop k).flatMap encE := by rw [← List.flatMap_append, List.take_append_drop]
    rw [hsplit, List.take_left' (by rw [flat_len okE, List.length_take, Nat.min_eq_left hk])]
  refine ⟨by rw [flat_len okE], ?_⟩
  rcases h2 with ⟨hv, h0⟩ | ⟨g, cap, cur, hv, hb, hh, hn, hm, hcs, htk⟩
  · injection hv with h1 h2 h3
    subst h1
    have : k = 0 := by omega
    subst this
    exact .inl ⟨by rw [h3], by simp⟩
  · injection hv with h1 h2 h3
    subst h1; subst h3
    have hlk : (l.take k).length = k := by rw [List.length_take, Nat.min_eq_left hk]
    refine .inr ⟨g, c, cur, by rw [hlk], hb, hh, by rw [hlk]; omega, hm, hcs, ?_⟩
    rw [hlk, e1, ← htk, List.take_take, Nat.min_eq_left (by omega)]
theorem HeapE.popped {w : World} {g b c : Nat} {S : Nat → Prop} {f : Value} {x z : Ent} {r : List Ent} (h : HeapE w g S f (x :: r)) (hw : w.cell? ⟨g, 1, none⟩ = some (.slice (some ⟨b, 0, none⟩) (r.length + 1) c)) (hz : (x :: r)[r.length]? = some z) :
    ∃ w2, (put4 (put4 w b 0 z) b (r.length * 4) zeroE).drew = w2 ∧ w2.cell? ⟨g, 1, none⟩ = some (.slice (some ⟨b, 0, none⟩) (r.length + 1) c) ∧ w2.frozen? ⟨g, 1, none⟩ = false ∧
      HeapE (w2.setCell ⟨g, 1, none⟩ (.slice (some ⟨b, 0, none⟩) r.length c)) g S f (rot (x :: r)) ∧ Upd S w (w2.setCell ⟨g, 1, none⟩ (.slice (some ⟨b, 0, none⟩) r.length c)) ∧
      (w2.setCell ⟨g, 1, none⟩ (.slice (some ⟨b, 0, none⟩) r.length c)).cell? ⟨g, 1, none⟩ = some (.slice (some ⟨b, 0, none⟩) r.length c) := by
  obtain ⟨b', hA, hSb, hbg, hlt, _, _⟩ := h.cells hw (by simp)
  injection hA with hA; injection hA with h1 h2; subst h1
  obtain ⟨v, hb, ho, hg, hk⟩ := h
  have c1 : w.cell? ⟨g, 1, none⟩ = some v := (blk_cell hb 1).trans rfl
  rw [c1] at hw
  injection hw with hw
  subst hw
  have u : Upd (fun k => k = b) w (put4 (put4 w b 0 z) b (r.length * 4) zeroE).drew := (put4_upd.trans put4_upd).trans (Upd.drew _)
  have o2 : Own encE 51 4 (put4 (put4 w b 0 z) b (r.length * 4) zeroE).drew 0 (.slice (some ⟨b, 0, none⟩) (r.length + 1) c) (((x :: r).set 0 z).set r.length zeroE) :=
    (Own.set4 (show Own encE 51 4 (put4 w b 0 z) 0 _ _ from Own.set4 ho rfl 0 z) (by simp) r.length zeroE).below ((Below.refl _ _).drew)
  have o3 := o2.take4 (by simp) r.length (by simp)
  rw [rot_eq' x r z zeroE hz] at o3
  have hbx := u.heap hb (fun e => hbg e.symm)
  generalize (put4 (put4 w b 0 z) b (r.length * 4) zeroE).drew = w2 at *
  have d1 : w2.cell? ⟨g, 1, none⟩ = some (.slice (some ⟨b, 0, none⟩) (r.length + 1) c) := (blk_cell hbx 1).trans rfl
  refine ⟨w2, rfl, d1, blk_frozen hbx 1, ⟨_, (blk_set hbx 1 _).trans rfl, o3.upd (Upd.setCell (S := fun k => k = g) w2 1 _ rfl) (fun k e => by injection e with e; subst e; exact hbg), hg, ?_⟩, (u.mono (fun k hk => by rw [hk]; exact hSb)).trans (Upd.setCell w2 1 _ hg), World.cell?_setCell_same _ _ _ d1⟩
  intro k e
  injection e with e
  subst e
  exact ⟨hSb, hbg⟩
theorem cells4 {w : World} {b : Nat} {t : TypeId} {a0 a1 a2 a3 : Value} (h : w.heap[b]? = some (.cells #[a0, a1, a2, a3] t (0, 0))) :
    (w.cell? ⟨b, 0, none⟩ = some a0 ∧ w.cell? ⟨b, 1, none⟩ = some a1 ∧ w.cell? ⟨b, 2, none⟩ = some a2 ∧ w.cell? ⟨b, 3, none⟩ = some a3) ∧ w.frozen? ⟨b, 0, none⟩ = false ∧ w.frozen? ⟨b, 1, none⟩ = false ∧ w.frozen? ⟨b, 2, none⟩ = false ∧ w.frozen? ⟨b, 3, none⟩ = false :=
  ⟨⟨(blk_cell h 0).trans rfl, (blk_cell h 1).trans rfl, (blk_cell h 2).trans rfl, (blk_cell h 3).trans rfl⟩, blk_frozen h 0, blk_frozen h 1, blk_frozen h 2, blk_frozen h 3⟩
theorem put4_heap {w : World} {b : Nat} {t : TypeId} {a0 a1 a2 a3 v0 v1 v2 v3 : Value} (h : w.heap[b]? = some (.cells #[a0, a1, a2, a3] t (0, 0))) :
    ((((w.setCell ⟨b, 0, none⟩ v0).setCell ⟨b, 1, none⟩ v1).setCell ⟨b, 2, none⟩ v2).setCell ⟨b, 3, none⟩ v3).heap[b]? = some (.cells #[v0, v1, v2, v3] t (0, 0)) :=
  (blk_set (blk_set (blk_set (blk_set h 0 v0) 1 v1) 2 v2) 3 v3).trans rfl
theorem puts4_upd {S : Nat → Prop} {w : World} {b : Nat} {v0 v1 v2 v3 : Value} (h : S b) : Upd S w ((((w.setCell ⟨b, 0, none⟩ v0).setCell ⟨b, 1, none⟩ v1).setCell ⟨b, 2, none⟩ v2).setCell ⟨b, 3, none⟩ v3) :=
  (((Upd.setCell w 0 v0 h).trans (Upd.setCell _ 1 v1 h)).trans (Upd.setCell _ 2 v2 h)).trans (Upd.setCell _ 3 v3 h)
theorem res_cell_tmp {fn : Func} {p u : Tmp} (h : fn.results = #[.cell p 51, .tmp u]) (tmps : Array Value) (W : World) (b : Nat) (e : Ent) (v : Value) (hp : tmps.getD p undef = .pointer (some ⟨b, 0, none⟩)) (hu : tmps.getD u undef = v)
    (hr : W.heap[b]? = some (.cells (encE e).toArray 51 (0, 0))) : (results fn tmps).run Try.prog W = .ok (.tuple #[.agg (encE e).toArray, v]) W := by
  obtain ⟨⟨x0, x1, x2, x3⟩, _⟩ := cells4 (t := 51) (show W.heap[b]? = some (.cells #[.string e.1, .int .u64 e.2.1, .bool e.2.2.1, .string e.2.2.2] 51 (0, 0)) from hr)
  have hp' : tmps[p]?.getD undef = .pointer (some ⟨b, 0, none⟩) := by simpa using hp
  have hu' : tmps[u]?.getD undef = v := by simpa using hu
  clear hr
  unfold encE
  simp [results, h, hp', hu', asAddr]
  go_simp
set_option maxHeartbeats 1600000 in
theorem popE_none (g : Nat) (S : Nat → Prop) (f : Value) (w : World) (h : HeapE w g S f []) :
    Calls Try.prog 21 #[.pointer (some ⟨g, 0, none⟩)] w fun e w' => e = .returned (.tuple #[.agg #[.string ⟨#[]⟩, .int .u64 0, .bool false, .string ⟨#[]⟩], .bool false]) ∧ Below w.heap.size w w' := by
  obtain ⟨A, c, hb, _⟩ := h.parts
  have c0 : w.cell? ⟨g, 1, none⟩ = some (.slice A 0 c) := (blk_cell hb 1).trans rfl
  have hlt := blk_lt hb
  obtain ⟨w2, hw2⟩ : ∃ Z, w.alloc (.cells #[.string ⟨#[]⟩, .int .u64 0, .bool false, .string ⟨#[]⟩] 51) = Z := ⟨_, rfl⟩
  have hb2 : Below w.heap.size w w2 := by rw [← hw2]; exact (Below.refl _ _).alloc (Nat.le_refl _) _
  have r2 : w2.heap[w.heap.size]? = some (.cells #[.string ⟨#[]⟩, .int .u64 0, .bool false, .string ⟨#[]⟩] 51 (0, 0)) := by rw [← hw2]; exact heap_alloc_new _ _
  obtain ⟨w3, hw3⟩ : ∃ Z, w2.alloc (.cells #[.string ⟨#[]⟩, .int .u64 0, .bool false, .string ⟨#[]⟩] 51) = Z := ⟨_, rfl⟩
  have hb3 : Below w2.heap.size w2 w3 := by rw [← hw3]; exact (Below.refl _ _).alloc (Nat.le_refl _) _
  have r3 : w3.heap[w2.heap.size]? = some (.cells #[.string ⟨#[]⟩, .int .u64 0, .bool false, .string ⟨#[]⟩] 51 (0, 0)) := by rw [← hw3]; exact heap_alloc_new _ _
  have r23 := blk_below r2 hb3
  have hb23 := hb2.trans (hb3.mono hb2.size)
  have c1 : w3.cell? ⟨g, 1, none⟩ = some (.slice A 0 c) := (hb23.cell (p := ⟨g, 1, none⟩) hlt).trans c0
  obtain ⟨⟨y0, y1, y2, y3⟩, f0, f1, f2, f3⟩ := cells4 r23
  obtain ⟨⟨x0, x1, x2, x3⟩, _⟩ := cells4 r3
  have R23 := Lib.hid r23
  have HB := Lib.hid hb23
  clear hb h c0 hb2 hb3 r2 r3 r23 hb23
  go_enter Try.func21, Try.ntmps21
  go_wp2
  refine bodyPost_ret (res_cell_tmp rfl _ _ w.heap.size zeroE _ rfl rfl (put4_heap R23.out)) rfl ?_
  exact ⟨rfl, (puts4_upd (S := fun k => k = w.heap.size) rfl).below HB.out (fun k hk => by omega)⟩
set_option maxHeartbeats 3200000 in
theorem popE_some' (g : Nat) (S : Nat → Prop) (F : Nat) (caps : Array Value) (E : World → Prop) (lt : Ent → Ent → Bool) (hL : LessE F caps E lt) (x : Ent) (r : List Ent) (hl : r.length < 1000000000000) (w : World)
    (h : HeapE w g S (.func (.func F) #[] caps) (x :: r)) (hE : E w) (hS : Stays S E) (hlow : ∀ k, S k → k < w.heap.size) :
    Calls Try.prog 21 #[.pointer (some ⟨g, 0, none⟩)] w fun e w' => e = .returned (.tuple #[.agg #[.string x.1, .int .u64 x.2.1, .bool x.2.2.1, .string x.2.2.2], .bool true]) ∧ HeapE w' g S (.func (.func F) #[] caps) (popL lt (x :: r)) ∧ Upd S w w' := by
  obtain ⟨w2, hw2⟩ : ∃ Z, w.alloc (.cells #[.string ⟨#[]⟩, .int .u64 0, .bool false, .string ⟨#[]⟩] 51) = Z := ⟨_, rfl⟩
  have hb2 : Below w.heap.size w w2 := by rw [← hw2]; exact (Below.refl _ _).alloc (Nat.le_refl _) _
  have r2 : w2.heap[w.heap.size]? = some (.cells #[.string ⟨#[]⟩, .int .u64 0, .bool false, .string ⟨#[]⟩] 51 (0, 0)) := by rw [← hw2]; exact heap_alloc_new _ _
  obtain ⟨w3, hw3⟩ : ∃ Z, w2.alloc (.cells #[.string ⟨#[]⟩, .int .u64 0, .bool false, .string ⟨#[]⟩] 51) = Z := ⟨_, rfl⟩
  have hb3 : Below w2.heap.size w2 w3 := by rw [← hw3]; exact (Below.refl _ _).alloc (Nat.le_refl _) _
  have r3 : w3.heap[w2.heap.size]? = some (.cells #[.string ⟨#[]⟩, .int .u64 0, .bool false, .string ⟨#[]⟩] 51 (0, 0)) := by rw [← hw3]; exact heap_alloc_new _ _
  have HB3 := Lib.hid (hb2.trans (hb3.mono hb2.size))
  have HSZ2 := Lib.hid (show w.heap.size < w2.heap.size from blk_lt r2)
  have hh3 := h.later HB3.out
  obtain ⟨A, c, hb, ho, hs, hlc, hg, hk, hne⟩ := hh3.parts
  obtain ⟨b, rfl, hSb, hbg, hblt⟩ := hne (by simp)
  have c1 : w3.cell? ⟨g, 1, none⟩ = some (.slice (some ⟨b, 0, none⟩) (r.length + 1) c) := (blk_cell hb 1).trans rfl
  obtain ⟨_, hA, _, _, _, hcells, hfroz⟩ := hh3.cells (A := some ⟨b, 0, none⟩) (c := c) c1 (by simp)
  injection hA with hA; injection hA with h1 h2; subst h1
  have hd := hcells 0 (by simp)
  simp only [List.getElem_cons_zero] at hd
  obtain ⟨d0, d1, d2, d3⟩ := hd
  simp only [Nat.zero_mul, Nat.zero_add] at d0 d1 d2 d3
  have hmf : ∀ (fn : Fn) (first cap : Array Value) (w : World), (Instr.makeFunc fn first cap).run Try.prog w = .ok (.func fn first cap) w := fun _ _ _ _ => rfl
  have hlc' : r.length + 1 ≤ c := by simpa using hlc
  have HLOW := Lib.hid hlow
  have HH := Lib.hid h
  have HH3 := Lib.hid hh3
  have HL := Lib.hid hL
  have HS := Lib.hid hS
  have HE := Lib.hid hE
  have R23 := Lib.hid (blk_below r2 hb3)
  have R3 := Lib.hid r3
  clear hlow hcells hfroz ho hs hk hne hb h hh3 hL hS hE hlc hb2 hb3 r2 r3
  have i1 : (0 : Int) < (r.length : Int) + 1 := by omega
  have i2 : (0 : Int) ≤ (r.length : Int) := by omega
  have i3 : (r.length : Int) < (r.length : Int) + 1 := by omega
  have i4 : ((r.length : Int) + 1 == 0) = false := by rw [beq_eq_false_iff_ne]; omega
  go_enter Try.func21, Try.ntmps21
  have hbl3 : b < w3.heap.size := hblt
  have hgl3 : g < w3.heap.size := HH3.out.lt
  have n1' : b ≠ w3.heap.size := by omega
  have n2' : g ≠ w3.heap.size := by omega
  have zc1 := fun o => (((Below.refl w3.heap.size w3).alloc (Nat.le_refl _) o).cell (p := ⟨g, 1, none⟩) hgl3).trans c1
  have zd0 := fun o => (((Below.refl w3.heap.size w3).alloc (Nat.le_refl _) o).cell (p := ⟨b, 0, none⟩) hbl3).trans d0
  have zd1 := fun o => (((Below.refl w3.heap.size w3).alloc (Nat.le_refl _) o).cell (p := ⟨b, 1, none⟩) hbl3).trans d1
  have zd2 := fun o => (((Below.refl w3.heap.size w3).alloc (Nat.le_refl _) o).cell (p := ⟨b, 2, none⟩) hbl3).trans d2
  have zd3 := fun o => (((Below.refl w3.heap.size w3).alloc (Nat.le_refl _) o).cell (p := ⟨b, 3, none⟩) hbl3).trans d3
  go_upto_region 4 with fail
  go_cut [5, 6] (fun s5 s6 wx => s5 = .pointer (some ⟨w3.heap.size, 0, none⟩) ∧ s6 = .int .i64 (r.length : Int) ∧ Below w3.heap.size w3 wx ∧ wx.heap[w3.heap.size]? = some (.cells #[.string x.1, .int .u64 x.2.1, .bool x.2.2.1, .string x.2.2.2] 51 (0, 0)))
  case first =>
    go_region
    all_goals (go_wp2_with fail)
    all_goals go_meet
    all_goals exact ⟨rfl, rfl, ((Below.refl _ _).alloc (Nat.le_refl _) _).drew, heap_alloc_new _ _⟩
  case rest =>
    obtain ⟨rfl, rfl, hbx, qx⟩ := hcut
    generalize wc = X at *
    have HBX := Lib.hid hbx
    have QX := Lib.hid qx
    have HX := Lib.hid (HH3.out.later hbx)
    have R3X := Lib.hid (blk_below R3.out hbx)
    clear hbx qx c1 d0 d1 d2 d3 zc1 zd0 zd1 zd2 zd3 n1' n2'
    obtain ⟨A', c', hb, ho, hs, hlc, hg, hk, hne⟩ := HX.out.parts
    obtain ⟨b', rfl, hSb', hbg', hblt'⟩ := hne (by simp)
    have c1 : X.cell? ⟨g, 1, none⟩ = some (.slice (some ⟨b', 0, none⟩) (r.length + 1) c') := (blk_cell hb 1).trans rfl
    obtain ⟨_, hA, _, _, _, hcells, hfroz⟩ := HX.out.cells (A := some ⟨b', 0, none⟩) (c := c') c1 (by simp)
    injection hA with hA; injection hA with h1 h2; subst h1
    obtain ⟨z, hz⟩ : ∃ z, (x :: r)[r.length]? = some z := ⟨_, List.getElem?_eq_getElem (by simp)⟩
    have hz' : (x :: r)[r.length]'(by simp) = z := by rw [List.getElem?_eq_getElem (by simp)] at hz; exact Option.some.inj hz
    have hd := hcells 0 (by simp)
    simp only [List.getElem_cons_zero] at hd
    obtain ⟨d0, d1, d2, d3⟩ := hd
    simp only [Nat.zero_mul, Nat.zero_add] at d0 d1 d2 d3
    have hl4 := hcells r.length (by simp)
    rw [hz'] at hl4
    obtain ⟨l0, l1, l2, l3⟩ := hl4
    have g0 := hfroz 0
    have g1 := hfroz 1
    have g2 := hfroz 2
    have g3 := hfroz 3
    have m0 := hfroz (r.length * 4)
    have m1 := hfroz (r.length * 4 + 1)
    have m2 := hfroz (r.length * 4 + 2)
    have m3 := hfroz (r.length * 4 + 3)
    obtain ⟨⟨v0, v1, v2, v3⟩, _⟩ := cells4 R3X.out
    obtain ⟨X4, hX4⟩ : ∃ Z, (((X.setCell ⟨b', 0, none⟩ (.string z.1)).setCell ⟨b', 1, none⟩ (.int .u64 z.2.1)).setCell ⟨b', 2, none⟩ (.bool z.2.2.1)).setCell ⟨b', 3, none⟩ (.string z.2.2.2) = Z := ⟨_, rfl⟩
    have ho4 : Own encE 51 4 X4 0 (.slice (some ⟨b', 0, none⟩) (x :: r).length c') ((x :: r).set 0 z) := by rw [← hX4]; exact Own.set4 ho rfl 0 z
    obtain ⟨A4, c4, e4, _, hs4, _⟩ := ho4.slice (fun x => (okE x).1)
    injection e4 with e5 e6 e7
    rw [← e5] at hs4
    obtain ⟨p0, p1, p2, p3⟩ := cell4_at hs4 (i := r.length) (by simp)
    have k0 := World.ownsRow.frozenAt ho4 (r.length * 4)
    have k1 := World.ownsRow.frozenAt ho4 (r.length * 4 + 1)
    have k2 := World.ownsRow.frozenAt ho4 (r.length * 4 + 2)
    have k3 := World.ownsRow.frozenAt ho4 (r.length * 4 + 3)
    generalize ((x :: r).set 0 z)[r.length] = y at p0 p1 p2 p3
    have HX4 := Lib.hid hX4
    have hu4 : Upd (fun k => k = b') X X4 := by rw [← hX4]; exact puts4_upd rfl
    have hb'l := HLOW.out b' hSb'
    have hsz3 := HB3.out.size
    have hsz2 := HSZ2.out
    have hnv : ¬ w2.heap.size = b' := by omega
    have vv0 := hu4.cell v0 hnv
    have vv1 := hu4.cell v1 hnv
    have vv2 := hu4.cell v2 hnv
    have vv3 := hu4.cell v3 hnv
    clear hu4 hnv
    have HLC := Lib.hid (show r.length + 1 ≤ c' by simpa using hlc)
    have HZ := Lib.hid hz
    clear hcells hfroz hz hz' ho hs hk hne hb hlc hlc' ho4 hs4 e5 e6 e7
    go_upto_region 5 with fail
    go_cut [6] (fun s6 wx => s6 = .int .i64 (r.length : Int) ∧ wx = (put4 X4 b' (r.length * 4) zeroE).drew)
    case first =>
      go_region
      all_goals (go_wp2_with fail)
      all_goals go_meet
      all_goals exact ⟨rfl, rfl⟩
    case rest =>
      obtain ⟨rfl, hcut⟩ := hcut
      generalize wc = Y at *
      obtain ⟨w6, hw6, j1, j2, j3, j4, j5⟩ := HX.out.popped c1 HZ.out
      have hY : Y = w6 := by
        rw [hcut, ← hX4]
        exact hw6
      clear hcut hw6
      subst hY
      have HD := Lib.hid (downE_c g S F caps E lt HL.out (rot (x :: r)) (some ⟨b', 0, none⟩) r.length c' (rot_perm x r).length_eq.symm (by rw [(rot_perm x r).length_eq]; omega) _ j3 (by rw [(rot_perm x r).length_eq]; exact j5) (HS.out w _ HE.out (((Upd.of_below HB3.out).trans (Upd.of_below HBX.out)).trans j4)) HS.out)
      have HK := Lib.hid (((Upd.of_below (S := S) HB3.out).trans (Upd.of_below HBX.out)).trans j4)
      have HXY := Lib.hid j4
      have hlc' := HLC.out
      clear j3 j4 j5 c1 d0 d1 d2 d3 l0 l1 l2 l3 g0 g1 g2 g3 m0 m1 m2 m3 v0 v1 v2 v3 p0 p1 p2 p3 k0 k1 k2 k3 hX4 vv0 vv1 vv2 vv3
      have HNS := Lib.hid (show ∀ k, w.heap.size ≤ k → ¬ S k from fun k hk hn => by have := HLOW.out k hn; omega)
      have HQ := Lib.hid (HXY.out.heap QX.out (HNS.out _ hsz3))
      have HR := Lib.hid (HXY.out.heap (blk_below R23.out HBX.out) (HNS.out _ (Nat.le_refl _)))
      clear HXY
      go_wp2_with fail
      refine HD.out.mono ?_
      rintro _ w9 ⟨rfl, hh9, hu9⟩
      have rr := hu9.heap HR.out (HNS.out _ (Nat.le_refl _))
      obtain ⟨⟨x0, x1, x2, x3⟩, _⟩ := cells4 (hu9.heap HQ.out (HNS.out _ hsz3))
      obtain ⟨⟨y0, y1, y2, y3⟩, f0, f1, f2, f3⟩ := cells4 rr
      have RR := Lib.hid rr
      have HH9 := Lib.hid hh9
      have HU9 := Lib.hid (HK.out.trans hu9)
      clear rr hh9 hu9
      go_wp2
      refine bodyPost_ret (res_cell_tmp rfl _ _ w.heap.size x _ rfl rfl (put4_heap RR.out)) rfl ?_
      exact ⟨rfl, HH9.out.upd (puts4_upd (S := fun k => k = w.heap.size) rfl) (fun k hk e => HNS.out k (by omega) hk), HU9.out.step (puts4_upd (S := fun k => k = w.heap.size) rfl) (fun k hk => .inr (by omega))⟩
theorem popE_some (g : Nat) (S : Nat → Prop) (F : Nat) (caps : Array Value) (E : World → Prop) (lt : Ent → Ent → Bool) (hL : LessE F caps E lt) (x : Ent) (r : List Ent) (hl : r.length < 1000000000000) (w : World)
    (h : HeapE w g S (.func (.func F) #[] caps) (x :: r)) (hE : E w) (hS : Stays S E) :
    Calls Try.prog 21 #[.pointer (some ⟨g, 0, none⟩)] w fun e w' => e = .returned (.tuple #[.agg #[.string x.1, .int .u64 x.2.1, .bool x.2.2.1, .string x.2.2.2], .bool true]) ∧ HeapE w' g S (.func (.func F) #[] caps) (popL lt (x :: r)) ∧ Upd S w w' :=
  (popE_some' g (fun k => S k ∧ k < w.heap.size) F caps E lt hL x r hl w h.tight hE (fun a b e u => hS a b e (u.mono (fun k hk => hk.1))) (fun k hk => hk.2)).mono fun e w' ⟨he, hh, hu⟩ => ⟨he, hh.mono (fun k hk => hk.1), hu.mono (fun k hk => hk.1)⟩
end Go.Proofs.Ytabnpacponkmhaa.H
