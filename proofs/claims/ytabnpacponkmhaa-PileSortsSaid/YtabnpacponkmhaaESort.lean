/- PileSorts, walked (printed by gensort.py). Conditions: sizes. -/
import Derived.Test.YtabnpacponkmhaaEWhere
namespace Go.Proofs.Ytabnpacponkmhaa.H
open Go.RowKit Go.Deep Go.Proofs Go.Proofs.YtabnpacponkmhaaW.PrintWords
set_option linter.unusedVariables false
set_option linter.unusedSimpArgs false
def CellB (c : Nat) (b : Bool) (w : World) : Prop := w.cell? ⟨c, 0, none⟩ = some (.bool b)
theorem CellB.stays {c : Nat} {b : Bool} {S : Nat → Prop} (h : ¬ S c) : Stays S (CellB c b) := fun w w' e u => u.cell e h
set_option maxHeartbeats 1600000 in
theorem lessSort (c : Nat) (byKey : Bool) : LessE 19 #[.pointer (some ⟨c, 0, none⟩)] (CellB c byKey) (lessB byKey) where
  ent := enters_of Try.func19 (by kernel_rfl) rfl
  run := by
    intro w x y hc
    unfold CellB at hc
    show Calls _ _ #[.agg #[.string x.1, .int .u64 x.2.1, .bool x.2.2.1, .string x.2.2.2], .agg #[.string y.1, .int .u64 y.2.1, .bool y.2.2.1, .string y.2.2.2], .pointer (some ⟨c, 0, none⟩)] w _
    obtain ⟨w2, hw2⟩ : ∃ Z, w.alloc (.cells #[.string x.1, .int .u64 x.2.1, .bool x.2.2.1, .string x.2.2.2] 51) = Z := ⟨_, rfl⟩
    have hb2 : Below w.heap.size w w2 := by rw [← hw2]; exact (Below.refl _ _).alloc (Nat.le_refl _) _
    have r2 : w2.heap[w.heap.size]? = some (.cells #[.string x.1, .int .u64 x.2.1, .bool x.2.2.1, .string x.2.2.2] 51 (0, 0)) := by rw [← hw2]; exact heap_alloc_new _ _
    obtain ⟨w3, hw3⟩ : ∃ Z, w2.alloc (.cells #[.string y.1, .int .u64 y.2.1, .bool y.2.2.1, .string y.2.2.2] 51) = Z := ⟨_, rfl⟩
    have hb3 : Below w2.heap.size w2 w3 := by rw [← hw3]; exact (Below.refl _ _).alloc (Nat.le_refl _) _
    have r3 : w3.heap[w2.heap.size]? = some (.cells #[.string y.1, .int .u64 y.2.1, .bool y.2.2.1, .string y.2.2.2] 51 (0, 0)) := by rw [← hw3]; exact heap_alloc_new _ _
    obtain ⟨⟨x0, x1, x2, x3⟩, _⟩ := cells4 (blk_below r2 hb3)
    obtain ⟨⟨y0, y1, y2, y3⟩, _⟩ := cells4 r3
    have HB := Lib.hid (hb2.trans (hb3.mono hb2.size))
    have hc3 : w3.cell? ⟨c, 0, none⟩ = some (.bool byKey) := (HB.out.cell (p := ⟨c, 0, none⟩) (World.block_lt_of_cell? w _ hc)).trans hc
    clear hc hb2 r2 hb3 r3
    cases byKey with
    | true =>
      go_enter Try.func19, Try.ntmps19
      go_wp2
      go_ret
      exact ⟨by simp [lessB], HB.out⟩
    | false =>
      go_enter Try.func19, Try.ntmps19
      go_wp2
      go_ret
      exact ⟨by simp [lessB], HB.out⟩
/-- The heap of the first loop. -/
structure InAt (w wb : World) (g : Nat) (byKey : Bool) (wr : World) (H : List Ent) : Prop where
  hp : ∃ S, HeapE wr g S (.func (.func 19) #[] #[.pointer (some ⟨w.heap.size, 0, none⟩)]) H ∧ (∀ k, S k → wb.heap.size ≤ k ∧ k < wr.heap.size)
  ord : IsHeap (lessB byKey) H
  cb : CellB w.heap.size byKey wr
  bl : Below w.heap.size w wr
  sz : wb.heap.size ≤ wr.heap.size
/-- The second loop: the heap, what is left, the one before. -/
structure OutAt (w wb wl : World) (g lb ln : Nat) (byKey : Bool) (s7 : Value) (wr : World) (n : Nat) (H left : List Ent) (z : Ent) : Prop where
  hp : ∃ S, HeapE wr g S (.func (.func 19) #[] #[.pointer (some ⟨w.heap.size, 0, none⟩)]) H ∧ (∀ k, S k → wb.heap.size ≤ k ∧ k < wl.heap.size)
  ord : IsHeap (lessB byKey) H
  len : H.length = n
  perm : left.Perm H
  own : Own encE 51 4 wr wl.heap.size s7 left
  ne : s7.ownBlock ≠ some lb
  lst : wr.heap[lb]? = some (.cells #[.string z.1, .int .u64 z.2.1, .bool z.2.2.1, .string z.2.2.2] 51 (0, 0))
  rises : n < ln → ∀ y ∈ H, lessB byKey y z = false
  le : n ≤ ln
  cb : CellB w.heap.size byKey wr
  bl : Below w.heap.size w wr
  sz : wl.heap.size ≤ lb
set_option maxHeartbeats 6400000 in
set_option maxRecDepth 100000 in
theorem pileSorts_c (A : Option Addr) (c : Nat) (l : List Ent) (byKey : Bool) (w : World) (hs : Sl encE 4 w A l) :
    Calls Try.prog 5 #[.slice A l.length c, .bool byKey] w fun e w' => e = .returned (.bool true) ∧ Below w.heap.size w w' := by
  have hm := hs.1
  obtain ⟨wa, hwa⟩ : ∃ Z, w.alloc (.cells #[.bool byKey] 4) = Z := ⟨_, rfl⟩
  have hba : Below w.heap.size w wa := by rw [← hwa]; exact (Below.refl _ _).alloc (Nat.le_refl _) _
  have ra : wa.heap[w.heap.size]? = some (.cells #[.bool byKey] 4 (0, 0)) := by rw [← hwa]; exact heap_alloc_new _ _
  have HBA := Lib.hid hba
  have RA := Lib.hid ra
  have HS := Lib.hid hs
  obtain ⟨ln, hln⟩ : ∃ n, l.length = n := ⟨_, rfl⟩
  have HLN := Lib.hid hln
  rw [hln] at hm ⊢
  clear hs hba ra hln
  go_enter Try.func5, Try.ntmps5
  by_cases hbig : 600 < ln
  · go_wp2
    go_ret
    exact ⟨rfl, HBA.out⟩
  have hmf : ∀ (fn : Fn) (first cap : Array Value) (w : World), (Instr.makeFunc fn first cap).run Try.prog w = .ok (.func fn first cap) w := fun _ _ _ _ => rfl
  go_wp2_with fail
  try rw [hwa]
  refine (known_c wa).mono ?_
  rintro _ wb ⟨rfl, hbb⟩
  have HBB := Lib.hid (HBA.out.trans (hbb.mono HBA.out.size))
  have HCB := Lib.hid (show CellB w.heap.size byKey wb from (blk_cell (blk_below RA.out hbb) 0).trans rfl)
  have HSZ0 := Lib.hid (show w.heap.size < wb.heap.size from blk_lt (blk_below RA.out hbb))
  clear hbb hwa
  go_wp2_with fail
  refine (newHeapE_c _ _ wb).mono ?_
  rintro _ wc ⟨rfl, hhc, hbc⟩
  obtain ⟨g, hg⟩ : ∃ x, wb.heap.size = x := ⟨_, rfl⟩
  have HIN := Lib.hid (show InAt w wb g byKey wc [] from ⟨⟨_, by rw [← hg]; exact hhc, fun k hk => by have := hhc.lt; omega⟩, IsHeap.nil, (hbc.cell (p := ⟨w.heap.size, 0, none⟩) HSZ0.out).trans HCB.out, HBB.out.trans (hbc.mono HBB.out.size), hbc.size⟩)
  rw [hg]
  clear hhc hbc hg
  go_wp2_with fail
  go_loopw [6] (fun s6 wr => ∃ (i : Nat) (H : List Ent), s6 = .int .i64 (i : Int) ∧ i ≤ ln ∧ H.Perm (l.take i) ∧ InAt w wb g byKey wr H) (fun s6 wr => ln - (intOf s6).toNat)
  case atStart => exact ⟨0, [], rfl, by omega, List.Perm.refl _, HIN.out⟩
  case round =>
    obtain ⟨i, H, rfl, hi, hpm, hin⟩ := hrel
    generalize wr = wq at *
    have HPM := Lib.hid hpm
    have HI := Lib.hid hin
    clear hpm hin
    have i1 : (0 : Int) ≤ i := by omega
    by_cases hlt : i < ln
    · have i2 : (i : Int) < ln := by omega
      obtain ⟨x, hx⟩ := getElem?_of_lt (l := l) (by rw [HLN.out]; exact hlt : i < l.length)
      obtain ⟨b, o, hA, _, hc⟩ := (HS.out.later HI.out.bl).at hx
      subst hA
      have x0 : wq.cell? ⟨b, o + i * 4, none⟩ = some (.string x.1) := hc 0 _ rfl
      have x1 : wq.cell? ⟨b, o + i * 4 + 1, none⟩ = some (.int .u64 x.2.1) := hc 1 _ rfl
      have x2 : wq.cell? ⟨b, o + i * 4 + 2, none⟩ = some (.bool x.2.2.1) := hc 2 _ rfl
      have x3 : wq.cell? ⟨b, o + i * 4 + 3, none⟩ = some (.string x.2.2.2) := hc 3 _ rfl
      have HX := Lib.hid hx
      obtain ⟨S, hh, hSl⟩ := HI.out.hp
      have hpl := HPM.out.length_eq
      rw [List.length_take, HLN.out] at hpl
      have hnS : ¬ S w.heap.size := fun h => by have := (hSl _ h).1; have := HSZ0.out; omega
      have HPU := Lib.hid (pushE_c g S _ _ _ _ (lessSort w.heap.size byKey) H x (by omega) wq hh HI.out.cb (CellB.stays hnS))
      have HSL := Lib.hid hSl
      have HNS := Lib.hid hnS
      clear hc hx hh hSl hpl hnS
      go_wp2_with fail
      refine HPU.out.mono ?_
      rintro _ wn ⟨rfl, hh2, hu2⟩
      have HN := Lib.hid (show InAt w wb g byKey wn (pushL (lessB byKey) H x) from ⟨⟨_, hh2.tight, fun k hk => by
          rcases hk with ⟨hk | hk, hk2⟩
          · exact ⟨(HSL.out k hk).1, hk2⟩
          · exact ⟨Nat.le_trans HI.out.sz hk, hk2⟩⟩, pushL_heap (lessB_weak byKey) H x HI.out.ord, hu2.cell HI.out.cb HNS.out, hu2.below HI.out.bl (fun k hk => by have := (HSL.out k hk).1; have := HSZ0.out; omega), Nat.le_trans HI.out.sz hu2.size⟩)
      have HPN := Lib.hid (show (pushL (lessB byKey) H x).Perm (l.take (i + 1)) from by
        rw [List.take_add_one, HX.out]
        exact (pushL_perm _ H x).trans ((HPM.out.cons x).trans (List.perm_append_comm (l₁ := [x]))))
      clear hh2 hu2
      go_wp2
      go_roundw
      case rel => exact ⟨i + 1, _, by first | rfl | simp, by omega, HPN.out, HN.out⟩
      case measure => simp [intOf]; omega
    · have hni : ln = i := by omega
      clear hlt hi
      subst hni
      rw [List.take_of_length_le (by rw [HLN.out]; exact Nat.le_refl _)] at HPM
      go_wp2_with (at_builtin; refine wpList_app rfl (.const (.slice none 0 0)) (.tmp 34) rfl uSlEx infoEx rfl (by decide) (by decide) okE (.slice none 0 0) [] rfl (base := wq.heap.size) ?c1 A c l (by rw [HLN.out]; rfl) ?c2 ?c3 ?c4 ?_)
      case c1 => exact Own.nil _ _ _ _ _
      case c2 => exact HS.out.later HI.out.bl
      case c3 => have := HLN.out; simp; omega
      case c4 => exact Nat.le_refl _
      intro v7 wd ho7 hg7 hat7
      have hbd : Below wq.heap.size wq wd := (Below.refl _ _).grown hg7 (Nat.le_refl _) (by simp [Value.ownBlock])
      have HBD := Lib.hid hbd
      obtain ⟨we, hwe⟩ : ∃ Z, wd.alloc (.cells #[.string ⟨#[]⟩, .int .u64 0, .bool false, .string ⟨#[]⟩] 51) = Z := ⟨_, rfl⟩
      have hbe : Below wd.heap.size wd we := by rw [← hwe]; exact (Below.refl _ _).alloc (Nat.le_refl _) _
      have re : we.heap[wd.heap.size]? = some (.cells #[.string ⟨#[]⟩, .int .u64 0, .bool false, .string ⟨#[]⟩] 51 (0, 0)) := by rw [← hwe]; exact heap_alloc_new _ _
      have hbqe := hbd.trans (hbe.mono hbd.size)
      have HO0 := Lib.hid (show OutAt w wb wq g wd.heap.size ln byKey v7 we ln H l zeroE from by
        obtain ⟨S, hh, hSl⟩ := HI.out.hp
        refine ⟨⟨S, hh.later hbqe, hSl⟩, HI.out.ord, by rw [HPM.out.length_eq, HLN.out], HPM.out.symm, ?_, fun e => ?_, re, fun h => by omega, Nat.le_refl _, (hbqe.cell (p := ⟨w.heap.size, 0, none⟩) (World.block_lt_of_cell? wq _ HI.out.cb)).trans HI.out.cb, HI.out.bl.trans (hbqe.mono HI.out.bl.size), hbd.size⟩
        · exact (show Own encE 51 4 wd wq.heap.size v7 l from ho7).below hbe
        · have := (ho7.block_lt e).2; omega)
      have HLB := Lib.hid (show ln ≤ 600 by omega)
      have HSZQ := Lib.hid (show w.heap.size < wq.heap.size from World.block_lt_of_cell? wq _ HI.out.cb)
      clear ho7 hg7 hat7 hbd hbe re hbqe
      obtain ⟨lb, hlb⟩ : ∃ x, wd.heap.size = x := ⟨_, rfl⟩
      rw [hlb] at HO0
      have HLBE := Lib.hid hlb
      go_wp2_with fail
      try rw [hwe]
      try rw [HLBE.out]
      clear hlb
      go_loopw [7, 9] (fun s7 s9 wr => ∃ (n : Nat) (H left : List Ent) (z : Ent), s9 = .int .i64 (n : Int) ∧ OutAt w wb wq g lb ln byKey s7 wr n H left z) (fun s7 s9 wr => (intOf s9).toNat)
      case atStart => exact ⟨ln, H, l, zeroE, rfl, HO0.out⟩
      case round =>
        obtain ⟨n, H, left, z, rfl, hout⟩ := hrel
        generalize wr = wf at *
        have HO := Lib.hid hout
        clear hout
        by_cases h0 : 0 < n
        · have i3 : (0 : Int) < n := by omega
          have hlen := HO.out.len
          rcases H with _ | ⟨x, r⟩
          · simp at hlen; omega
          obtain ⟨nn, hnn⟩ : ∃ m, r.length = m := ⟨_, rfl⟩
          have hn1 : n = nn + 1 := by rw [← hlen, ← hnn]; rfl
          subst hn1
          obtain ⟨S, hh, hSl⟩ := HO.out.hp
          have hnS : ¬ S w.heap.size := fun h => by have := (hSl _ h).1; have := HSZ0.out; omega
          have HSL := Lib.hid hSl
          have HNS := Lib.hid hnS
          have HNN := Lib.hid hnn
          have hle := HO.out.le
          have HPO := Lib.hid (popE_some g S _ _ _ _ (lessSort w.heap.size byKey) x r (by have := HLB.out; omega) wf hh HO.out.cb (CellB.stays hnS))
          clear hlen hh hSl hnS hnn
          go_wp2_with fail
          refine HPO.out.mono ?_
          rintro _ w5 ⟨rfl, hh5, hu5⟩
          have HH5 := Lib.hid hh5
          have HU5 := Lib.hid hu5
          have ho5 := HO.out.own.upd hu5 (fun k hk hn => by have := (HO.out.own.block_lt hk).1; have := (HSL.out k hn).2; omega)
          obtain ⟨A7, c7, hv7, hlc7, hs7, hne7⟩ := ho5.slice (fun x => (okE x).1)
          have hll : left.length = nn + 1 := by rw [HO.out.perm.length_eq, List.length_cons, HNN.out]
          obtain ⟨b7, rfl, hb7, hb7l⟩ := hne7 (by intro e; rw [e] at hll; simp at hll)
          rw [hll] at hv7 hlc7
          subst hv7
          have HO5 := Lib.hid ho5
          have HS7 := Lib.hid hs7
          have HLL := Lib.hid hll
          have HB7 := Lib.hid (show wq.heap.size ≤ b7 ∧ b7 < w5.heap.size from ⟨hb7, hb7l⟩)
          clear hh5 hu5 ho5 hs7 hne7 hll hb7 hb7l
          obtain ⟨X, hX⟩ : ∃ Z, w5.alloc (.cells #[.string ⟨#[]⟩, .int .u64 0, .bool false, .string ⟨#[]⟩] 51) = Z := ⟨_, rfl⟩
          have rX : X.heap[w5.heap.size]? = some (.cells #[.string ⟨#[]⟩, .int .u64 0, .bool false, .string ⟨#[]⟩] 51 (0, 0)) := by rw [← hX]; exact heap_alloc_new _ _
          obtain ⟨⟨yy0, yy1, yy2, yy3⟩, gg0, gg1, gg2, gg3⟩ := cells4 rX
          obtain ⟨Xa, hXa⟩ : ∃ Z4, (((X.setCell ⟨w5.heap.size, 0, none⟩ (.string x.1)).setCell ⟨w5.heap.size, 1, none⟩ (.int .u64 x.2.1)).setCell ⟨w5.heap.size, 2, none⟩ (.bool x.2.2.1)).setCell ⟨w5.heap.size, 3, none⟩ (.string x.2.2.2) = Z4 := ⟨_, rfl⟩
          have qX : Xa.heap[w5.heap.size]? = some (.cells #[.string x.1, .int .u64 x.2.1, .bool x.2.2.1, .string x.2.2.2] 51 (0, 0)) := by rw [← hXa]; exact put4_heap rX
          have bX : Below w5.heap.size w5 Xa := by
            rw [← hXa, ← hX]
            exact (puts4_upd (S := fun k => k = w5.heap.size) rfl).below ((Below.refl _ _).alloc (Nat.le_refl _) _) (fun k hk => by omega)
          have BX := Lib.hid bX
          have QX := Lib.hid qX
          clear bX qX rX
          have hwh := where_c (some ⟨b7, 0, none⟩) c7 left x Xa (HS7.out.later BX.out) (HO.out.perm.symm.subset (by simp))
          rw [HLL.out] at hwh
          have HWH := Lib.hid hwh
          obtain ⟨⟨e0, e1, e2, e3⟩, _⟩ := cells4 QX.out
          clear hwh
          go_wp2_with fail
          refine HWH.out.mono ?_
          rintro _ w6 ⟨q, rfl, hq, hb6⟩
          have hql : q < nn + 1 := by have := (List.getElem?_eq_some_iff.1 hq).1; rw [HLL.out] at this; exact this
          have HQ := Lib.hid hq
          have HB6 := Lib.hid hb6
          have q0 : (0 : Int) ≤ q := by omega
          have q1 : ¬ (q : Int) < 0 := by omega
          have q2 : (nn : Int) + 1 ≤ (c7 : Int) := by omega
          have q3 : (q : Int) + 1 ≤ (nn : Int) + 1 := by omega
          have q4 : (0 : Int) ≤ (q : Int) + 1 := by omega
          have q5 : (q : Int) ≤ (c7 : Int) := by omega
          have q6 : (q : Int) ≤ (nn : Int) + 1 := by omega
          have q7 : (0 : Int) ≤ (nn : Int) + 1 := by omega
          have hw1 : IntKind.i64.wrap ((q : Int) + 1) = (q : Int) + 1 := by rw [IntKind.wrap_i64]; have := HLB.out; omega
          have hw2 : ((q : Int) + 1).toNat = q + 1 := by omega
          have z1 : q + (left.drop (q + 1)).length = nn := by rw [List.length_drop, HLL.out]; omega
          have z2 : q + (nn + 1 - (q + 1)) = nn := by omega
          have z6 : q + (left.length - (q + 1)) = nn := by rw [HLL.out]; omega
          have z4 : q + (nn - q) = nn := by omega
          have Z1 := Lib.hid z1
          have Z5 := Lib.hid (show (left.drop (q + 1)).length = nn - q by rw [List.length_drop, HLL.out]; omega)
          have HO6 := Lib.hid (show Own encE 51 4 w6 wq.heap.size (.slice (some ⟨b7, 0, none⟩) left.length c7) left from by rw [HLL.out]; exact (HO5.out.below BX.out).below hb6)
          have HD := Lib.hid (show Sl encE 4 w6 (if c7 = q + 1 then some ⟨b7, 0, none⟩ else some ⟨b7, (q + 1) * 4, none⟩) (left.drop (q + 1)) from by
            split
            · rw [List.drop_eq_nil_of_le (by rw [HLL.out]; omega)]; exact Sl.nil _ _ _ _
            · simpa using ((HS7.out.later BX.out).later hb6).drop_ (q + 1))
          clear hq hb6 e0 e1 e2 e3
          go_wp2_with fail
          go_region_law (refine step_app_room rfl (.tmp 58) (.tmp 62) rfl uSlEx infoEx (by decide) okE b7 c7 q left (by simp [Act.eval, Act.put]) HO6.out (by rw [HLL.out]; omega) (if c7 = q + 1 then some ⟨b7, 0, none⟩ else some ⟨b7, (q + 1) * 4, none⟩) (c7 - (q + 1)) (left.drop (q + 1)) (by simp [Act.eval, Act.put, Z5.out]) HD.out (by rw [Z5.out]; omega) ?_; intro w7 hO7 hG7 hZ7)
          rw [Z1.out] at hO7
          have hU7 : Upd (fun k => k = b7) w6 w7 := (Upd.drew w6).trans (Upd.of_grown hG7 (by intro k hk; injection hk with hk; exact hk.symm))
          have hlbb : lb ≠ b7 := fun e => HO.out.ne (by rw [e]; rfl)
          have hlbf := blk_lt HO.out.lst
          have hU : Upd (fun k => S k ∨ k = b7) wf w7 := (((HU5.out.mono (fun k hk => .inl hk)).trans (Upd.of_below BX.out)).trans (Upd.of_below HB6.out)).trans (hU7.mono (fun k hk => .inr hk))
          have hlS : ¬ (S lb ∨ lb = b7) := fun h => by
            rcases h with h | h
            · have := (HSL.out lb h).2; have := HO.out.sz; omega
            · exact hlbb h
          have lst7 := hU.heap HO.out.lst hlS
          have hwS : ¬ (S w.heap.size ∨ w.heap.size = b7) := fun h => by
            rcases h with h | h
            · exact HNS.out h
            · have := HB7.out.1; have := HSZQ.out; omega
          have cb7 : w7.cell? ⟨w.heap.size, 0, none⟩ = some (.bool byKey) := hU.cell HO.out.cb hwS
          have eb7 := hU7.heap (blk_below QX.out HB6.out) (fun e => by have := HB7.out.2; omega)
          obtain ⟨⟨z0', z1', z2', z3'⟩, f0, f1, f2, f3⟩ := cells4 lst7
          obtain ⟨⟨e0, e1, e2, e3⟩, _⟩ := cells4 eb7
          obtain ⟨w8, hw8⟩ : ∃ Z, (((w7.setCell ⟨lb, 0, none⟩ (.string x.1)).setCell ⟨lb, 1, none⟩ (.int .u64 x.2.1)).setCell ⟨lb, 2, none⟩ (.bool x.2.2.1)).setCell ⟨lb, 3, none⟩ (.string x.2.2.2) = Z := ⟨_, rfl⟩
          have hu8 : Upd (fun k => k = lb) w7 w8 := by rw [← hw8]; exact puts4_upd rfl
          have HE := Lib.hid (show OutAt w wb wq g lb ln byKey (.slice (some ⟨b7, 0, none⟩) nn c7) w8 nn (popL (lessB byKey) (x :: r)) (left.take q ++ left.drop (q + 1)) x from by
            refine ⟨⟨S, ((((HH5.out.later BX.out).later HB6.out).upd hU7 (fun k hk e => ?_)).upd hu8 (fun k hk e => hlS (.inl (by rw [← e]; exact hk)))), HSL.out⟩, popL_heap (lessB_weak byKey) x r HO.out.ord, by rw [popL_length, HNN.out], ?_, hO7.upd hu8 (fun k hk e => ?_), fun e => ?_, by rw [← hw8]; exact put4_heap lst7, fun _ y hy => IsHeap.head (lessB_weak byKey) HO.out.ord y (List.mem_cons_of_mem _ ((popL_perm _ x r).subset hy)), by omega, hu8.cell cb7 (fun e => ?_), hu8.below (hU.below HO.out.bl (fun k hk => ?_)) (fun k hk => ?_), HO.out.sz⟩
            · have e2 : k = b7 := e
              have := (HSL.out k hk).2; have := HB7.out.1; omega
            · exact (List.Perm.cons_inv ((erase_at HQ.out).symm.trans HO.out.perm)).trans (popL_perm _ x r).symm
            · injection hk with hk
              exact hlbb ((show k = lb from e).symm.trans hk.symm)
            · injection e with e
              exact hlbb e.symm
            · have e2 : w.heap.size = lb := e
              have := HO.out.sz; have := HSZQ.out; omega
            · rcases hk with hk | hk
              · have := (HSL.out k hk).1; have := HSZ0.out; omega
              · have := HB7.out.1; have := HSZQ.out; omega
            · have e2 : k = lb := hk
              have := HO.out.sz; have := HSZQ.out; omega)
          clear hO7 hG7 hZ7 hU7 hlbb hlbf hU hlS lst7 hwS eb7 hu8 HO5 HS7 HH5 HU5
          by_cases hnl : nn + 1 < ln
          · have hri := HO.out.rises hnl x (by simp)
            have hnl2 : (nn : Int) + 1 < ln := by omega
            cases byKey with
            | true =>
              have hk : ¬ ((x.1.size : Int) < (z.1.size : Int)) := by simp [lessB] at hri; omega
              go_wp2
              go_roundw
              case rel => exact ⟨nn, _, left.take q ++ left.drop (q + 1), x, by first | rfl | simp | (congr 1; omega), HE.out⟩
              case measure => simp [intOf]
            | false =>
              have hk : ¬ (z.2.1 < x.2.1) := by simp [lessB] at hri; omega
              go_wp2
              go_roundw
              case rel => exact ⟨nn, _, left.take q ++ left.drop (q + 1), x, by first | rfl | simp | (congr 1; omega), HE.out⟩
              case measure => simp [intOf]
          · have hnl2 : ¬ (nn : Int) + 1 < ln := by omega
            go_wp2
            go_roundw
            case rel => exact ⟨nn, _, left.take q ++ left.drop (q + 1), x, by first | rfl | simp | (congr 1; omega), HE.out⟩
            case measure => simp [intOf]
        · have hn0 : n = 0 := by omega
          subst hn0
          have hl0 := HO.out.len
          obtain rfl : H = [] := List.length_eq_zero_iff.1 hl0
          obtain ⟨S, hh, hSl⟩ := HO.out.hp
          have HPO := Lib.hid (popE_none g S _ wf hh)
          have HHE := Lib.hid hh
          clear h0 hl0 hh hSl
          go_wp2_with fail
          refine HPO.out.mono ?_
          rintro _ w5 ⟨rfl, hb5⟩
          have HB5 := Lib.hid hb5
          clear hb5
          obtain ⟨X, hX⟩ : ∃ Z, w5.alloc (.cells #[.string ⟨#[]⟩, .int .u64 0, .bool false, .string ⟨#[]⟩] 51) = Z := ⟨_, rfl⟩
          have rX : X.heap[w5.heap.size]? = some (.cells #[.string ⟨#[]⟩, .int .u64 0, .bool false, .string ⟨#[]⟩] 51 (0, 0)) := by rw [← hX]; exact heap_alloc_new _ _
          obtain ⟨⟨yy0, yy1, yy2, yy3⟩, gg0, gg1, gg2, gg3⟩ := cells4 rX
          obtain ⟨Xa, hXa⟩ : ∃ Z4, (((X.setCell ⟨w5.heap.size, 0, none⟩ (.string ⟨#[]⟩)).setCell ⟨w5.heap.size, 1, none⟩ (.int .u64 0)).setCell ⟨w5.heap.size, 2, none⟩ (.bool false)).setCell ⟨w5.heap.size, 3, none⟩ (.string ⟨#[]⟩) = Z4 := ⟨_, rfl⟩
          have qX : Xa.heap[w5.heap.size]? = some (.cells #[.string ⟨#[]⟩, .int .u64 0, .bool false, .string ⟨#[]⟩] 51 (0, 0)) := by rw [← hXa]; exact put4_heap rX
          have bX : Below w5.heap.size w5 Xa := by
            rw [← hXa, ← hX]
            exact (puts4_upd (S := fun k => k = w5.heap.size) rfl).below ((Below.refl _ _).alloc (Nat.le_refl _) _) (fun k hk => by omega)
          have BX := Lib.hid bX
          have QX := Lib.hid qX
          clear bX qX rX
          obtain ⟨⟨e0, e1, e2, e3⟩, _⟩ := cells4 QX.out
          have HLE := Lib.hid (lenE_c g S _ [] Xa ((HHE.out.later HB5.out).later BX.out))
          go_wp2_with fail
          refine HLE.out.mono ?_
          rintro _ _ ⟨rfl, rfl⟩
          go_wp2
          go_ret
          exact ⟨by first | rfl | simp, HO.out.bl.trans ((HB5.out.trans (BX.out.mono HB5.out.size)).mono HO.out.bl.size)⟩
end Go.Proofs.Ytabnpacponkmhaa.H
