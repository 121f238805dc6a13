/- The document's memtable (screeref6): Check, Entry, Weight; the law's sameWrites. Conditions: sizes. -/
import Derived.Test.YtjbbobhjomhnmaaRw2
namespace Go.Proofs.Ytjbbobhjomhnmaa.H
open Go Go.RowKit Go.Deep Go.Shelf Go.Proofs Go.Proofs.YtjbbobhjomhnmaaW.PrintWords
set_option linter.unusedVariables false
set_option linter.unusedSimpArgs false
set_option maxHeartbeats 3200000 in
set_option maxRecDepth 100000 in
theorem refCheck6_c (A : Option Addr) (c : Nat) (l : List Wri) (w : World) (hs : Sl encW 3 w A l) :
    Calls Try.prog 123 #[.slice A l.length c] w fun e w' => e = .returned (.int .i64 (chkB l)) ∧ Below w.heap.size w w' := by
  have hm := hs.1
  by_cases hb : 16 < l.length
  · go_enter Try.func123, Try.ntmps123
    go_wp2
    go_ret
    exact ⟨by simp [chkB, hb], Below.refl _ _⟩
  · have hcb : chkB l = firstE l := by simp [chkB, hb]
    have HCB := Lib.hid hcb
    clear hcb
    go_enter Try.func123, Try.ntmps123
    go_wp2
    go_loopg [3] l.length (fun gk v11 wr => ∃ k : Nat, gk = l.length - k ∧ k ≤ l.length ∧ v11 = .int .i64 k ∧ firstE l = firstE (l.drop k) ∧ Below w.heap.size w wr)
    case atStart => exact ⟨0, by omega, by omega, rfl, by simp, Below.refl _ _⟩
    case round =>
      obtain ⟨k, hg, hk, rfl, hf, hB⟩ := hrel
      have HG := Lib.hid hg
      have HF := Lib.hid hf
      clear hg hf
      by_cases hlt : k < l.length
      · obtain ⟨x, hx⟩ := getElem?_of_lt hlt
        have hfd := firstE_drop l k x hx
        obtain ⟨b, o, rfl, hbl, hc⟩ := (hs.later hB).at hx
        obtain ⟨xk, xd, xv⟩ := x
        have c0 : wr.cell? ⟨b, o + k * 3, none⟩ = some (.string xk) := hc 0 _ rfl
        have c1 : wr.cell? ⟨b, o + k * 3 + 1, none⟩ = some (.bool xd) := hc 1 _ rfl
        have c2 : wr.cell? ⟨b, o + k * 3 + 2, none⟩ = some (.string xv) := hc 2 _ rfl
        have HX := Lib.hid hx
        have HH := Lib.hid hs
        have HC := Lib.hid hc
        have HD := Lib.hid hfd
        clear hx hs hc hfd
        have i0' : (0 : Int) ≤ (k : Int) := by omega
        have i1' : (k : Int) < (l.length : Int) := by omega
        have hB1 : Below w.heap.size w (wr.alloc (.cells #[.string xk, .bool xd, .string xv] 89)) := hB.alloc hB.size _
        by_cases z0 : xk.size = 0
        · have z1 : ((xk.size : Int) == 0) = true := by simp [z0]
          have e0 : chk xk = 10 := by simp [chk, z0]
          have E0 := Lib.hid e0
          clear e0 z0
          go_wp2
          go_ret
          exact ⟨by rw [HCB.out, HF.out, HD.out]; simp [chkW, E0.out], hB1⟩
        · have z1 : ((xk.size : Int) == 0) = false := by rw [beq_eq_false_iff_ne]; omega
          by_cases z2 : 64 < xk.size
          · have e0 : chk xk = 11 := by simp [chk, z0, z2]
            have E0 := Lib.hid e0
            clear e0 z0
            go_wp2
            go_ret
            exact ⟨by rw [HCB.out, HF.out, HD.out]; simp [chkW, E0.out], hB1⟩
          · have e0 : chk xk = 0 := by simp [chk, z0, z2]
            have E0 := Lib.hid e0
            clear e0 z0
            cases xd with
            | true =>
              go_wp2
              go_roundg (l.length - (k + 1))
              case measure => have := HG.out; omega
              case rel => exact ⟨k + 1, rfl, by omega, by go_num, by rw [HF.out, HD.out]; simp [chkW, E0.out], hB1⟩
            | false =>
              by_cases e2 : 512 < xv.size
              · go_wp2
                go_ret
                exact ⟨by rw [HCB.out, HF.out, HD.out]; simp [chkW, E0.out, e2], hB1⟩
              · go_wp2
                go_roundg (l.length - (k + 1))
                case measure => have := HG.out; omega
                case rel => exact ⟨k + 1, rfl, by omega, by go_num, by rw [HF.out, HD.out]; simp [chkW, E0.out, e2], hB1⟩
      · have hkk : k = l.length := by omega
        subst hkk
        go_wp2
        go_ret
        exact ⟨by rw [HCB.out, HF.out]; simp [firstE], hB⟩
/-- What a write becomes, at a number. -/
def entW (q : Int) (x : Wri) : Ent := (x.1, q, x.2.1, if x.2.1 then ⟨#[]⟩ else x.2.2)
theorem res_cell1 {fn : Func} {p : Tmp} (h : fn.results = #[.cell p 53]) (tmps : Array Value) (W : World) (b : Nat) (e : Ent) (hp : tmps.getD p undef = .pointer (some ⟨b, 0, none⟩))
    (hr : W.heap[b]? = some (.cells (encE e).toArray 53 (0, 0))) : (results fn tmps).run Try.prog W = .ok (.agg (encE e).toArray) W := by
  obtain ⟨⟨x0, x1, x2, x3⟩, _⟩ := cells4 (t := 53) (show W.heap[b]? = some (.cells #[.string e.1, .int .u64 e.2.1, .bool e.2.2.1, .string e.2.2.2] 53 (0, 0)) from hr)
  have hp' : tmps[p]?.getD undef = .pointer (some ⟨b, 0, none⟩) := by simpa using hp
  clear hr
  unfold encE
  simp [results, h, hp', asAddr]
  go_simp
set_option maxHeartbeats 3200000 in
set_option maxRecDepth 100000 in
theorem refEntry6_c (q : Int) (x : Wri) (w : World) : Calls Try.prog 124 #[.int .u64 q, .agg #[.string x.1, .bool x.2.1, .string x.2.2]] w fun e w' => e = .returned (.agg (encE (entW q x)).toArray) ∧ Below w.heap.size w w' := by
  obtain ⟨xk, xd, xv⟩ := x
  obtain ⟨w2, hw2⟩ : ∃ w2, w.alloc (.cells #[.string xk, .bool xd, .string xv] 89) = w2 := ⟨_, rfl⟩
  have hb2 : Below w.heap.size w w2 := by rw [← hw2]; exact (Below.refl _ _).alloc (Nat.le_refl _) _
  have r1 : w2.heap[w.heap.size]? = some (.cells #[.string xk, .bool xd, .string xv] 89 (0, 0)) := by rw [← hw2]; exact heap_alloc_new _ _
  obtain ⟨w3, hw3⟩ : ∃ w3, w2.alloc (.cells #[.string ⟨#[]⟩, .int .u64 0, .bool false, .string ⟨#[]⟩] 53) = w3 := ⟨_, rfl⟩
  have hb3 : Below w2.heap.size w2 w3 := by rw [← hw3]; exact (Below.refl _ _).alloc (Nat.le_refl _) _
  have r2 : w3.heap[w2.heap.size]? = some (.cells #[.string ⟨#[]⟩, .int .u64 0, .bool false, .string ⟨#[]⟩] 53 (0, 0)) := by rw [← hw3]; exact heap_alloc_new _ _
  have r1b := blk_below r1 hb3
  have k0 : w3.cell? ⟨w.heap.size, 0, none⟩ = some (.string xk) := (blk_cell r1b 0).trans rfl
  have k1 : w3.cell? ⟨w.heap.size, 1, none⟩ = some (.bool xd) := (blk_cell r1b 1).trans rfl
  have k2 : w3.cell? ⟨w.heap.size, 2, none⟩ = some (.string xv) := (blk_cell r1b 2).trans rfl
  obtain ⟨⟨y0, y1, y2, y3⟩, f0, f1, f2, f3⟩ := cells4 r2
  have HB := Lib.hid (hb2.trans (hb3.mono hb2.size))
  have R2 := Lib.hid r2
  have HSZ := Lib.hid hb2.size
  clear hb2 hb3 r1 r2 r1b
  cases xd with
  | true =>
    go_enter Try.func124, Try.ntmps124
    go_wp2
    refine bodyPost_ret (res_cell1 rfl _ _ w2.heap.size (entW q (xk, true, xv)) rfl (put4_heap R2.out)) rfl ?_
    exact ⟨rfl, HB.out.trans ((put4_upd (S := fun k => k = w2.heap.size) _ _ _ _ _ rfl).bel (fun k hk => by have := HSZ.out; omega) HB.out.size)⟩
  | false =>
    go_enter Try.func124, Try.ntmps124
    go_wp2
    refine bodyPost_ret (res_cell1 rfl _ _ w2.heap.size (entW q (xk, false, xv)) rfl (put4_heap R2.out)) rfl ?_
    exact ⟨rfl, HB.out.trans ((put4_upd (S := fun k => k = w2.heap.size) _ _ _ _ _ rfl).bel (fun k hk => by have := HSZ.out; omega) HB.out.size)⟩
set_option maxHeartbeats 1600000 in
theorem refWeight6_c (k : ByteArray) (m : Int) (d : Bool) (v : ByteArray) (hk : k.size ≤ 140737488351232) (hv : v.size ≤ 140737488351232) (w : World) :
    Calls Try.prog 118 #[.agg #[.string k, .int .u64 m, .bool d, .string v]] w fun e w' => e = .returned (.int .i64 (wt k d v)) ∧ Below w.heap.size w w' := by
  have hB1 : Below w.heap.size w (w.alloc (.cells #[.string k, .int .u64 m, .bool d, .string v] 53)) := (Below.refl _ _).alloc (Nat.le_refl _) _
  cases d with
  | true =>
    go_enter Try.func118, Try.ntmps118
    go_wp2
    go_ret
    exact ⟨by simp [wt], hB1⟩
  | false =>
    go_enter Try.func118, Try.ntmps118
    go_wp2
    go_ret
    exact ⟨by simp [wt], hB1⟩
theorem neW_run (x y : Wri) (h : x = y) (W : World) : (binOp .neq 89 (.agg #[.string x.1, .bool x.2.1, .string x.2.2]) (.agg #[.string y.1, .bool y.2.1, .string y.2.2])).run Try.prog W = .ok (.bool false) W := by
  subst h
  go_simp
set_option maxHeartbeats 1600000 in
set_option maxRecDepth 100000 in
theorem sameWrites6_c (A B : Option Addr) (c d : Nat) (l : List Wri) (w : World) (ha : Sl encW 3 w A l) (hb : Sl encW 3 w B l) :
    Calls Try.prog 117 #[.slice A l.length c, .slice B l.length d] w fun e w' => e = .returned (.bool true) ∧ Below w.heap.size w w' := by
  have la := ha.1
  have HA := Lib.hid ha
  have HB := Lib.hid hb
  clear ha hb
  obtain ⟨n, hn⟩ : ∃ n, l.length = n := ⟨_, rfl⟩
  rw [hn] at la ⊢
  have HN := Lib.hid hn
  clear hn
  go_enter Try.func117, Try.ntmps117
  go_wp2_with fail
  go_loopw [5] (fun s5 wr => ∃ k : Nat, s5 = .int .i64 k ∧ k ≤ n ∧ Below w.heap.size w wr) (fun s5 wr => n - (intOf s5).toNat)
  case atStart => exact ⟨0, rfl, by omega, Below.refl _ _⟩
  case round =>
    obtain ⟨k, rfl, hk, hbw⟩ := hrel
    have HBW := Lib.hid hbw
    clear hbw
    by_cases hlt : k < n
    · obtain ⟨x, hx⟩ := getElem?_of_lt (l := l) (by rw [HN.out]; exact hlt : k < l.length)
      obtain ⟨b1, o1, hA1, hb1, hc1⟩ := HA.out.at hx
      obtain ⟨b2, o2, hA2, hb2, hc2⟩ := HB.out.at hx
      subst hA1
      subst hA2
      have x0 := (HBW.out.cell (p := ⟨b1, o1 + k * 3 + 0, none⟩) hb1).trans (hc1 0 _ rfl)
      have x1 := (HBW.out.cell (p := ⟨b1, o1 + k * 3 + 1, none⟩) hb1).trans (hc1 1 _ rfl)
      have x2 := (HBW.out.cell (p := ⟨b1, o1 + k * 3 + 2, none⟩) hb1).trans (hc1 2 _ rfl)
      have y0 := (HBW.out.cell (p := ⟨b2, o2 + k * 3 + 0, none⟩) hb2).trans (hc2 0 _ rfl)
      have y1 := (HBW.out.cell (p := ⟨b2, o2 + k * 3 + 1, none⟩) hb2).trans (hc2 1 _ rfl)
      have y2 := (HBW.out.cell (p := ⟨b2, o2 + k * 3 + 2, none⟩) hb2).trans (hc2 2 _ rfl)
      clear hc1 hc2 hx hb1 hb2
      have hne := neW_run x x rfl
      simp only [Nat.add_zero] at x0 y0
      have i1 : (0 : Int) ≤ k := by omega
      have i2 : (k : Int) < n := by omega
      go_wp2_with fail
      go_region
      go_wp2
      go_roundw
      case rel => exact ⟨k + 1, by first | rfl | simp, by omega, HBW.out.drew⟩
      case measure => simp [intOf]; omega
    · have hkn : k = n := by omega
      subst hkn
      go_wp2
      go_ret
      exact ⟨rfl, HBW.out⟩
end Go.Proofs.Ytjbbobhjomhnmaa.H
