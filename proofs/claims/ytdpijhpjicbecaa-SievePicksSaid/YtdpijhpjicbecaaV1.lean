/- The sieve, first part: what may stand below (Has), and what stays of one key's entries (Pick, the document's and the program's). Conditions: sizes. -/
import Derived.Test.YtdpijhpjicbecaaGTak
import Derived.Test.YtdpijhpjicbecaaGgS
import Derived.StillTailTactics
import Derived.Deep.DeepCutAuto
namespace Go.Proofs.Ytdpijhpjicbecaa.H
open Go Go.RowKit Go.Deep Go.Shelf Go.Proofs Go.Proofs.YtdpijhpjicbecaaW.PrintWords
set_option linter.unusedVariables false
set_option linter.unusedSimpArgs false
attribute [local go_sem] Oper.semAt_some
def encX (s : ByteArray) : List Value := [.string s]
theorem okX : EncOk encX 1 := fun x => ⟨rfl, by simp [encX, Value.oneCell']⟩
def encHu (h : ByteArray × ByteArray) : List Value := [.string h.1, .string h.2]
theorem okHu : EncOk encHu 2 := fun x => ⟨rfl, by simp [encHu, Value.oneCell']⟩
/-- Below as it comes in. -/
structure Bw where
  A : Option Addr
  c : Nat
  ks : List ByteArray
  B : Option Addr
  d : Nat
  hs : List (ByteArray × ByteArray)
  nt : Bool
def Bw.cells (b : Bw) : Array Value := #[.slice b.A b.ks.length b.c, .slice b.B b.hs.length b.d, .bool b.nt]
def Bw.at (b : Bw) (w : World) : Prop := Sl encX 1 w b.A b.ks ∧ Sl encHu 2 w b.B b.hs
def leS (a b : ByteArray) : Bool := Op.bytesLess a.toList b.toList || a.toList == b.toList
def inHull (key : ByteArray) (h : ByteArray × ByteArray) : Bool := leS h.1 key && leS key h.2
def eqS (key s : ByteArray) : Bool := decide (s = key)
/-- May the key stand below? -/
def Bw.has (b : Bw) (key : ByteArray) : Bool := if b.hs.any (inHull key) || b.ks.any (eqS key) then !b.nt else b.nt
theorem toList_ne {a b : ByteArray} (h : ¬ a = b) : (a.toList == b.toList) = false := by
  rw [beq_eq_false_iff_ne]
  exact fun e => h (bytes_inj e)
theorem any_at {α : Type} {p : α → Bool} {l : List α} {k : Nat} {x : α} (h : l[k]? = some x) (hp : p x = true) : l.any p = true := List.any_eq_true.2 ⟨x, List.mem_of_getElem? h, hp⟩
theorem any_snoc {α : Type} {p : α → Bool} {l : List α} {k : Nat} {x : α} (h : l[k]? = some x) (h0 : (l.take k).any p = false) (hp : p x = false) : (l.take (k + 1)).any p = false := by
  rw [take_succ_of h, List.any_append, h0]
  simp [hp]
set_option maxHeartbeats 1600000 in
set_option maxRecDepth 100000 in
theorem has_c (b : Bw) (key : ByteArray) (w : World) (hb : b.at w) :
    Calls Try.prog 31 #[.agg b.cells, .string key] w fun e w' => e = .returned (.bool (b.has key)) ∧ Below w.heap.size w w' := by
  obtain ⟨A, c, ks, B, d, hs, nt⟩ := b
  obtain ⟨ha, hb⟩ := hb
  have hm1 := ha.1
  have hm2 := hb.1
  have HA := Lib.hid ha
  have HB := Lib.hid hb
  unfold Bw.cells
  dsimp only at *
  obtain ⟨n1, hn1⟩ : ∃ n, ks.length = n := ⟨_, rfl⟩
  obtain ⟨n2, hn2⟩ : ∃ n, hs.length = n := ⟨_, rfl⟩
  rw [hn1] at hm1 ⊢
  rw [hn2] at hm2 ⊢
  have HN1 := Lib.hid hn1
  have HN2 := Lib.hid hn2
  clear ha hb hn1 hn2
  go_enter Try.func31, Try.ntmps31
  go_wp2_with fail
  go_loopw [5] (fun s5 wr => ∃ k : Nat, s5 = .int .i64 k ∧ k ≤ n2 ∧ wr.heap[w.heap.size]? = some (.cells #[.slice A n1 c, .slice B n2 d, .bool nt] 60 (0, 0)) ∧ Below w.heap.size w wr ∧ (hs.take k).any (inHull key) = false) (fun s5 wr => n2 - (intOf s5).toNat)
  case atStart => exact ⟨0, rfl, by omega, heap_alloc_new _ _, (Below.refl _ _).alloc (Nat.le_refl _) _, by simp⟩
  case round =>
    obtain ⟨k, rfl, hk, hbl, hb, han⟩ := hrel
    generalize wr = W5 at *
    have HBW := Lib.hid hb
    have i0 : (0 : Int) ≤ k := by omega
    have c1 : W5.cell? ⟨w.heap.size, 1, none⟩ = some (.slice B n2 d) := (blk_cell hbl 1).trans rfl
    have c0 : W5.cell? ⟨w.heap.size, 0, none⟩ = some (.slice A n1 c) := (blk_cell hbl 0).trans rfl
    have c2 : W5.cell? ⟨w.heap.size, 2, none⟩ = some (.bool nt) := (blk_cell hbl 2).trans rfl
    have HBL := Lib.hid hbl
    have HAN := Lib.hid han
    clear hb hbl han
    by_cases hlt : k < n2
    · have i1 : (k : Int) < n2 := by omega
      obtain ⟨x, hx⟩ := getElem?_of_lt (l := hs) (by rw [HN2.out]; exact hlt : k < hs.length)
      obtain ⟨b1, o1, hA1, _, hc1⟩ := (HB.out.later HBW.out).at hx
      subst hA1
      have y0 : W5.cell? ⟨b1, o1 + k * 2, none⟩ = some (.string x.1) := hc1 0 _ rfl
      have y1 : W5.cell? ⟨b1, o1 + k * 2 + 1, none⟩ = some (.string x.2) := hc1 1 _ rfl
      clear hc1
      cases q1 : leS x.1 key with
      | true =>
        have r1 : (Op.bytesLess x.1.toList key.toList || x.1.toList == key.toList) = true := q1
        cases q2 : leS key x.2 with
        | true =>
          have r2 : (Op.bytesLess key.toList x.2.toList || key.toList == x.2.toList) = true := q2
          have HV := Lib.hid (any_at (p := inHull key) hx (by simp [inHull, q1, q2]))
          clear hx q1 q2
          go_wp2_with fail
          go_ret
          exact ⟨by simp [Bw.has, HV.out], HBW.out⟩
        | false =>
          have r2 : (Op.bytesLess key.toList x.2.toList || key.toList == x.2.toList) = false := q2
          have HV := Lib.hid (any_snoc hx HAN.out (by simp [inHull, q1, q2]))
          clear hx q1 q2
          go_wp2_with fail
          go_roundw
          case rel => exact ⟨k + 1, by first | rfl | simp, by omega, HBL.out, HBW.out, HV.out⟩
          case measure => simp [intOf]; omega
      | false =>
        have r1 : (Op.bytesLess x.1.toList key.toList || x.1.toList == key.toList) = false := q1
        have HV := Lib.hid (any_snoc hx HAN.out (by simp [inHull, q1]))
        clear hx q1
        go_wp2_with fail
        go_roundw
        case rel => exact ⟨k + 1, by first | rfl | simp, by omega, HBL.out, HBW.out, HV.out⟩
        case measure => simp [intOf]; omega
    · have hkn : n2 = k := by omega
      subst hkn
      have HANY := Lib.hid (show hs.any (inHull key) = false from by have := HAN.out; rwa [List.take_of_length_le (by rw [HN2.out]; exact Nat.le_refl _)] at this)
      clear hlt HAN
      go_wp2_with fail
      go_loopw [6] (fun s6 wr => ∃ k : Nat, s6 = .int .i64 k ∧ k ≤ n1 ∧ Below W5.heap.size W5 wr ∧ (ks.take k).any (eqS key) = false) (fun s6 wr => n1 - (intOf s6).toNat)
      case atStart => exact ⟨0, rfl, by omega, Below.refl _ _, by simp⟩
      case round =>
        obtain ⟨k, rfl, hk, hb6, han⟩ := hrel
        generalize wr = W6 at *
        have HAN := Lib.hid han
        have HB6 := Lib.hid hb6
        have HBW6 := Lib.hid (HBW.out.trans (hb6.mono HBW.out.size))
        have hbl6 := blk_below HBL.out hb6
        have e0 : W6.cell? ⟨w.heap.size, 0, none⟩ = some (.slice A n1 c) := (blk_cell hbl6 0).trans rfl
        have e2 : W6.cell? ⟨w.heap.size, 2, none⟩ = some (.bool nt) := (blk_cell hbl6 2).trans rfl
        clear han hb6 hbl6
        have i0 : (0 : Int) ≤ k := by omega
        by_cases hlt : k < n1
        · have i1 : (k : Int) < n1 := by omega
          obtain ⟨x, hx⟩ := getElem?_of_lt (l := ks) (by rw [HN1.out]; exact hlt : k < ks.length)
          obtain ⟨b1, o1, hA1, _, hc1⟩ := (HA.out.later HBW6.out).at hx
          subst hA1
          have y0 : W6.cell? ⟨b1, o1 + k, none⟩ = some (.string x) := by have := hc1 0 _ rfl; simpa using this
          clear hc1
          cases q1 : eqS key x with
          | true =>
            have HV := Lib.hid (any_at hx q1)
            have r1 : x = key := by simpa [eqS] using q1
            clear hx q1
            subst r1
            go_wp2_with fail
            go_ret
            exact ⟨by simp [Bw.has, HV.out], HBW6.out⟩
          | false =>
            have HV := Lib.hid (any_snoc hx HAN.out q1)
            have r1 : (x.toList == key.toList) = false := toList_ne (by simpa [eqS] using q1)
            clear hx q1
            go_wp2_with fail
            go_roundw
            case rel => exact ⟨k + 1, by first | rfl | simp, by omega, HB6.out, HV.out⟩
            case measure => simp [intOf]; omega
        · have hkn : n1 = k := by omega
          subst hkn
          have HV := Lib.hid (show ks.any (eqS key) = false from by have := HAN.out; rwa [List.take_of_length_le (by rw [HN1.out]; exact Nat.le_refl _)] at this)
          clear hlt HAN
          go_wp2_with fail
          go_ret
          exact ⟨by simp [Bw.has, HV.out, HANY.out], HBW6.out⟩
end Go.Proofs.Ytdpijhpjicbecaa.H
