/- The sieve, first part: what may stand below (Has), and what stays of one key's entries (Pick, the document's and the program's). Conditions: sizes. | Small steps of the sieve's drawn regions. No conditions. | The sieve: Pick, the program's and the document's. Conditions: sizes. | The sieve: the program's Pick. Conditions: sizes; what the function that tells of below answers. -/
import Derived.Test.YtdpijhpjicbecaaGTak
import Derived.Test.YtdpijhpjicbecaaGgS
import Derived.StillTailTactics
import Derived.Deep.DeepCutAuto
import Derived.Test.YtdpijhpjicbecaaGRfO
import Derived.Test.YtdpijhpjicbecaaGUse
import Derived.Test.YtdpijhpjicbecaaGCur
import Derived.Sort.CutIn
namespace Go.Proofs.Ytdpijhpjicbecaa.H
open Go Go.RowKit Go.Deep Go.Shelf Go.Proofs Go.Proofs.YtdpijhpjicbecaaW.PrintWords
set_option linter.unusedVariables false
set_option linter.unusedSimpArgs false
attribute [local go_sem] Oper.semAt_some
def encX (s : ByteArray) : List Value := [.string s]
theorem okX : EncOk encX 1 := fun x => ⟨rfl, by simp [encX, Value.oneCell']⟩
def encHu (h : ByteArray × ByteArray) : List Value := [.string h.1, .string h.2]
theorem okHu : EncOk encHu 2 := fun x => ⟨rfl, by simp [encHu, Value.oneCell']⟩
/-- Below as it comes in. -/
structure Bw where
  A : Option Addr
  c : Nat
  ks : List ByteArray
  B : Option Addr
  d : Nat
  hs : List (ByteArray × ByteArray)
  nt : Bool
def Bw.cells (b : Bw) : Array Value := #[.slice b.A b.ks.length b.c, .slice b.B b.hs.length b.d, .bool b.nt]
def Bw.at (b : Bw) (w : World) : Prop := Sl encX 1 w b.A b.ks ∧ Sl encHu 2 w b.B b.hs
def leS (a b : ByteArray) : Bool := Op.bytesLess a.toList b.toList || a.toList == b.toList
def inHull (key : ByteArray) (h : ByteArray × ByteArray) : Bool := leS h.1 key && leS key h.2
def eqS (key s : ByteArray) : Bool := decide (s = key)
/-- May the key stand below? -/
def Bw.has (b : Bw) (key : ByteArray) : Bool := if b.hs.any (inHull key) || b.ks.any (eqS key) then !b.nt else b.nt
theorem toList_ne {a b : ByteArray} (h : ¬ a = b) : (a.toList == b.toList) = false := by
  rw [beq_eq_false_iff_ne]
  exact fun e => h (bytes_inj e)
theorem any_at {α : Type} {p : α → Bool} {l : List α} {k : Nat} {x : α} (h : l[k]? = some x) (hp : p x = true) : l.any p = true := List.any_eq_true.2 ⟨x, List.mem_of_getElem? h, hp⟩
theorem any_snoc {α : Type} {p : α → Bool} {l : List α} {k : Nat} {x : α} (h : l[k]? = some x) (h0 : (l.take k).any p = false) (hp : p x = false) : (l.take (k + 1)).any p = false := by
  rw [take_succ_of h, List.any_append, h0]
  simp [hp]
set_option maxHeartbeats 1600000 in
set_option maxRecDepth 100000 in
theorem has_c (b : Bw) (key : ByteArray) (w : World) (hb : b.at w) :
    Calls Try.prog 31 #[.agg b.cells, .string key] w fun e w' => e = .returned (.bool (b.has key)) ∧ Below w.heap.size w w' := by
  obtain ⟨A, c, ks, B, d, hs, nt⟩ := b
  obtain ⟨ha, hb⟩ := hb
  have hm1 := ha.1
  have hm2 := hb.1
  have HA := Lib.hid ha
  have HB := Lib.hid hb
  unfold Bw.cells
  dsimp only at *
  obtain ⟨n1, hn1⟩ : ∃ n, ks.length = n := ⟨_, rfl⟩
  obtain ⟨n2, hn2⟩ : ∃ n, hs.length = n := ⟨_, rfl⟩
  rw [hn1] at hm1 ⊢
  rw [hn2] at hm2 ⊢
  have HN1 := Lib.hid hn1
  have HN2 := Lib.hid hn2
  clear ha hb hn1 hn2
  go_enter Try.func31, Try.ntmps31
  go_wp2_with fail
  go_loopw [5] (fun s5 wr => ∃ k : Nat, s5 = .int .i64 k ∧ k ≤ n2 ∧ wr.heap[w.heap.size]? = some (.cells #[.slice A n1 c, .slice B n2 d, .bool nt] 60 (0, 0)) ∧ Below w.heap.size w wr ∧ (hs.take k).any (inHull key) = false) (fun s5 wr => n2 - (intOf s5).toNat)
  case atStart => exact ⟨0, rfl, by omega, heap_alloc_new _ _, (Below.refl _ _).alloc (Nat.le_refl _) _, by simp⟩
  case round =>
    obtain ⟨k, rfl, hk, hbl, hb, han⟩ := hrel
    generalize wr = W5 at *
    have HBW := Lib.hid hb
    have i0 : (0 : Int) ≤ k := by omega
    have c1 : W5.cell? ⟨w.heap.size, 1, none⟩ = some (.slice B n2 d) := (blk_cell hbl 1).trans rfl
    have c0 : W5.cell? ⟨w.heap.size, 0, none⟩ = some (.slice A n1 c) := (blk_cell hbl 0).trans rfl
    have c2 : W5.cell? ⟨w.heap.size, 2, none⟩ = some (.bool nt) := (blk_cell hbl 2).trans rfl
    have HBL := Lib.hid hbl
    have HAN := Lib.hid han
    clear hb hbl han
    by_cases hlt : k < n2
    · have i1 : (k : Int) < n2 := by omega
      obtain ⟨x, hx⟩ := getElem?_of_lt (l := hs) (by rw [HN2.out]; exact hlt : k < hs.length)
      obtain ⟨b1, o1, hA1, _, hc1⟩ := (HB.out.later HBW.out).at hx
      subst hA1
      have y0 : W5.cell? ⟨b1, o1 + k * 2, none⟩ = some (.string x.1) := hc1 0 _ rfl
      have y1 : W5.cell? ⟨b1, o1 + k * 2 + 1, none⟩ = some (.string x.2) := hc1 1 _ rfl
      clear hc1
      cases q1 : leS x.1 key with
      | true =>
        have r1 : (Op.bytesLess x.1.toList key.toList || x.1.toList == key.toList) = true := q1
        cases q2 : leS key x.2 with
        | true =>
          have r2 : (Op.bytesLess key.toList x.2.toList || key.toList == x.2.toList) = true := q2
          have HV := Lib.hid (any_at (p := inHull key) hx (by simp [inHull, q1, q2]))
          clear hx q1 q2
          go_wp2_with fail
          go_ret
          exact ⟨by simp [Bw.has, HV.out], HBW.out⟩
        | false =>
          have r2 : (Op.bytesLess key.toList x.2.toList || key.toList == x.2.toList) = false := q2
          have HV := Lib.hid (any_snoc hx HAN.out (by simp [inHull, q1, q2]))
          clear hx q1 q2
          go_wp2_with fail
          go_roundw
          case rel => exact ⟨k + 1, by first | rfl | simp, by omega, HBL.out, HBW.out, HV.out⟩
          case measure => simp [intOf]; omega
      | false =>
        have r1 : (Op.bytesLess x.1.toList key.toList || x.1.toList == key.toList) = false := q1
        have HV := Lib.hid (any_snoc hx HAN.out (by simp [inHull, q1]))
        clear hx q1
        go_wp2_with fail
        go_roundw
        case rel => exact ⟨k + 1, by first | rfl | simp, by omega, HBL.out, HBW.out, HV.out⟩
        case measure => simp [intOf]; omega
    · have hkn : n2 = k := by omega
      subst hkn
      have HANY := Lib.hid (show hs.any (inHull key) = false from by have := HAN.out; rwa [List.take_of_length_le (by rw [HN2.out]; exact Nat.le_refl _)] at this)
      clear hlt HAN
      go_wp2_with fail
      go_loopw [6] (fun s6 wr => ∃ k : Nat, s6 = .int .i64 k ∧ k ≤ n1 ∧ Below W5.heap.size W5 wr ∧ (ks.take k).any (eqS key) = false) (fun s6 wr => n1 - (intOf s6).toNat)
      case atStart => exact ⟨0, rfl, by omega, Below.refl _ _, by simp⟩
      case round =>
        obtain ⟨k, rfl, hk, hb6, han⟩ := hrel
        generalize wr = W6 at *
        have HAN := Lib.hid han
        have HB6 := Lib.hid hb6
        have HBW6 := Lib.hid (HBW.out.trans (hb6.mono HBW.out.size))
        have hbl6 := blk_below HBL.out hb6
        have e0 : W6.cell? ⟨w.heap.size, 0, none⟩ = some (.slice A n1 c) := (blk_cell hbl6 0).trans rfl
        have e2 : W6.cell? ⟨w.heap.size, 2, none⟩ = some (.bool nt) := (blk_cell hbl6 2).trans rfl
        clear han hb6 hbl6
        have i0 : (0 : Int) ≤ k := by omega
        by_cases hlt : k < n1
        · have i1 : (k : Int) < n1 := by omega
          obtain ⟨x, hx⟩ := getElem?_of_lt (l := ks) (by rw [HN1.out]; exact hlt : k < ks.length)
          obtain ⟨b1, o1, hA1, _, hc1⟩ := (HA.out.later HBW6.out).at hx
          subst hA1
          have y0 : W6.cell? ⟨b1, o1 + k, none⟩ = some (.string x) := by have := hc1 0 _ rfl; simpa using this
          clear hc1
          cases q1 : eqS key x with
          | true =>
            have HV := Lib.hid (any_at hx q1)
            have r1 : x = key := by simpa [eqS] using q1
            clear hx q1
            subst r1
            go_wp2_with fail
            go_ret
            exact ⟨by simp [Bw.has, HV.out], HBW6.out⟩
          | false =>
            have HV := Lib.hid (any_snoc hx HAN.out q1)
            have r1 : (x.toList == key.toList) = false := toList_ne (by simpa [eqS] using q1)
            clear hx q1
            go_wp2_with fail
            go_roundw
            case rel => exact ⟨k + 1, by first | rfl | simp, by omega, HB6.out, HV.out⟩
            case measure => simp [intOf]; omega
        · have hkn : n1 = k := by omega
          subst hkn
          have HV := Lib.hid (show ks.any (eqS key) = false from by have := HAN.out; rwa [List.take_of_length_le (by rw [HN1.out]; exact Nat.le_refl _)] at this)
          clear hlt HAN
          go_wp2_with fail
          go_ret
          exact ⟨by simp [Bw.has, HV.out, HANY.out], HBW6.out⟩
end Go.Proofs.Ytdpijhpjicbecaa.H
namespace Go.Proofs.Ytdpijhpjicbecaa.H
open Go Go.RowKit Go.Deep Go.Shelf Go.Proofs Go.Proofs.YtdpijhpjicbecaaW.PrintWords
set_option linter.unusedVariables false
attribute [local go_sem] Oper.semAt_some
theorem chainK {P : Program} {ops : Array Oper} {w : World} {a : Act} {l : List (Tmp × Value)} {o : Oper} {rest : List Oper} {Q : Act → Prop} {t : Tmp} (hg : Region.wanted o (yielded ops (putL a l).tmps) = false) (hd : o.dst = some t) (hr : calmList P ops w Q rest (putL a ((t, undef) :: l))) :
    calmList P ops w Q (o :: rest) (putL a l) :=
  ⟨undef, .inr ⟨hg, rfl⟩, by rw [hd]; rw [putL] at hr; exact hr⟩
theorem run_lw {P : Program} {w W : World} {a : Act} {o : Oper} {t : TypeId} {x : Operand} {u v : Value} (ho : o.op = .load t x) (hx : a.eval x = u) (hl : ∀ W : World, Below w.heap.size w W → (Instr.loadAt t u).run P W = .ok v W) (hW : Below w.heap.size w W) : CalmRes P w v ((execOp a.eval o).run P W) := by
  simp only [execOp, ho, hx, Sem.run_bind, Sem.run_pure, hl W hW, Result.andThen_ok]
  exact ⟨rfl, hW⟩
theorem ldStr (b j : Nat) (s : ByteArray) (W : World) (h : W.cell? ⟨b, j, none⟩ = some (.string s)) : (Instr.loadAt 9 (.pointer (some ⟨b, j, none⟩))).run Try.prog W = .ok (.string s) W := by
  go_simp
theorem ldBo (b j : Nat) (s : Bool) (W : World) (h : W.cell? ⟨b, j, none⟩ = some (.bool s)) : (Instr.loadAt 4 (.pointer (some ⟨b, j, none⟩))).run Try.prog W = .ok (.bool s) W := by
  go_simp
theorem ldU64 (b j : Nat) (v : Int) (W : World) (h : W.cell? ⟨b, j, none⟩ = some (.int .u64 v)) : (Instr.loadAt 51 (.pointer (some ⟨b, j, none⟩))).run Try.prog W = .ok (.int .u64 v) W := by
  go_simp
theorem ldBw (b : Nat) (x y z : Value) (W : World) (h : W.heap[b]? = some (.cells #[x, y, z] 60 (0, 0))) : (Instr.loadAt 60 (.pointer (some ⟨b, 0, none⟩))).run Try.prog W = .ok (.agg #[x, y, z]) W := by
  have h0 : W.cell? ⟨b, 0, none⟩ = some x := (blk_cell h 0).trans rfl
  have h1 : W.cell? ⟨b, 1, none⟩ = some y := (blk_cell h 1).trans rfl
  have h2 : W.cell? ⟨b, 2, none⟩ = some z := (blk_cell h 2).trans rfl
  clear h
  go_simp
theorem lssN_run (k : IntKind) (t : TypeId) (x y : Operand) (a b : Int) (r : Bool) (h : decide (a < b) = r) (W : World) : (do eqGuard .lss t x y (.int k a) (.int k b); binOp .lss t (.int k a) (.int k b) : Sem Value).run Try.prog W = .ok (.bool r) W := by
  subst h
  go_simp
end Go.Proofs.Ytdpijhpjicbecaa.H
namespace Go.Proofs.Ytdpijhpjicbecaa.H
open Go Go.RowKit Go.Deep Go.Shelf Go.Proofs Go.Proofs.YtdpijhpjicbecaaW.PrintWords
set_option linter.unusedVariables false
set_option linter.unusedSimpArgs false
attribute [local go_sem] Oper.semAt_some
def newE (p e : Ent) : Ent := if p.2.1 < e.2.1 then e else p
/-- The newest of some entries: of equal numbers the first. -/
def bestL : List Ent → Option Ent
  | [] => none
  | x :: l => some (l.foldl newE x)
theorem best_snoc {l : List Ent} {p e : Ent} (h : bestL l = some p) : bestL (l ++ [e]) = some (newE p e) := by
  cases l with
  | nil => cases h
  | cons x l =>
    injection h with h
    simp only [bestL, List.cons_append, List.foldl_append, List.foldl_cons, List.foldl_nil, h]
theorem best_one (x : Ent) : bestL [x] = some x := rfl
/-- What stays of one key's entries. -/
def pickL (b : ByteArray → Bool) (l : List Ent) : Option Ent := match bestL l with
  | none => none
  | some e => if e.2.2.1 && !b e.1 then none else some e
def pickV (o : Option Ent) : Value := .tuple #[.agg (encE (o.getD zeroE)).toArray, .bool o.isSome]
/-- An entry's four cells, one behind the other. -/
def putE (W : World) (b : Nat) (e : Ent) : World := (((W.setCell ⟨b, 0, none⟩ (.string e.1)).setCell ⟨b, 1, none⟩ (.int .u64 e.2.1)).setCell ⟨b, 2, none⟩ (.bool e.2.2.1)).setCell ⟨b, 3, none⟩ (.string e.2.2.2)
theorem put4_row {W : World} {b : Nat} {v0 v1 v2 v3 : Value} {t : TypeId} (h : W.heap[b]? = some (.cells #[v0, v1, v2, v3] t (0, 0))) (e : Ent) : (putE W b e).heap[b]? = some (.cells (encE e).toArray t (0, 0)) :=
  blk_set (blk_set (blk_set (blk_set h 0 _) 1 _) 2 _) 3 _
theorem upd_put4 (W : World) (b : Nat) (e : Ent) : Upd (fun k => k = b) W (putE W b e) :=
  (((Upd.setCell (S := fun k => k = b) (g := b) W 0 (.string e.1) rfl).trans (Upd.setCell (S := fun k => k = b) (g := b) _ 1 (.int .u64 e.2.1) rfl)).trans (Upd.setCell (S := fun k => k = b) (g := b) _ 2 (.bool e.2.2.1) rfl)).trans (Upd.setCell (S := fun k => k = b) (g := b) _ 3 (.string e.2.2.2) rfl)
theorem four {W : World} {b : Nat} {v0 v1 v2 v3 : Value} {t : TypeId} (h : W.heap[b]? = some (.cells #[v0, v1, v2, v3] t (0, 0))) :
    W.cell? ⟨b, 0, none⟩ = some v0 ∧ W.cell? ⟨b, 1, none⟩ = some v1 ∧ W.cell? ⟨b, 2, none⟩ = some v2 ∧ W.cell? ⟨b, 3, none⟩ = some v3 ∧ W.frozen? ⟨b, 0, none⟩ = false ∧ W.frozen? ⟨b, 1, none⟩ = false ∧ W.frozen? ⟨b, 2, none⟩ = false ∧ W.frozen? ⟨b, 3, none⟩ = false :=
  ⟨(blk_cell h 0).trans rfl, (blk_cell h 1).trans rfl, (blk_cell h 2).trans rfl, (blk_cell h 3).trans rfl, blk_frozen h 0, blk_frozen h 1, blk_frozen h 2, blk_frozen h 3⟩
set_option maxHeartbeats 12800000 in
set_option maxRecDepth 100000 in
theorem refPick_c (A : Option Addr) (c : Nat) (l : List Ent) (b : Bw) (w : World) (hs : Sl encE 4 w A l) (hb : b.at w) :
    Calls Try.prog 33 #[.slice A l.length c, .agg b.cells] w fun e w' => e = .returned (pickV (pickL b.has l)) ∧ Below w.heap.size w w' := by
  have hm := hs.1
  have HS := Lib.hid hs
  have HBW := Lib.hid hb
  obtain ⟨n, hn⟩ : ∃ n, l.length = n := ⟨_, rfl⟩
  rw [hn] at hm ⊢
  have HN := Lib.hid hn
  clear hs hb hn
  obtain ⟨bA, bc, ks, bB, bd, bh, nt⟩ := b
  obtain ⟨n1, hn1⟩ : ∃ n, ks.length = n := ⟨_, rfl⟩
  obtain ⟨n2, hn2⟩ : ∃ n, bh.length = n := ⟨_, rfl⟩
  have HHS := Lib.hid (fun (key : ByteArray) (W : World) (hb : Below w.heap.size w W) => has_c ⟨bA, bc, ks, bB, bd, bh, nt⟩ key W ⟨HBW.out.1.later hb, HBW.out.2.later hb⟩)
  obtain ⟨bf, hbf⟩ : ∃ f, Bw.has ⟨bA, bc, ks, bB, bd, bh, nt⟩ = f := ⟨_, rfl⟩
  rw [hbf] at HHS ⊢
  unfold Bw.cells at HHS ⊢
  dsimp only at HHS ⊢
  rw [hn1, hn2] at HHS ⊢
  clear hbf HBW hn1 hn2
  go_enter Try.func33, Try.ntmps33
  go_wp2_with fail
  obtain ⟨W3, hW3⟩ : ∃ Z, (w.alloc (.cells #[.slice bA n1 bc, .slice bB n2 bd, .bool nt] 60)).alloc (.cells #[.string ⟨#[]⟩, .int .u64 0, .bool false, .string ⟨#[]⟩] 53) = Z := ⟨_, rfl⟩
  have k1 : W3.heap[w.heap.size]? = some (.cells #[.slice bA n1 bc, .slice bB n2 bd, .bool nt] 60 (0, 0)) := by rw [← hW3]; exact blk_alloc (heap_alloc_new _ _) _
  have k2 : W3.heap[w.heap.size + 1]? = some (.cells #[.string ⟨#[]⟩, .int .u64 0, .bool false, .string ⟨#[]⟩] 53 (0, 0)) := by rw [← hW3]; simpa using heap_alloc_new (w.alloc (.cells #[.slice bA n1 bc, .slice bB n2 bd, .bool nt] 60)) (.cells #[.string ⟨#[]⟩, .int .u64 0, .bool false, .string ⟨#[]⟩] 53)
  have hb3 : Below w.heap.size w W3 := by rw [← hW3]; exact ((Below.refl _ _).alloc (Nat.le_refl _) _).alloc (by simp) _
  rw [hW3]
  clear hW3
  go_loopw [6, 7] (fun s6 s7 wr => ∃ k : Nat, s7 = .int .i64 k ∧ k ≤ n ∧ Below W3.heap.size W3 wr ∧ ((s6 = .int .i64 (-1) ∧ k = 0) ∨ ∃ (p : Nat) (e : Ent), s6 = .int .i64 p ∧ p < k ∧ l[p]? = some e ∧ bestL (l.take k) = some e)) (fun s6 s7 wr => n - (intOf s7).toNat)
  case atStart => exact ⟨0, rfl, by omega, Below.refl _ _, .inl ⟨rfl, rfl⟩⟩
  case round =>
    obtain ⟨k, rfl, hk, hb4, hc⟩ := hrel
    generalize wr = W4 at *
    have HB4 := Lib.hid hb4
    have HBW := Lib.hid (hb3.trans (hb4.mono hb3.size))
    have HK2 := Lib.hid (blk_below k2 hb4)
    have hk1 := blk_below k1 hb4
    have c0 : W4.cell? ⟨w.heap.size, 0, none⟩ = some (.slice bA n1 bc) := (blk_cell hk1 0).trans rfl
    have c1 : W4.cell? ⟨w.heap.size, 1, none⟩ = some (.slice bB n2 bd) := (blk_cell hk1 1).trans rfl
    have c2 : W4.cell? ⟨w.heap.size, 2, none⟩ = some (.bool nt) := (blk_cell hk1 2).trans rfl
    have HK1 := Lib.hid hk1
    have HC := Lib.hid hc
    clear hb4 hc hk1
    have i0 : (0 : Int) ≤ k := by omega
    by_cases hlt : k < n
    · have i1 : (k : Int) < n := by omega
      obtain ⟨x, hx⟩ := getElem?_of_lt (l := l) (by rw [HN.out]; exact hlt : k < l.length)
      have HX := Lib.hid hx
      obtain ⟨b1, o1, hA1, _, hc1⟩ := (HS.out.later HBW.out).at hx
      subst hA1
      have y1 : W4.cell? ⟨b1, o1 + k * 4 + 1, none⟩ = some (.int .u64 x.2.1) := hc1 1 _ rfl
      clear hc1 hx
      rcases HC.out with ⟨rfl, rfl⟩ | ⟨p, e, rfl, hpk, hp, hbe⟩
      · clear HC
        go_wp2_with fail
        go_quiet (fail)
        go_wp2_with fail
        go_roundw
        case rel => exact ⟨1, by first | rfl | simp, by omega, HB4.out.trans ((Upd.drewN (S := fun _ => False) _ _).bel (fun _ h => h.elim) (Nat.le_refl _) |>.mono HB4.out.size), .inr ⟨0, x, rfl, by omega, HX.out, by rw [take_suc HX.out]; simp [bestL]⟩⟩
        case measure => simp [intOf]; omega
      · have hc2 := (HS.out.later HBW.out).at hp
        obtain ⟨b2, o2, hA2, _, hc2⟩ := hc2
        injection hA2 with hA2
        injection hA2 with hA2 hA3
        subst hA2
        subst hA3
        have z1 : W4.cell? ⟨b1, o1 + p * 4 + 1, none⟩ = some (.int .u64 e.2.1) := hc2 1 _ rfl
        have HP := Lib.hid hp
        have HBE := Lib.hid (show bestL (l.take (k + 1)) = some (newE e x) from by rw [take_suc HX.out]; exact best_snoc hbe)
        clear HC hc2 hp hbe
        have j0 : (0 : Int) ≤ p := by omega
        have j1 : (p : Int) < n := by omega
        have j2 : ¬ (p : Int) < 0 := by omega
        by_cases hg : e.2.1 < x.2.1
        · have HNE := Lib.hid (show newE e x = x from by simp [newE, hg])
          go_wp2_with fail
          go_quiet (fail)
          go_wp2_with fail
          go_roundw
          case rel => exact ⟨k + 1, by first | rfl | simp, by omega, HB4.out.trans ((Upd.drewN (S := fun _ => False) _ _).bel (fun _ h => h.elim) (Nat.le_refl _) |>.mono HB4.out.size), .inr ⟨k, x, by first | rfl | simp, by omega, HX.out, by rw [HBE.out, HNE.out]⟩⟩
          case measure => simp [intOf]; omega
        · have HNE := Lib.hid (show newE e x = e from by simp [newE, hg])
          go_wp2_with fail
          go_quiet (fail)
          go_wp2_with fail
          go_roundw
          case rel => exact ⟨k + 1, by first | rfl | simp, by omega, HB4.out.trans ((Upd.drewN (S := fun _ => False) _ _).bel (fun _ h => h.elim) (Nat.le_refl _) |>.mono HB4.out.size), .inr ⟨p, e, by first | rfl | simp, by omega, HP.out, by rw [HBE.out, HNE.out]⟩⟩
          case measure => simp [intOf]; omega
    · have hkn : n = k := by omega
      subst hkn
      have hlt0 := HN.out
      rcases HC.out with ⟨rfl, h0⟩ | ⟨p, e, rfl, hpk, hp, hbe⟩
      · have HP := Lib.hid (show pickL bf l = none from by rw [List.length_eq_zero_iff.1 (by omega : l.length = 0)]; rfl)
        subst h0
        clear HC
        go_wp2_with fail
        go_quiet (fail)
        obtain ⟨W6, hW6⟩ : ∃ Z, W4.drewN nq = Z := ⟨_, rfl⟩
        have hbq : Below W4.heap.size W4 W6 := by rw [← hW6]; exact (Upd.drewN (S := fun _ => False) _ _).bel (fun _ h => h.elim) (Nat.le_refl _)
        have hk6 := blk_below HK2.out hbq
        obtain ⟨d0, d1, d2, d3, f0, f1, f2, f3⟩ := four hk6
        have HR := Lib.hid (put4_row hk6 zeroE)
        have HBE := Lib.hid ((HBW.out.trans (hbq.mono HBW.out.size)).trans ((upd_put4 W6 (w.heap.size + 1) zeroE).bel (fun k hk => by omega) (by have := HBW.out.size; have := hbq.size; omega)))
        rw [hW6]
        clear hbq hk6 hW6
        go_wp2_with fail
        refine bodyPost_ret (res_cell_tmp rfl _ _ (w.heap.size + 1) zeroE _ rfl rfl HR.out) rfl ?_
        exact ⟨by rw [HP.out]; rfl, HBE.out⟩
      · have hc2 := (HS.out.later HBW.out).at hp
        obtain ⟨b2, o2, rfl, _, hc2⟩ := hc2
        have z0 : W4.cell? ⟨b2, o2 + p * 4, none⟩ = some (.string e.1) := hc2 0 _ rfl
        have z1 : W4.cell? ⟨b2, o2 + p * 4 + 1, none⟩ = some (.int .u64 e.2.1) := hc2 1 _ rfl
        have z2 : W4.cell? ⟨b2, o2 + p * 4 + 2, none⟩ = some (.bool e.2.2.1) := hc2 2 _ rfl
        have z3 : W4.cell? ⟨b2, o2 + p * 4 + 3, none⟩ = some (.string e.2.2.2) := hc2 3 _ rfl
        have HBE := Lib.hid (show bestL l = some e from by rw [← HN.out, List.take_length] at hbe; exact hbe)
        have j0 : (0 : Int) ≤ p := by omega
        have j1 : (p : Int) < n := by omega
        have j2 : ¬ (p : Int) < 0 := by omega
        clear HC hc2 hp hbe
        obtain ⟨ek, es, ed, ev⟩ := e
        dsimp only at z0 z1 z2 z3
        cases ed with
        | false =>
          have HP := Lib.hid (show pickL bf l = some (ek, es, false, ev) from by simp [pickL, HBE.out])
          go_wp2_with fail
          refine wp_region_calmB 18 (by kernel_rfl) (by kernel_rfl) ?_
          simp only [List.take_succ_cons, List.take_zero, List.drop_succ_cons, List.drop_zero]
          refine chain0 ?_
          refine @chain _ _ _ _ _ _ _ _ 30 (.int .i64 (p : Int)) (by rfl) (by rfl) (by exact fun W2 hW => run_mv (by rfl) (by exact eval_base (by kernel_rfl) (by rfl)) hW) ?_
          refine @chain _ _ _ _ _ _ _ _ 31 (.bool false) (by rfl) (by rfl) (by exact fun W2 hW => run_bo (u := .int .i64 (p : Int)) (v := .int .i64 0) (by rfl) (by exact eval_look (by kernel_rfl) (by kernel_rfl)) (by rfl) (fun W => lssN_run _ _ _ _ _ _ _ (by rw [decide_eq_false_iff_not]; omega) W) hW) ?_
          refine @chain _ _ _ _ _ _ _ _ 32 (.bool false) (by rfl) (by rfl) (by exact fun W2 hW => run_mv (by rfl) (by exact eval_look (by kernel_rfl) (by kernel_rfl)) hW) ?_
          refine @chainG _ _ _ _ _ _ _ _ 33 (.slice (some ⟨b2, o2, none⟩) n c) (by kernel_rfl) (by rfl) (by exact fun W2 hW => run_mv (by rfl) (by exact eval_base (by kernel_rfl) (by rfl)) hW) ?_
          refine @chainG _ _ _ _ _ _ _ _ 34 (.int .i64 (p : Int)) (by kernel_rfl) (by rfl) (by exact fun W2 hW => run_mv (by rfl) (by exact eval_base (by kernel_rfl) (by rfl)) hW) ?_
          refine @chainG _ _ _ _ _ _ _ _ 35 (.pointer (some ⟨b2, o2 + p * 4, none⟩)) (by kernel_rfl) (by rfl) (by exact fun W2 hW => run_ia (u := .slice (some ⟨b2, o2, none⟩) n c) (v := .int .i64 (p : Int)) (by rfl) (by exact eval_look (by kernel_rfl) (by kernel_rfl)) (by exact eval_look (by kernel_rfl) (by kernel_rfl)) (fun W => ixE _ _ _ _ _ (by omega) W) hW) ?_
          refine @chainG _ _ _ _ _ _ _ _ 36 (.pointer (some ⟨b2, o2 + p * 4 + 2, none⟩)) (by kernel_rfl) (by rfl) (by exact fun W2 hW => run_fa (p := .pointer (some ⟨b2, o2 + p * 4, none⟩)) (by rfl) (by exact eval_look (by kernel_rfl) (by kernel_rfl)) (fun W => by first | kernel_rfl | go_simp) hW) ?_
          refine @chainG _ _ _ _ _ _ _ _ 37 (.bool false) (by kernel_rfl) (by rfl) (by exact fun W2 hW => run_lw (by rfl) (by exact eval_look (by kernel_rfl) (by kernel_rfl)) (fun W hW => ldBo _ _ _ _ (cell_later hW z2)) hW) ?_
          refine @chainG _ _ _ _ _ _ _ _ 38 (.bool false) (by kernel_rfl) (by rfl) (by exact fun W2 hW => run_mv (by rfl) (by exact eval_look (by kernel_rfl) (by kernel_rfl)) hW) ?_
          refine @chainK _ _ _ _ _ _ _ _ 39 (by kernel_rfl) (by rfl) ?_
          refine @chainK _ _ _ _ _ _ _ _ 40 (by kernel_rfl) (by rfl) ?_
          refine @chainK _ _ _ _ _ _ _ _ 41 (by kernel_rfl) (by rfl) ?_
          refine @chainK _ _ _ _ _ _ _ _ 42 (by kernel_rfl) (by rfl) ?_
          refine @chainK _ _ _ _ _ _ _ _ 43 (by kernel_rfl) (by rfl) ?_
          refine @chainK _ _ _ _ _ _ _ _ 44 (by kernel_rfl) (by rfl) ?_
          refine @chainK _ _ _ _ _ _ _ _ 45 (by kernel_rfl) (by rfl) ?_
          refine @chainK _ _ _ _ _ _ _ _ 46 (by kernel_rfl) (by rfl) ?_
          refine @chainG _ _ _ _ _ _ _ _ 47 (.bool false) (by kernel_rfl) (by rfl) (by exact fun W2 hW => run_pkF (by rfl) (by exact eval_look (by kernel_rfl) (by kernel_rfl)) (by rfl) hW) ?_
          refine calm_nil (fun W2 hW2 => ?_)
          refine Eq.mpr (congrArg (fun a => wpList _ _ _ _ a W2) (show _ = (⟨#[Value.slice (some ⟨b2, o2, none⟩) n c, Value.agg #[Value.slice bA n1 bc, Value.slice bB n2 bd, Value.bool nt], undef, Value.pointer (some ⟨w.heap.size, 0, none⟩), Value.pointer (some ⟨w.heap.size + 1, 0, none⟩), Value.bool false, Value.int IntKind.i64 (p : Int), Value.int IntKind.i64 (n : Int), Value.int IntKind.i64 (n : Int), Value.slice (some ⟨b2, o2, none⟩) n c, Value.int IntKind.i64 (n : Int), Value.bool false, u12, u13, u14, u15, u16, u17, u18, u19, u20, u21, u22, u23, u24, u25, u26, u27, u28, u29, Value.int IntKind.i64 (p : Int), Value.bool false, Value.bool false, Value.slice (some ⟨b2, o2, none⟩) n c, Value.int IntKind.i64 (p : Int), Value.pointer (some ⟨b2, o2 + p * 4, none⟩), Value.pointer (some ⟨b2, o2 + p * 4 + 2, none⟩), Value.bool false, Value.bool false, undef, undef, undef, undef, undef, undef, undef, undef, Value.bool false, undef, undef, undef, undef, undef, undef], []⟩ : Act) by kernel_rfl)) ?_
          have HW2 := Lib.hid hW2
          clear hW2
          obtain ⟨W6, hW6⟩ : ∃ Z, W2 = Z := ⟨_, rfl⟩
          have hbq : Below W4.heap.size W4 W6 := by rw [← hW6]; exact HW2.out
          have hk6 := blk_below HK2.out hbq
          obtain ⟨d0, d1, d2, d3, f0, f1, f2, f3⟩ := four hk6
          have HR := Lib.hid (put4_row hk6 (ek, es, false, ev))
          have HBF := Lib.hid ((HBW.out.trans (hbq.mono HBW.out.size)).trans ((upd_put4 W6 (w.heap.size + 1) (ek, es, false, ev)).bel (fun k hk => by omega) (by have := HBW.out.size; have := hbq.size; omega)))
          have x0 := cell_later hbq z0
          have x1 := cell_later hbq z1
          have x2 := cell_later hbq z2
          have x3 := cell_later hbq z3
          rw [hW6]
          clear hbq hk6 hW6
          go_wp2_with fail
          refine bodyPost_ret (res_cell_tmp rfl _ _ (w.heap.size + 1) (ek, es, false, ev) _ rfl rfl HR.out) rfl ?_
          exact ⟨by rw [HP.out]; rfl, HBF.out⟩
        | true =>
          have HH := Lib.hid (fun (W : World) (h : Below W4.heap.size W4 W) => HHS.out ek W (HBW.out.trans (h.mono HBW.out.size)))
          clear HHS
          cases hf : bf ek with
          | false =>
            simp only [hf] at HH
            have HP := Lib.hid (show pickL bf l = none from by simp [pickL, HBE.out, hf])
            go_wp2_with fail
            refine wp_region_calmB 18 (by kernel_rfl) (by kernel_rfl) ?_
            simp only [List.take_succ_cons, List.take_zero, List.drop_succ_cons, List.drop_zero]
            refine chain0 ?_
            refine @chain _ _ _ _ _ _ _ _ 30 (.int .i64 (p : Int)) (by rfl) (by rfl) (by exact fun W2 hW => run_mv (by rfl) (by exact eval_base (by kernel_rfl) (by rfl)) hW) ?_
            refine @chain _ _ _ _ _ _ _ _ 31 (.bool false) (by rfl) (by rfl) (by exact fun W2 hW => run_bo (u := .int .i64 (p : Int)) (v := .int .i64 0) (by rfl) (by exact eval_look (by kernel_rfl) (by kernel_rfl)) (by rfl) (fun W => lssN_run _ _ _ _ _ _ _ (by rw [decide_eq_false_iff_not]; omega) W) hW) ?_
            refine @chain _ _ _ _ _ _ _ _ 32 (.bool false) (by rfl) (by rfl) (by exact fun W2 hW => run_mv (by rfl) (by exact eval_look (by kernel_rfl) (by kernel_rfl)) hW) ?_
            refine @chainG _ _ _ _ _ _ _ _ 33 (.slice (some ⟨b2, o2, none⟩) n c) (by kernel_rfl) (by rfl) (by exact fun W2 hW => run_mv (by rfl) (by exact eval_base (by kernel_rfl) (by rfl)) hW) ?_
            refine @chainG _ _ _ _ _ _ _ _ 34 (.int .i64 (p : Int)) (by kernel_rfl) (by rfl) (by exact fun W2 hW => run_mv (by rfl) (by exact eval_base (by kernel_rfl) (by rfl)) hW) ?_
            refine @chainG _ _ _ _ _ _ _ _ 35 (.pointer (some ⟨b2, o2 + p * 4, none⟩)) (by kernel_rfl) (by rfl) (by exact fun W2 hW => run_ia (u := .slice (some ⟨b2, o2, none⟩) n c) (v := .int .i64 (p : Int)) (by rfl) (by exact eval_look (by kernel_rfl) (by kernel_rfl)) (by exact eval_look (by kernel_rfl) (by kernel_rfl)) (fun W => ixE _ _ _ _ _ (by omega) W) hW) ?_
            refine @chainG _ _ _ _ _ _ _ _ 36 (.pointer (some ⟨b2, o2 + p * 4 + 2, none⟩)) (by kernel_rfl) (by rfl) (by exact fun W2 hW => run_fa (p := .pointer (some ⟨b2, o2 + p * 4, none⟩)) (by rfl) (by exact eval_look (by kernel_rfl) (by kernel_rfl)) (fun W => by first | kernel_rfl | go_simp) hW) ?_
            refine @chainG _ _ _ _ _ _ _ _ 37 (.bool true) (by kernel_rfl) (by rfl) (by exact fun W2 hW => run_lw (by rfl) (by exact eval_look (by kernel_rfl) (by kernel_rfl)) (fun W hW => ldBo _ _ _ _ (cell_later hW z2)) hW) ?_
            refine @chainG _ _ _ _ _ _ _ _ 38 (.bool true) (by kernel_rfl) (by rfl) (by exact fun W2 hW => run_mv (by rfl) (by exact eval_look (by kernel_rfl) (by kernel_rfl)) hW) ?_
            refine @chainG _ _ _ _ _ _ _ _ 39 (.agg #[.slice bA n1 bc, .slice bB n2 bd, .bool nt]) (by kernel_rfl) (by rfl) (by exact fun W2 hW => run_lw (by rfl) (by exact eval_base (by kernel_rfl) (by rfl)) (fun W hW => ldBw _ _ _ _ _ (blk_below HK1.out hW)) hW) ?_
            refine @chainG _ _ _ _ _ _ _ _ 40 (.slice (some ⟨b2, o2, none⟩) n c) (by kernel_rfl) (by rfl) (by exact fun W2 hW => run_mv (by rfl) (by exact eval_base (by kernel_rfl) (by rfl)) hW) ?_
            refine @chainG _ _ _ _ _ _ _ _ 41 (.int .i64 (p : Int)) (by kernel_rfl) (by rfl) (by exact fun W2 hW => run_mv (by rfl) (by exact eval_base (by kernel_rfl) (by rfl)) hW) ?_
            refine @chainG _ _ _ _ _ _ _ _ 42 (.pointer (some ⟨b2, o2 + p * 4, none⟩)) (by kernel_rfl) (by rfl) (by exact fun W2 hW => run_ia (u := .slice (some ⟨b2, o2, none⟩) n c) (v := .int .i64 (p : Int)) (by rfl) (by exact eval_look (by kernel_rfl) (by kernel_rfl)) (by exact eval_look (by kernel_rfl) (by kernel_rfl)) (fun W => ixE _ _ _ _ _ (by omega) W) hW) ?_
            refine @chainG _ _ _ _ _ _ _ _ 43 (.pointer (some ⟨b2, o2 + p * 4, none⟩)) (by kernel_rfl) (by rfl) (by exact fun W2 hW => run_fa (p := .pointer (some ⟨b2, o2 + p * 4, none⟩)) (by rfl) (by exact eval_look (by kernel_rfl) (by kernel_rfl)) (fun W => by first | kernel_rfl | go_simp) hW) ?_
            refine @chainG _ _ _ _ _ _ _ _ 44 (.string ek) (by kernel_rfl) (by rfl) (by exact fun W2 hW => run_lw (by rfl) (by exact eval_look (by kernel_rfl) (by kernel_rfl)) (fun W hW => ldStr _ _ _ _ (cell_later hW z0)) hW) ?_
            refine @chainG _ _ _ _ _ _ _ _ 45 (.bool false) (by kernel_rfl) (by rfl) (by exact fun W2 hW => run_call (vs := #[.agg #[.slice bA n1 bc, .slice bB n2 bd, .bool nt], .string ek]) (by rfl) (by kernel_rfl) (enters_of Try.func31 (by kernel_rfl) (by rfl)) (calm_b hW (HH.out W2 hW))) ?_
            refine @chainG _ _ _ _ _ _ _ _ 46 (.bool true) (by kernel_rfl) (by rfl) (by exact fun W2 hW => run_uo (u := .bool false) (by rfl) (by exact eval_look (by kernel_rfl) (by kernel_rfl)) (fun W => by go_simp) hW) ?_
            refine @chainG _ _ _ _ _ _ _ _ 47 (.bool true) (by kernel_rfl) (by rfl) (by exact fun W2 hW => run_pkT (by rfl) (by exact eval_look (by kernel_rfl) (by kernel_rfl)) (by exact eval_look (by kernel_rfl) (by kernel_rfl)) hW) ?_
            refine calm_nil (fun W2 hW2 => ?_)
            refine Eq.mpr (congrArg (fun a => wpList _ _ _ _ a W2) (show _ = (⟨#[Value.slice (some ⟨b2, o2, none⟩) n c, Value.agg #[Value.slice bA n1 bc, Value.slice bB n2 bd, Value.bool nt], undef, Value.pointer (some ⟨w.heap.size, 0, none⟩), Value.pointer (some ⟨w.heap.size + 1, 0, none⟩), Value.bool false, Value.int IntKind.i64 (p : Int), Value.int IntKind.i64 (n : Int), Value.int IntKind.i64 (n : Int), Value.slice (some ⟨b2, o2, none⟩) n c, Value.int IntKind.i64 (n : Int), Value.bool false, u12, u13, u14, u15, u16, u17, u18, u19, u20, u21, u22, u23, u24, u25, u26, u27, u28, u29, Value.int IntKind.i64 (p : Int), Value.bool false, Value.bool false, Value.slice (some ⟨b2, o2, none⟩) n c, Value.int IntKind.i64 (p : Int), Value.pointer (some ⟨b2, o2 + p * 4, none⟩), Value.pointer (some ⟨b2, o2 + p * 4 + 2, none⟩), Value.bool true, Value.bool true, Value.agg #[Value.slice bA n1 bc, Value.slice bB n2 bd, Value.bool nt], Value.slice (some ⟨b2, o2, none⟩) n c, Value.int IntKind.i64 (p : Int), Value.pointer (some ⟨b2, o2 + p * 4, none⟩), Value.pointer (some ⟨b2, o2 + p * 4, none⟩), Value.string ek, Value.bool false, Value.bool true, Value.bool true, undef, undef, undef, undef, undef, undef], []⟩ : Act) by kernel_rfl)) ?_
            have HW2 := Lib.hid hW2
            clear hW2
            obtain ⟨W6, hW6⟩ : ∃ Z, W2 = Z := ⟨_, rfl⟩
            have hbq : Below W4.heap.size W4 W6 := by rw [← hW6]; exact HW2.out
            have hk6 := blk_below HK2.out hbq
            obtain ⟨d0, d1, d2, d3, f0, f1, f2, f3⟩ := four hk6
            have HR := Lib.hid (put4_row hk6 zeroE)
            have HBF := Lib.hid ((HBW.out.trans (hbq.mono HBW.out.size)).trans ((upd_put4 W6 (w.heap.size + 1) zeroE).bel (fun k hk => by omega) (by have := HBW.out.size; have := hbq.size; omega)))
            rw [hW6]
            clear hbq hk6 hW6
            go_wp2_with fail
            refine bodyPost_ret (res_cell_tmp rfl _ _ (w.heap.size + 1) zeroE _ rfl rfl HR.out) rfl ?_
            exact ⟨by rw [HP.out]; rfl, HBF.out⟩
          | true =>
            simp only [hf] at HH
            have HP := Lib.hid (show pickL bf l = some (ek, es, true, ev) from by simp [pickL, HBE.out, hf])
            go_wp2_with fail
            refine wp_region_calmB 18 (by kernel_rfl) (by kernel_rfl) ?_
            simp only [List.take_succ_cons, List.take_zero, List.drop_succ_cons, List.drop_zero]
            refine chain0 ?_
            refine @chain _ _ _ _ _ _ _ _ 30 (.int .i64 (p : Int)) (by rfl) (by rfl) (by exact fun W2 hW => run_mv (by rfl) (by exact eval_base (by kernel_rfl) (by rfl)) hW) ?_
            refine @chain _ _ _ _ _ _ _ _ 31 (.bool false) (by rfl) (by rfl) (by exact fun W2 hW => run_bo (u := .int .i64 (p : Int)) (v := .int .i64 0) (by rfl) (by exact eval_look (by kernel_rfl) (by kernel_rfl)) (by rfl) (fun W => lssN_run _ _ _ _ _ _ _ (by rw [decide_eq_false_iff_not]; omega) W) hW) ?_
            refine @chain _ _ _ _ _ _ _ _ 32 (.bool false) (by rfl) (by rfl) (by exact fun W2 hW => run_mv (by rfl) (by exact eval_look (by kernel_rfl) (by kernel_rfl)) hW) ?_
            refine @chainG _ _ _ _ _ _ _ _ 33 (.slice (some ⟨b2, o2, none⟩) n c) (by kernel_rfl) (by rfl) (by exact fun W2 hW => run_mv (by rfl) (by exact eval_base (by kernel_rfl) (by rfl)) hW) ?_
            refine @chainG _ _ _ _ _ _ _ _ 34 (.int .i64 (p : Int)) (by kernel_rfl) (by rfl) (by exact fun W2 hW => run_mv (by rfl) (by exact eval_base (by kernel_rfl) (by rfl)) hW) ?_
            refine @chainG _ _ _ _ _ _ _ _ 35 (.pointer (some ⟨b2, o2 + p * 4, none⟩)) (by kernel_rfl) (by rfl) (by exact fun W2 hW => run_ia (u := .slice (some ⟨b2, o2, none⟩) n c) (v := .int .i64 (p : Int)) (by rfl) (by exact eval_look (by kernel_rfl) (by kernel_rfl)) (by exact eval_look (by kernel_rfl) (by kernel_rfl)) (fun W => ixE _ _ _ _ _ (by omega) W) hW) ?_
            refine @chainG _ _ _ _ _ _ _ _ 36 (.pointer (some ⟨b2, o2 + p * 4 + 2, none⟩)) (by kernel_rfl) (by rfl) (by exact fun W2 hW => run_fa (p := .pointer (some ⟨b2, o2 + p * 4, none⟩)) (by rfl) (by exact eval_look (by kernel_rfl) (by kernel_rfl)) (fun W => by first | kernel_rfl | go_simp) hW) ?_
            refine @chainG _ _ _ _ _ _ _ _ 37 (.bool true) (by kernel_rfl) (by rfl) (by exact fun W2 hW => run_lw (by rfl) (by exact eval_look (by kernel_rfl) (by kernel_rfl)) (fun W hW => ldBo _ _ _ _ (cell_later hW z2)) hW) ?_
            refine @chainG _ _ _ _ _ _ _ _ 38 (.bool true) (by kernel_rfl) (by rfl) (by exact fun W2 hW => run_mv (by rfl) (by exact eval_look (by kernel_rfl) (by kernel_rfl)) hW) ?_
            refine @chainG _ _ _ _ _ _ _ _ 39 (.agg #[.slice bA n1 bc, .slice bB n2 bd, .bool nt]) (by kernel_rfl) (by rfl) (by exact fun W2 hW => run_lw (by rfl) (by exact eval_base (by kernel_rfl) (by rfl)) (fun W hW => ldBw _ _ _ _ _ (blk_below HK1.out hW)) hW) ?_
            refine @chainG _ _ _ _ _ _ _ _ 40 (.slice (some ⟨b2, o2, none⟩) n c) (by kernel_rfl) (by rfl) (by exact fun W2 hW => run_mv (by rfl) (by exact eval_base (by kernel_rfl) (by rfl)) hW) ?_
            refine @chainG _ _ _ _ _ _ _ _ 41 (.int .i64 (p : Int)) (by kernel_rfl) (by rfl) (by exact fun W2 hW => run_mv (by rfl) (by exact eval_base (by kernel_rfl) (by rfl)) hW) ?_
            refine @chainG _ _ _ _ _ _ _ _ 42 (.pointer (some ⟨b2, o2 + p * 4, none⟩)) (by kernel_rfl) (by rfl) (by exact fun W2 hW => run_ia (u := .slice (some ⟨b2, o2, none⟩) n c) (v := .int .i64 (p : Int)) (by rfl) (by exact eval_look (by kernel_rfl) (by kernel_rfl)) (by exact eval_look (by kernel_rfl) (by kernel_rfl)) (fun W => ixE _ _ _ _ _ (by omega) W) hW) ?_
            refine @chainG _ _ _ _ _ _ _ _ 43 (.pointer (some ⟨b2, o2 + p * 4, none⟩)) (by kernel_rfl) (by rfl) (by exact fun W2 hW => run_fa (p := .pointer (some ⟨b2, o2 + p * 4, none⟩)) (by rfl) (by exact eval_look (by kernel_rfl) (by kernel_rfl)) (fun W => by first | kernel_rfl | go_simp) hW) ?_
            refine @chainG _ _ _ _ _ _ _ _ 44 (.string ek) (by kernel_rfl) (by rfl) (by exact fun W2 hW => run_lw (by rfl) (by exact eval_look (by kernel_rfl) (by kernel_rfl)) (fun W hW => ldStr _ _ _ _ (cell_later hW z0)) hW) ?_
            refine @chainG _ _ _ _ _ _ _ _ 45 (.bool true) (by kernel_rfl) (by rfl) (by exact fun W2 hW => run_call (vs := #[.agg #[.slice bA n1 bc, .slice bB n2 bd, .bool nt], .string ek]) (by rfl) (by kernel_rfl) (enters_of Try.func31 (by kernel_rfl) (by rfl)) (calm_b hW (HH.out W2 hW))) ?_
            refine @chainG _ _ _ _ _ _ _ _ 46 (.bool false) (by kernel_rfl) (by rfl) (by exact fun W2 hW => run_uo (u := .bool true) (by rfl) (by exact eval_look (by kernel_rfl) (by kernel_rfl)) (fun W => by go_simp) hW) ?_
            refine @chainG _ _ _ _ _ _ _ _ 47 (.bool false) (by kernel_rfl) (by rfl) (by exact fun W2 hW => run_pkT (by rfl) (by exact eval_look (by kernel_rfl) (by kernel_rfl)) (by exact eval_look (by kernel_rfl) (by kernel_rfl)) hW) ?_
            refine calm_nil (fun W2 hW2 => ?_)
            refine Eq.mpr (congrArg (fun a => wpList _ _ _ _ a W2) (show _ = (⟨#[Value.slice (some ⟨b2, o2, none⟩) n c, Value.agg #[Value.slice bA n1 bc, Value.slice bB n2 bd, Value.bool nt], undef, Value.pointer (some ⟨w.heap.size, 0, none⟩), Value.pointer (some ⟨w.heap.size + 1, 0, none⟩), Value.bool false, Value.int IntKind.i64 (p : Int), Value.int IntKind.i64 (n : Int), Value.int IntKind.i64 (n : Int), Value.slice (some ⟨b2, o2, none⟩) n c, Value.int IntKind.i64 (n : Int), Value.bool false, u12, u13, u14, u15, u16, u17, u18, u19, u20, u21, u22, u23, u24, u25, u26, u27, u28, u29, Value.int IntKind.i64 (p : Int), Value.bool false, Value.bool false, Value.slice (some ⟨b2, o2, none⟩) n c, Value.int IntKind.i64 (p : Int), Value.pointer (some ⟨b2, o2 + p * 4, none⟩), Value.pointer (some ⟨b2, o2 + p * 4 + 2, none⟩), Value.bool true, Value.bool true, Value.agg #[Value.slice bA n1 bc, Value.slice bB n2 bd, Value.bool nt], Value.slice (some ⟨b2, o2, none⟩) n c, Value.int IntKind.i64 (p : Int), Value.pointer (some ⟨b2, o2 + p * 4, none⟩), Value.pointer (some ⟨b2, o2 + p * 4, none⟩), Value.string ek, Value.bool true, Value.bool false, Value.bool false, undef, undef, undef, undef, undef, undef], []⟩ : Act) by kernel_rfl)) ?_
            have HW2 := Lib.hid hW2
            clear hW2
            obtain ⟨W6, hW6⟩ : ∃ Z, W2 = Z := ⟨_, rfl⟩
            have hbq : Below W4.heap.size W4 W6 := by rw [← hW6]; exact HW2.out
            have hk6 := blk_below HK2.out hbq
            obtain ⟨d0, d1, d2, d3, f0, f1, f2, f3⟩ := four hk6
            have HR := Lib.hid (put4_row hk6 (ek, es, true, ev))
            have HBF := Lib.hid ((HBW.out.trans (hbq.mono HBW.out.size)).trans ((upd_put4 W6 (w.heap.size + 1) (ek, es, true, ev)).bel (fun k hk => by omega) (by have := HBW.out.size; have := hbq.size; omega)))
            have x0 := cell_later hbq z0
            have x1 := cell_later hbq z1
            have x2 := cell_later hbq z2
            have x3 := cell_later hbq z3
            rw [hW6]
            clear hbq hk6 hW6
            go_wp2_with fail
            refine bodyPost_ret (res_cell_tmp rfl _ _ (w.heap.size + 1) (ek, es, true, ev) _ rfl rfl HR.out) rfl ?_
            exact ⟨by rw [HP.out]; rfl, HBF.out⟩
end Go.Proofs.Ytdpijhpjicbecaa.H
namespace Go.Proofs.Ytdpijhpjicbecaa.H
open Go Go.RowKit Go.Deep Go.Shelf Go.Proofs Go.Proofs.YtdpijhpjicbecaaW.PrintWords
set_option linter.unusedVariables false
set_option linter.unusedSimpArgs false
attribute [local go_sem] Oper.semAt_some
/-- A function value that tells of a key, from the world w on. -/
def Tells (f : FV) (b : ByteArray → Bool) (K : ByteArray → Prop) (w : World) : Prop :=
  ∀ (key : ByteArray) (W : World), K key → Below w.heap.size w W → Calls Try.prog f.1 (f.2.1 ++ #[.string key] ++ f.2.2) W fun e W' => e = .returned (.bool (b key)) ∧ Below W.heap.size W W'
theorem newE_self (x : Ent) : newE x x = x := by unfold newE; split <;> rfl
theorem best_fold {l : List Ent} {x : Ent} (h : l[0]? = some x) : bestL l = some (l.foldl newE x) := by
  cases l with
  | nil => cases h
  | cons y r =>
    injection h with h
    subst h
    simp only [bestL, List.foldl_cons, newE_self]
theorem newE_or (p e : Ent) : newE p e = p ∨ newE p e = e := by unfold newE; split <;> simp
theorem fold_mem : ∀ (l : List Ent) (x : Ent), l.foldl newE x = x ∨ l.foldl newE x ∈ l
  | [], x => .inl rfl
  | y :: l, x => by
    rcases fold_mem l (newE x y) with h | h
    · simp only [List.foldl_cons, h]
      rcases newE_or x y with h2 | h2
      · exact .inl h2
      · exact .inr (by rw [h2]; simp)
    · exact .inr (List.mem_cons_of_mem _ h)
theorem best_mem {l : List Ent} {e : Ent} (h : bestL l = some e) : e ∈ l := by
  cases l with
  | nil => cases h
  | cons x r =>
    injection h with h
    rcases fold_mem r x with h2 | h2
    · rw [← h, h2]; simp
    · rw [← h]; exact List.mem_cons_of_mem _ h2
set_option maxHeartbeats 12800000 in
set_option maxRecDepth 100000 in
theorem pick_c (A : Option Addr) (c : Nat) (l : List Ent) (f : FV) (b : ByteArray → Bool) (K : ByteArray → Prop) (w : World) (hs : Sl encE 4 w A l) (hl : ∀ e ∈ l, K e.1)
    (hen : ∀ args w, (callFunc f.1 args).run Try.prog w = .ok (.enter f.1 args) w) (hb : Tells f b K w) :
    Calls Try.prog 32 #[.slice A l.length c, valF f] w fun e w' => e = .returned (pickV (pickL b l)) ∧ Below w.heap.size w w' := by
  have hm := hs.1
  have HS := Lib.hid hs
  have HT := Lib.hid hb
  have HLK := Lib.hid hl
  obtain ⟨gf, fa, lb⟩ := f
  rw [show valF (gf, fa, lb) = .func (.func gf) fa lb from rfl]
  obtain ⟨n, hn⟩ : ∃ n, l.length = n := ⟨_, rfl⟩
  rw [hn] at hm ⊢
  have HN := Lib.hid hn
  clear hs hb hn hl
  dsimp only at hen
  go_enter Try.func32, Try.ntmps32
  by_cases h0 : n = 0
  · have HP := Lib.hid (show pickL b l = none from by rw [List.length_eq_zero_iff.1 (HN.out.trans h0)]; rfl)
    subst h0
    have HR := Lib.hid (heap_alloc_new w (.cells #[.string ⟨#[]⟩, .int .u64 0, .bool false, .string ⟨#[]⟩] 53))
    have HB := Lib.hid ((Below.refl w.heap.size w).alloc (Nat.le_refl _) (.cells #[.string ⟨#[]⟩, .int .u64 0, .bool false, .string ⟨#[]⟩] 53))
    go_wp2_with fail
    refine bodyPost_ret (res_cell_tmp rfl _ _ w.heap.size zeroE _ rfl rfl HR.out) rfl ?_
    exact ⟨by rw [HP.out]; rfl, HB.out⟩
  · obtain ⟨x, hx⟩ := getElem?_of_lt (l := l) (i := 0) (by rw [HN.out]; omega)
    have HX := Lib.hid hx
    have HBF := Lib.hid (best_fold hx)
    obtain ⟨b1, o1, rfl, _, hc1⟩ := HS.out.at hx
    have y0 : w.cell? ⟨b1, o1, none⟩ = some (.string x.1) := by have := hc1 0 _ rfl; simpa using this
    have y1 : w.cell? ⟨b1, o1 + 1, none⟩ = some (.int .u64 x.2.1) := by have := hc1 1 _ rfl; simpa using this
    have y2 : w.cell? ⟨b1, o1 + 2, none⟩ = some (.bool x.2.2.1) := by have := hc1 2 _ rfl; simpa using this
    have y3 : w.cell? ⟨b1, o1 + 3, none⟩ = some (.string x.2.2.2) := by have := hc1 3 _ rfl; simpa using this
    clear hc1 hx
    have j1 : (0 : Int) < n := by omega
    have j2 : ¬ (n : Int) = 0 := by omega
    have j3 : ((n : Int) == 0) = false := by rw [beq_eq_false_iff_ne]; omega
    go_upto_region 3 with fail
    have e0 := cell_later ((Below.refl w.heap.size w).alloc (Nat.le_refl _) (.cells #[.string ⟨#[]⟩, .int .u64 0, .bool false, .string ⟨#[]⟩] 53)) y0
    have e1 := cell_later ((Below.refl w.heap.size w).alloc (Nat.le_refl _) (.cells #[.string ⟨#[]⟩, .int .u64 0, .bool false, .string ⟨#[]⟩] 53)) y1
    have e2 := cell_later ((Below.refl w.heap.size w).alloc (Nat.le_refl _) (.cells #[.string ⟨#[]⟩, .int .u64 0, .bool false, .string ⟨#[]⟩] 53)) y2
    have e3 := cell_later ((Below.refl w.heap.size w).alloc (Nat.le_refl _) (.cells #[.string ⟨#[]⟩, .int .u64 0, .bool false, .string ⟨#[]⟩] 53)) y3
    go_wp2_with fail
    obtain ⟨W3, hW3⟩ : ∃ Z, (w.alloc (.cells #[.string ⟨#[]⟩, .int .u64 0, .bool false, .string ⟨#[]⟩] 53)).alloc (.cells #[.string x.1, .int .u64 x.2.1, .bool x.2.2.1, .string x.2.2.2] 53) = Z := ⟨_, rfl⟩
    have k1 : W3.heap[w.heap.size]? = some (.cells #[.string ⟨#[]⟩, .int .u64 0, .bool false, .string ⟨#[]⟩] 53 (0, 0)) := by rw [← hW3]; exact blk_alloc (heap_alloc_new _ _) _
    have k2 : W3.heap[w.heap.size + 1]? = some (.cells (encE x).toArray 53 (0, 0)) := by rw [← hW3]; simpa [encE] using heap_alloc_new (w.alloc (.cells #[.string ⟨#[]⟩, .int .u64 0, .bool false, .string ⟨#[]⟩] 53)) (.cells #[.string x.1, .int .u64 x.2.1, .bool x.2.2.1, .string x.2.2.2] 53)
    have hb3 : Below w.heap.size w W3 := by rw [← hW3]; exact ((Below.refl _ _).alloc (Nat.le_refl _) _).alloc (by simp) _
    rw [hW3]
    clear hW3 e0 e1 e2 e3 y0 y1 y2 y3
    go_loopw [18] (fun s18 wr => ∃ (k : Nat) (p : Ent), s18 = .int .i64 k ∧ k ≤ n ∧ Below w.heap.size w wr ∧ w.heap.size + 1 < wr.heap.size ∧ wr.heap[w.heap.size]? = some (.cells #[.string ⟨#[]⟩, .int .u64 0, .bool false, .string ⟨#[]⟩] 53 (0, 0)) ∧ wr.heap[w.heap.size + 1]? = some (.cells (encE p).toArray 53 (0, 0)) ∧ (l.take k).foldl newE x = p) (fun s18 wr => n - (intOf s18).toNat)
    case atStart => exact ⟨0, x, rfl, by omega, hb3, blk_lt k2, k1, k2, rfl⟩
    case round =>
      obtain ⟨k, p, rfl, hk, hb4, hsz, hk1, hk2, hfp⟩ := hrel
      generalize wr = W4 at *
      have HB4 := Lib.hid hb4
      have HK1 := Lib.hid hk1
      have HK2 := Lib.hid hk2
      have HFP := Lib.hid hfp
      have HSZ := Lib.hid hsz
      have i0 : (0 : Int) ≤ k := by omega
      obtain ⟨d0, d1, d2, d3, f0, f1, f2, f3⟩ := four (v0 := .string p.1) (v1 := .int .u64 p.2.1) (v2 := .bool p.2.2.1) (v3 := .string p.2.2.2) hk2
      clear hb4 hk1 hk2 hfp hsz k1 k2 hb3
      by_cases hlt : k < n
      · have i1 : (k : Int) < n := by omega
        obtain ⟨y, hy⟩ := getElem?_of_lt (l := l) (by rw [HN.out]; exact hlt : k < l.length)
        have HY := Lib.hid hy
        have hA := (HS.out.later HB4.out).at hy
        obtain ⟨b2, o2, hA2, _, hc2⟩ := hA
        injection hA2 with hA2
        injection hA2 with hA2 hA3
        subst hA2
        subst hA3
        have HYC := Lib.hid (show ∀ i v, (encE y)[i]? = some v → W4.cell? ⟨b1, o1 + k * 4 + i, none⟩ = some v from hc2)
        have z0 : W4.cell? ⟨b1, o1 + k * 4, none⟩ = some (.string y.1) := hc2 0 _ rfl
        have z1 : W4.cell? ⟨b1, o1 + k * 4 + 1, none⟩ = some (.int .u64 y.2.1) := hc2 1 _ rfl
        have z2 : W4.cell? ⟨b1, o1 + k * 4 + 2, none⟩ = some (.bool y.2.2.1) := hc2 2 _ rfl
        have z3 : W4.cell? ⟨b1, o1 + k * 4 + 3, none⟩ = some (.string y.2.2.2) := hc2 3 _ rfl
        have hst : (l.take (k + 1)).foldl newE x = newE p y := by rw [take_suc HY.out, List.foldl_append, HFP.out]; rfl
        have HST := Lib.hid hst
        clear hc2 hy hst
        obtain ⟨W5, hW5⟩ : ∃ Z, W4.alloc (.cells #[.string y.1, .int .u64 y.2.1, .bool y.2.2.1, .string y.2.2.2] 53) = Z := ⟨_, rfl⟩
        have hb5 : Below W4.heap.size W4 W5 := by rw [← hW5]; exact (Below.refl _ _).alloc (Nat.le_refl _) _
        have hk5 := blk_below HK2.out hb5
        have HK5 := Lib.hid (blk_below HK1.out hb5)
        have hky : W5.heap[W4.heap.size]? = some (.cells #[.string y.1, .int .u64 y.2.1, .bool y.2.2.1, .string y.2.2.2] 53 (0, 0)) := by rw [← hW5]; exact heap_alloc_new _ _
        have HB5 := Lib.hid hb5
        have HKP := Lib.hid hk5
        go_upto_region 7 with fail
        try rw [hW5]
        obtain ⟨q0, q1, q2, q3, r0, r1, r2, r3⟩ := four (v0 := .string p.1) (v1 := .int .u64 p.2.1) (v2 := .bool p.2.2.1) (v3 := .string p.2.2.2) hk5
        obtain ⟨t0, t1, t2, t3, _, _, _, _⟩ := four hky
        clear hk5 hky hb5 hW5 d0 d1 d2 d3 f0 f1 f2 f3 z0 z1 z2 z3
        by_cases hg : p.2.1 < y.2.1
        · have HNE := Lib.hid (show newE p y = y from by simp [newE, hg])
          go_wp2_with fail
          go_roundw
          case rel => exact ⟨k + 1, y, by first | rfl | simp, by omega, (HB4.out.trans (HB5.out.mono HB4.out.size)).trans ((upd_put4 W5 (w.heap.size + 1) y).bel (fun k hk => by omega) (by have := HB4.out.size; have := HB5.out.size; omega)), by have := HSZ.out; have := HB5.out.size; have := (upd_put4 W5 (w.heap.size + 1) y).size; exact Nat.lt_of_lt_of_le (by omega) this, (upd_put4 W5 (w.heap.size + 1) y).heap HK5.out (by omega), put4_row HKP.out y, by rw [HST.out, HNE.out]⟩
          case measure => simp [intOf]; omega
        · have HNE := Lib.hid (show newE p y = p from by simp [newE, hg])
          go_wp2_with fail
          go_roundw
          case rel => exact ⟨k + 1, p, by first | rfl | simp, by omega, HB4.out.trans (HB5.out.mono HB4.out.size), by have := HSZ.out; have := HB5.out.size; omega, HK5.out, HKP.out, by rw [HST.out, HNE.out]⟩
          case measure => simp [intOf]; omega
      · have hkn : n = k := by omega
        subst hkn
        have HPB := Lib.hid (show bestL l = some p from by rw [HBF.out, ← HFP.out, ← HN.out, List.take_length])
        clear HBF HFP
        obtain ⟨pk, ps, pd, pv⟩ := p
        dsimp only at d0 d1 d2 d3
        cases pd with
        | false =>
          have HP := Lib.hid (show pickL b l = some (pk, ps, false, pv) from by simp [pickL, HPB.out])
          obtain ⟨t0, t1, t2, t3, s0, s1, s2, s3⟩ := four HK1.out
          have HR := Lib.hid (put4_row HK1.out (pk, ps, false, pv))
          have HBE := Lib.hid (HB4.out.trans ((upd_put4 W4 w.heap.size (pk, ps, false, pv)).bel (fun k hk => by omega) HB4.out.size))
          go_wp2_with fail
          refine bodyPost_ret (res_cell_tmp rfl _ _ w.heap.size (pk, ps, false, pv) _ rfl rfl HR.out) rfl ?_
          exact ⟨by rw [HP.out]; rfl, HBE.out⟩
        | true =>
          have HC := Lib.hid (HT.out pk W4 (HLK.out _ (best_mem HPB.out)) HB4.out)
          dsimp only at HC
          cases hf : b pk with
          | false =>
            have HP := Lib.hid (show pickL b l = none from by simp [pickL, HPB.out, hf])
            rw [hf] at HC
            go_upto_region 11 with (go_at_fn gf; refine HC.out.mono ?_; rintro _ W5 ⟨rfl, hb5⟩)
            have HB5 := Lib.hid (HB4.out.trans (hb5.mono HB4.out.size))
            have hk5 := blk_below HK1.out hb5
            obtain ⟨t0, t1, t2, t3, s0, s1, s2, s3⟩ := four hk5
            have HR := Lib.hid (put4_row hk5 zeroE)
            have HBE := Lib.hid (HB5.out.trans ((upd_put4 W5 w.heap.size zeroE).bel (fun k hk => by omega) HB5.out.size))
            clear hk5 hb5
            go_wp2_with fail
            refine bodyPost_ret (res_cell_tmp rfl _ _ w.heap.size zeroE _ rfl rfl HR.out) rfl ?_
            exact ⟨by rw [HP.out]; rfl, HBE.out⟩
          | true =>
            have HP := Lib.hid (show pickL b l = some (pk, ps, true, pv) from by simp [pickL, HPB.out, hf])
            rw [hf] at HC
            go_upto_region 12 with (go_at_fn gf; refine HC.out.mono ?_; rintro _ W5 ⟨rfl, hb5⟩)
            have HB5 := Lib.hid (HB4.out.trans (hb5.mono HB4.out.size))
            have hk5 := blk_below HK1.out hb5
            have hkp := blk_below HK2.out hb5
            obtain ⟨q0, q1, q2, q3, _, _, _, _⟩ := four (v0 := .string pk) (v1 := .int .u64 ps) (v2 := .bool true) (v3 := .string pv) hkp
            obtain ⟨t0, t1, t2, t3, s0, s1, s2, s3⟩ := four hk5
            have HR := Lib.hid (put4_row hk5 (pk, ps, true, pv))
            have HBE := Lib.hid (HB5.out.trans ((upd_put4 W5 w.heap.size (pk, ps, true, pv)).bel (fun k hk => by omega) HB5.out.size))
            clear hk5 hb5 hkp
            go_wp2_with fail
            refine bodyPost_ret (res_cell_tmp rfl _ _ w.heap.size (pk, ps, true, pv) _ rfl rfl HR.out) rfl ?_
            exact ⟨by rw [HP.out]; rfl, HBE.out⟩
end Go.Proofs.Ytdpijhpjicbecaa.H
