/- pile.Heap of merge's sources (cursors' blocks of D): contracts of its methods, for a less that is known by what it answers (gensheap.py, out of the heap of ints). Conditions: fewer than 2^40 stand in it. -/
import Derived.Test.YtdpijhpjicbecaaHSl
import Derived.Test.YtdpijhpjicbecaaHRow
import Derived.Test.YtdpijhpjicbecaaHHeapP
import Derived.BigRegion
import Derived.BigQuiet
import Derived.Lib.Hide
import Derived.LoopN
import Derived.Shelf.Abstract
import Derived.StillTailTactics
namespace Go.Proofs.Ytdpijhpjicbecaa.H
open Go.RowKit Go.Deep Go.Proofs Go.Proofs.YtdpijhpjicbecaaW.PrintWords
set_option linter.unusedVariables false
set_option linter.unusedSimpArgs false
/-- A cursor: its block. -/
abbrev Cu (D : Nat → Prop) := {x : Nat // D x}
def encU {D : Nat → Prop} (x : Cu D) : List Value := [.iface 91 (.pointer (some ⟨x.1, 0, none⟩))]
theorem okU {D : Nat → Prop} : EncOk (encU (D := D)) 1 := fun x => ⟨rfl, by simp [encU, Value.oneCell']⟩
theorem infoU : (Try.prog.info? 89).map (fun i => (i.zero, i.size, i.bytes)) = some (some .nilIface, 1, 16) := by kernel_rfl
theorem uSlU : Try.prog.underlying 107 = some (.slice 89) := Try.underlying107
variable {D : Nat → Prop}
def New (S : Nat → Prop) (w : World) : Nat → Prop := fun k => S k ∨ w.heap.size ≤ k
/-- A heap: its struct's block g, its list's block; both in S. -/
def HeapIs (w : World) (g : Nat) (S : Nat → Prop) (f : Value) (l : List (Cu D)) : Prop :=
  ∃ v, w.heap[g]? = some (.cells #[f, v] 109 (0, 0)) ∧ Own encU 89 1 w 0 v l ∧ S g ∧ ∀ k, v.ownBlock = some k → S k ∧ k ≠ g
theorem HeapIs.upd {w w' : World} {g : Nat} {S T : Nat → Prop} {f : Value} {l : List (Cu D)} (h : HeapIs w g S f l) (u : Upd T w w') (hd : ∀ k, S k → ¬ T k) : HeapIs w' g S f l := by
  obtain ⟨v, hb, ho, hg, hk⟩ := h
  exact ⟨v, u.heap hb (hd g hg), ho.upd u (fun k e => hd k (hk k e).1), hg, hk⟩
theorem HeapIs.later {w w' : World} {g : Nat} {S : Nat → Prop} {f : Value} {l : List (Cu D)} (h : HeapIs w g S f l) (hb : Below w.heap.size w w') : HeapIs w' g S f l :=
  h.upd (Upd.of_below (S := fun _ => False) hb) (fun _ _ h => h)
theorem HeapIs.mono {w : World} {g : Nat} {S S' : Nat → Prop} {f : Value} {l : List (Cu D)} (h : HeapIs w g S f l) (hs : ∀ k, S k → S' k) : HeapIs w g S' f l := by
  obtain ⟨v, hb, ho, hg, hk⟩ := h
  exact ⟨v, hb, ho, hs _ hg, fun k e => ⟨hs _ (hk k e).1, (hk k e).2⟩⟩
theorem HeapIs.lt {w : World} {g : Nat} {S : Nat → Prop} {f : Value} {l : List (Cu D)} (h : HeapIs w g S f l) : g < w.heap.size := by
  obtain ⟨v, hb, _⟩ := h
  exact blk_lt hb
/-- Only blocks that are there count. -/
theorem HeapIs.tight {w : World} {g : Nat} {S : Nat → Prop} {f : Value} {l : List (Cu D)} (h : HeapIs w g S f l) : HeapIs w g (fun k => S k ∧ k < w.heap.size) f l := by
  obtain ⟨v, hb, ho, hg, hk⟩ := h
  exact ⟨v, hb, ho, ⟨hg, blk_lt hb⟩, fun k e => ⟨⟨(hk k e).1, (ho.block_lt e).2⟩, (hk k e).2⟩⟩
/-- The function value '.func F caps' answers 'lt', wherever E holds; it writes nothing that is there. -/
structure LessI (F : Nat) (caps : Array Value) (E : World → Prop) (lt : Cu D → Cu D → Bool) : Prop where
  ent : Enters Try.prog F
  run : ∀ (w : World) (x y : Cu D), E w → Calls Try.prog F (#[.iface 91 (.pointer (some ⟨x.1, 0, none⟩)), .iface 91 (.pointer (some ⟨y.1, 0, none⟩))] ++ caps) w fun e w' => e = .returned (.bool (lt x y)) ∧ Below w.heap.size w w'
/-- What holds as long as nothing of S is written. -/
def Stays (S : Nat → Prop) (E : World → Prop) : Prop := ∀ w w', E w → Upd S w w' → E w'
theorem Stays.later {S : Nat → Prop} {E : World → Prop} (h : Stays S E) {w w' : World} (e : E w) (b : Below w.heap.size w w') : E w' := h w w' e (Upd.of_below b)
theorem Own.set1 {α : Type} {enc : α → List Value} {f : α → Value} (hf : ∀ x, enc x = [f x]) {e : TypeId} {w : World} {base g c n : Nat} {l : List α} (h : Own enc e 1 w base (.slice (some ⟨g, 0, none⟩) n c) l) (hn : n = l.length) (i : Nat) (x : α) :
    Own enc e 1 (w.setCell ⟨g, i, none⟩ (f x)) base (.slice (some ⟨g, 0, none⟩) n c) (l.set i x) := by
  subst hn
  have := (World.ownsRow.stored h i (f x)).1
  have e1 : ∀ m : List α, m.flatMap enc = m.map f := fun m => by
    induction m with
    | nil => rfl
    | cons a m ih => rw [List.flatMap_cons, ih, hf]; rfl
  unfold Own
  rw [List.length_set, e1, List.map_set, ← e1]
  exact this
theorem HeapIs.parts {w : World} {g : Nat} {S : Nat → Prop} {f : Value} {l : List (Cu D)} (h : HeapIs w g S f l) :
    ∃ A c, w.heap[g]? = some (.cells #[f, .slice A l.length c] 109 (0, 0)) ∧ Own encU 89 1 w 0 (.slice A l.length c) l ∧ Sl encU 1 w A l ∧ l.length ≤ c ∧ S g ∧ (∀ k, (Value.slice A l.length c).ownBlock = some k → S k ∧ k ≠ g) ∧ (l ≠ [] → ∃ b, A = some ⟨b, 0, none⟩ ∧ S b ∧ b ≠ g ∧ b < w.heap.size) := by
  obtain ⟨v, hb, ho, hg, hk⟩ := h
  obtain ⟨A, c, rfl, hlc, hs, hne⟩ := ho.slice (fun x => (okU x).1)
  exact ⟨A, c, hb, ho, hs, hlc, hg, hk, fun h => by obtain ⟨b, rfl, _, hlt⟩ := hne h; exact ⟨b, rfl, (hk b rfl).1, (hk b rfl).2, hlt⟩⟩
set_option maxRecDepth 100000 in
set_option maxHeartbeats 800000 in
theorem ahead_c (g : Nat) (S : Nat → Prop) (F : Nat) (caps : Array Value) (E : World → Prop) (lt : Cu D → Cu D → Bool) (hL : LessI F caps E lt) (l : List (Cu D)) (i j : Nat) (hi : i < l.length) (hj : j < l.length) (ai aj : Int) (ei : ai = i) (ej : aj = j) (w : World)
    (h : HeapIs w g S (.func (.func F) #[] caps) l) (hE : E w) (hS : Stays S E) :
    Calls Try.prog 80 #[.pointer (some ⟨g, 0, none⟩), .int .i64 ai, .int .i64 aj] w fun e w' => e = .returned (.bool (lt l[i] l[j])) ∧ Below w.heap.size w w' := by
  subst ei; subst ej
  obtain ⟨A, c, hb, ho, hs, hlc, hg, hk, hne⟩ := h.parts
  obtain ⟨b, rfl, hSb, hbg, hblt⟩ := hne (by rintro rfl; simp at hi)
  have c0 : w.cell? ⟨g, 0, none⟩ = some (.func (.func F) #[] caps) := (blk_cell hb 0).trans rfl
  have c1 : w.cell? ⟨g, 1, none⟩ = some (.slice (some ⟨b, 0, none⟩) l.length c) := (blk_cell hb 1).trans rfl
  have ci : w.cell? ⟨b, i, none⟩ = some (.iface 91 (.pointer (some ⟨l[i].1, 0, none⟩))) := by
    obtain ⟨b', o', hA, _, hc⟩ := hs.at (List.getElem?_eq_getElem hi)
    injection hA with hA; injection hA with h1 h2; subst h1; subst h2
    simpa using hc 0 _ rfl
  have cj : w.cell? ⟨b, j, none⟩ = some (.iface 91 (.pointer (some ⟨l[j].1, 0, none⟩))) := by
    obtain ⟨b', o', hA, _, hc⟩ := hs.at (List.getElem?_eq_getElem hj)
    injection hA with hA; injection hA with h1 h2; subst h1; subst h2
    simpa using hc 0 _ rfl
  have hm := hs.1
  have i1 : (0 : Int) ≤ (i : Int) := by omega
  have i2 : (i : Int) < (l.length : Int) := by omega
  have i3 : (0 : Int) ≤ (j : Int) := by omega
  have i4 : (j : Int) < (l.length : Int) := by omega
  have HE := Lib.hid hE
  have HS := Lib.hid hS
  have HL := Lib.hid hL
  have hent : ∀ (args : Array Value) (w : World), (callFunc F args).run Try.prog w = .ok (.enter F args) w := hL.ent
  clear hs ho hk hne hb h hE hS hL
  generalize l[i] = x at *
  generalize l[j] = y at *
  go_enter Try.func80, Try.ntmps80
  go_wp2_with fail
  go_still_tail 18, (by kernel_rfl)
  change wpList _ _ _ _ _ w.drew
  go_wp2_with (go_at_fn F; refine (HL.out.run _ _ _ (HS.out.later (w' := w.drew) HE.out ((Below.refl _ _).drew))).mono ?_; rintro e w1 ⟨rfl, hb1⟩)
  go_ret
  exact ⟨rfl, (((Below.refl w.heap.size w).drew).trans hb1)⟩
/-- The method value 'h.ahead'. -/
def aheadV (g : Nat) : Value := .func (.func 80) #[.pointer (some ⟨g, 0, none⟩)] #[]
theorem HeapIs.cells {w : World} {g : Nat} {S : Nat → Prop} {f : Value} {l : List (Cu D)} (h : HeapIs w g S f l) {A : Option Addr} {c : Nat} (hw : w.cell? ⟨g, 1, none⟩ = some (.slice A l.length c)) (hne : l ≠ []) :
    ∃ b, A = some ⟨b, 0, none⟩ ∧ S b ∧ b ≠ g ∧ b < w.heap.size ∧ (∀ i (hi : i < l.length), w.cell? ⟨b, i, none⟩ = some (.iface 91 (.pointer (some ⟨l[i].1, 0, none⟩)))) ∧ (∀ i, w.frozen? ⟨b, i, none⟩ = false) := by
  obtain ⟨A', c', hb, ho, hs, hlc, hg, hk, hn⟩ := h.parts
  obtain ⟨b, rfl, hSb, hbg, hlt⟩ := hn hne
  have c1 : w.cell? ⟨g, 1, none⟩ = some (.slice (some ⟨b, 0, none⟩) l.length c') := (blk_cell hb 1).trans rfl
  rw [c1] at hw
  injection hw with hw
  injection hw with h1 h2 h3
  subst h1; subst h3
  refine ⟨b, rfl, hSb, hbg, hlt, fun i hi => ?_, fun i => ?_⟩
  · obtain ⟨b', o', hA, _, hc⟩ := hs.at (List.getElem?_eq_getElem hi)
    injection hA with hA; injection hA with h1 h2; subst h1; subst h2
    simpa using hc 0 _ rfl
  · exact World.ownsRow.frozenAt ho i
/-- Behind an exchange. -/
theorem HeapIs.swap {w : World} {g b c : Nat} {S : Nat → Prop} {f : Value} {l : List (Cu D)} (h : HeapIs w g S f l) (hw : w.cell? ⟨g, 1, none⟩ = some (.slice (some ⟨b, 0, none⟩) l.length c)) (i j : Nat) (hi : i < l.length) (hj : j < l.length) :
    HeapIs ((w.setCell ⟨b, i, none⟩ (.iface 91 (.pointer (some ⟨l[j].1, 0, none⟩)))).setCell ⟨b, j, none⟩ (.iface 91 (.pointer (some ⟨l[i].1, 0, none⟩)))) g S f (swp l i j hi hj) ∧ Upd (fun k => k = b) w ((w.setCell ⟨b, i, none⟩ (.iface 91 (.pointer (some ⟨l[j].1, 0, none⟩)))).setCell ⟨b, j, none⟩ (.iface 91 (.pointer (some ⟨l[i].1, 0, none⟩)))) := by
  obtain ⟨b', hA, hSb, hbg, hlt, _, _⟩ := h.cells hw (by rintro rfl; simp at hi)
  injection hA with hA; injection hA with h1 h2; subst h1
  obtain ⟨v, hb, ho, hg, hk⟩ := h
  have c1 : w.cell? ⟨g, 1, none⟩ = some v := (blk_cell hb 1).trans rfl
  rw [c1] at hw
  injection hw with hw
  subst hw
  have u : Upd (fun k => k = b) w ((w.setCell ⟨b, i, none⟩ (.iface 91 (.pointer (some ⟨l[j].1, 0, none⟩)))).setCell ⟨b, j, none⟩ (.iface 91 (.pointer (some ⟨l[i].1, 0, none⟩)))) := (Upd.setCell (S := fun k => k = b) w i _ rfl).trans (Upd.setCell (S := fun k => k = b) _ j _ rfl)
  refine ⟨⟨_, u.heap hb (fun e => hbg e.symm), ?_, hg, hk⟩, u⟩
  exact Own.set1 (f := fun x => .iface 91 (.pointer (some ⟨x.1, 0, none⟩))) (fun _ => rfl) (Own.set1 (f := fun x => .iface 91 (.pointer (some ⟨x.1, 0, none⟩))) (fun _ => rfl) ho rfl i l[j]) (by simp) j l[i]
theorem upL_go {α : Type} (lt : α → α → Bool) (l : List α) (i : Nat) (h : 0 < i) (hi : i < l.length) (hlt : lt l[i] (l[(i - 1) / 2]'(by omega)) = true) : upL lt l i = upL lt (swp l i ((i - 1) / 2) hi (by omega)) ((i - 1) / 2) := by
  rw [upL, dif_pos ⟨h, hi⟩, if_pos hlt]
theorem upL_stop {α : Type} (lt : α → α → Bool) (l : List α) (i : Nat) (h : i = 0 ∨ ∃ hi : i < l.length, lt l[i] (l[(i - 1) / 2]'(by omega)) = false) : upL lt l i = l := by
  rw [upL]
  split
  · rename_i h1
    rcases h with h | ⟨hi, h⟩
    · omega
    · rw [if_neg (by rw [h]; simp)]
  · rfl
theorem enter_ahead : Enters Try.prog 80 := enters_of Try.func80 (by kernel_rfl) rfl
set_option maxHeartbeats 1600000 in
theorem up_c (g : Nat) (S : Nat → Prop) (F : Nat) (caps : Array Value) (E : World → Prop) (lt : Cu D → Cu D → Bool) (hL : LessI F caps E lt) (l : List (Cu D)) (b n c : Nat) (hn : n = l.length) (h0 : 0 < l.length) (hl : l.length < 1099511627776) (w : World)
    (h : HeapIs w g S (.func (.func F) #[] caps) l) (hw : w.cell? ⟨g, 1, none⟩ = some (.slice (some ⟨b, 0, none⟩) l.length c)) (hE : E w) (hS : Stays S E) :
    Calls Try.prog 79 #[.slice (some ⟨b, 0, none⟩) n c, aheadV g] w fun e w' => e = .returned (.tuple #[]) ∧ HeapIs w' g S (.func (.func F) #[] caps) (upL lt l (l.length - 1)) ∧ Upd S w w' := by
  subst hn
  have hent : ∀ (args : Array Value) (w : World), (callFunc 80 args).run Try.prog w = .ok (.enter 80 args) w := enter_ahead
  generalize hR : upL lt l (l.length - 1) = R
  have HL := Lib.hid hL
  have HS := Lib.hid hS
  have HH := Lib.hid h
  have HW := Lib.hid hw
  have HE := Lib.hid hE
  have HR := Lib.hid hR
  clear hL hS h hw hE hR
  have e1 : (l.length : Int) - 1 = ((l.length - 1 : Nat) : Int) := by omega
  have hlen : (0 : Int) < (l.length : Int) := by omega
  obtain ⟨b', hA, hSb, hbg, _, _, _⟩ := HH.out.cells HW.out (by rintro rfl; simp at h0)
  injection hA with hA; injection hA with h1 h2; subst h1
  have HBG := Lib.hid hbg
  clear hbg
  unfold aheadV
  go_enter Try.func79, Try.ntmps79
  go_wp2
  go_loopw [4] (fun si wr => ∃ (i : Nat) (cur : List (Cu D)), si = .int .i64 i ∧ cur.length = l.length ∧ i < l.length ∧ HeapIs wr g S (.func (.func F) #[] caps) cur ∧ Upd (fun k => k = b) w wr ∧ upL lt cur i = R) (fun si _ => (intOf si).toNat)
  case atStart => exact ⟨l.length - 1, l, by rw [← e1], rfl, by omega, HH.out, Upd.refl _ _, HR.out⟩
  case round =>
    obtain ⟨i, cur, rfl, hcl, hi, hH, hU, hUp⟩ := hrel
    have hw1 : wr.cell? ⟨g, 1, none⟩ = some (.slice (some ⟨b, 0, none⟩) cur.length c) := by rw [hcl]; exact hU.cell HW.out (fun e => HBG.out e.symm)
    have hE1 : E wr := HS.out w wr HE.out (hU.mono (fun k hk => by rw [hk]; exact hSb))
    have HU := Lib.hid hU
    have HI := Lib.hid hi
    have HUp := Lib.hid hUp
    rw [← hcl] at hi
    by_cases hp : 0 < i
    · have hpl : (i - 1) / 2 < cur.length := by omega
      have HC := ahead_c g S F caps E lt HL.out cur i ((i - 1) / 2) hi hpl (i : Int) (((i : Int) - 1) / 2) rfl (by omega) wr hH hE1 HS.out
      by_cases hlt : lt cur[i] cur[(i - 1) / 2] = true
      · rw [hlt] at HC
        have HC := Lib.hid HC
        have HH1 := Lib.hid hH
        have HW1 := Lib.hid hw1
        have hgo := upL_go lt cur i hp hi hlt
        rw [hUp] at hgo
        have HG := Lib.hid hgo.symm
        clear hU hUp hH hw1 hE1 hlt hgo
        go_wp2_with (go_at_fn 80; refine HC.out.mono ?_; rintro e w1 ⟨rfl, hb1⟩)
        have hH1 := HH1.out.later hb1
        have hw2 : w1.cell? ⟨g, 1, none⟩ = some (.slice (some ⟨b, 0, none⟩) cur.length c) := (Upd.of_below (S := fun _ => False) hb1).cell HW1.out (fun h => h)
        obtain ⟨b', hA, _, _, _, hcells, hfroz⟩ := hH1.cells hw2 (by rintro rfl; simp at hi)
        injection hA with hA; injection hA with h1 h2; subst h1
        have ci := hcells i hi
        have cp := hcells _ hpl
        have fi := hfroz i
        have fp := hfroz ((i - 1) / 2)
        obtain ⟨hH2, hU2⟩ := hH1.swap hw2 i ((i - 1) / 2) hi hpl
        have HH2 := Lib.hid hH2
        have HU2 := Lib.hid hU2
        have HB1 := Lib.hid hb1
        have i1 : (0 : Int) ≤ (i : Int) := by omega
        have i2 : (i : Int) < (l.length : Int) := by omega
        have i3 : (0 : Int) ≤ ((i : Int) - 1) / 2 := by omega
        have i4 : ((i : Int) - 1) / 2 < (l.length : Int) := by omega
        clear hH1 hw2 hcells hfroz hH2 hU2 hb1
        generalize cur[i] = x at *
        generalize cur[(i - 1) / 2] = y at *
        go_region
        go_wp2
        go_roundw
        case rel =>
          exact ⟨(i - 1) / 2, swp cur i ((i - 1) / 2) hi hpl, by congr 1; omega, by rw [swp_length]; exact hcl, by omega, HH2.out.later ((Below.refl _ _).drew), (HU.out.trans (Upd.of_below HB1.out)).trans (HU2.out.trans (Upd.drew _)), HG.out⟩
        case measure => simp [intOf]; omega
      · have hlt' : lt cur[i] cur[(i - 1) / 2] = false := by simpa using hlt
        rw [hlt'] at HC
        have HC := Lib.hid HC
        have hgo := upL_stop lt cur i (.inr ⟨hi, hlt'⟩)
        rw [hUp] at hgo
        have HG := Lib.hid hgo
        have HH1 := Lib.hid hH
        clear hU hUp hH hw1 hE1 hlt hlt' hgo
        go_wp2_with (go_at_fn 80; refine HC.out.mono ?_; rintro e w1 ⟨rfl, hb1⟩)
        refine bodyPost_ret (results_none rfl _ _ _) rfl ?_
        exact ⟨rfl, by rw [HG.out]; exact HH1.out.later hb1, (HU.out.trans (Upd.of_below hb1)).mono (fun k hk => by rw [hk]; exact hSb)⟩
    · have hi0 : i = 0 := by omega
      subst hi0
      have hgo := upL_stop lt cur 0 (.inl rfl)
      rw [hUp] at hgo
      have HG := Lib.hid hgo
      have HH1 := Lib.hid hH
      clear hU hUp hH hw1 hE1 hgo
      go_wp2
      go_end0
      exact ⟨rfl, by rw [HG.out]; exact HH1.out, HU.out.mono (fun k hk => by rw [hk]; exact hSb)⟩
-- DOWN
theorem downL_go {α : Type} (lt : α → α → Bool) (l : List α) (i k : Nat) (hk : child lt l i = k) (hkl : k < l.length) (hi : i < l.length) (hlt : lt l[k] l[i] = true) : downL lt l i = downL lt (swp l i k hi hkl) k := by
  subst hk
  rw [downL, dif_pos hkl, if_pos hlt]
theorem downL_stop {α : Type} (lt : α → α → Bool) (l : List α) (i : Nat) (h : ¬ 2 * i + 1 < l.length ∨ ∃ k, child lt l i = k ∧ ∃ (hkl : k < l.length) (hi : i < l.length), lt l[k] l[i] = false) : downL lt l i = l := by
  rw [downL]
  split
  · rename_i h1
    rcases h with h | ⟨k, rfl, hkl, hi, h⟩
    · exact absurd ((child_lt lt l i).1 h1) h
    · rw [if_neg (by rw [h]; simp)]
  · rfl
set_option maxHeartbeats 3200000 in
theorem down_c (g : Nat) (S : Nat → Prop) (F : Nat) (caps : Array Value) (E : World → Prop) (lt : Cu D → Cu D → Bool) (hL : LessI F caps E lt) (l : List (Cu D)) (A : Option Addr) (n c : Nat) (hn : n = l.length) (hl : l.length < 1099511627776) (w : World)
    (h : HeapIs w g S (.func (.func F) #[] caps) l) (hw : w.cell? ⟨g, 1, none⟩ = some (.slice A l.length c)) (hE : E w) (hS : Stays S E) :
    Calls Try.prog 81 #[.slice A n c, aheadV g] w fun e w' => e = .returned (.tuple #[]) ∧ HeapIs w' g S (.func (.func F) #[] caps) (downL lt l 0) ∧ Upd S w w' := by
  subst hn
  have hent : ∀ (args : Array Value) (w : World), (callFunc 80 args).run Try.prog w = .ok (.enter 80 args) w := enter_ahead
  by_cases h0 : l = []
  · subst h0
    have e : downL lt ([] : List (Cu D)) 0 = [] := downL_stop lt [] 0 (.inl (by simp))
    rw [e]
    have HH := Lib.hid h
    clear hL h hw hE hS e
    unfold aheadV
    go_enter Try.func81, Try.ntmps81
    go_wp2
    go_loopw [4] (fun si wr => si = .int .i64 0 ∧ wr = w) (fun si _ => 0)
    case atStart => exact ⟨rfl, rfl⟩
    case round =>
      obtain ⟨rfl, rfl⟩ := hrel
      go_wp2
      go_end0
      exact ⟨rfl, HH.out, Upd.refl _ _⟩
  generalize hR : downL lt l 0 = R
  obtain ⟨b, rfl, hSb, hbg, _, _, _⟩ := h.cells hw h0
  have HL := Lib.hid hL
  have HS := Lib.hid hS
  have HH := Lib.hid h
  have HW := Lib.hid hw
  have HE := Lib.hid hE
  have HR := Lib.hid hR
  have HBG := Lib.hid hbg
  have hlen : 0 < l.length := List.length_pos_iff.2 h0
  clear hL hS h hw hE hR hbg h0
  unfold aheadV
  go_enter Try.func81, Try.ntmps81
  go_wp2
  go_loopw [4] (fun si wr => ∃ (i : Nat) (cur : List (Cu D)), si = .int .i64 i ∧ cur.length = l.length ∧ i < l.length ∧ HeapIs wr g S (.func (.func F) #[] caps) cur ∧ Upd (fun k => k = b) w wr ∧ downL lt cur i = R) (fun si _ => l.length - (intOf si).toNat)
  case atStart => exact ⟨0, l, rfl, rfl, hlen, HH.out, Upd.refl _ _, HR.out⟩
  case round =>
    obtain ⟨i, cur, rfl, hcl, hi, hH, hU, hDn⟩ := hrel
    have hw1 : wr.cell? ⟨g, 1, none⟩ = some (.slice (some ⟨b, 0, none⟩) cur.length c) := by rw [hcl]; exact hU.cell HW.out (fun e => HBG.out e.symm)
    have hE1 : E wr := HS.out w wr HE.out (hU.mono (fun k hk => by rw [hk]; exact hSb))
    have HU := Lib.hid hU
    rw [← hcl] at hi
    have hii : i < l.length := by omega
    by_cases hp : 2 * i + 1 < cur.length
    · by_cases h2 : 2 * i + 2 < cur.length
      · have HC1 := fun (a b : Int) ea eb => ahead_c g S F caps E lt HL.out cur (2 * i + 2) (2 * i + 1) h2 hp a b ea eb wr hH hE1 HS.out
        by_cases hlt1 : lt cur[2 * i + 2] cur[2 * i + 1] = true
        · have HC1 := Lib.hid (fun a b ea eb => (hlt1 ▸ HC1 a b ea eb :))
          have hk : child lt cur i = 2 * i + 2 := by unfold child; rw [dif_pos h2, if_pos hlt1]
          have hkl : 2 * i + 2 < cur.length := by omega
          have HC2 := fun (W : World) (hb : Below wr.heap.size wr W) (a b : Int) ea eb => ahead_c g S F caps E lt HL.out cur (2 * i + 2) i hkl hi a b ea eb W (hH.later hb) (HS.out.later hE1 hb) HS.out
          by_cases hlt : lt cur[2 * i + 2] cur[i] = true
          · rw [hlt] at HC2
            have hgo := downL_go lt cur i (2 * i + 2) hk hkl hi hlt
            rw [hDn] at hgo
            have HG := Lib.hid hgo.symm
            have HC2 := Lib.hid HC2
            have HH1 := Lib.hid hH
            have HW1 := Lib.hid hw1
            have HK := Lib.hid hk
            clear hU hDn hH hw1 hE1 hlt hgo hk hlt1 
            go_wp2_with (go_at_fn 80; refine (HC1.out _ _ (by omega) (by omega)).mono ?_; rintro e w1 ⟨rfl, hb1⟩)
            have HB1 := Lib.hid hb1
            clear hb1
            go_wp2_with (go_at_fn 80; refine (HC2.out _ HB1.out _ _ (by omega) (by omega)).mono ?_; rintro e w2 ⟨rfl, hb2⟩)
            have hbb : Below wr.heap.size wr w2 := HB1.out.trans (hb2.mono HB1.out.size)
            have hH1 := HH1.out.later hbb
            have hw2 : w2.cell? ⟨g, 1, none⟩ = some (.slice (some ⟨b, 0, none⟩) cur.length c) := (Upd.of_below (S := fun _ => False) hbb).cell HW1.out (fun h => h)
            obtain ⟨b', hA, _, _, _, hcells, hfroz⟩ := hH1.cells hw2 (by rintro rfl; simp at hi)
            injection hA with hA; injection hA with h1 h2; subst h1
            have ci := hcells i hi
            have cp := hcells _ hkl
            have fi := hfroz i
            have fp := hfroz (2 * i + 2)
            obtain ⟨hH2, hU2⟩ := hH1.swap hw2 i (2 * i + 2) hi hkl
            have HH2 := Lib.hid hH2
            have HU2 := Lib.hid hU2
            have HB1 := Lib.hid hbb
            have i1 : (0 : Int) ≤ (i : Int) := by omega
            have i2 : (i : Int) < (l.length : Int) := by omega
            have i3 : (0 : Int) ≤ 2 * (i : Int) + 1 := by omega
            have i4 : 2 * (i : Int) + 1 < (l.length : Int) := by omega
            clear hH1 hw2 hcells hfroz hH2 hU2 hbb
            generalize cur[i] = x at *
            generalize cur[2 * i + 2] = y at *
            go_region
            go_wp2
            go_roundw
            case rel =>
              exact ⟨2 * i + 2, swp cur i (2 * i + 2) hi hkl, by congr 1, by rw [swp_length]; exact hcl, by omega, HH2.out.later ((Below.refl _ _).drew), (HU.out.trans (Upd.of_below HB1.out)).trans (HU2.out.trans (Upd.drew _)), HG.out⟩
            case measure => simp [intOf]; omega
          · have hlt' : lt cur[2 * i + 2] cur[i] = false := by simpa using hlt
            rw [hlt'] at HC2
            have hgo := downL_stop lt cur i (.inr ⟨2 * i + 2, hk, hkl, hi, hlt'⟩)
            rw [hDn] at hgo
            have HG := Lib.hid hgo
            have HC2 := Lib.hid HC2
            have HH1 := Lib.hid hH
            have HW1 := Lib.hid hw1
            have HK := Lib.hid hk
            clear hU hDn hH hw1 hE1 hlt hgo hk hlt' hlt1 
            go_wp2_with (go_at_fn 80; refine (HC1.out _ _ (by omega) (by omega)).mono ?_; rintro e w1 ⟨rfl, hb1⟩)
            have HB1 := Lib.hid hb1
            clear hb1
            go_wp2_with (go_at_fn 80; refine (HC2.out _ HB1.out _ _ (by omega) (by omega)).mono ?_; rintro e w2 ⟨rfl, hb2⟩)
            have hbb : Below wr.heap.size wr w2 := HB1.out.trans (hb2.mono HB1.out.size)
            refine bodyPost_ret (results_none rfl _ _ _) rfl ?_
            exact ⟨rfl, by rw [HG.out]; exact HH1.out.later hbb, (HU.out.trans (Upd.of_below hbb)).mono (fun k hk => by rw [hk]; exact hSb)⟩
        · have hlt1' : lt cur[2 * i + 2] cur[2 * i + 1] = false := by simpa using hlt1
          have HC1 := Lib.hid (fun a b ea eb => (hlt1' ▸ HC1 a b ea eb :))
          have hk : child lt cur i = 2 * i + 1 := by unfold child; rw [dif_pos h2, if_neg (by rw [hlt1']; simp)]
          have hkl : 2 * i + 1 < cur.length := by omega
          have HC2 := fun (W : World) (hb : Below wr.heap.size wr W) (a b : Int) ea eb => ahead_c g S F caps E lt HL.out cur (2 * i + 1) i hkl hi a b ea eb W (hH.later hb) (HS.out.later hE1 hb) HS.out
          by_cases hlt : lt cur[2 * i + 1] cur[i] = true
          · rw [hlt] at HC2
            have hgo := downL_go lt cur i (2 * i + 1) hk hkl hi hlt
            rw [hDn] at hgo
            have HG := Lib.hid hgo.symm
            have HC2 := Lib.hid HC2
            have HH1 := Lib.hid hH
            have HW1 := Lib.hid hw1
            have HK := Lib.hid hk
            clear hU hDn hH hw1 hE1 hlt hgo hk hlt1 hlt1' 
            go_wp2_with (go_at_fn 80; refine (HC1.out _ _ (by omega) (by omega)).mono ?_; rintro e w1 ⟨rfl, hb1⟩)
            have HB1 := Lib.hid hb1
            clear hb1
            go_wp2_with (go_at_fn 80; refine (HC2.out _ HB1.out _ _ (by omega) (by omega)).mono ?_; rintro e w2 ⟨rfl, hb2⟩)
            have hbb : Below wr.heap.size wr w2 := HB1.out.trans (hb2.mono HB1.out.size)
            have hH1 := HH1.out.later hbb
            have hw2 : w2.cell? ⟨g, 1, none⟩ = some (.slice (some ⟨b, 0, none⟩) cur.length c) := (Upd.of_below (S := fun _ => False) hbb).cell HW1.out (fun h => h)
            obtain ⟨b', hA, _, _, _, hcells, hfroz⟩ := hH1.cells hw2 (by rintro rfl; simp at hi)
            injection hA with hA; injection hA with h1 h2; subst h1
            have ci := hcells i hi
            have cp := hcells _ hkl
            have fi := hfroz i
            have fp := hfroz (2 * i + 1)
            obtain ⟨hH2, hU2⟩ := hH1.swap hw2 i (2 * i + 1) hi hkl
            have HH2 := Lib.hid hH2
            have HU2 := Lib.hid hU2
            have HB1 := Lib.hid hbb
            have i1 : (0 : Int) ≤ (i : Int) := by omega
            have i2 : (i : Int) < (l.length : Int) := by omega
            have i3 : (0 : Int) ≤ 2 * (i : Int) + 1 := by omega
            have i4 : 2 * (i : Int) + 1 < (l.length : Int) := by omega
            clear hH1 hw2 hcells hfroz hH2 hU2 hbb
            generalize cur[i] = x at *
            generalize cur[2 * i + 1] = y at *
            go_region
            go_wp2
            go_roundw
            case rel =>
              exact ⟨2 * i + 1, swp cur i (2 * i + 1) hi hkl, by congr 1, by rw [swp_length]; exact hcl, by omega, HH2.out.later ((Below.refl _ _).drew), (HU.out.trans (Upd.of_below HB1.out)).trans (HU2.out.trans (Upd.drew _)), HG.out⟩
            case measure => simp [intOf]; omega
          · have hlt' : lt cur[2 * i + 1] cur[i] = false := by simpa using hlt
            rw [hlt'] at HC2
            have hgo := downL_stop lt cur i (.inr ⟨2 * i + 1, hk, hkl, hi, hlt'⟩)
            rw [hDn] at hgo
            have HG := Lib.hid hgo
            have HC2 := Lib.hid HC2
            have HH1 := Lib.hid hH
            have HW1 := Lib.hid hw1
            have HK := Lib.hid hk
            clear hU hDn hH hw1 hE1 hlt hgo hk hlt' hlt1 hlt1' 
            go_wp2_with (go_at_fn 80; refine (HC1.out _ _ (by omega) (by omega)).mono ?_; rintro e w1 ⟨rfl, hb1⟩)
            have HB1 := Lib.hid hb1
            clear hb1
            go_wp2_with (go_at_fn 80; refine (HC2.out _ HB1.out _ _ (by omega) (by omega)).mono ?_; rintro e w2 ⟨rfl, hb2⟩)
            have hbb : Below wr.heap.size wr w2 := HB1.out.trans (hb2.mono HB1.out.size)
            refine bodyPost_ret (results_none rfl _ _ _) rfl ?_
            exact ⟨rfl, by rw [HG.out]; exact HH1.out.later hbb, (HU.out.trans (Upd.of_below hbb)).mono (fun k hk => by rw [hk]; exact hSb)⟩
      · have hg2 : decide (2 * (i : Int) + 1 + 1 < (l.length : Int)) = false := by simp; omega
        have hk : child lt cur i = 2 * i + 1 := by unfold child; rw [dif_neg h2]
        have hkl : 2 * i + 1 < cur.length := by omega
        have HC2 := fun (W : World) (hb : Below wr.heap.size wr W) (a b : Int) ea eb => ahead_c g S F caps E lt HL.out cur (2 * i + 1) i hkl hi a b ea eb W (hH.later hb) (HS.out.later hE1 hb) HS.out
        by_cases hlt : lt cur[2 * i + 1] cur[i] = true
        · rw [hlt] at HC2
          have hgo := downL_go lt cur i (2 * i + 1) hk hkl hi hlt
          rw [hDn] at hgo
          have HG := Lib.hid hgo.symm
          have HC2 := Lib.hid HC2
          have HH1 := Lib.hid hH
          have HW1 := Lib.hid hw1
          have HK := Lib.hid hk
          clear hU hDn hH hw1 hE1 hlt hgo hk 
          go_wp2_with (go_at_fn 80; refine (HC2.out _ (Below.refl _ _) _ _ (by omega) (by omega)).mono ?_; rintro e w2 ⟨rfl, hbb⟩)
          have hH1 := HH1.out.later hbb
          have hw2 : w2.cell? ⟨g, 1, none⟩ = some (.slice (some ⟨b, 0, none⟩) cur.length c) := (Upd.of_below (S := fun _ => False) hbb).cell HW1.out (fun h => h)
          obtain ⟨b', hA, _, _, _, hcells, hfroz⟩ := hH1.cells hw2 (by rintro rfl; simp at hi)
          injection hA with hA; injection hA with h1 h2; subst h1
          have ci := hcells i hi
          have cp := hcells _ hkl
          have fi := hfroz i
          have fp := hfroz (2 * i + 1)
          obtain ⟨hH2, hU2⟩ := hH1.swap hw2 i (2 * i + 1) hi hkl
          have HH2 := Lib.hid hH2
          have HU2 := Lib.hid hU2
          have HB1 := Lib.hid hbb
          have i1 : (0 : Int) ≤ (i : Int) := by omega
          have i2 : (i : Int) < (l.length : Int) := by omega
          have i3 : (0 : Int) ≤ 2 * (i : Int) + 1 := by omega
          have i4 : 2 * (i : Int) + 1 < (l.length : Int) := by omega
          clear hH1 hw2 hcells hfroz hH2 hU2 hbb
          generalize cur[i] = x at *
          generalize cur[2 * i + 1] = y at *
          go_region
          go_wp2
          go_roundw
          case rel =>
            exact ⟨2 * i + 1, swp cur i (2 * i + 1) hi hkl, by congr 1, by rw [swp_length]; exact hcl, by omega, HH2.out.later ((Below.refl _ _).drew), (HU.out.trans (Upd.of_below HB1.out)).trans (HU2.out.trans (Upd.drew _)), HG.out⟩
          case measure => simp [intOf]; omega
        · have hlt' : lt cur[2 * i + 1] cur[i] = false := by simpa using hlt
          rw [hlt'] at HC2
          have hgo := downL_stop lt cur i (.inr ⟨2 * i + 1, hk, hkl, hi, hlt'⟩)
          rw [hDn] at hgo
          have HG := Lib.hid hgo
          have HC2 := Lib.hid HC2
          have HH1 := Lib.hid hH
          have HW1 := Lib.hid hw1
          have HK := Lib.hid hk
          clear hU hDn hH hw1 hE1 hlt hgo hk hlt' 
          go_wp2_with (go_at_fn 80; refine (HC2.out _ (Below.refl _ _) _ _ (by omega) (by omega)).mono ?_; rintro e w2 ⟨rfl, hbb⟩)
          refine bodyPost_ret (results_none rfl _ _ _) rfl ?_
          exact ⟨rfl, by rw [HG.out]; exact HH1.out.later hbb, (HU.out.trans (Upd.of_below hbb)).mono (fun k hk => by rw [hk]; exact hSb)⟩
    · have hgo := downL_stop lt cur i (.inl hp)
      rw [hDn] at hgo
      have HG := Lib.hid hgo
      have HH1 := Lib.hid hH
      clear hU hDn hH hw1 hE1 hgo
      go_wp2
      go_end0
      exact ⟨rfl, by rw [HG.out]; exact HH1.out, HU.out.mono (fun k hk => by rw [hk]; exact hSb)⟩
end Go.Proofs.Ytdpijhpjicbecaa.H
