/- pile.Heap of entries: contracts of its methods, for a less that is known by what it answers (out of the texts on the heap of ints: geneheap.py). Conditions: fewer than 2^40 stand in it. -/
import Derived.Test.YtabnpacponkmhaaHHeap2
namespace Go.Proofs.Ytabnpacponkmhaa.H
open Go.RowKit Go.Deep Go.Proofs Go.Proofs.YtabnpacponkmhaaW.PrintWords
set_option linter.unusedVariables false
set_option linter.unusedSimpArgs false
abbrev Ent := ByteArray × Int × Bool × ByteArray
def encE (e : Ent) : List Value := [.string e.1, .int .u64 e.2.1, .bool e.2.2.1, .string e.2.2.2]
theorem okE : EncOk encE 4 := fun x => ⟨rfl, by simp [encE, Value.oneCell']⟩
theorem infoEx : (Try.prog.info? 51).map (fun i => (i.zero, i.size, i.bytes)) = some (some (.agg #[.string ByteArray.empty, .int .u64 0, .bool false, .string ByteArray.empty]), 4, 48) := by kernel_rfl
theorem uSlEx : Try.prog.underlying 45 = some (.slice 51) := Try.underlying45
abbrev put4 (w : World) (b k : Nat) (e : Ent) : World := (((w.setCell ⟨b, k, none⟩ (.string e.1)).setCell ⟨b, k + 1, none⟩ (.int .u64 e.2.1)).setCell ⟨b, k + 2, none⟩ (.bool e.2.2.1)).setCell ⟨b, k + 3, none⟩ (.string e.2.2.2)
theorem put4_upd {w : World} {b k : Nat} {e : Ent} : Upd (fun j => j = b) w (put4 w b k e) :=
  (((Upd.setCell (S := fun j => j = b) w k _ rfl).trans (Upd.setCell (S := fun j => j = b) _ (k + 1) _ rfl)).trans (Upd.setCell (S := fun j => j = b) _ (k + 2) _ rfl)).trans (Upd.setCell (S := fun j => j = b) _ (k + 3) _ rfl)
theorem flat_set (l : List Ent) (i : Nat) (x : Ent) : (l.set i x).flatMap encE = ((((l.flatMap encE).set (i * 4) (.string x.1)).set (i * 4 + 1) (.int .u64 x.2.1)).set (i * 4 + 2) (.bool x.2.2.1)).set (i * 4 + 3) (.string x.2.2.2) := by
  induction l generalizing i with
  | nil => simp
  | cons a l ih =>
    cases i with
    | zero => simp [encE]
    | succ i =>
      rw [List.set_cons_succ, List.flatMap_cons, ih, List.flatMap_cons]
      have key : ∀ (k : Nat) (v : Value) (m : List Value), (encE a ++ m).set ((i + 1) * 4 + k) v = encE a ++ m.set (i * 4 + k) v := fun k v m => by
        rw [List.set_append_right _ _ (by simp [encE]; omega)]
        congr 2
        simp [encE]
        omega
      have k0 := key 0
      simp only [Nat.add_zero] at k0
      rw [k0, key 1, key 2, key 3]
theorem Own.set4 {w : World} {base g c n : Nat} {l : List Ent} (h : Own encE 51 4 w base (.slice (some ⟨g, 0, none⟩) n c) l) (hn : n = l.length) (i : Nat) (x : Ent) :
    Own encE 51 4 (put4 w g (i * 4) x) base (.slice (some ⟨g, 0, none⟩) n c) (l.set i x) := by
  subst hn
  have h1 := (World.ownsRow.stored h (i * 4) (.string x.1)).1
  have h2 := (World.ownsRow.stored h1 (i * 4 + 1) (.int .u64 x.2.1)).1
  have h3 := (World.ownsRow.stored h2 (i * 4 + 2) (.bool x.2.2.1)).1
  have h4 := (World.ownsRow.stored h3 (i * 4 + 3) (.string x.2.2.2)).1
  unfold Own
  rw [List.length_set, flat_set]
  exact h4
def Cell4 (w : World) (b k : Nat) (e : Ent) : Prop := w.cell? ⟨b, k, none⟩ = some (.string e.1) ∧ w.cell? ⟨b, k + 1, none⟩ = some (.int .u64 e.2.1) ∧ w.cell? ⟨b, k + 2, none⟩ = some (.bool e.2.2.1) ∧ w.cell? ⟨b, k + 3, none⟩ = some (.string e.2.2.2)
theorem cell4_at {w : World} {b : Nat} {l : List Ent} (hs : Sl encE 4 w (some ⟨b, 0, none⟩) l) {i : Nat} (hi : i < l.length) : Cell4 w b (i * 4) l[i] := by
  obtain ⟨b', o', hA, _, hc⟩ := hs.at (List.getElem?_eq_getElem hi)
  injection hA with hA; injection hA with h1 h2; subst h1; subst h2
  simp only [Nat.zero_add] at hc
  exact ⟨hc 0 _ rfl, hc 1 _ rfl, hc 2 _ rfl, hc 3 _ rfl⟩
/-- A heap: its struct's block g, its list's block; both in S. -/
def HeapE (w : World) (g : Nat) (S : Nat → Prop) (f : Value) (l : List Ent) : Prop :=
  ∃ v, w.heap[g]? = some (.cells #[f, v] 71 (0, 0)) ∧ Own encE 51 4 w 0 v l ∧ S g ∧ ∀ k, v.ownBlock = some k → S k ∧ k ≠ g
theorem HeapE.upd {w w' : World} {g : Nat} {S T : Nat → Prop} {f : Value} {l : List Ent} (h : HeapE w g S f l) (u : Upd T w w') (hd : ∀ k, S k → ¬ T k) : HeapE w' g S f l := by
  obtain ⟨v, hb, ho, hg, hk⟩ := h
  exact ⟨v, u.heap hb (hd g hg), ho.upd u (fun k e => hd k (hk k e).1), hg, hk⟩
theorem HeapE.later {w w' : World} {g : Nat} {S : Nat → Prop} {f : Value} {l : List Ent} (h : HeapE w g S f l) (hb : Below w.heap.size w w') : HeapE w' g S f l :=
  h.upd (Upd.of_below (S := fun _ => False) hb) (fun _ _ h => h)
theorem HeapE.mono {w : World} {g : Nat} {S S' : Nat → Prop} {f : Value} {l : List Ent} (h : HeapE w g S f l) (hs : ∀ k, S k → S' k) : HeapE w g S' f l := by
  obtain ⟨v, hb, ho, hg, hk⟩ := h
  exact ⟨v, hb, ho, hs _ hg, fun k e => ⟨hs _ (hk k e).1, (hk k e).2⟩⟩
theorem HeapE.lt {w : World} {g : Nat} {S : Nat → Prop} {f : Value} {l : List Ent} (h : HeapE w g S f l) : g < w.heap.size := by
  obtain ⟨v, hb, _⟩ := h
  exact blk_lt hb
/-- Only blocks that are there count. -/
theorem HeapE.tight {w : World} {g : Nat} {S : Nat → Prop} {f : Value} {l : List Ent} (h : HeapE w g S f l) : HeapE w g (fun k => S k ∧ k < w.heap.size) f l := by
  obtain ⟨v, hb, ho, hg, hk⟩ := h
  exact ⟨v, hb, ho, ⟨hg, blk_lt hb⟩, fun k e => ⟨⟨(hk k e).1, (ho.block_lt e).2⟩, (hk k e).2⟩⟩
/-- The function value '.func F caps' answers 'lt', wherever E holds; it writes nothing that is there. -/
structure LessE (F : Nat) (caps : Array Value) (E : World → Prop) (lt : Ent → Ent → Bool) : Prop where
  ent : Enters Try.prog F
  run : ∀ (w : World) (x y : Ent), E w → Calls Try.prog F (#[.agg #[.string x.1, .int .u64 x.2.1, .bool x.2.2.1, .string x.2.2.2], .agg #[.string y.1, .int .u64 y.2.1, .bool y.2.2.1, .string y.2.2.2]] ++ caps) w fun e w' => e = .returned (.bool (lt x y)) ∧ Below w.heap.size w w'
theorem HeapE.parts {w : World} {g : Nat} {S : Nat → Prop} {f : Value} {l : List Ent} (h : HeapE w g S f l) :
    ∃ A c, w.heap[g]? = some (.cells #[f, .slice A l.length c] 71 (0, 0)) ∧ Own encE 51 4 w 0 (.slice A l.length c) l ∧ Sl encE 4 w A l ∧ l.length ≤ c ∧ S g ∧ (∀ k, (Value.slice A l.length c).ownBlock = some k → S k ∧ k ≠ g) ∧ (l ≠ [] → ∃ b, A = some ⟨b, 0, none⟩ ∧ S b ∧ b ≠ g ∧ b < w.heap.size) := by
  obtain ⟨v, hb, ho, hg, hk⟩ := h
  obtain ⟨A, c, rfl, hlc, hs, hne⟩ := ho.slice (fun x => (okE x).1)
  exact ⟨A, c, hb, ho, hs, hlc, hg, hk, fun h => by obtain ⟨b, rfl, _, hlt⟩ := hne h; exact ⟨b, rfl, (hk b rfl).1, (hk b rfl).2, hlt⟩⟩
set_option maxHeartbeats 800000 in
theorem aheadE_c (g : Nat) (S : Nat → Prop) (F : Nat) (caps : Array Value) (E : World → Prop) (lt : Ent → Ent → Bool) (hL : LessE F caps E lt) (l : List Ent) (i j : Nat) (hi : i < l.length) (hj : j < l.length) (ai aj : Int) (ei : ai = i) (ej : aj = j) (w : World)
    (h : HeapE w g S (.func (.func F) #[] caps) l) (hE : E w) (hS : Stays S E) :
    Calls Try.prog 40 #[.pointer (some ⟨g, 0, none⟩), .int .i64 ai, .int .i64 aj] w fun e w' => e = .returned (.bool (lt l[i] l[j])) ∧ Below w.heap.size w w' := by
  subst ei; subst ej
  obtain ⟨A, c, hb, ho, hs, hlc, hg, hk, hne⟩ := h.parts
  obtain ⟨b, rfl, hSb, hbg, hblt⟩ := hne (by rintro rfl; simp at hi)
  have c0 : w.cell? ⟨g, 0, none⟩ = some (.func (.func F) #[] caps) := (blk_cell hb 0).trans rfl
  have c1 : w.cell? ⟨g, 1, none⟩ = some (.slice (some ⟨b, 0, none⟩) l.length c) := (blk_cell hb 1).trans rfl
  obtain ⟨ci0, ci1, ci2, ci3⟩ := cell4_at hs hi
  obtain ⟨cj0, cj1, cj2, cj3⟩ := cell4_at hs hj
  have hm := hs.1
  have i1 : (0 : Int) ≤ (i : Int) := by omega
  have i2 : (i : Int) < (l.length : Int) := by omega
  have i3 : (0 : Int) ≤ (j : Int) := by omega
  have i4 : (j : Int) < (l.length : Int) := by omega
  have HE := Lib.hid hE
  have HS := Lib.hid hS
  have HL := Lib.hid hL
  have hent : ∀ (args : Array Value) (w : World), (callFunc F args).run Try.prog w = .ok (.enter F args) w := hL.ent
  clear hs ho hk hne hb h hE hS hL
  generalize l[i] = x at *
  generalize l[j] = y at *
  go_enter Try.func40, Try.ntmps40
  go_wp2_with fail
  go_still_tail 18, (by kernel_rfl)
  change wpList _ _ _ _ _ w.drew
  go_wp2_with (go_at_fn F; refine (HL.out.run _ _ _ (HS.out.later (w' := w.drew) HE.out ((Below.refl _ _).drew))).mono ?_; rintro e w1 ⟨rfl, hb1⟩)
  go_ret
  exact ⟨rfl, (((Below.refl w.heap.size w).drew).trans hb1)⟩
/-- The method value 'h.ahead'. -/
def aheadVE (g : Nat) : Value := .func (.func 40) #[.pointer (some ⟨g, 0, none⟩)] #[]
theorem HeapE.cells {w : World} {g : Nat} {S : Nat → Prop} {f : Value} {l : List Ent} (h : HeapE w g S f l) {A : Option Addr} {c : Nat} (hw : w.cell? ⟨g, 1, none⟩ = some (.slice A l.length c)) (hne : l ≠ []) :
    ∃ b, A = some ⟨b, 0, none⟩ ∧ S b ∧ b ≠ g ∧ b < w.heap.size ∧ (∀ i (hi : i < l.length), Cell4 w b (i * 4) l[i]) ∧ (∀ i, w.frozen? ⟨b, i, none⟩ = false) := by
  obtain ⟨A', c', hb, ho, hs, hlc, hg, hk, hn⟩ := h.parts
  obtain ⟨b, rfl, hSb, hbg, hlt⟩ := hn hne
  have c1 : w.cell? ⟨g, 1, none⟩ = some (.slice (some ⟨b, 0, none⟩) l.length c') := (blk_cell hb 1).trans rfl
  rw [c1] at hw
  injection hw with hw
  injection hw with h1 h2 h3
  subst h1; subst h3
  exact ⟨b, rfl, hSb, hbg, hlt, fun i hi => cell4_at hs hi, fun i => World.ownsRow.frozenAt ho i⟩
/-- Behind an exchange. -/
theorem HeapE.swap {w : World} {g b c : Nat} {S : Nat → Prop} {f : Value} {l : List Ent} (h : HeapE w g S f l) (hw : w.cell? ⟨g, 1, none⟩ = some (.slice (some ⟨b, 0, none⟩) l.length c)) (i j : Nat) (hi : i < l.length) (hj : j < l.length) :
    HeapE (put4 (put4 w b (i * 4) l[j]) b (j * 4) l[i]) g S f (swp l i j hi hj) ∧ Upd (fun k => k = b) w (put4 (put4 w b (i * 4) l[j]) b (j * 4) l[i]) := by
  obtain ⟨b', hA, hSb, hbg, hlt, _, _⟩ := h.cells hw (by rintro rfl; simp at hi)
  injection hA with hA; injection hA with h1 h2; subst h1
  obtain ⟨v, hb, ho, hg, hk⟩ := h
  have c1 : w.cell? ⟨g, 1, none⟩ = some v := (blk_cell hb 1).trans rfl
  rw [c1] at hw
  injection hw with hw
  subst hw
  have u : Upd (fun k => k = b) w (put4 (put4 w b (i * 4) l[j]) b (j * 4) l[i]) := put4_upd.trans put4_upd
  refine ⟨⟨_, u.heap hb (fun e => hbg e.symm), ?_, hg, hk⟩, u⟩
  exact Own.set4 (Own.set4 ho rfl i l[j]) (by simp) j l[i]
theorem enter_aheadE : Enters Try.prog 40 := enters_of Try.func40 (by kernel_rfl) rfl
set_option maxHeartbeats 1600000 in
theorem upE_c (g : Nat) (S : Nat → Prop) (F : Nat) (caps : Array Value) (E : World → Prop) (lt : Ent → Ent → Bool) (hL : LessE F caps E lt) (l : List Ent) (b n c : Nat) (hn : n = l.length) (h0 : 0 < l.length) (hl : l.length < 1099511627776) (w : World)
    (h : HeapE w g S (.func (.func F) #[] caps) l) (hw : w.cell? ⟨g, 1, none⟩ = some (.slice (some ⟨b, 0, none⟩) l.length c)) (hE : E w) (hS : Stays S E) :
    Calls Try.prog 39 #[.slice (some ⟨b, 0, none⟩) n c, aheadVE g] w fun e w' => e = .returned (.tuple #[]) ∧ HeapE w' g S (.func (.func F) #[] caps) (upL lt l (l.length - 1)) ∧ Upd S w w' := by
  subst hn
  have hent : ∀ (args : Array Value) (w : World), (callFunc 40 args).run Try.prog w = .ok (.enter 40 args) w := enter_aheadE
  generalize hR : upL lt l (l.length - 1) = R
  have HL := Lib.hid hL
  have HS := Lib.hid hS
  have HH := Lib.hid h
  have HW := Lib.hid hw
  have HE := Lib.hid hE
  have HR := Lib.hid hR
  clear hL hS h hw hE hR
  have e1 : (l.length : Int) - 1 = ((l.length - 1 : Nat) : Int) := by omega
  have hlen : (0 : Int) < (l.length : Int) := by omega
  obtain ⟨b', hA, hSb, hbg, _, _, _⟩ := HH.out.cells HW.out (by rintro rfl; simp at h0)
  injection hA with hA; injection hA with h1 h2; subst h1
  have HBG := Lib.hid hbg
  clear hbg
  unfold aheadVE
  go_enter Try.func39, Try.ntmps39
  go_wp2
  go_loopw [4] (fun si wr => ∃ (i : Nat) (cur : List Ent), si = .int .i64 i ∧ cur.length = l.length ∧ i < l.length ∧ HeapE wr g S (.func (.func F) #[] caps) cur ∧ Upd (fun k => k = b) w wr ∧ upL lt cur i = R) (fun si _ => (intOf si).toNat)
  case atStart => exact ⟨l.length - 1, l, by rw [← e1], rfl, by omega, HH.out, Upd.refl _ _, HR.out⟩
  case round =>
    obtain ⟨i, cur, rfl, hcl, hi, hH, hU, hUp⟩ := hrel
    have hw1 : wr.cell? ⟨g, 1, none⟩ = some (.slice (some ⟨b, 0, none⟩) cur.length c) := by rw [hcl]; exact hU.cell HW.out (fun e => HBG.out e.symm)
    have hE1 : E wr := HS.out w wr HE.out (hU.mono (fun k hk => by rw [hk]; exact hSb))
    have HU := Lib.hid hU
    have HI := Lib.hid hi
    have HUp := Lib.hid hUp
    rw [← hcl] at hi
    by_cases hp : 0 < i
    · have hpl : (i - 1) / 2 < cur.length := by omega
      have HC := aheadE_c g S F caps E lt HL.out cur i ((i - 1) / 2) hi hpl (i : Int) (((i : Int) - 1) / 2) rfl (by omega) wr hH hE1 HS.out
      by_cases hlt : lt cur[i] cur[(i - 1) / 2] = true
      · rw [hlt] at HC
        have HC := Lib.hid HC
        have HH1 := Lib.hid hH
        have HW1 := Lib.hid hw1
        have hgo := upL_go lt cur i hp hi hlt
        rw [hUp] at hgo
        have HG := Lib.hid hgo.symm
        clear hU hUp hH hw1 hE1 hlt hgo
        go_wp2_with (go_at_fn 40; refine HC.out.mono ?_; rintro e w1 ⟨rfl, hb1⟩)
        have hH1 := HH1.out.later hb1
        have hw2 : w1.cell? ⟨g, 1, none⟩ = some (.slice (some ⟨b, 0, none⟩) cur.length c) := (Upd.of_below (S := fun _ => False) hb1).cell HW1.out (fun h => h)
        obtain ⟨b', hA, _, _, _, hcells, hfroz⟩ := hH1.cells hw2 (by rintro rfl; simp at hi)
        injection hA with hA; injection hA with h1 h2; subst h1
        obtain ⟨ci0, ci1, ci2, ci3⟩ := hcells i hi
        obtain ⟨cp0, cp1, cp2, cp3⟩ := hcells _ hpl
        have fi0 := hfroz (i * 4)
        have fi1 := hfroz (i * 4 + 1)
        have fi2 := hfroz (i * 4 + 2)
        have fi3 := hfroz (i * 4 + 3)
        have fp0 := hfroz (((i - 1) / 2) * 4)
        have fp1 := hfroz (((i - 1) / 2) * 4 + 1)
        have fp2 := hfroz (((i - 1) / 2) * 4 + 2)
        have fp3 := hfroz (((i - 1) / 2) * 4 + 3)
        obtain ⟨hH2, hU2⟩ := hH1.swap hw2 i ((i - 1) / 2) hi hpl
        have HH2 := Lib.hid hH2
        have HU2 := Lib.hid hU2
        have HB1 := Lib.hid hb1
        have i1 : (0 : Int) ≤ (i : Int) := by omega
        have i2 : (i : Int) < (l.length : Int) := by omega
        have i3 : (0 : Int) ≤ ((i : Int) - 1) / 2 := by omega
        have i4 : ((i : Int) - 1) / 2 < (l.length : Int) := by omega
        clear hH1 hw2 hcells hfroz hH2 hU2 hb1
        generalize cur[i] = x at *
        generalize cur[(i - 1) / 2] = y at *
        go_region
        go_wp2
        go_roundw
        case rel =>
          exact ⟨(i - 1) / 2, swp cur i ((i - 1) / 2) hi hpl, by congr 1; omega, by rw [swp_length]; exact hcl, by omega, HH2.out.later ((Below.refl _ _).drew), (HU.out.trans (Upd.of_below HB1.out)).trans (HU2.out.trans (Upd.drew _)), HG.out⟩
        case measure => simp [intOf]; omega
      · have hlt' : lt cur[i] cur[(i - 1) / 2] = false := by simpa using hlt
        rw [hlt'] at HC
        have HC := Lib.hid HC
        have hgo := upL_stop lt cur i (.inr ⟨hi, hlt'⟩)
        rw [hUp] at hgo
        have HG := Lib.hid hgo
        have HH1 := Lib.hid hH
        clear hU hUp hH hw1 hE1 hlt hlt' hgo
        go_wp2_with (go_at_fn 40; refine HC.out.mono ?_; rintro e w1 ⟨rfl, hb1⟩)
        refine bodyPost_ret (results_none rfl _ _ _) rfl ?_
        exact ⟨rfl, by rw [HG.out]; exact HH1.out.later hb1, (HU.out.trans (Upd.of_below hb1)).mono (fun k hk => by rw [hk]; exact hSb)⟩
    · have hi0 : i = 0 := by omega
      subst hi0
      have hgo := upL_stop lt cur 0 (.inl rfl)
      rw [hUp] at hgo
      have HG := Lib.hid hgo
      have HH1 := Lib.hid hH
      clear hU hUp hH hw1 hE1 hgo
      go_wp2
      go_end0
      exact ⟨rfl, by rw [HG.out]; exact HH1.out, HU.out.mono (fun k hk => by rw [hk]; exact hSb)⟩
set_option maxHeartbeats 3200000 in
theorem downE_c (g : Nat) (S : Nat → Prop) (F : Nat) (caps : Array Value) (E : World → Prop) (lt : Ent → Ent → Bool) (hL : LessE F caps E lt) (l : List Ent) (A : Option Addr) (n c : Nat) (hn : n = l.length) (hl : l.length < 1099511627776) (w : World)
    (h : HeapE w g S (.func (.func F) #[] caps) l) (hw : w.cell? ⟨g, 1, none⟩ = some (.slice A l.length c)) (hE : E w) (hS : Stays S E) :
    Calls Try.prog 41 #[.slice A n c, aheadVE g] w fun e w' => e = .returned (.tuple #[]) ∧ HeapE w' g S (.func (.func F) #[] caps) (downL lt l 0) ∧ Upd S w w' := by
  subst hn
  have hent : ∀ (args : Array Value) (w : World), (callFunc 40 args).run Try.prog w = .ok (.enter 40 args) w := enter_aheadE
  by_cases h0 : l = []
  · subst h0
    have e : downL lt ([] : List Ent) 0 = [] := downL_stop lt [] 0 (.inl (by simp))
    rw [e]
    have HH := Lib.hid h
    clear hL h hw hE hS e
    unfold aheadVE
    go_enter Try.func41, Try.ntmps41
    go_wp2
    go_loopw [4] (fun si wr => si = .int .i64 0 ∧ wr = w) (fun si _ => 0)
    case atStart => exact ⟨rfl, rfl⟩
    case round =>
      obtain ⟨rfl, rfl⟩ := hrel
      go_wp2
      go_end0
      exact ⟨rfl, HH.out, Upd.refl _ _⟩
  generalize hR : downL lt l 0 = R
  obtain ⟨b, rfl, hSb, hbg, _, _, _⟩ := h.cells hw h0
  have HL := Lib.hid hL
  have HS := Lib.hid hS
  have HH := Lib.hid h
  have HW := Lib.hid hw
  have HE := Lib.hid hE
  have HR := Lib.hid hR
  have HBG := Lib.hid hbg
  have hlen : 0 < l.length := List.length_pos_iff.2 h0
  clear hL hS h hw hE hR hbg h0
  unfold aheadVE
  go_enter Try.func41, Try.ntmps41
  go_wp2
  go_loopw [4] (fun si wr => ∃ (i : Nat) (cur : List Ent), si = .int .i64 i ∧ cur.length = l.length ∧ i < l.length ∧ HeapE wr g S (.func (.func F) #[] caps) cur ∧ Upd (fun k => k = b) w wr ∧ downL lt cur i = R) (fun si _ => l.length - (intOf si).toNat)
  case atStart => exact ⟨0, l, rfl, rfl, hlen, HH.out, Upd.refl _ _, HR.out⟩
  case round =>
    obtain ⟨i, cur, rfl, hcl, hi, hH, hU, hDn⟩ := hrel
    have hw1 : wr.cell? ⟨g, 1, none⟩ = some (.slice (some ⟨b, 0, none⟩) cur.length c) := by rw [hcl]; exact hU.cell HW.out (fun e => HBG.out e.symm)
    have hE1 : E wr := HS.out w wr HE.out (hU.mono (fun k hk => by rw [hk]; exact hSb))
    have HU := Lib.hid hU
    rw [← hcl] at hi
    have hii : i < l.length := by omega
    by_cases hp : 2 * i + 1 < cur.length
    · by_cases h2 : 2 * i + 2 < cur.length
      · have HC1 := fun (a b : Int) ea eb => aheadE_c g S F caps E lt HL.out cur (2 * i + 2) (2 * i + 1) h2 hp a b ea eb wr hH hE1 HS.out
        by_cases hlt1 : lt cur[2 * i + 2] cur[2 * i + 1] = true
        · have HC1 := Lib.hid (fun a b ea eb => (hlt1 ▸ HC1 a b ea eb :))
          have hk : child lt cur i = 2 * i + 2 := by unfold child; rw [dif_pos h2, if_pos hlt1]
          have hkl : 2 * i + 2 < cur.length := by omega
          have HC2 := fun (W : World) (hb : Below wr.heap.size wr W) (a b : Int) ea eb => aheadE_c g S F caps E lt HL.out cur (2 * i + 2) i hkl hi a b ea eb W (hH.later hb) (HS.out.later hE1 hb) HS.out
          by_cases hlt : lt cur[2 * i + 2] cur[i] = true
          · rw [hlt] at HC2
            have hgo := downL_go lt cur i (2 * i + 2) hk hkl hi hlt
            rw [hDn] at hgo
            have HG := Lib.hid hgo.symm
            have HC2 := Lib.hid HC2
            have HH1 := Lib.hid hH
            have HW1 := Lib.hid hw1
            have HK := Lib.hid hk
            clear hU hDn hH hw1 hE1 hlt hgo hk hlt1 
            go_wp2_with (go_at_fn 40; refine (HC1.out _ _ (by omega) (by omega)).mono ?_; rintro e w1 ⟨rfl, hb1⟩)
            have HB1 := Lib.hid hb1
            clear hb1
            go_wp2_with (go_at_fn 40; refine (HC2.out _ HB1.out _ _ (by omega) (by omega)).mono ?_; rintro e w2 ⟨rfl, hb2⟩)
            have hbb : Below wr.heap.size wr w2 := HB1.out.trans (hb2.mono HB1.out.size)
            have hH1 := HH1.out.later hbb
            have hw2 : w2.cell? ⟨g, 1, none⟩ = some (.slice (some ⟨b, 0, none⟩) cur.length c) := (Upd.of_below (S := fun _ => False) hbb).cell HW1.out (fun h => h)
            obtain ⟨b', hA, _, _, _, hcells, hfroz⟩ := hH1.cells hw2 (by rintro rfl; simp at hi)
            injection hA with hA; injection hA with h1 h2; subst h1
            obtain ⟨ci0, ci1, ci2, ci3⟩ := hcells i hi
            obtain ⟨cp0, cp1, cp2, cp3⟩ := hcells _ hkl
            have fi0 := hfroz (i * 4)
            have fi1 := hfroz (i * 4 + 1)
            have fi2 := hfroz (i * 4 + 2)
            have fi3 := hfroz (i * 4 + 3)
            have fp0 := hfroz ((2 * i + 2) * 4)
            have fp1 := hfroz ((2 * i + 2) * 4 + 1)
            have fp2 := hfroz ((2 * i + 2) * 4 + 2)
            have fp3 := hfroz ((2 * i + 2) * 4 + 3)
            obtain ⟨hH2, hU2⟩ := hH1.swap hw2 i (2 * i + 2) hi hkl
            have HH2 := Lib.hid hH2
            have HU2 := Lib.hid hU2
            have HB1 := Lib.hid hbb
            have i1 : (0 : Int) ≤ (i : Int) := by omega
            have i2 : (i : Int) < (l.length : Int) := by omega
            have i3 : (0 : Int) ≤ 2 * (i : Int) + 1 := by omega
            have i4 : 2 * (i : Int) + 1 < (l.length : Int) := by omega
            clear hH1 hw2 hcells hfroz hH2 hU2 hbb
            generalize cur[i] = x at *
            generalize cur[2 * i + 2] = y at *
            go_region
            go_wp2
            go_roundw
            case rel =>
              exact ⟨2 * i + 2, swp cur i (2 * i + 2) hi hkl, by congr 1, by rw [swp_length]; exact hcl, by omega, HH2.out.later ((Below.refl _ _).drew), (HU.out.trans (Upd.of_below HB1.out)).trans (HU2.out.trans (Upd.drew _)), HG.out⟩
            case measure => simp [intOf]; omega
          · have hlt' : lt cur[2 * i + 2] cur[i] = false := by simpa using hlt
            rw [hlt'] at HC2
            have hgo := downL_stop lt cur i (.inr ⟨2 * i + 2, hk, hkl, hi, hlt'⟩)
            rw [hDn] at hgo
            have HG := Lib.hid hgo
            have HC2 := Lib.hid HC2
            have HH1 := Lib.hid hH
            have HW1 := Lib.hid hw1
            have HK := Lib.hid hk
            clear hU hDn hH hw1 hE1 hlt hgo hk hlt' hlt1 
            go_wp2_with (go_at_fn 40; refine (HC1.out _ _ (by omega) (by omega)).mono ?_; rintro e w1 ⟨rfl, hb1⟩)
            have HB1 := Lib.hid hb1
            clear hb1
            go_wp2_with (go_at_fn 40; refine (HC2.out _ HB1.out _ _ (by omega) (by omega)).mono ?_; rintro e w2 ⟨rfl, hb2⟩)
            have hbb : Below wr.heap.size wr w2 := HB1.out.trans (hb2.mono HB1.out.size)
            refine bodyPost_ret (results_none rfl _ _ _) rfl ?_
            exact ⟨rfl, by rw [HG.out]; exact HH1.out.later hbb, (HU.out.trans (Upd.of_below hbb)).mono (fun k hk => by rw [hk]; exact hSb)⟩
        · have hlt1' : lt cur[2 * i + 2] cur[2 * i + 1] = false := by simpa using hlt1
          have HC1 := Lib.hid (fun a b ea eb => (hlt1' ▸ HC1 a b ea eb :))
          have hk : child lt cur i = 2 * i + 1 := by unfold child; rw [dif_pos h2, if_neg (by rw [hlt1']; simp)]
          have hkl : 2 * i + 1 < cur.length := by omega
          have HC2 := fun (W : World) (hb : Below wr.heap.size wr W) (a b : Int) ea eb => aheadE_c g S F caps E lt HL.out cur (2 * i + 1) i hkl hi a b ea eb W (hH.later hb) (HS.out.later hE1 hb) HS.out
          by_cases hlt : lt cur[2 * i + 1] cur[i] = true
          · rw [hlt] at HC2
            have hgo := downL_go lt cur i (2 * i + 1) hk hkl hi hlt
            rw [hDn] at hgo
            have HG := Lib.hid hgo.symm
            have HC2 := Lib.hid HC2
            have HH1 := Lib.hid hH
            have HW1 := Lib.hid hw1
            have HK := Lib.hid hk
            clear hU hDn hH hw1 hE1 hlt hgo hk hlt1 hlt1' 
            go_wp2_with (go_at_fn 40; refine (HC1.out _ _ (by omega) (by omega)).mono ?_; rintro e w1 ⟨rfl, hb1⟩)
            have HB1 := Lib.hid hb1
            clear hb1
            go_wp2_with (go_at_fn 40; refine (HC2.out _ HB1.out _ _ (by omega) (by omega)).mono ?_; rintro e w2 ⟨rfl, hb2⟩)
            have hbb : Below wr.heap.size wr w2 := HB1.out.trans (hb2.mono HB1.out.size)
            have hH1 := HH1.out.later hbb
            have hw2 : w2.cell? ⟨g, 1, none⟩ = some (.slice (some ⟨b, 0, none⟩) cur.length c) := (Upd.of_below (S := fun _ => False) hbb).cell HW1.out (fun h => h)
            obtain ⟨b', hA, _, _, _, hcells, hfroz⟩ := hH1.cells hw2 (by rintro rfl; simp at hi)
            injection hA with hA; injection hA with h1 h2; subst h1
            obtain ⟨ci0, ci1, ci2, ci3⟩ := hcells i hi
            obtain ⟨cp0, cp1, cp2, cp3⟩ := hcells _ hkl
            have fi0 := hfroz (i * 4)
            have fi1 := hfroz (i * 4 + 1)
            have fi2 := hfroz (i * 4 + 2)
            have fi3 := hfroz (i * 4 + 3)
            have fp0 := hfroz ((2 * i + 1) * 4)
            have fp1 := hfroz ((2 * i + 1) * 4 + 1)
            have fp2 := hfroz ((2 * i + 1) * 4 + 2)
            have fp3 := hfroz ((2 * i + 1) * 4 + 3)
            obtain ⟨hH2, hU2⟩ := hH1.swap hw2 i (2 * i + 1) hi hkl
            have HH2 := Lib.hid hH2
            have HU2 := Lib.hid hU2
            have HB1 := Lib.hid hbb
            have i1 : (0 : Int) ≤ (i : Int) := by omega
            have i2 : (i : Int) < (l.length : Int) := by omega
            have i3 : (0 : Int) ≤ 2 * (i : Int) + 1 := by omega
            have i4 : 2 * (i : Int) + 1 < (l.length : Int) := by omega
            clear hH1 hw2 hcells hfroz hH2 hU2 hbb
            generalize cur[i] = x at *
            generalize cur[2 * i + 1] = y at *
            go_region
            go_wp2
            go_roundw
            case rel =>
              exact ⟨2 * i + 1, swp cur i (2 * i + 1) hi hkl, by congr 1, by rw [swp_length]; exact hcl, by omega, HH2.out.later ((Below.refl _ _).drew), (HU.out.trans (Upd.of_below HB1.out)).trans (HU2.out.trans (Upd.drew _)), HG.out⟩
            case measure => simp [intOf]; omega
          · have hlt' : lt cur[2 * i + 1] cur[i] = false := by simpa using hlt
            rw [hlt'] at HC2
            have hgo := downL_stop lt cur i (.inr ⟨2 * i + 1, hk, hkl, hi, hlt'⟩)
            rw [hDn] at hgo
            have HG := Lib.hid hgo
            have HC2 := Lib.hid HC2
            have HH1 := Lib.hid hH
            have HW1 := Lib.hid hw1
            have HK := Lib.hid hk
            clear hU hDn hH hw1 hE1 hlt hgo hk hlt' hlt1 hlt1' 
            go_wp2_with (go_at_fn 40; refine (HC1.out _ _ (by omega) (by omega)).mono ?_; rintro e w1 ⟨rfl, hb1⟩)
            have HB1 := Lib.hid hb1
            clear hb1
            go_wp2_with (go_at_fn 40; refine (HC2.out _ HB1.out _ _ (by omega) (by omega)).mono ?_; rintro e w2 ⟨rfl, hb2⟩)
            have hbb : Below wr.heap.size wr w2 := HB1.out.trans (hb2.mono HB1.out.size)
            refine bodyPost_ret (results_none rfl _ _ _) rfl ?_
            exact ⟨rfl, by rw [HG.out]; exact HH1.out.later hbb, (HU.out.trans (Upd.of_below hbb)).mono (fun k hk => by rw [hk]; exact hSb)⟩
      · have hg2 : decide (2 * (i : Int) + 1 + 1 < (l.length : Int)) = false := by simp; omega
        have hk : child lt cur i = 2 * i + 1 := by unfold child; rw [dif_neg h2]
        have hkl : 2 * i + 1 < cur.length := by omega
        have HC2 := fun (W : World) (hb : Below wr.heap.size wr W) (a b : Int) ea eb => aheadE_c g S F caps E lt HL.out cur (2 * i + 1) i hkl hi a b ea eb W (hH.later hb) (HS.out.later hE1 hb) HS.out
        by_cases hlt : lt cur[2 * i + 1] cur[i] = true
        · rw [hlt] at HC2
          have hgo := downL_go lt cur i (2 * i + 1) hk hkl hi hlt
          rw [hDn] at hgo
          have HG := Lib.hid hgo.symm
          have HC2 := Lib.hid HC2
          have HH1 := Lib.hid hH
          have HW1 := Lib.hid hw1
          have HK := Lib.hid hk
          clear hU hDn hH hw1 hE1 hlt hgo hk 
          go_wp2_with (go_at_fn 40; refine (HC2.out _ (Below.refl _ _) _ _ (by omega) (by omega)).mono ?_; rintro e w2 ⟨rfl, hbb⟩)
          have hH1 := HH1.out.later hbb
          have hw2 : w2.cell? ⟨g, 1, none⟩ = some (.slice (some ⟨b, 0, none⟩) cur.length c) := (Upd.of_below (S := fun _ => False) hbb).cell HW1.out (fun h => h)
          obtain ⟨b', hA, _, _, _, hcells, hfroz⟩ := hH1.cells hw2 (by rintro rfl; simp at hi)
          injection hA with hA; injection hA with h1 h2; subst h1
          obtain ⟨ci0, ci1, ci2, ci3⟩ := hcells i hi
          obtain ⟨cp0, cp1, cp2, cp3⟩ := hcells _ hkl
          have fi0 := hfroz (i * 4)
          have fi1 := hfroz (i * 4 + 1)
          have fi2 := hfroz (i * 4 + 2)
          have fi3 := hfroz (i * 4 + 3)
          have fp0 := hfroz ((2 * i + 1) * 4)
          have fp1 := hfroz ((2 * i + 1) * 4 + 1)
          have fp2 := hfroz ((2 * i + 1) * 4 + 2)
          have fp3 := hfroz ((2 * i + 1) * 4 + 3)
          obtain ⟨hH2, hU2⟩ := hH1.swap hw2 i (2 * i + 1) hi hkl
          have HH2 := Lib.hid hH2
          have HU2 := Lib.hid hU2
          have HB1 := Lib.hid hbb
          have i1 : (0 : Int) ≤ (i : Int) := by omega
          have i2 : (i : Int) < (l.length : Int) := by omega
          have i3 : (0 : Int) ≤ 2 * (i : Int) + 1 := by omega
          have i4 : 2 * (i : Int) + 1 < (l.length : Int) := by omega
          clear hH1 hw2 hcells hfroz hH2 hU2 hbb
          generalize cur[i] = x at *
          generalize cur[2 * i + 1] = y at *
          go_region
          go_wp2
          go_roundw
          case rel =>
            exact ⟨2 * i + 1, swp cur i (2 * i + 1) hi hkl, by congr 1, by rw [swp_length]; exact hcl, by omega, HH2.out.later ((Below.refl _ _).drew), (HU.out.trans (Upd.of_below HB1.out)).trans (HU2.out.trans (Upd.drew _)), HG.out⟩
          case measure => simp [intOf]; omega
        · have hlt' : lt cur[2 * i + 1] cur[i] = false := by simpa using hlt
          rw [hlt'] at HC2
          have hgo := downL_stop lt cur i (.inr ⟨2 * i + 1, hk, hkl, hi, hlt'⟩)
          rw [hDn] at hgo
          have HG := Lib.hid hgo
          have HC2 := Lib.hid HC2
          have HH1 := Lib.hid hH
          have HW1 := Lib.hid hw1
          have HK := Lib.hid hk
          clear hU hDn hH hw1 hE1 hlt hgo hk hlt' 
          go_wp2_with (go_at_fn 40; refine (HC2.out _ (Below.refl _ _) _ _ (by omega) (by omega)).mono ?_; rintro e w2 ⟨rfl, hbb⟩)
          refine bodyPost_ret (results_none rfl _ _ _) rfl ?_
          exact ⟨rfl, by rw [HG.out]; exact HH1.out.later hbb, (HU.out.trans (Upd.of_below hbb)).mono (fun k hk => by rw [hk]; exact hSb)⟩
    · have hgo := downL_stop lt cur i (.inl hp)
      rw [hDn] at hgo
      have HG := Lib.hid hgo
      have HH1 := Lib.hid hH
      clear hU hDn hH hw1 hE1 hgo
      go_wp2
      go_end0
      exact ⟨rfl, by rw [HG.out]; exact HH1.out, HU.out.mono (fun k hk => by rw [hk]; exact hSb)⟩
end Go.Proofs.Ytabnpacponkmhaa.H
