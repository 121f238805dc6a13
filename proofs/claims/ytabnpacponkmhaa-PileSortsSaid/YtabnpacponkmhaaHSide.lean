/- screelaw4: a side (a heap and a bag): contracts of its methods. Conditions: fewer than 2^40 lie in it. -/
import Derived.Test.YtabnpacponkmhaaHBag
namespace Go.Proofs.Ytabnpacponkmhaa.H
open Go.RowKit Go.Deep Go.Proofs Go.Proofs.YtabnpacponkmhaaW.PrintWords
set_option linter.unusedVariables false
set_option linter.unusedSimpArgs false
theorem quiet_left {P : Program} {f : FuncId} {args : Array Value} {w : World} {n : Nat} {v : Value}
    (h : Calls P f args (w.drewN n) fun e w' => e = .returned v ∧ w.drewN n = w') : Calls P f args (w.drewN n) fun e w'' => e = .returned v ∧ ∃ m, w'' = w.drewN m :=
  h.mono fun _ _ ⟨he, hm⟩ => ⟨he, n, hm.symm⟩
/-- The less of the heap that 'heap' makes. -/
def ordV (c : Nat) : Value := .func (.func 35) #[] #[.pointer (some ⟨c, 0, none⟩)]
theorem heap_c (o : Int) (w : World) : Calls Try.prog 14 #[.int .i64 o] w fun e w' => e = .returned (.pointer (some ⟨w.heap.size + 1, 0, none⟩)) ∧
    HeapIs w' (w.heap.size + 1) (fun k => k = w.heap.size + 1) (ordV w.heap.size) [] ∧ CellI w.heap.size o w' ∧ Below w.heap.size w w' := by
  have hmf : ∀ (fn : Fn) (first cap : Array Value) (w : World), (Instr.makeFunc fn first cap).run Try.prog w = .ok (.func fn first cap) w := fun _ _ _ _ => rfl
  go_enter Try.func14, Try.ntmps14
  go_wp2_with (go_at_call 24; refine (newHeap_c _ _ _).mono ?_; rintro e w1 ⟨rfl, hh, hb⟩)
  have hs : (w.alloc (.cells #[.int .i64 o] 3)).heap.size = w.heap.size + 1 := by simp
  have hc : CellI w.heap.size o w1 := by
    unfold CellI
    rw [hb.cell (p := ⟨w.heap.size, 0, none⟩) (by simp)]
    exact (blk_cell (heap_alloc_new w _) 0).trans rfl
  have hbw : Below w.heap.size w w1 := ((Below.refl w.heap.size w).alloc (Nat.le_refl _) _).trans (hb.mono (by simp))
  rw [hs] at hh
  go_ret
  exact ⟨by simp, hh, hc, hbw⟩
/-- The side's struct. -/
def sideB (w : World) (sp g bp : Nat) (top : Int) (told : Bool) : Prop := w.heap[sp]? = some (.cells #[.pointer (some ⟨g, 0, none⟩), .pointer (some ⟨bp, 0, none⟩), .int .i64 top, .bool told] 41 (0, 0))
theorem shows_no (sp g bp : Nat) (SB : Nat → Prop) (o top : Int) (told : Bool) (w : World) (hs : sideB w sp g bp top told) (hB : BagIs w bp SB o []) :
    Calls Try.prog 37 #[.pointer (some ⟨sp, 0, none⟩), .int .i64 0, .bool false] w fun e w' => e = .returned (.bool true) ∧ Below w.heap.size w w' := by
  have s1 : w.cell? ⟨sp, 1, none⟩ = some (.pointer (some ⟨bp, 0, none⟩)) := (blk_cell hs 1).trans rfl
  obtain ⟨A, c, hb, _⟩ := hB.parts
  have c1 : w.cell? ⟨bp, 1, none⟩ = some (.slice A 0 c) := (blk_cell hb 1).trans rfl
  clear hb hB hs
  go_enter Try.func37, Try.ntmps37
  go_wp2
  go_ret
  exact ⟨rfl, Below.refl _ _⟩
theorem shows_yes (sp g bp : Nat) (SB : Nat → Prop) (o top x : Int) (told : Bool) (B : List Int) (hl : B.length < 1000000000000) (w : World) (hs : sideB w sp g bp top told) (hB : BagIs w bp SB o B) (ht : told = true → x = top) (hx : leastL o B x = true) :
    Calls Try.prog 37 #[.pointer (some ⟨sp, 0, none⟩), .int .i64 x, .bool true] w fun e w' => e = .returned (.bool true) ∧ Below w.heap.size w w' := by
  have s1 : w.cell? ⟨sp, 1, none⟩ = some (.pointer (some ⟨bp, 0, none⟩)) := (blk_cell hs 1).trans rfl
  have s2 : w.cell? ⟨sp, 2, none⟩ = some (.int .i64 top) := (blk_cell hs 2).trans rfl
  have s3 : w.cell? ⟨sp, 3, none⟩ = some (.bool told) := (blk_cell hs 3).trans rfl
  have hL := least_c bp SB o B x hl w hB
  rw [hx] at hL
  have HL := Lib.hid hL
  clear hL hB hs hx
  cases told with
  | true =>
    obtain rfl := ht rfl
    clear ht
    go_enter Try.func37, Try.ntmps37
    go_wp2_with (go_at_call 46; refine HL.out.mono ?_; rintro e w1 ⟨rfl, hb⟩)
    go_ret
    exact ⟨rfl, hb⟩
  | false =>
    clear ht
    go_enter Try.func37, Try.ntmps37
    go_wp2_with (go_at_call 46; refine HL.out.mono ?_; rintro e w1 ⟨rfl, hb⟩)
    go_ret
    exact ⟨rfl, hb⟩
/-- A side, its heap a heap of what lies in its bag; all its blocks in S. -/
structure SideAt (w : World) (sp : Nat) (S : Nat → Prop) (o : Int) (g bp c : Nat) (SH SB : Nat → Prop) (H B : List Int) (top : Int) (told : Bool) : Prop where
  st : sideB w sp g bp top told
  hp : HeapIs w g SH (ordV c) H
  cl : CellI c o w
  bg : BagIs w bp SB o B
  dH : ∀ k, SH k → S k ∧ k ≠ sp ∧ k ≠ c ∧ ¬ SB k
  dB : ∀ k, SB k → S k ∧ k ≠ sp ∧ k ≠ c
  sS : S sp
  sC : S c
  ne : c ≠ sp
  hw : IsHeap (aheadL o) H
  pm : H.Perm B
  tl : told = true → ∃ r, H = top :: r
def SideIs (w : World) (sp : Nat) (S : Nat → Prop) (o : Int) (n : Nat) : Prop := ∃ g bp c SH SB H B top told, SideAt w sp S o g bp c SH SB H B top told ∧ B.length = n
theorem CellI.lt {c : Nat} {n : Int} {w : World} (h : CellI c n w) : c < w.heap.size := World.block_lt_of_cell? w _ h
theorem SideAt.tight {w : World} {sp : Nat} {S : Nat → Prop} {o : Int} {g bp c : Nat} {SH SB : Nat → Prop} {H B : List Int} {top : Int} {told : Bool} (h : SideAt w sp S o g bp c SH SB H B top told) :
    SideAt w sp (fun k => S k ∧ k < w.heap.size) o g bp c (fun k => SH k ∧ k < w.heap.size) (fun k => SB k ∧ k < w.heap.size) H B top told :=
  ⟨h.st, h.hp.tight, h.cl, h.bg.tight, fun k hk => by obtain ⟨a, b, c, d⟩ := h.dH k hk.1; exact ⟨⟨a, hk.2⟩, b, c, fun e => d e.1⟩, fun k hk => by obtain ⟨a, b, c⟩ := h.dB k hk.1; exact ⟨⟨a, hk.2⟩, b, c⟩,
    ⟨h.sS, blk_lt h.st⟩, ⟨h.sC, h.cl.lt⟩, h.ne, h.hw, h.pm, h.tl⟩
theorem SideAt.upd {w w' : World} {sp : Nat} {S T : Nat → Prop} {o : Int} {g bp c : Nat} {SH SB : Nat → Prop} {H B : List Int} {top : Int} {told : Bool} (h : SideAt w sp S o g bp c SH SB H B top told) (u : Upd T w w') (hd : ∀ k, S k → ¬ T k) :
    SideAt w' sp S o g bp c SH SB H B top told :=
  ⟨u.heap h.st (hd _ h.sS), h.hp.upd u (fun k hk => hd k (h.dH k hk).1), u.cell h.cl (hd _ h.sC), h.bg.upd u (fun k hk => hd k (h.dB k hk).1), h.dH, h.dB, h.sS, h.sC, h.ne, h.hw, h.pm, h.tl⟩
theorem SideAt.mono {w : World} {sp : Nat} {S S' : Nat → Prop} {o : Int} {g bp c : Nat} {SH SB : Nat → Prop} {H B : List Int} {top : Int} {told : Bool} (h : SideAt w sp S o g bp c SH SB H B top told) (hs : ∀ k, S k → S' k) :
    SideAt w sp S' o g bp c SH SB H B top told :=
  ⟨h.st, h.hp, h.cl, h.bg, fun k hk => ⟨hs _ (h.dH k hk).1, (h.dH k hk).2⟩, fun k hk => ⟨hs _ (h.dB k hk).1, (h.dB k hk).2⟩, hs _ h.sS, hs _ h.sC, h.ne, h.hw, h.pm, h.tl⟩
/-- What a call of 'plays' leaves. -/
def Played (w : World) (sp : Nat) (S : Nat → Prop) (o : Int) (n : Nat) (w' : World) : Prop := SideIs w' sp (New S w) o n ∧ Upd S w w'
def opV (k n : Int) (sec : Bool) : Value := .agg #[.int .i64 k, .int .i64 n, .bool sec]
set_option maxHeartbeats 3200000 in
theorem plays_1 (sp : Nat) (S : Nat → Prop) (o : Int) (n : Nat) (N : Int) (sec : Bool) (hn : n < 100000000000) (w : World) (h : SideIs w sp S o n) :
    Calls Try.prog 15 #[.pointer (some ⟨sp, 0, none⟩), opV 1 N sec] w fun e w' => e = .returned (.bool true) ∧ Played w sp S o (n + 1) w' := by
  obtain ⟨g, bp, c, SH, SB, H, B, top, told, h, hlen⟩ := h
  have ht := h.tight
  have hlt : sp < w.heap.size := blk_lt h.st
  have s0 : w.cell? ⟨sp, 0, none⟩ = some (.pointer (some ⟨g, 0, none⟩)) := (blk_cell h.st 0).trans rfl
  have HP := Lib.hid (fun (W : World) (hb : Below w.heap.size w W) => push_c g (fun k => SH k ∧ k < w.heap.size) 35 _ _ _ (lessOrder c o) H N (by rw [h.pm.length_eq]; omega) W (ht.hp.later hb) ((CellI.stays (S := fun _ => False) (fun h => h)).later h.cl hb) (CellI.stays (fun e => (ht.dH c e).2.2.1 rfl)))
  have HT := Lib.hid ht
  have HLen := Lib.hid hlen
  have HB := Lib.hid ((Below.refl w.heap.size w).alloc (Nat.le_refl _) (.cells #[.int .i64 1, .int .i64 N, .bool sec] 27 (0, 0)))
  clear ht h hlen
  have e0 : sp ≠ w.heap.size := by omega
  unfold opV
  go_enter Try.func15, Try.ntmps15
  go_wp2
  have b1 : (w.alloc (.cells #[.int .i64 1, .int .i64 N, .bool sec] 27 (0, 0))).cell? ⟨w.heap.size, 1, none⟩ = some (.int .i64 N) := (blk_cell (heap_alloc_new w (.cells #[.int .i64 1, .int .i64 N, .bool sec] 27 (0, 0))) 1).trans rfl
  have HBX := Lib.hid (heap_alloc_new w (.cells #[.int .i64 1, .int .i64 N, .bool sec] 27 (0, 0)))
  have HSZ := Lib.hid (World.size_alloc w (.cells #[.int .i64 1, .int .i64 N, .bool sec] 27 (0, 0)))
  have s0' := (HB.out.cell (p := ⟨sp, 0, none⟩) hlt).trans s0
  clear s0
  generalize w.alloc (.cells #[.int .i64 1, .int .i64 N, .bool sec] 27 (0, 0)) = wa at *
  go_still_tail 6, (by kernel_rfl)
  change wpList _ _ _ _ _ wa.drew
  have HBD := Lib.hid (HB.out.drew)
  go_wp2_with (go_at_call 27; refine (HP.out _ HBD.out).mono ?_; rintro e w1 ⟨rfl, hh1, hu1⟩)
  -- behind Push
  have hsz1 : w.heap.size + 1 ≤ w1.heap.size := by rw [← HSZ.out]; exact hu1.size
  have hst1 : sideB w1 sp g bp top told := hu1.heap ((HBD.out.block sp hlt).trans HT.out.st) (fun e => (HT.out.dH sp e).2.1 rfl)
  have hbx1 := hu1.heap (HBX.out : wa.drew.heap[w.heap.size]? = _) (fun e => by have := e.2; omega)
  have hB1 : BagIs w1 bp (fun k => SB k ∧ k < w.heap.size) o B := (HT.out.bg.later HBD.out).upd hu1 (fun k hk e => (HT.out.dH k e).2.2.2 hk)
  have HPut := Lib.hid (fun (W : World) (hb : Below w1.heap.size w1 W) => put_c bp (fun k => SB k ∧ k < w.heap.size) o B N (by have := HLen.out; omega) W (hB1.later hb))
  have HU1 := Lib.hid hu1
  have HH1 := Lib.hid hh1.tight
  have HST1 := Lib.hid hst1
  have t1 : w1.cell? ⟨sp, 1, none⟩ = some (.pointer (some ⟨bp, 0, none⟩)) := (blk_cell hst1 1).trans rfl
  have t2 : w1.cell? ⟨w.heap.size, 1, none⟩ = some (.int .i64 N) := (blk_cell hbx1 1).trans rfl
  clear hh1 hu1 hst1 hbx1 hB1 s0' b1
  go_still_tail 6, (by kernel_rfl)
  change wpList _ _ _ _ _ w1.drew
  go_wp2_with fail
  refine (HPut.out _ ((Below.refl _ _).drew)).mono ?_
  rintro e w2 ⟨rfl, hb2, hu2⟩
  have hst2 : sideB w2 sp g bp top told := hu2.heap (HST1.out : w1.drew.heap[sp]? = _) (fun e => (HT.out.dB sp e).2.1 rfl)
  have HU2 := Lib.hid hu2
  have HB2 := Lib.hid hb2.tight
  have HST2 := Lib.hid hst2
  have t3 : w2.cell? ⟨sp, 3, none⟩ = some (.bool told) := (blk_cell hst2 3).trans rfl
  have f3 : w2.frozen? ⟨sp, 3, none⟩ = false := blk_frozen hst2 3
  have hst3 := blk_set hst2 3 (.bool false)
  have HST3 := Lib.hid hst3
  clear hb2 hu2 hst2 hst3 t1 t2
  go_wp2
  go_ret
  refine ⟨rfl, ⟨g, bp, c, _, _, _, _, top, false, ⟨HST3.out.trans rfl, (HH1.out.upd ((Upd.drew _).trans HU2.out) ?_).upd (Upd.setCell (S := fun k => k = sp) w2 3 _ rfl) ?_, ?_, HB2.out.upd (Upd.setCell (S := fun k => k = sp) w2 3 _ rfl) ?_, ?_, ?_, .inl HT.out.sS.1, .inl HT.out.sC.1, HT.out.ne, pushL_heap (aheadL_weak o) H N HT.out.hw, ?_, by simp⟩, ?_⟩, ?_⟩
  · intro k hk e
    rcases hk with ⟨hk | hk, _⟩
    · exact (HT.out.dH k hk).2.2.2 e
    · have := e.2; have := HSZ.out; simp at hk; omega
  · intro k hk e
    subst e
    rcases hk with ⟨hk | hk, _⟩
    · exact (HT.out.dH k hk).2.1 rfl
    · have := HSZ.out; simp at hk; omega
  · exact (CellI.stays (S := fun k => k = sp) HT.out.ne) _ _ ((CellI.stays (fun e => (HT.out.dB c e).2.2 rfl)) w1.drew w2 ((CellI.stays (S := fun _ => False) (fun h => h)) w1 _ ((CellI.stays (fun e => (HT.out.dH c e).2.2.1 rfl)) wa.drew w1 ((CellI.stays (S := fun _ => False) (fun h => h)).later HT.out.cl HBD.out) HU1.out) (Upd.drew _)) HU2.out) (Upd.setCell w2 3 _ rfl)
  · intro k hk e
    subst e
    rcases hk with ⟨hk | hk, _⟩
    · exact (HT.out.dB k hk).2.1 rfl
    · have : w1.heap.size ≤ k := hk
      omega
  · intro k hk
    rcases hk with ⟨hk | hk, h2⟩
    · obtain ⟨a, b, c', d⟩ := HT.out.dH k hk
      refine ⟨.inl a.1, b, c', ?_⟩
      rintro ⟨e | e, _⟩
      · exact d e
      · have : w1.heap.size ≤ k := e
        omega
    · have h1 : wa.heap.size ≤ k := hk
      have := HSZ.out
      refine ⟨.inr (by omega), by omega, by have := HT.out.sC.2; omega, ?_⟩
      rintro ⟨e | e, _⟩
      · have := e.2; omega
      · have : w1.heap.size ≤ k := e
        omega
  · intro k hk
    rcases hk with ⟨hk | hk, h2⟩
    · obtain ⟨a, b, c'⟩ := HT.out.dB k hk
      exact ⟨.inl a.1, b, c'⟩
    · have h1 : w1.heap.size ≤ k := hk
      exact ⟨.inr (by omega), by omega, by have := HT.out.sC.2; omega⟩
  · exact (pushL_perm _ _ _).trans ((HT.out.pm.cons N).trans (List.perm_append_comm (l₁ := [N]) (l₂ := B)))
  · simp [HLen.out]
  · have u1 : Upd S w w1 := (Upd.of_below HBD.out).trans (HU1.out.mono (fun k hk => (HT.out.dH k hk).1.1))
    exact (u1.trans ((Upd.drew _).trans (HU2.out.mono (fun k hk => (HT.out.dB k hk).1.1)))).trans (Upd.setCell w2 3 _ HT.out.sS.1)
end Go.Proofs.Ytabnpacponkmhaa.H
