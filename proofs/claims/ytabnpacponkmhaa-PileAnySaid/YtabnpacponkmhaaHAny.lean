/- The law PileAny: true of every salt and list. Conditions: none. -/
import Derived.Test.YtabnpacponkmhaaHKnown
import Derived.Test.YtabnpacponkmhaaHSide2
namespace Go.Proofs.Ytabnpacponkmhaa.H
open Go.RowKit Go.Deep Go.Proofs Go.Proofs.YtabnpacponkmhaaW.PrintWords
set_option linter.unusedVariables false
set_option linter.unusedSimpArgs false
/-- The heap and the bag, beside one another. -/
structure AnyAt (w0 wr : World) (g bp c : Nat) (o : Int) (SH SB : Nat → Prop) (H B : List Int) : Prop where
  hp : HeapIs wr g SH (.func (.func 25) #[] #[.pointer (some ⟨c, 0, none⟩)]) H
  bg : BagIs wr bp SB 3 B
  cl : CellI c o wr
  dH : ∀ k, SH k → w0.heap.size ≤ k ∧ k ≠ c ∧ ¬ SB k
  dB : ∀ k, SB k → w0.heap.size ≤ k ∧ k ≠ c
  bl : Below w0.heap.size w0 wr
def AnyR (w0 : World) (g bp c : Nat) (o : Int) (R : List Int → List Int → Prop) (wr : World) : Prop := ∃ SH SB H B, AnyAt w0 wr g bp c o SH SB H B ∧ (∀ k, SH k → k < wr.heap.size) ∧ (∀ k, SB k → k < wr.heap.size) ∧ R H B
def RP (n : Nat) (H B : List Int) : Prop := H.Perm B ∧ B.length = n
def RIn (x : Int) (n : Nat) (H B : List Int) : Prop := H.Perm (x :: B) ∧ B.length = n
def ROut (x : Int) (n : Nat) (H B : List Int) : Prop := (x :: H).Perm B ∧ B.length = n + 1
section
variable {w0 wr : World} {g bp c : Nat} {o : Int}
theorem AnyR.below {R : List Int → List Int → Prop} (h : AnyR w0 g bp c o R wr) : Below w0.heap.size w0 wr := by
  obtain ⟨SH, SB, H, B, h, _⟩ := h
  exact h.bl
theorem any_push {n : Nat} (hn : n < 100000000000) (x : Int) (h : AnyR w0 g bp c o (RP n) wr) :
    Calls Try.prog 27 #[.pointer (some ⟨g, 0, none⟩), .int .i64 x] wr fun e w' => e = .returned (.tuple #[]) ∧ AnyR w0 g bp c o (RIn x n) w' := by
  obtain ⟨SH, SB, H, B, h, tH, tB, hp, hl⟩ := h
  refine (push_c g SH _ _ _ _ (lessOdd c o) H x (by rw [hp.length_eq]; omega) wr h.hp h.cl (CellI.stays (fun e => (h.dH c e).2.1 rfl))).mono ?_
  rintro e w' ⟨rfl, hh, hu⟩
  refine ⟨rfl, _, SB, _, B, ⟨hh.tight, h.bg.upd hu (fun k hk e => (h.dH k e).2.2 hk), hu.cell h.cl (fun e => (h.dH c e).2.1 rfl), ?_, h.dB, hu.below h.bl (fun k hk => (h.dH k hk).1)⟩, fun k hk => hk.2, fun k hk => Nat.lt_of_lt_of_le (tB k hk) hu.size, (pushL_perm _ H x).trans (hp.cons x), hl⟩
  rintro k ⟨hk | hk, _⟩
  · exact h.dH k hk
  · have h1 := h.bl.size
    have h2 := h.cl.lt
    refine ⟨Nat.le_trans h1 hk, fun e => ?_, fun e => ?_⟩
    · subst e; have : wr.heap.size ≤ k := hk; omega
    · have := tB k e; have : wr.heap.size ≤ k := hk; omega
theorem any_put {n : Nat} (hn : n < 100000000000) (x : Int) (h : AnyR w0 g bp c o (RIn x n) wr) :
    Calls Try.prog 28 #[.pointer (some ⟨bp, 0, none⟩), .int .i64 x] wr fun e w' => e = .returned (.tuple #[]) ∧ AnyR w0 g bp c o (RP (n + 1)) w' := by
  obtain ⟨SH, SB, H, B, h, tH, tB, hp, hl⟩ := h
  refine (put_c bp SB 3 B x (by omega) wr h.bg).mono ?_
  rintro e w' ⟨rfl, hh, hu⟩
  refine ⟨rfl, SH, _, H, _, ⟨h.hp.upd hu (fun k hk e => (h.dH k hk).2.2 e), hh.tight, hu.cell h.cl (fun e => (h.dB c e).2 rfl), ?_, ?_, hu.below h.bl (fun k hk => (h.dB k hk).1)⟩, fun k hk => Nat.lt_of_lt_of_le (tH k hk) hu.size, fun k hk => hk.2, hp.trans (List.perm_append_comm (l₁ := [x]) (l₂ := B)), by simp [hl]⟩
  · intro k hk
    refine ⟨(h.dH k hk).1, (h.dH k hk).2.1, ?_⟩
    rintro ⟨e | e, _⟩
    · exact (h.dH k hk).2.2 e
    · have := tH k hk; have : wr.heap.size ≤ k := e; omega
  · rintro k ⟨hk | hk, _⟩
    · exact h.dB k hk
    · have h1 := h.bl.size
      have h2 := h.cl.lt
      refine ⟨Nat.le_trans h1 hk, fun e => ?_⟩
      subst e; have : wr.heap.size ≤ k := hk; omega
def Popped (w0 : World) (g bp c : Nat) (o : Int) (n : Nat) (e : Ending) (w' : World) : Prop := ∃ x, e = .returned (.tuple #[.int .i64 x, .bool true]) ∧ AnyR w0 g bp c o (ROut x n) w'
theorem any_pop {n : Nat} (hn : n < 100000000000) (h : AnyR w0 g bp c o (RP (n + 1)) wr) :
    Calls Try.prog 29 #[.pointer (some ⟨g, 0, none⟩)] wr (Popped w0 g bp c o n) := by
  obtain ⟨SH, SB, H, B, h, tH, tB, hp, hl⟩ := h
  have hlen := hp.length_eq
  rcases H with _ | ⟨x, r⟩
  · simp at hlen; omega
  refine (pop_some g SH _ _ _ _ (lessOdd c o) x r (by simp at hlen; omega) wr h.hp h.cl (CellI.stays (fun e => (h.dH c e).2.1 rfl))).mono ?_
  rintro e w' ⟨rfl, hh, hu⟩
  exact ⟨x, rfl, SH, SB, _, B, ⟨hh, h.bg.upd hu (fun k hk e => (h.dH k e).2.2 hk), hu.cell h.cl (fun e => (h.dH c e).2.1 rfl), h.dH, h.dB, hu.below h.bl (fun k hk => (h.dH k hk).1)⟩, fun k hk => Nat.lt_of_lt_of_le (tH k hk) hu.size, fun k hk => Nat.lt_of_lt_of_le (tB k hk) hu.size, ((popL_perm _ x r).cons x).trans hp, hl⟩
theorem any_popn (h : AnyR w0 g bp c o (RP 0) wr) :
    Calls Try.prog 29 #[.pointer (some ⟨g, 0, none⟩)] wr fun e w' => e = .returned (.tuple #[.int .i64 0, .bool false]) ∧ wr = w' := by
  obtain ⟨SH, SB, H, B, h, tH, tB, hp, hl⟩ := h
  have hB : B = [] := List.eq_nil_of_length_eq_zero hl
  subst hB
  have hH : H = [] := List.perm_nil.1 hp
  subst hH
  exact pop_none g SH _ wr h.hp
theorem any_take {n : Nat} (hn : n < 100000000000) (x : Int) (h : AnyR w0 g bp c o (ROut x n) wr) :
    Calls Try.prog 30 #[.pointer (some ⟨bp, 0, none⟩), .int .i64 x] wr fun e w' => e = .returned (.bool true) ∧ AnyR w0 g bp c o (RP n) w' := by
  obtain ⟨SH, SB, H, B, h, tH, tB, hp, hl⟩ := h
  have hm : x ∈ B := hp.mem_iff.1 (by simp)
  have hi := List.idxOf_lt_length_of_mem hm
  refine (take_c bp SB 3 B x (by omega) wr h.bg).mono ?_
  rintro e w' ⟨rfl, hh, hu⟩
  rw [if_pos hm] at hh
  have h1 := tookL_perm B (B.idxOf x) hi
  rw [List.getElem_idxOf hi] at h1
  refine ⟨by simp [hm], SH, SB, H, _, ⟨h.hp.upd hu (fun k hk e => (h.dH k hk).2.2 e), hh, hu.cell h.cl (fun e => (h.dB c e).2 rfl), h.dH, h.dB, hu.below h.bl (fun k hk => (h.dB k hk).1)⟩, fun k hk => Nat.lt_of_lt_of_le (tH k hk) hu.size, fun k hk => Nat.lt_of_lt_of_le (tB k hk) hu.size, (List.perm_cons x).1 (hp.trans h1.symm), by rw [tookL_length B _ hi, hl]; omega⟩
theorem any_len {n : Nat} (h : AnyR w0 g bp c o (RP n) wr) :
    Calls Try.prog 31 #[.pointer (some ⟨g, 0, none⟩)] wr fun e w' => e = .returned (.int .i64 (n : Nat)) ∧ wr = w' := by
  obtain ⟨SH, SB, H, B, h, tH, tB, hp, hl⟩ := h
  have := len_c g SH _ H wr h.hp
  rw [hp.length_eq, hl] at this
  exact this
theorem any_bag {n : Nat} (h : AnyR w0 g bp c o (RP n) wr) : ∃ A cp, wr.cell? ⟨bp, 1, none⟩ = some (.slice A n cp) := by
  obtain ⟨SH, SB, H, B, h, tH, tB, hp, hl⟩ := h
  obtain ⟨A, cp, hb, _⟩ := h.bg.parts
  exact ⟨A, cp, by rw [← hl]; exact (blk_cell hb 1).trans rfl⟩
theorem AnyR.later {R : List Int → List Int → Prop} {w' : World} (h : AnyR w0 g bp c o R wr) (hb : Below wr.heap.size wr w') : AnyR w0 g bp c o R w' := by
  obtain ⟨SH, SB, H, B, h, tH, tB, r⟩ := h
  exact ⟨SH, SB, H, B, ⟨h.hp.later hb, h.bg.later hb, (CellI.stays (S := fun _ => False) (fun h => h)).later h.cl hb, h.dH, h.dB, h.bl.trans (hb.mono h.bl.size)⟩, fun k hk => Nat.lt_of_lt_of_le (tH k hk) hb.size, fun k hk => Nat.lt_of_lt_of_le (tB k hk) hb.size, r⟩
end
theorem sl_lt' {α : Type} {enc : α → List Value} {sz : Nat} {w : World} {A : Option Addr} {l : List α} {b o : Nat} (h : Sl enc sz w A l) (hA : A = some ⟨b, o, none⟩) (hl : l ≠ []) : b < w.heap.size := by
  rcases h.2 with h0 | ⟨b', o', hA', hlt, _⟩
  · exact absurd h0 hl
  · rw [hA] at hA'
    injection hA' with e
    injection e with e1
    rw [e1]
    exact hlt
set_option maxHeartbeats 6400000 in
theorem pileAny_c (o : Int) (A : Option Addr) (c : Nat) (l : List Int) (w : World) (hs : Sl encI 1 w A l) :
    Calls Try.prog 6 #[.int .i64 o, .slice A l.length c] w fun e w' => e = .returned (.bool true) ∧ Below w.heap.size w w' := by
  have hm := hs.1
  by_cases hbig : 600 < l.length
  · have e1 : decide ((600 : Int) < (l.length : Int)) = true := by simp; omega
    clear hs
    go_enter Try.func6, Try.ntmps6
    go_wp2
    go_ret
    exact ⟨by simp, (Below.refl _ _).alloc (Nat.le_refl _) _⟩
  have e1 : decide ((600 : Int) < (l.length : Int)) = false := by simp; omega
  have hlen : l.length ≤ 600 := by omega
  have hmf : ∀ (fn : Fn) (first cap : Array Value) (w : World), (Instr.makeFunc fn first cap).run Try.prog w = .ok (.func fn first cap) w := fun _ _ _ _ => rfl
  have HS := Lib.hid hs
  have HC0 := Lib.hid ((blk_cell (heap_alloc_new w (.cells #[.int .i64 o] 3)) 0).trans rfl : CellI w.heap.size o (w.alloc (.cells #[.int .i64 o] 3)))
  have HB0 := Lib.hid ((Below.refl w.heap.size w).alloc (Nat.le_refl _) (.cells #[.int .i64 o] 3))
  have HZ0 := Lib.hid (World.size_alloc w (.cells #[.int .i64 o] 3))
  clear hs hbig
  go_enter Try.func6, Try.ntmps6
  go_wp2_with fail
  generalize w.alloc (.cells #[.int .i64 o] 3) = wa at *
  refine (known_c wa).mono ?_
  rintro e w1 ⟨rfl, hb1⟩
  have HB1 := Lib.hid hb1
  clear hb1 e1
  go_wp2_with fail
  refine (newHeap_c _ _ w1).mono ?_
  rintro e w2 ⟨rfl, hh2, hb2⟩
  have hlt := hh2.lt
  have hA0 : AnyR w w1.heap.size w2.heap.size w.heap.size o (RP 0) (w2.alloc (.cells #[.int .i64 3, .slice none 0 0] 39)) := by
    have hbb : Below w2.heap.size w2 (w2.alloc (.cells #[.int .i64 3, .slice none 0 0] 39)) := (Below.refl _ _).alloc (Nat.le_refl _) _
    have s0 := HZ0.out
    have s1 := HB1.out.size
    refine ⟨_, fun k => k = w2.heap.size, [], [], ⟨hh2.later hbb, ⟨.slice none 0 0, heap_alloc_new w2 _, Own.nil _ _ _ _ _, rfl, by simp [Value.ownBlock]⟩, ?_, ?_, ?_, (((HB0.out.trans (HB1.out.mono (by omega))).trans (hb2.mono (by omega))).trans (hbb.mono (by omega)))⟩, ?_, ?_, List.Perm.refl _, rfl⟩
    · exact (CellI.stays (S := fun _ => False) (fun h => h)).later ((CellI.stays (S := fun _ => False) (fun h => h)).later ((CellI.stays (S := fun _ => False) (fun h => h)).later HC0.out HB1.out) hb2) hbb
    · intro k hk; exact ⟨by omega, by omega, by omega⟩
    · intro k hk; exact ⟨by omega, by omega⟩
    · intro k hk; simp; omega
    · intro k hk; simp; omega
  have HA0 := Lib.hid hA0
  clear hA0 hh2 hb2 hlt
  go_wp2
  generalize w2.alloc (.cells #[.int .i64 3, .slice none 0 0] 39) = wb at *
  generalize w1.heap.size = g at *
  generalize w2.heap.size = bp at *
  go_loopw [7] (fun s7 wr => ∃ i n : Nat, s7 = .int .i64 i ∧ i ≤ l.length ∧ n ≤ i ∧ AnyR w g bp w.heap.size o (RP n) wr) (fun s7 _ => l.length - (intOf s7).toNat)
  case atStart => exact ⟨0, 0, rfl, Nat.zero_le _, Nat.le_refl _, HA0.out⟩
  case round =>
    obtain ⟨i, n, rfl, hi, hni, hA⟩ := hrel
    have HA := Lib.hid hA
    clear hA
    by_cases hlt : i < l.length
    · obtain ⟨x, hx⟩ := getElem?_of_lt hlt
      have hsr := HS.out.below HA.out.below (fun b o hA hl => sl_lt' HS.out hA hl)
      obtain ⟨b, ob, rfl, hbl, hc⟩ := hsr.at hx
      have a0 : wr.cell? ⟨b, ob + i, none⟩ = some (.int .i64 x) := by simpa using hc 0 _ rfl
      have i1 : (0 : Int) ≤ (i : Int) := by omega
      have i2 : (i : Int) < (l.length : Int) := by omega
      clear hc
      go_wp2_with fail
      refine (any_push (by omega) x HA.out).mono ?_
      rintro e w3 ⟨rfl, h3⟩
      have H3 := Lib.hid h3
      have hsr := HS.out.below h3.below (fun b o hA hl => sl_lt' HS.out hA hl)
      obtain ⟨b', ob', hAA, _, hc⟩ := hsr.at hx
      injection hAA with hAA; injection hAA with q1 q2; subst q1; subst q2
      have a1 : w3.cell? ⟨b, ob + i, none⟩ = some (.int .i64 x) := by simpa using hc 0 _ rfl
      clear hc hsr h3 a0 hx
      go_wp2_with fail
      refine (any_put (by omega) x H3.out).mono ?_
      rintro e w4 ⟨rfl, h4⟩
      have H4 := Lib.hid h4
      clear h4 a1
      by_cases h3 : (i : Int).tmod 3 = 2
      · have e3 : ((i : Int).tmod 3 == 2) = true := by simpa using h3
        have e4 : ((i : Int) % 3 == 2) = true := by rw [← Int.tmod_eq_emod_of_nonneg (by omega)]; exact e3
        clear h3
        go_wp2_with fail
        refine (any_pop (by omega) H4.out).mono ?_
        rintro e w5 ⟨y, rfl, h5⟩
        have H5 := Lib.hid h5
        clear h5
        go_wp2_with fail
        refine (any_take (by omega) y H5.out).mono ?_
        rintro e w6 ⟨rfl, h6⟩
        have H6 := Lib.hid h6
        clear h6
        have HLN := Lib.hid (fun q => any_len (H6.out.later (Upd.drewN_below w6 q)))
        obtain ⟨Ab, cb, cbag⟩ := any_bag H6.out
        go_wp2_with fail
        go_quiet ((go_at_call 31; exact quiet_left (HLN.out _)))
        have HF := Lib.hid (H6.out.later (Upd.drewN_below w6 nq))
        clear cbag
        go_wp2
        go_roundw
        case rel => exact ⟨i + 1, n, by go_num, by omega, by omega, HF.out⟩
        case measure => simp [intOf]; omega
      · have e3 : ((i : Int).tmod 3 == 2) = false := by simpa using h3
        have e4 : ((i : Int) % 3 == 2) = false := by rw [← Int.tmod_eq_emod_of_nonneg (by omega)]; exact e3
        clear h3
        have HLN := Lib.hid (fun q => any_len (H4.out.later (Upd.drewN_below w4 q)))
        obtain ⟨Ab, cb, cbag⟩ := any_bag H4.out
        go_wp2_with fail
        go_quiet ((go_at_call 31; exact quiet_left (HLN.out _)))
        have HF := Lib.hid (H4.out.later (Upd.drewN_below w4 nq))
        clear cbag
        go_wp2
        go_roundw
        case rel => exact ⟨i + 1, n + 1, by go_num, by omega, by omega, HF.out⟩
        case measure => simp [intOf]; omega
    · have i2 : ¬ ((i : Int) < (l.length : Int)) := by omega
      have hn6 : n ≤ 600 := by omega
      have HNN := Lib.hid hni
      have HII := Lib.hid hi
      clear hi hni hlt
      obtain ⟨wo, rfl⟩ : ∃ wo : World, wo = wr := ⟨_, rfl⟩
      go_wp2
      go_loopg [10] n (fun gk s10 wr => gk ≤ 600 ∧ AnyR w g bp w.heap.size o (RP gk) wr)
      case atStart => exact ⟨by omega, HA.out⟩
      case round =>
        obtain ⟨hg, hA⟩ := hrel
        have HA2 := Lib.hid hA
        obtain ⟨Ab, cb, cbag⟩ := any_bag hA
        clear hA
        rcases gk with _ | m
        · have HPN := Lib.hid (any_popn HA2.out)
          have HLN := Lib.hid (any_len HA2.out)
          go_wp2_with fail
          refine HPN.out.mono ?_
          rintro e w' ⟨rfl, rfl⟩
          go_wp2_with fail
          refine HLN.out.mono ?_
          rintro e w' ⟨rfl, rfl⟩
          go_wp2
          go_ret
          exact ⟨rfl, HA2.out.below⟩
        · have i4 : (0 : Int) < ((m + 1 : Nat) : Int) := by omega
          go_wp2_with fail
          refine (any_pop (by omega) HA2.out).mono ?_
          rintro e w5 ⟨y, rfl, h5⟩
          have H5 := Lib.hid h5
          clear h5
          go_wp2_with fail
          refine (any_take (by omega) y H5.out).mono ?_
          rintro e w6 ⟨rfl, h6⟩
          have H6 := Lib.hid h6
          clear h6 cbag i4
          go_wp2
          go_roundg m
          case measure => omega
          case rel => exact ⟨by omega, H6.out⟩
end Go.Proofs.Ytabnpacponkmhaa.H
