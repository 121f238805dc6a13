/- Room.Bytes: a copy of a list of bytes with marks behind it, noted in a room. Conditions: sizes. -/
import Derived.Test.YtjbbobhjomhnmaaRf3
import Derived.Deep.LoopGhost
namespace Go.Proofs.Ytjbbobhjomhnmaa.H
open Go Go.RowKit Go.Deep Go.Shelf Go.Proofs Go.Proofs.YtjbbobhjomhnmaaW.PrintWords
set_option linter.unusedVariables false
set_option linter.unusedSimpArgs false
def lotI (i : Nat) : Int := if i % 2 = 0 then -7701 else -7702
def lotB (i : Nat) : Int := if i % 2 = 0 then 235 else 234
theorem lot_c (i : Nat) (hi : i < 1000000) (w : World) : Calls Try.prog 105 #[.int .i64 (i : Int)] w fun e w' => e = .returned (.int .i64 (lotI i)) ∧ w = w' := by
  by_cases h : i % 2 = 0
  · have h1 : ((i : Int) % 2 == 0) = true := by simp; omega
    have H := Lib.hid h
    clear h
    go_enter Try.func105, Try.ntmps105
    go_wp2
    go_ret
    exact ⟨by simp [lotI, H.out], rfl⟩
  · have h1 : ((i : Int) % 2 == 0) = false := by simp; omega
    go_enter Try.func105, Try.ntmps105
    go_wp2
    go_ret
    exact ⟨by simp [lotI, h], rfl⟩
theorem lot_byte (i : Nat) : IntKind.u8.wrap (lotI i) = lotB i := by
  unfold lotI lotB
  split <;> rfl
def marksB (n : Nat) : List Int := (List.range n).map lotB
theorem marksB_snoc (n : Nat) : marksB (n + 1) = marksB n ++ [lotB n] := by simp [marksB, List.range_succ]
theorem marksB_len (n : Nat) : (marksB n).length = n := by simp [marksB]
theorem marksB_at {n k : Nat} (h : k < n) : (marksB n)[k]? = some (lotB k) := by simp [marksB, h]
/-- What was lent: its block, its length, its capacity. -/
abbrev RB := Nat × Nat × Nat
def encRB (x : RB) : List Value := [.slice (some ⟨x.1, 0, none⟩) (x.2.1 + 600) x.2.2]
theorem okRB : EncOk encRB 1 := fun x => ⟨rfl, by simp [encRB, Value.oneCell']⟩
theorem infoRB : (Try.prog.info? 22).map (fun i => (i.zero, i.size, i.bytes)) = some (some (.slice none 0 0), 1, 24) := by kernel_rfl
theorem uSlRB : Try.prog.underlying 25 = some (.slice 22) := Try.underlying25
def lensB (bs : List RB) : List Int := bs.map (fun x => (x.2.1 : Int))
abbrev roomCells (v1 v2 : Value) : Array Value := #[v1, v2, .slice none 0 0, .slice none 0 0, .slice none 0 0, .slice none 0 0, .slice none 0 0, .slice none 0 0, .slice none 0 0, .slice none 0 0, .slice none 0 0, .slice none 0 0, .slice none 0 0, .slice none 0 0, .slice none 0 0, .slice none 0 0, .slice none 0 0, .slice none 0 0, .slice none 0 0, .slice none 0 0, .slice none 0 0, .slice none 0 0, .slice none 0 0, .slice none 0 0, .slice none 0 0, .slice none 0 0, .slice none 0 0, .slice none 0 0]
/-- A room that holds copies of bytes alone. -/
structure RoomIs (w : World) (g : Nat) (bs : List RB) (v1 v2 : Value) : Prop where
  row : w.heap[g]? = some (.cells (roomCells v1 v2) 41 (0, 0))
  o1 : Own encRB 22 1 w 0 v1 bs
  o2 : Own encI 3 1 w 0 v2 (lensB bs)
  marks : ∀ x ∈ bs, ∀ k, k < 600 → w.cell? ⟨x.1, x.2.1 + k, none⟩ = some (.int .u8 (lotB k))
  far : (∀ x ∈ bs, x.1 ≠ g ∧ v1.ownBlock ≠ some x.1 ∧ v2.ownBlock ≠ some x.1) ∧ v1.ownBlock ≠ some g ∧ v2.ownBlock ≠ some g ∧ (∀ k, v1.ownBlock = some k → v2.ownBlock ≠ some k)
  one : ∀ x ∈ bs, ∀ y ∈ bs, x.1 = y.1 → x = y
  small : ∀ x ∈ bs, x.2.1 ≤ 140737488351232
def RoomR (g : Nat) (bs : List RB) (v1 v2 : Value) (k : Nat) : Prop := k = g ∨ v1.ownBlock = some k ∨ v2.ownBlock = some k ∨ ∃ x ∈ bs, k = x.1
/-- What Room's calls write: not what was lent. -/
def RoomW (g : Nat) (v1 v2 : Value) (k : Nat) : Prop := k = g ∨ v1.ownBlock = some k ∨ v2.ownBlock = some k
theorem RoomIs.lt {w : World} {g : Nat} {bs : List RB} {v1 v2 : Value} (h : RoomIs w g bs v1 v2) : ∀ k, RoomR g bs v1 v2 k → k < w.heap.size := fun k hk => by
  rcases hk with rfl | hk | hk | ⟨x, hx, rfl⟩
  · exact blk_lt h.row
  · exact (h.o1.block_lt hk).2
  · exact (h.o2.block_lt hk).2
  · exact World.block_lt_of_cell? w _ (h.marks x hx 0 (by decide))
theorem RoomIs.upd {w w' : World} {g : Nat} {bs : List RB} {v1 v2 : Value} {T : Nat → Prop} (h : RoomIs w g bs v1 v2) (hu : Upd T w w') (hT : ∀ k, RoomR g bs v1 v2 k → ¬ T k) : RoomIs w' g bs v1 v2 :=
  ⟨hu.heap h.row (hT g (.inl rfl)), h.o1.upd hu (fun k hk => hT k (.inr (.inl hk))), h.o2.upd hu (fun k hk => hT k (.inr (.inr (.inl hk)))), fun x hx k hk => hu.cell (h.marks x hx k hk) (hT x.1 (.inr (.inr (.inr ⟨x, hx, rfl⟩)))), h.far, h.one, h.small⟩
theorem RoomIs.later {w w' : World} {g : Nat} {bs : List RB} {v1 v2 : Value} (h : RoomIs w g bs v1 v2) (hb : Below w.heap.size w w') : RoomIs w' g bs v1 v2 :=
  h.upd (T := fun _ => False) (Upd.of_below hb) fun _ _ h => h
/-- A byte that was lent is written over. -/
theorem RoomIs.wrote {w : World} {g : Nat} {bs : List RB} {v1 v2 : Value} (h : RoomIs w g bs v1 v2) {x : RB} (hx : x ∈ bs) {i : Nat} (hi : i < x.2.1) (v : Value) : RoomIs (w.setCell ⟨x.1, i, none⟩ v) g bs v1 v2 := by
  have hu : Upd (fun k => k = x.1) w (w.setCell ⟨x.1, i, none⟩ v) := Upd.setCell w i v rfl
  obtain ⟨f1, f2, f3, f4⟩ := h.far
  refine ⟨hu.heap h.row (fun e => (f1 x hx).1 e.symm), h.o1.upd hu (fun k hk e => (f1 x hx).2.1 (by rw [hk, e])), h.o2.upd hu (fun k hk e => (f1 x hx).2.2 (by rw [hk, e])), fun y hy k hk => ?_, h.far, h.one, h.small⟩
  rw [World.cell?_setCell_other _ _ _ _ (by
    intro e
    injection e with e1 e2
    have := h.one x hx y hy (by first | exact e1 | exact e1.symm)
    subst this
    omega)]
  exact h.marks y hy k hk
set_option maxHeartbeats 6400000 in
set_option maxRecDepth 100000 in
theorem layBytes_c (g : Nat) (bs : List RB) (u1 u2 : Value) (A : Option Addr) (c : Nat) (l : List Int) (hn : l.length ≤ 140737488351232) (w : World) (hs : Sl encB 1 w A l) (hR : RoomIs w g bs u1 u2) (hbl : bs.length ≤ 100) :
    Calls Try.prog 57 #[.pointer (some ⟨g, 0, none⟩), .slice A l.length c, .int .i64 600] w fun e w' => ∃ f cf v1 v2, e = .returned (.slice (some ⟨f, 0, none⟩) l.length (l.length + 600)) ∧ RoomIs w' g (bs ++ [(f, l.length, cf)]) v1 v2 ∧ Sl encB 1 w' (some ⟨f, 0, none⟩) l ∧
      w.heap.size ≤ f ∧ (∃ cs, w'.heap[f]? = some (.cells cs 5 (0, 0))) ∧ Upd (RoomW g u1 u2) w w' ∧ Grow (RoomR g bs u1 u2) (RoomR g (bs ++ [(f, l.length, cf)]) v1 v2) w := by
  obtain ⟨Au, cu, rfl⟩ := own_slice hR.o1
  obtain ⟨Av, cv, rfl⟩ := own_slice hR.o2
  obtain ⟨bn, hbn⟩ : ∃ n, bs.length = n := ⟨_, rfl⟩
  have hbn2 : (lensB bs).length = bn := by unfold lensB; rw [List.length_map, hbn]
  have HBN := Lib.hid hbn
  rw [hbn, hbn2] at hR ⊢
  rw [hbn] at hbl
  have HR := Lib.hid hR
  have HS := Lib.hid hs
  clear hbn hbn2
  obtain ⟨ln, hln⟩ : ∃ n, l.length = n := ⟨_, rfl⟩
  have HLN := Lib.hid hln
  rw [hln] at hn ⊢
  clear hR hs hln
  go_enter Try.func57, Try.ntmps57
  go_wp2_with (at_builtin; refine wpList_app rfl (.tmp 10) (.tmp 11) rfl uSlBx infoBx rfl (by decide) (by decide) okB (.slice (some ⟨w.heap.size, 0, none⟩) 0 0) [] rfl (base := w.heap.size) ?c1 A c l (by rw [HLN.out]; rfl) ?c2 ?c3 ?c4 ?_)
  case c1 => exact ⟨by simp, .inr ⟨w.heap.size, 0, #[], rfl, Nat.le_refl _, heap_alloc_new w _, Nat.le_refl _, by unfold maxLen; omega, rfl, rfl⟩⟩
  case c2 => exact HS.out.later ((Below.refl _ _).alloc (Nat.le_refl _) _)
  case c3 => have := HLN.out; simp; omega
  case c4 => simp
  intro v1 w1 hown1 hg1 hat1
  have hB1 : Below w.heap.size w w1 := ((Below.refl _ _).alloc (Nat.le_refl _) _).grown hg1 (by simp) (by simp [Value.ownBlock])
  have HO1 := Lib.hid hown1
  have HBI := Lib.hid hB1
  clear hown1 hg1 hat1 hB1
  go_wp2_with fail
  go_loopw [7, 8] (fun s7 s8 wr => ∃ i : Nat, s8 = .int .i64 (i : Int) ∧ i ≤ 600 ∧ Own encB 5 1 wr w.heap.size s7 (l ++ marksB i) ∧ Below w.heap.size w wr) (fun s7 s8 wr => 600 - (intOf s8).toNat)
  case atStart => exact ⟨0, rfl, by omega, by simpa [marksB] using HO1.out, HBI.out⟩
  case round =>
    obtain ⟨i, rfl, hi, ho, hB⟩ := hrel
    have HO := Lib.hid ho
    have HB := Lib.hid hB
    clear ho hB
    by_cases hlt : i < 600
    · have i1 : (0 : Int) ≤ i := by omega
      have i2 : (i : Int) < 600 := by omega
      have HM := Lib.hid (marksB_snoc i)
      have HLM := Lib.hid (marksB_len i)
      have hlb := lot_byte i
      obtain ⟨li, hli⟩ : ∃ x, lotI i = x := ⟨_, rfl⟩
      obtain ⟨lb, hlb2⟩ : ∃ x, lotB i = x := ⟨_, rfl⟩
      have HLC := Lib.hid (show Calls Try.prog 105 #[.int .i64 (i : Int)] wr fun e w' => e = .returned (.int .i64 li) ∧ wr = w' by rw [← hli]; exact lot_c i (by omega) wr)
      rw [hli, hlb2] at hlb
      rw [hlb2] at HM
      obtain ⟨p1, hp1⟩ : ∃ x, l ++ marksB i = x := ⟨_, rfl⟩
      have HPL := Lib.hid (show p1.length = ln + i by rw [← hp1, List.length_append, HLM.out, HLN.out])
      have HPN := Lib.hid (show l ++ marksB (i + 1) = p1 ++ [lb] by rw [HM.out, ← List.append_assoc, hp1])
      rw [hp1] at HO
      clear hli hlb2 hp1
      go_wp2_with fail
      refine HLC.out.mono ?_
      rintro _ _ ⟨rfl, rfl⟩
      go_wp2_with (at_builtin; refine wpList_app rfl (.tmp 18) (.tmp 22) rfl uSlBx infoBx rfl (by decide) (by decide) okB u7 p1 rfl (base := w.heap.size) ?c1 (some ⟨wr.heap.size, 0, none⟩) 1 [lb] rfl ?c2 ?c3 ?c4 ?_)
      case c1 => exact HO.out.below ((Below.refl _ _).alloc (Nat.le_refl _) _)
      case c2 => exact Sl.one okB wr lb _ rfl
      case c3 => have := HPL.out; simp; omega
      case c4 => have := HB.out.size; simp; omega
      intro v2 w2 hown2 hg2 _
      have hB2 := Lib.hid ((HB.out.alloc HB.out.size _).grown hg2 (by have := HB.out.size; simp; omega) (fun k hk => (HO.out.block_lt hk).1))
      have HO2 := Lib.hid (show Own encB 5 1 w2 w.heap.size v2 (l ++ marksB (i + 1)) by rw [HPN.out]; exact hown2)
      clear hown2 hg2
      go_wp2
      go_roundw
      case rel => exact ⟨i + 1, by first | rfl | simp, by omega, HO2.out, hB2.out⟩
      case measure => simp [intOf]; omega
    · have hi600 : i = 600 := by omega
      rw [hi600] at HO
      obtain ⟨A2, cf, rfl, hcf, hsl, hne⟩ := HO.out.slice (fun x => (okB x).1)
      obtain ⟨f, rfl, hfb, hfl⟩ := hne (by simp [marksB])
      have HBK := Lib.hid (show ∃ cs, wr.heap[f]? = some (.cells cs 5 (0, 0)) from by
        rcases HO.out.2 with ⟨hv, hn⟩ | ⟨g', cap, cur, hv, _, hh, _⟩
        · cases hv
        · injection hv with hv
          injection hv with hv
          injection hv with hv _
          subst hv
          exact ⟨cur, hh⟩)
      have hll : (l ++ marksB 600).length = ln + 600 := by rw [List.length_append, marksB_len, HLN.out]
      rw [hll] at hcf ⊢
      have HSL := Lib.hid hsl
      have HFB := Lib.hid hfb
      have HFL := Lib.hid hfl
      have HCF := Lib.hid hcf
      have HRQ := Lib.hid (HR.out.later HB.out)
      have hi9 : (600 : Int) ≤ i := by omega
      have c0 : wr.cell? ⟨g, 0, none⟩ = some (.slice Au bn cu) := (blk_cell HRQ.out.row 0).trans rfl
      have HWS := Lib.hid HB.out.size
      clear hsl hne hll hfb hfl hcf hi600 hlt hi HO
      go_wp2_with (at_builtin; refine wpList_app rfl (.tmp 28) (.tmp 30) rfl uSlRB infoRB rfl (by decide) (by decide) okRB (.slice Au bn cu) bs rfl (base := 0) ?c1 (some ⟨wr.heap.size, 0, none⟩) 1 [(f, ln, cf)] rfl ?c2 ?c3 ?c4 ?_)
      case c1 => exact HRQ.out.o1.below ((Below.refl _ _).alloc (Nat.le_refl _) _)
      case c2 => exact Sl.one okRB wr (f, ln, cf) _ rfl
      case c3 => have := HBN.out; simp; omega
      case c4 => exact Nat.zero_le _
      intro v3 w2 ho3 hg3 hat3
      have hu2 : Upd (fun k => (Value.slice Au bn cu).ownBlock = some k) wr w2 := (Upd.alloc wr _).trans (Upd.of_grown hg3 (fun k e => e))
      obtain ⟨F1, F2, F3, F4⟩ := HRQ.out.far
      obtain ⟨A3, c3, rfl⟩ := own_slice ho3
      obtain ⟨b3, hb3⟩ : ∃ n, (bs ++ [(f, ln, cf)]).length = n := ⟨_, rfl⟩
      rw [hb3] at ho3 hat3 ⊢
      have hk3 : ∀ k, (Value.slice A3 b3 c3).ownBlock = some k → ((Value.slice Au bn cu).ownBlock = some k ∨ wr.heap.size ≤ k) ∧ k < w2.heap.size := fun k hk => by
        refine ⟨?_, (ho3.block_lt hk).2⟩
        rcases hat3 with h | h
        · exact .inl (by rw [← h]; exact hk)
        · rw [h] at hk
          injection hk with hk
          try simp only [World.size_alloc] at hk
          exact .inr (by omega)
      have hgw : g < w.heap.size := blk_lt HR.out.row
      have hro2 := hu2.heap HRQ.out.row F2
      have d0 : w2.cell? ⟨g, 0, none⟩ = some (.slice Au bn cu) := (blk_cell hro2 0).trans rfl
      have f0 : w2.frozen? ⟨g, 0, none⟩ = false := blk_frozen hro2 0
      obtain ⟨w3, hw3⟩ : ∃ Z, w2.setCell ⟨g, 0, none⟩ (.slice A3 b3 c3) = Z := ⟨_, rfl⟩
      have hu3 : Upd (fun k => k = g) w2 w3 := by rw [← hw3]; exact Upd.setCell w2 0 _ rfl
      have hro3 : w3.heap[g]? = some (.cells (roomCells (.slice A3 b3 c3) (.slice Av bn cv)) 41 (0, 0)) := by rw [← hw3]; exact (blk_set hro2 0 (.slice A3 b3 c3)).trans rfl
      have d1 : w3.cell? ⟨g, 1, none⟩ = some (.slice Av bn cv) := (blk_cell hro3 1).trans rfl
      have O1 := Lib.hid (ho3.upd hu3 (fun k hk e => by
        subst e
        rcases (hk3 k hk).1 with h | h
        · exact F2 h
        · have := HWS.out; omega))
      have O2 := Lib.hid ((HRQ.out.o2.upd hu2 (fun k hk e => F4 k e hk)).upd hu3 (fun k hk e => by subst e; exact F3 hk))
      have HU2 := Lib.hid hu2
      have HU3 := Lib.hid hu3
      have HK3 := Lib.hid hk3
      have HRO3 := Lib.hid hro3
      have HGW := Lib.hid hgw
      have HB3 := Lib.hid hb3
      have HS23 := Lib.hid hu3.size
      have HS2 := Lib.hid hu2.size
      clear ho3 hg3 hat3 hu2 hk3 hro2 hu3 hro3 hb3 c0 hgw F1 F2 F3 F4
      go_wp2_with (at_builtin; refine wpList_app rfl (.tmp 38) (.tmp 41) rfl uSlIx infoIx rfl (by decide) (by decide) okI (.slice Av bn cv) (lensB bs) rfl (base := 0) ?c1 (some ⟨w3.heap.size, 0, none⟩) 1 [(ln : Int)] rfl ?c2 ?c3 ?c4 ?_)
      case c1 => exact O2.out.below ((Below.refl _ _).alloc (Nat.le_refl _) _)
      case c2 => exact Sl.one okI w3 (ln : Int) _ rfl
      case c3 => have := HBN.out; simp [lensB]; omega
      case c4 => exact Nat.zero_le _
      intro v4 w4 ho4 hg4 hat4
      have hu4 : Upd (fun k => (Value.slice Av bn cv).ownBlock = some k) w3 w4 := (Upd.alloc w3 _).trans (Upd.of_grown hg4 (fun k e => e))
      obtain ⟨F1, F2, F3, F4⟩ := HR.out.far
      have hle : lensB bs ++ [(ln : Int)] = lensB (bs ++ [(f, ln, cf)]) := by simp [lensB]
      rw [hle] at ho4
      obtain ⟨A4, c4, rfl⟩ := own_slice ho4
      have hb4 : (lensB (bs ++ [(f, ln, cf)])).length = b3 := by unfold lensB; rw [List.length_map]; exact HB3.out
      rw [hb4] at ho4 hat4 ⊢
      have hk4 : ∀ k, (Value.slice A4 b3 c4).ownBlock = some k → ((Value.slice Av bn cv).ownBlock = some k ∨ w3.heap.size ≤ k) ∧ k < w4.heap.size := fun k hk => by
        refine ⟨?_, (ho4.block_lt hk).2⟩
        rcases hat4 with h | h
        · exact .inl (by rw [← h]; exact hk)
        · rw [h] at hk
          injection hk with hk
          try simp only [World.size_alloc] at hk
          exact .inr (by omega)
      have hro4 := hu4.heap HRO3.out F3
      have d4 : w4.cell? ⟨g, 1, none⟩ = some (.slice Av bn cv) := (blk_cell hro4 1).trans rfl
      have f4 : w4.frozen? ⟨g, 1, none⟩ = false := blk_frozen hro4 1
      obtain ⟨w5, hw5⟩ : ∃ Z, w4.setCell ⟨g, 1, none⟩ (.slice A4 b3 c4) = Z := ⟨_, rfl⟩
      have hu5 : Upd (fun k => k = g) w4 w5 := by rw [← hw5]; exact Upd.setCell w4 1 _ rfl
      have hro5 : w5.heap[g]? = some (.cells (roomCells (.slice A3 b3 c3) (.slice A4 b3 c4)) 41 (0, 0)) := by rw [← hw5]; exact (blk_set hro4 1 (.slice A4 b3 c4)).trans rfl
      have hul : ∀ k, (Value.slice Au bn cu).ownBlock = some k → k < w.heap.size := fun k hk => (HR.out.o1.block_lt hk).2
      have hvl : ∀ k, (Value.slice Av bn cv).ownBlock = some k → k < w.heap.size := fun k hk => (HR.out.o2.block_lt hk).2
      have hws := HWS.out
      have hs2 := HS2.out
      have hs23 := HS23.out
      have hfb := HFB.out
      have hfl := HFL.out
      have hgw := HGW.out
      have n3g : ∀ k, (Value.slice A3 b3 c3).ownBlock = some k → k ≠ g := fun k hk e => by
        subst e
        rcases (HK3.out k hk).1 with h | h
        · exact F2 h
        · omega
      have n4g : ∀ k, (Value.slice A4 b3 c4).ownBlock = some k → k ≠ g := fun k hk e => by
        subst e
        rcases (hk4 k hk).1 with h | h
        · exact F3 h
        · omega
      have n3v : ∀ k, (Value.slice A3 b3 c3).ownBlock = some k → ¬ (Value.slice Av bn cv).ownBlock = some k := fun k hk e => by
        have := hvl k e
        rcases (HK3.out k hk).1 with h | h
        · exact F4 k h e
        · omega
      have stay : ∀ b, b ≠ g → ¬ (Value.slice Au bn cu).ownBlock = some b → ¬ (Value.slice Av bn cv).ownBlock = some b → ∀ (j : Nat) (v : Value), wr.cell? ⟨b, j, none⟩ = some v → w5.cell? ⟨b, j, none⟩ = some v := fun b n1 n2 n3 j v hc =>
        hu5.cell (hu4.cell (HU3.out.cell (HU2.out.cell hc n2) n1) n3) n1
      have nfu : ¬ (Value.slice Au bn cu).ownBlock = some f := fun h => by have := hul f h; omega
      have nfv : ¬ (Value.slice Av bn cv).ownBlock = some f := fun h => by have := hvl f h; omega
      have nfg : f ≠ g := by omega
      have HROOM := Lib.hid (show RoomIs w5 g (bs ++ [(f, ln, cf)]) (.slice A3 b3 c3) (.slice A4 b3 c4) from by
        refine ⟨hro5, (O1.out.upd hu4 (fun k hk => n3v k hk)).upd hu5 (fun k hk => n3g k hk), ho4.upd hu5 (fun k hk => n4g k hk), fun x hx k hk => ?_, ⟨fun x hx => ?_, fun h => n3g g h rfl, fun h => n4g g h rfl, fun k hk h => ?_⟩, fun x hx y hy e => ?_, fun x hx => ?_⟩
        · rcases List.mem_append.1 hx with hx | hx
          · exact stay x.1 (F1 x hx).1 (F1 x hx).2.1 (F1 x hx).2.2 _ _ (HRQ.out.marks x hx k hk)
          · rw [List.mem_singleton.1 hx]
            refine stay f nfg nfu nfv _ _ ?_
            obtain ⟨_, _, e, _, hc⟩ := HSL.out.at (show (l ++ marksB 600)[ln + k]? = some (lotB k) by
              rw [List.getElem?_append_right (by rw [HLN.out]; omega), HLN.out, Nat.add_sub_cancel_left]
              exact marksB_at hk)
            injection e with e
            injection e with e1 e2
            subst e1
            subst e2
            have := hc 0 _ rfl
            simpa using this
        · rcases List.mem_append.1 hx with hx | hx
          · have hxl := HR.out.lt x.1 (.inr (.inr (.inr ⟨x, hx, rfl⟩)))
            refine ⟨(F1 x hx).1, fun h => ?_, fun h => ?_⟩
            · rcases (HK3.out x.1 h).1 with h | h
              · exact (F1 x hx).2.1 h
              · omega
            · rcases (hk4 x.1 h).1 with h | h
              · exact (F1 x hx).2.2 h
              · omega
          · rw [List.mem_singleton.1 hx]
            refine ⟨nfg, fun h => ?_, fun h => ?_⟩
            · rcases (HK3.out f h).1 with h | h
              · exact nfu h
              · omega
            · rcases (hk4 f h).1 with h | h
              · exact nfv h
              · omega
        · have h3 := HK3.out k hk
          rcases (hk4 k h).1 with h4 | h4
          · exact n3v k hk h4
          · omega
        · rcases List.mem_append.1 hx with hx | hx
          · have hxl := HR.out.lt x.1 (.inr (.inr (.inr ⟨x, hx, rfl⟩)))
            rcases List.mem_append.1 hy with hy | hy
            · exact HR.out.one x hx y hy e
            · rw [List.mem_singleton.1 hy] at e
              simp only at e
              omega
          · rcases List.mem_append.1 hy with hy | hy
            · have hyl := HR.out.lt y.1 (.inr (.inr (.inr ⟨y, hy, rfl⟩)))
              rw [List.mem_singleton.1 hx] at e
              simp only at e
              omega
            · rw [List.mem_singleton.1 hx, List.mem_singleton.1 hy]
        · rcases List.mem_append.1 hx with hx | hx
          · exact HR.out.small x hx
          · rw [List.mem_singleton.1 hx]; exact hn)
      have HLENT := Lib.hid (show Sl encB 1 w5 (some ⟨f, 0, none⟩) l from by
        have h0 := HSL.out.take_ ln
        rw [show (l ++ marksB 600).take ln = l by rw [← HLN.out]; simp] at h0
        exact (((h0.upd HU2.out (fun b o e => by injection e with e; injection e with e1 e2; subst e1; exact nfu)).upd HU3.out (fun b o e => by injection e with e; injection e with e1 e2; subst e1; exact nfg)).upd hu4 (fun b o e => by injection e with e; injection e with e1 e2; subst e1; exact nfv)).upd hu5 (fun b o e => by injection e with e; injection e with e1 e2; subst e1; exact nfg))
      have HUPD := Lib.hid (show Upd (RoomW g (.slice Au bn cu) (.slice Av bn cv)) w w5 from
        ((((Upd.of_below HB.out).trans (HU2.out.mono fun k hk => .inr (.inl hk))).trans (HU3.out.mono fun k hk => .inl hk)).trans (hu4.mono fun k hk => .inr (.inr hk))).trans (hu5.mono fun k hk => .inl hk))
      have HFBK := Lib.hid (show ∃ cs, w5.heap[f]? = some (.cells cs 5 (0, 0)) from by
        obtain ⟨cs, hcs⟩ := HBK.out
        exact ⟨cs, hu5.heap (hu4.heap (HU3.out.heap (HU2.out.heap hcs nfu) nfg) nfv) nfg⟩)
      have HGROW := Lib.hid (show Grow (RoomR g bs (.slice Au bn cu) (.slice Av bn cv)) (RoomR g (bs ++ [(f, ln, cf)]) (.slice A3 b3 c3) (.slice A4 b3 c4)) w from fun k hk => by
        rcases hk with hk | hk | hk | ⟨x, hx, hk⟩
        · exact .inl (.inl hk)
        · rcases (HK3.out k hk).1 with h | h
          · exact .inl (.inr (.inl h))
          · exact .inr (by omega)
        · rcases (hk4 k hk).1 with h | h
          · exact .inl (.inr (.inr (.inl h)))
          · exact .inr (by omega)
        · rcases List.mem_append.1 hx with hx | hx
          · exact .inl (.inr (.inr (.inr ⟨x, hx, hk⟩)))
          · rw [List.mem_singleton.1 hx] at hk
            exact .inr (by rw [hk]; exact hfb))
      have s0 : (0 : Int) ≤ (ln : Int) := by omega
      have s1 : (ln : Int) ≤ (ln : Int) + 600 := by omega
      have s2 : (ln : Int) + 600 ≤ (cf : Int) := by have := HCF.out; omega
      clear ho4 hg4 hat4 hu4 hle hb4 hk4 hro4 hu5 hro5 hul hvl hws hs2 hs23 hgw n3g n4g n3v stay nfu nfv nfg F1 F2 F3 F4 hw3 d0 f0 d1 hfl hfb
      go_wp2
      go_ret
      exact ⟨f, cf, _, _, by simp, HROOM.out, HLENT.out, HFB.out, HFBK.out, HUPD.out, HGROW.out⟩
end Go.Proofs.Ytjbbobhjomhnmaa.H
