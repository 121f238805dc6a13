/- Slices of batches: how they read; the law's batches. Conditions: sizes. | The law's batches and numbered. Conditions: sizes. | Counts of parts: the law's groups gives some answer and leaves what came in. No conditions but sizes. | The law's keys. Conditions: sizes. | The law's last. Conditions: sizes. -/
import Derived.Test.YtjbbobhjomhnmaaMe6
import Derived.Test.YtjbbobhjomhnmaaSkB
import Derived.Test.YtjbbobhjomhnmaaHRow
namespace Go.Proofs.Ytjbbobhjomhnmaa.H
open Go Go.RowKit Go.Deep Go.Shelf Go.Proofs Go.Proofs.YtjbbobhjomhnmaaW.PrintWords
set_option linter.unusedVariables false
set_option linter.unusedSimpArgs false
theorem Sl.of_C2 {α β : Type} {d : Kd β} {enc : α → List Value} {sz : Nat} {w : World} {A : Option Addr} {l : List β} {Q : α → β → Prop} (henc : ∀ y c, d.K w y c → ∃ x, c = enc x ∧ Q x y) (hsz : d.sz = sz) (hpos : ∀ x, 0 < (enc x).length) (h : d.C w A l.length l) :
    ∃ L : List α, L.length = l.length ∧ Sl enc sz w A L ∧ ∀ (i : Nat) (x : α), L[i]? = some x → ∃ y, l[i]? = some y ∧ Q x y := by
  obtain ⟨h1, h2, h3⟩ := h
  rcases l with _ | ⟨y0, l0⟩
  · exact ⟨[], rfl, Sl.nil _ _ _ _, fun i x hx => by simp at hx⟩
  · obtain ⟨ad, rfl, hc⟩ := h3 (by simp)
    obtain ⟨L, hL, hq⟩ := rows_choose (Q := fun i x => ∃ y, (y0 :: l0)[i]? = some y ∧ Q x y ∧ ∀ i' u, (enc x)[i']? = some u → w.cell? (ad.add (i * d.sz + i')) = some u) (y0 :: l0).length (fun i hi => by
      obtain ⟨y, hy⟩ := getElem?_of_lt hi
      obtain ⟨c, hcl, hk, hcell⟩ := hc i y hy
      obtain ⟨x, rfl, hx⟩ := henc y c hk
      exact ⟨x, y, hy, hx, hcell⟩)
    refine ⟨L, hL, ⟨by rw [hL]; exact h2, ?_⟩, fun i x hx => ?_⟩
    · obtain ⟨x, hx⟩ := getElem?_of_lt (l := L) (i := 0) (by rw [hL]; simp)
      obtain ⟨_, _, _, hcell⟩ := hq 0 x hx
      have h0 := hcell 0 ((enc x)[0]'(hpos x)) (List.getElem?_eq_getElem (hpos x))
      have hspot : ad.spot = none := by
        have := World.cell?_spot h0
        simpa [Addr.add] using this
      obtain ⟨b, o, spot⟩ := ad
      simp only at hspot
      subst hspot
      refine .inr ⟨b, o, rfl, ?_, fun i x hx j u hu => ?_⟩
      · have := World.block_lt_of_cell? w _ h0
        simpa [Addr.add] using this
      · obtain ⟨_, _, _, hcell'⟩ := hq i x hx
        have := hcell' j u hu
        rw [hsz, add_at, ← Nat.add_assoc] at this
        exact this
    · obtain ⟨y, hy, hx', _⟩ := hq i x hx
      exact ⟨y, hy, hx'⟩
/-- A batch in a slice of batches: its row, its capacity, its writes. -/
abbrev HW := Option Addr × Nat × List Wri
def encH (h : HW) : List Value := [.slice h.1 h.2.2.length h.2.1]
theorem okH : EncOk encH 1 := fun x => ⟨rfl, by simp [encH, Value.oneCell']⟩
/-- A slice of batches at A, each batch in its row. -/
def Sl2 (w : World) (A : Option Addr) (L : List HW) : Prop := Sl encH 1 w A L ∧ ∀ h ∈ L, Sl encW 3 w h.1 h.2.2
theorem Sl2.later {w w' : World} {A : Option Addr} {L : List HW} (h : Sl2 w A L) (hb : Below w.heap.size w w') : Sl2 w' A L := ⟨h.1.later hb, fun x hx => (h.2 x hx).later hb⟩
abbrev kWrite : Kd Wri := Kd.pair Kd.string (Kd.pair Kd.bool Kd.string)
def QWrite (e : Wri) : Prop := e.1.size ≤ 140737488351232 ∧ True ∧ e.2.2.size ≤ 140737488351232
set_option maxRecDepth 100000 in
theorem rd_write : Rd kWrite Try.prog 89 QWrite :=
  Rd.struct Try.underlying89 (by kernel_rfl) (.cons (Rd.string Try.underlying9) rfl (by kernel_rfl) (.cons (Rd.bool Try.underlying4) rfl (by kernel_rfl) (.one (Rd.string Try.underlying9) rfl (by kernel_rfl))))
theorem form_write {w : World} {y : Wri} {c : List Value} (h : kWrite.K w y c) : c = encW y := by
  obtain ⟨c1, c2, rfl, h1, c3, c4, rfl, h2, h3⟩ := h
  simp only [Kd.string, Kd.int, Kd.bool, Kd.scalar] at h1 h2 h3
  subst h1; subst h2; subst h3
  rfl
theorem rd_writes : Rd (Kd.slice 89 kWrite) Try.prog 87 (fun xs => xs.length * Try.prog.bytesOf 89 ≤ 140737488351232 ∧ ∀ x ∈ xs, QWrite x) := Rd.slice Try.underlying87 (by kernel_rfl) rd_write
theorem sl_writes {w : World} {A : Option Addr} {l : List Wri} (h : kWrite.C w A l.length l) : Sl encW 3 w A l := Sl.of_C (fun _ _ _ hk => form_write hk) rfl (fun _ => by simp [encW]) h
theorem rd_batches : Rd (Kd.slice 87 (Kd.slice 89 kWrite)) Try.prog 32 (fun xs => xs.length * Try.prog.bytesOf 87 ≤ 140737488351232 ∧ ∀ x ∈ xs, x.length * Try.prog.bytesOf 89 ≤ 140737488351232 ∧ ∀ y ∈ x, QWrite y) := Rd.slice Try.underlying32 (by kernel_rfl) rd_writes
theorem form_writes {w : World} {y : List Wri} {c : List Value} (h : (Kd.slice 89 kWrite).K w y c) : ∃ x : HW, c = encH x ∧ (x.2.2 = y ∧ Sl encW 3 w x.1 x.2.2) := by
  obtain ⟨A, c', rfl, _, h2⟩ := h
  exact ⟨(A, c', y), rfl, rfl, sl_writes h2⟩
theorem sl_batches {w : World} {A : Option Addr} {l : List (List Wri)} (h : (Kd.slice 89 kWrite).C w A l.length l) : ∃ L : List HW, L.map (·.2.2) = l ∧ Sl2 w A L := by
  obtain ⟨L, hL, hs, hq⟩ := Sl.of_C2 (fun y c hk => form_writes hk) rfl (fun _ => by simp [encH]) h
  refine ⟨L, List.ext_getElem? fun i => ?_, hs, fun x hx => ?_⟩
  · rw [List.getElem?_map]
    cases e : L[i]? with
    | none =>
      rw [List.getElem?_eq_none_iff] at e
      rw [Option.map_none, List.getElem?_eq_none (by omega)]
    | some x =>
      obtain ⟨y, hy, hxy, _⟩ := hq i x e
      rw [Option.map_some, hy, hxy]
  · obtain ⟨i, hi⟩ := List.getElem?_of_mem hx
    obtain ⟨y, _, _, h3⟩ := hq i x hi
    exact h3
end Go.Proofs.Ytjbbobhjomhnmaa.H
namespace Go.Proofs.Ytjbbobhjomhnmaa.H
open Go Go.RowKit Go.Deep Go.Shelf Go.Proofs Go.Proofs.YtjbbobhjomhnmaaW.PrintWords
set_option linter.unusedVariables false
set_option linter.unusedSimpArgs false
theorem infoBB : (Try.prog.info? 87).map (fun i => (i.zero, i.size, i.bytes)) = some (some (.slice none 0 0), 1, 24) := by kernel_rfl
theorem uSlBB : Try.prog.underlying 32 = some (.slice 87) := Try.underlying32
theorem Sl.grown {α : Type} {enc : α → List Value} {sz : Nat} {w w' : World} {A : Option Addr} {l : List α} {row : Option Nat} (h : Sl enc sz w A l) (hg : w.grownBy w' row) (hn : ∀ b o, A = some ⟨b, o, none⟩ → row ≠ some b) : Sl enc sz w' A l :=
  h.upd (Upd.of_grown (S := fun k => row = some k) hg (fun k hk => hk)) hn
theorem ownBlock_of {α : Type} {enc : α → List Value} {e : TypeId} {sz : Nat} {w : World} {base : Nat} {A : Option Addr} {n c : Nat} {l : List α} (h : Own enc e sz w base (.slice A n c) l) : ∀ b o, A = some ⟨b, o, none⟩ → base ≤ b ∧ b < w.heap.size := by
  intro b o hA
  subst hA
  have h2 := h.2
  rcases h2 with ⟨h0, _⟩ | ⟨g, cap, cur, h0, hb, hh, _⟩
  · cases h0
  · injection h0 with h1
    injection h1 with h1
    injection h1 with h1
    subst h1
    exact ⟨hb, (Array.getElem?_eq_some_iff.1 hh).1⟩
/-- Batches made so far: each stays where it lies, beside the row that holds them. -/
structure MadeB (w : World) (base : Nat) (v : Value) (L : List HW) : Prop where
  own : Own encH 87 1 w base v L
  rows : ∀ h ∈ L, Sl encW 3 w h.1 h.2.2
  far : ∀ h ∈ L, ∀ b o, h.1 = some ⟨b, o, none⟩ → base ≤ b ∧ b < w.heap.size ∧ v.ownBlock ≠ some b
theorem MadeB.nil (w : World) (base : Nat) : MadeB w base (.slice none 0 0) [] := ⟨Own.nil _ _ _ _ _, fun h hh => by simp at hh, fun h hh => by simp at hh⟩
theorem MadeB.later {w w' : World} {base : Nat} {v : Value} {L : List HW} (h : MadeB w base v L) (hb : Below w.heap.size w w') : MadeB w' base v L :=
  ⟨h.own.below hb, fun x hx => (h.rows x hx).later hb, fun x hx b o e => ⟨(h.far x hx b o e).1, Nat.lt_of_lt_of_le (h.far x hx b o e).2.1 hb.size, (h.far x hx b o e).2.2⟩⟩
theorem MadeB.sl2 {w : World} {base : Nat} {A : Option Addr} {n c : Nat} {L : List HW} (h : MadeB w base (.slice A n c) L) : n = L.length ∧ Sl2 w A L := by
  obtain ⟨A', c', e, _, hs, _⟩ := h.own.slice (fun x => (okH x).1)
  injection e with e1 e2 e3
  subst e1
  exact ⟨e2, hs, h.rows⟩
/-- One batch more (x, in a row of its own at or behind base and beside v's row) by append. -/
theorem MadeB.snoc {w w' : World} {base : Nat} {v v' : Value} {L : List HW} {x : HW} (h : MadeB w base v L) (hx : Sl encW 3 w x.1 x.2.2) (hx2 : ∀ b o, x.1 = some ⟨b, o, none⟩ → base ≤ b ∧ b < w.heap.size ∧ v.ownBlock ≠ some b)
    (ho : Own encH 87 1 w' base v' (L ++ [x])) (hg : w.grownBy w' v.ownBlock) (ha : v'.ownBlock = v.ownBlock ∨ ∃ k, v'.ownBlock = some k ∧ w.heap.size ≤ k) : MadeB w' base v' (L ++ [x]) := by
  have key : ∀ y ∈ L ++ [x], Sl encW 3 w y.1 y.2.2 ∧ ∀ b o, y.1 = some ⟨b, o, none⟩ → base ≤ b ∧ b < w.heap.size ∧ v.ownBlock ≠ some b := by
    intro y hy
    rcases List.mem_append.1 hy with hy | hy
    · exact ⟨h.rows y hy, h.far y hy⟩
    · rw [List.mem_singleton.1 hy]
      exact ⟨hx, hx2⟩
  refine ⟨ho, fun y hy => (key y hy).1.grown hg (fun b o e => ((key y hy).2 b o e).2.2), fun y hy b o e => ?_⟩
  obtain ⟨k1, k2, k3⟩ := (key y hy).2 b o e
  refine ⟨k1, Nat.lt_of_lt_of_le k2 hg.size, ?_⟩
  rcases ha with ha | ⟨k, ha, hk⟩
  · rw [ha]; exact k3
  · rw [ha]
    intro e
    injection e with e
    omega
def batchL (l : List (List Wri)) : List (List Wri) := (l.take 60).map rightL
set_option maxHeartbeats 1600000 in
set_option maxRecDepth 100000 in
theorem batches_c (A : Option Addr) (c : Nat) (l : List HW) (w : World) (hs : Sl2 w A l) :
    Calls Try.prog 32 #[.slice A l.length c] w fun e w' => ∃ v, e = .returned v ∧ ∃ L, L.map (·.2.2) = batchL (l.map (·.2.2)) ∧ MadeB w' w.heap.size v L ∧ Below w.heap.size w w' := by
  have hm := hs.1.1
  have HS := Lib.hid hs
  clear hs
  obtain ⟨n, hn⟩ : ∃ n, l.length = n := ⟨_, rfl⟩
  rw [hn] at hm ⊢
  have HN := Lib.hid hn
  clear hn
  go_enter Try.func32, Try.ntmps32
  go_wp2_with fail
  go_loopw [3, 4] (fun s3 s4 wr => ∃ (k : Nat) (L : List HW), s4 = .int .i64 k ∧ k ≤ n ∧ k ≤ 60 ∧ MadeB wr w.heap.size s3 L ∧ L.map (·.2.2) = ((l.take k).map (·.2.2)).map rightL ∧ Below w.heap.size w wr) (fun s3 s4 wr => n - (intOf s4).toNat)
  case atStart => exact ⟨0, [], rfl, by omega, by omega, MadeB.nil _ _, rfl, Below.refl _ _⟩
  case round =>
    obtain ⟨k, L, rfl, hk, hk60, hmade, hL, hbw⟩ := hrel
    obtain ⟨A1, c1, rfl⟩ := own_slice hmade.own
    have hll : L.length = k := by
      have := congrArg List.length hL
      rw [List.length_map, List.length_map, List.length_map, List.length_take, HN.out] at this
      omega
    rw [hll] at hmade ⊢
    have HM := Lib.hid hmade
    have HBW := Lib.hid hbw
    have HL := Lib.hid hL
    have HLL := Lib.hid hll
    clear hmade hbw hL hll
    by_cases hlt : k < n
    · by_cases h16 : k < 60
      · obtain ⟨x, hx⟩ := getElem?_of_lt (l := l) (by rw [HN.out]; exact hlt : k < l.length)
        have hs' := HS.out.later HBW.out
        obtain ⟨b2, o2, hB2, hb2, hc2⟩ := hs'.1.at hx
        subst hB2
        have y0 : wr.cell? ⟨b2, o2 + k, none⟩ = some (.slice x.1 x.2.2.length x.2.1) := by simpa using hc2 0 _ rfl
        have HXS := Lib.hid (hs'.2 x (List.mem_of_getElem? hx))
        have HX := Lib.hid hx
        clear hc2 hx hs'
        have i1 : (0 : Int) ≤ k := by omega
        have i2 : (k : Int) < n := by omega
        have i3 : (k : Int) < 60 := by omega
        obtain ⟨xa, xc, xl⟩ := x
        simp only at y0
        go_wp2_with fail
        refine (right_c xa xc xl _ HXS.out).mono ?_
        rintro _ wa ⟨va, rfl, hva, hba⟩
        obtain ⟨a3, c3, rfl⟩ := own_slice hva
        have HVA := Lib.hid hva
        have HBA := Lib.hid hba
        clear hva hba
        have HMA := Lib.hid (HM.out.later HBA.out)
        go_wp2_with (at_builtin; refine wpList_app rfl (.tmp 15) (.tmp 21) rfl uSlBB infoBB rfl (by decide) (by decide) okH (.slice A1 k c1) L rfl (base := w.heap.size) ?c1 (some ⟨wa.heap.size, 0, none⟩) 1 [(a3, c3, rightL xl)] rfl ?c2 ?c3 ?c4 ?_)
        case c1 => exact HMA.out.own.below ((Below.refl _ _).alloc (Nat.le_refl _) _)
        case c2 => exact Sl.one okH wa _ _ rfl
        case c3 => have := HLL.out; simp; omega
        case c4 => have h1 := HBW.out.size; have h2 := HBA.out.size; simp; omega
        intro v1 w1 ho1 hg1 hat1
        have HMB := Lib.hid (HMA.out.later ((Below.refl _ _).alloc (Nat.le_refl _) (.cells #[.slice a3 (rightL xl).length c3] 87)))
        obtain ⟨_, _, hva2, _, hsl, _⟩ := HVA.out.slice (fun x => (okW x).1)
        injection hva2 with q1 q2 q3
        subst q1
        clear q2 q3
        have HSN := Lib.hid (HMB.out.snoc (x := (a3, c3, rightL xl)) (hsl.later ((Below.refl _ _).alloc (Nat.le_refl _) _)) (fun b o e => by
          obtain ⟨z1, z2⟩ := ownBlock_of HVA.out b o e
          have := HBW.out.size
          refine ⟨by omega, by simp; omega, fun e2 => ?_⟩
          have := (HM.out.own.block_lt e2).2
          omega) ho1 hg1 (by
          rcases hat1 with e | e
          · exact .inl e
          · exact .inr ⟨_, e, by simp⟩))
        have HBN := Lib.hid (((HBW.out.trans (HBA.out.mono HBW.out.size)).alloc (by have := HBW.out.size; have := HBA.out.size; omega) _).grown hg1 (by have := HBW.out.size; have := HBA.out.size; simp; omega) (fun k hk => (HMB.out.own.block_lt hk).1))
        have HLN := Lib.hid (show (L ++ [((a3, c3, rightL xl) : HW)]).map (·.2.2) = ((l.take (k + 1)).map (·.2.2)).map rightL by
          rw [List.map_append, HL.out, List.take_add_one, HX.out]; simp)
        clear ho1 hg1 hat1 hsl
        go_wp2
        go_roundw
        case rel => exact ⟨k + 1, _, by first | rfl | simp, by omega, by omega, HSN.out, HLN.out, HBN.out⟩
        case measure => simp [intOf]; omega
      · have hk2 : k = 60 := by omega
        subst hk2
        have HE := Lib.hid (show L.map (·.2.2) = batchL (l.map (·.2.2)) by rw [HL.out]; unfold batchL; rw [List.map_take])
        have i2 : ((60 : Nat) : Int) < n := by omega
        go_wp2
        go_ret
        exact ⟨_, rfl, L, HE.out, HM.out, HBW.out⟩
    · have hk2 : n = k := by omega
      subst hk2
      have HE := Lib.hid (show L.map (·.2.2) = batchL (l.map (·.2.2)) by
        rw [HL.out]; unfold batchL; rw [List.take_of_length_le (by rw [HN.out]; exact Nat.le_refl _), List.take_of_length_le (by rw [List.length_map, HN.out]; exact hk60)])
      go_wp2
      go_ret
      exact ⟨_, rfl, L, HE.out, HM.out, HBW.out⟩
/-! ### numbered -/
def encU (n : Int) : List Value := [.int .u64 n]
theorem okU : EncOk encU 1 := fun x => ⟨rfl, by simp [encU, Value.oneCell']⟩
theorem infoU : (Try.prog.info? 51).map (fun i => (i.zero, i.size, i.bytes)) = some (some (.int .u64 0), 1, 8) := by kernel_rfl
theorem uSlU : Try.prog.underlying 83 = some (.slice 51) := Try.underlying83
def tot (l : List (List Wri)) : Nat := (l.map List.length).sum
theorem tot_snoc {l : List (List Wri)} {k : Nat} {x : List Wri} (h : l[k]? = some x) : tot (l.take (k + 1)) = tot (l.take k) + x.length := by
  unfold tot
  rw [List.take_add_one, h]
  simp
theorem tot_le (l : List (List Wri)) (k : Nat) : tot (l.take k) ≤ tot l := by
  unfold tot
  conv => rhs; rw [← List.take_append_drop k l]
  rw [List.map_append, List.sum_append]
  omega
/-- The first number of each batch. -/
def numL (f : Int) (l : List (List Wri)) (k : Nat) : List Int := (List.range k).map (fun i => f + (tot (l.take i) : Int))
theorem numL_snoc (f : Int) (l : List (List Wri)) (k : Nat) : numL f l (k + 1) = numL f l k ++ [f + (tot (l.take k) : Int)] := by
  unfold numL
  rw [List.range_succ, List.map_append]
  rfl
theorem numL_len (f : Int) (l : List (List Wri)) (k : Nat) : (numL f l k).length = k := by simp [numL]
set_option maxHeartbeats 1600000 in
set_option maxRecDepth 100000 in
theorem numbered_c (A : Option Addr) (c : Nat) (l : List HW) (f : Int) (w : World) (hs : Sl2 w A l) (hf : 0 ≤ f) (ht : f + (tot (l.map (·.2.2)) : Int) ≤ 9223372036854775807) (hlen : l.length ≤ 100000) :
    Calls Try.prog 34 #[.slice A l.length c, .int .u64 f] w fun e w' => ∃ v, e = .returned v ∧ Own encU 51 1 w' w.heap.size v (numL f (l.map (·.2.2)) l.length) ∧ Below w.heap.size w w' := by
  have hm := hs.1.1
  have HS := Lib.hid hs
  clear hs
  have HT : ∀ k, (tot ((l.map (·.2.2)).take k) : Int) ≤ 9223372036854775807 - f := fun k => by have := tot_le (l.map (·.2.2)) k; omega
  have HTT := Lib.hid HT
  clear HT ht
  obtain ⟨n, hn⟩ : ∃ n, l.length = n := ⟨_, rfl⟩
  rw [hn] at hm hlen ⊢
  have HN := Lib.hid hn
  clear hn
  go_enter Try.func34, Try.ntmps34
  go_wp2_with fail
  go_loopw [5, 6, 7] (fun s5 s6 s7 wr => ∃ (k : Nat) (t : Nat), s7 = .int .i64 k ∧ s6 = .int .u64 (f + t) ∧ t = tot ((l.map (·.2.2)).take k) ∧ k ≤ n ∧ Own encU 51 1 wr w.heap.size s5 (numL f (l.map (·.2.2)) k) ∧ Below w.heap.size w wr) (fun s5 s6 s7 wr => n - (intOf s7).toNat)
  case atStart => exact ⟨0, 0, rfl, by simp, rfl, by omega, Own.nil _ _ _ _ _, Below.refl _ _⟩
  case round =>
    obtain ⟨k, t, rfl, rfl, ht, hk, hown, hbw⟩ := hrel
    obtain ⟨A1, c1, rfl⟩ := own_slice hown
    rw [numL_len] at hown ⊢
    have HO := Lib.hid hown
    have HBW := Lib.hid hbw
    have HT := Lib.hid ht
    clear hown hbw ht
    by_cases hlt : k < n
    · obtain ⟨x, hx⟩ := getElem?_of_lt (l := l) (by rw [HN.out]; exact hlt : k < l.length)
      obtain ⟨b2, o2, hB2, hb2, hc2⟩ := HS.out.1.at hx
      subst hB2
      have z0 : w.cell? ⟨b2, o2 + k, none⟩ = some (.slice x.1 x.2.2.length x.2.1) := by simpa using hc2 0 _ rfl
      have HX := Lib.hid (show (l.map (·.2.2))[k]? = some x.2.2 by rw [List.getElem?_map, hx]; rfl)
      clear hc2 hx
      have i1 : (0 : Int) ≤ k := by omega
      have i2 : (k : Int) < n := by omega
      obtain ⟨xa, xc, xl⟩ := x
      simp only at z0
      have HZ0 := Lib.hid z0
      clear z0
      have hsn := tot_snoc HX.out
      have htk := HTT.out (k + 1)
      have hb3 : (t : Int) + xl.length ≤ 9223372036854775807 - f := by
        have h1 := HT.out
        have h2 : tot ((l.map (·.2.2)).take (k + 1)) = t + xl.length := by rw [h1]; exact hsn
        rw [h2] at htk
        omega
      have w1 : IntKind.u64.wrap (xl.length : Int) = xl.length := by rw [IntKind.wrap_u64]; omega
      have w2 : IntKind.u64.wrap (f + t + xl.length) = f + t + xl.length := by rw [IntKind.wrap_u64]; omega
      have HSN := Lib.hid hsn
      clear hsn htk
      go_wp2_with (at_builtin; refine wpList_app rfl (.tmp 15) (.tmp 17) rfl uSlU infoU rfl (by decide) (by decide) okU (.slice A1 k c1) (numL f (l.map (·.2.2)) k) rfl (base := w.heap.size) ?c1 (some ⟨wr.heap.size, 0, none⟩) 1 [f + (t : Int)] rfl ?c2 ?c3 ?c4 ?_)
      case c1 => exact HO.out.below ((Below.refl _ _).alloc (Nat.le_refl _) _)
      case c2 => exact Sl.one okU wr _ _ rfl
      case c3 => have := numL_len f (l.map (·.2.2)) k; show ((numL f (l.map (·.2.2)) k).length + 1) * 8 ≤ 140737488355328; omega
      case c4 => have h1 := HBW.out.size; first | (simp; omega) | omega
      intro v1 wz ho1 hg1 hat1
      have HBN := Lib.hid ((HBW.out.alloc HBW.out.size _).grown hg1 (by have := HBW.out.size; simp; omega) (fun j hj => (HO.out.block_lt hj).1))
      have HO1 := Lib.hid (show Own encU 51 1 wz w.heap.size v1 (numL f (l.map (·.2.2)) (k + 1)) by rw [numL_snoc, ← HT.out]; exact ho1)
      have y1 := cell_later HBN.out HZ0.out
      clear ho1 hat1
      go_wp2
      go_roundw
      case rel => exact ⟨k + 1, t + xl.length, by first | rfl | simp, by first | rfl | simp [Int.add_assoc], by rw [HT.out]; exact HSN.out.symm, by omega, HO1.out, HBN.out⟩
      case measure => simp [intOf]; omega
    · have hk2 : n = k := by omega
      subst hk2
      go_wp2
      go_ret
      exact ⟨_, rfl, HO.out, HBW.out⟩
end Go.Proofs.Ytjbbobhjomhnmaa.H
namespace Go.Proofs.Ytjbbobhjomhnmaa.H
open Go Go.RowKit Go.Deep Go.Shelf Go.Proofs Go.Proofs.YtjbbobhjomhnmaaW.PrintWords
set_option linter.unusedVariables false
set_option linter.unusedSimpArgs false
theorem Sl.upd2 {α : Type} {enc : α → List Value} {sz : Nat} {w w' : World} {A : Option Addr} {l : List α} {S : Nat → Prop} (h : Sl enc sz w A l) (u : Upd S w w') (hn : l ≠ [] → ∀ b o, A = some ⟨b, o, none⟩ → ¬ S b) : Sl enc sz w' A l := by
  by_cases e : l = []
  · subst e; exact Sl.nil _ _ _ _
  · exact h.upd u (hn e)
theorem Sl.low {α : Type} {enc : α → List Value} {sz : Nat} {w : World} {A : Option Addr} {l : List α} (h : Sl enc sz w A l) (hne : l ≠ []) : ∀ b o, A = some ⟨b, o, none⟩ → b < w.heap.size := by
  intro b o e
  rcases h.2 with h0 | ⟨b', o', hA, hlt, _⟩
  · exact absurd h0 hne
  · rw [e] at hA
    injection hA with hA
    injection hA with h1 h2
    subst h1
    exact hlt
def CntIs (w : World) (c : Nat) : Prop := ∃ n : Int, w.heap[c]? = some (.cells #[.int .i64 n] 174 (0, 0))
theorem CntIs.later {w w' : World} {c : Nat} (h : CntIs w c) (hb : Below w.heap.size w w') : CntIs w' c := ⟨h.choose, blk_below h.choose_spec hb⟩
set_option maxHeartbeats 1600000 in
set_option maxRecDepth 100000 in
theorem cok_c {c : Nat} {w : World} (h : CntIs w c) : Calls Try.prog 88 #[.pointer (some ⟨c, 0, none⟩)] w fun e w' => (∃ b, e = .returned (.bool b)) ∧ w = w' := by
  obtain ⟨n, hn⟩ := h
  have c0 : w.cell? ⟨c, 0, none⟩ = some (.int .i64 n) := (blk_cell hn 0).trans rfl
  clear hn
  go_enter Try.func88, Try.ntmps88
  go_wp2
  go_ret
  exact ⟨⟨_, rfl⟩, rfl⟩
set_option maxHeartbeats 1600000 in
set_option maxRecDepth 100000 in
theorem cadd_c {c : Nat} {w : World} (h : CntIs w c) (k : Int) : Calls Try.prog 94 #[.pointer (some ⟨c, 0, none⟩), .int .i64 k] w fun e w' => (∃ b, e = .returned (.bool b)) ∧ CntIs w' c ∧ Upd (fun j => j = c) w w' := by
  obtain ⟨n, hn⟩ := h
  have c0 : w.cell? ⟨c, 0, none⟩ = some (.int .i64 n) := (blk_cell hn 0).trans rfl
  have f0 := blk_frozen hn 0
  have HN := Lib.hid hn
  clear hn
  go_enter Try.func94, Try.ntmps94
  by_cases h0 : 0 ≤ n
  · go_wp2
    go_ret
    exact ⟨⟨_, rfl⟩, ⟨_, blk_set HN.out 0 _⟩, Upd.setCell _ _ _ rfl⟩
  · go_wp2
    go_ret
    exact ⟨.inl rfl, ⟨_, HN.out⟩, Upd.refl _ _⟩
set_option maxHeartbeats 1600000 in
set_option maxRecDepth 100000 in
theorem cmany_c (k : Int) (w : World) : Calls Try.prog 86 #[.int .i64 k] w fun e w' => e = .returned (.pointer (some ⟨w.heap.size, 0, none⟩)) ∧ CntIs w' w.heap.size ∧ Below w.heap.size w w' := by
  go_enter Try.func86, Try.ntmps86
  go_wp2
  go_ret
  exact ⟨rfl, ⟨_, heap_alloc_new _ _⟩, (Below.refl _ _).alloc (Nat.le_refl _) _⟩
set_option maxHeartbeats 1600000 in
set_option maxRecDepth 100000 in
theorem ctext_c {c : Nat} {w : World} (h : CntIs w c) (s : ByteArray) : Calls Try.prog 114 #[.pointer (some ⟨c, 0, none⟩), .string s] w fun e w' => (∃ v, e = .returned v) ∧ CntIs w' c ∧ Upd (fun j => j = c) w w' := by
  have H := Lib.hid h
  clear h
  go_enter Try.func114, Try.ntmps114
  go_wp2_with fail
  refine (cadd_c H.out _).mono ?_
  rintro _ wa ⟨⟨b, rfl⟩, hc, hu⟩
  have HC := Lib.hid hc
  have HU := Lib.hid hu
  clear hc hu
  go_wp2
  go_end0
  exact ⟨⟨_, rfl⟩, HC.out, HU.out⟩
set_option maxHeartbeats 1600000 in
set_option maxRecDepth 100000 in
theorem cwrites_c {c : Nat} {w : World} (h : CntIs w c) (A : Option Addr) (cp : Nat) (l : List Wri) (hs : Sl encW 3 w A l) (hf : l ≠ [] → ∀ b o, A = some ⟨b, o, none⟩ → b ≠ c) :
    Calls Try.prog 95 #[.pointer (some ⟨c, 0, none⟩), .slice A l.length cp] w fun e w' => (∃ v, e = .returned v) ∧ CntIs w' c ∧ Upd (fun j => j = c) w w' := by
  have hm := hs.1
  have H := Lib.hid h
  have HS := Lib.hid hs
  have HF := Lib.hid hf
  clear h hs hf
  obtain ⟨n, hn⟩ : ∃ n, l.length = n := ⟨_, rfl⟩
  rw [hn] at hm ⊢
  have HN := Lib.hid hn
  clear hn
  go_enter Try.func95, Try.ntmps95
  go_wp2_with fail
  go_loopw [4] (fun s4 wr => ∃ (k : Nat), s4 = .int .i64 k ∧ k ≤ n ∧ CntIs wr c ∧ Upd (fun j => j = c) w wr) (fun s4 wr => n - (intOf s4).toNat)
  case atStart => exact ⟨0, rfl, by omega, H.out, Upd.refl _ _⟩
  case round =>
    obtain ⟨k, rfl, hk, hc, hu⟩ := hrel
    have HC := Lib.hid hc
    have HU := Lib.hid hu
    clear hc hu
    by_cases hlt : k < n
    · obtain ⟨x, hx⟩ := getElem?_of_lt (l := l) (by rw [HN.out]; exact hlt : k < l.length)
      obtain ⟨b2, o2, hB2, hb2, hc2⟩ := (HS.out.upd2 HU.out (fun ne b o e => HF.out ne b o e)).at hx
      have hbc := HF.out (by rintro rfl; simp at hx) b2 o2 hB2
      subst hB2
      have y0 : wr.cell? ⟨b2, o2 + k * 3, none⟩ = some (.string x.1) := hc2 0 _ rfl
      have y2 : wr.cell? ⟨b2, o2 + k * 3 + 2, none⟩ = some (.string x.2.2) := hc2 2 _ rfl
      have i1 : (0 : Int) ≤ k := by omega
      have i2 : (k : Int) < n := by omega
      have HBC := Lib.hid hbc
      have HY2 := Lib.hid y2
      clear hc2 hx y2
      go_wp2_with fail
      refine (cok_c HC.out).mono ?_
      rintro _ _ ⟨⟨b, rfl⟩, rfl⟩
      cases b with
      | false =>
        go_wp2
        go_end0
        exact ⟨⟨_, rfl⟩, HC.out, HU.out⟩
      | true =>
        go_wp2_with fail
        refine (ctext_c HC.out _).mono ?_
        rintro _ wa ⟨⟨v, rfl⟩, hc1, hu1⟩
        have y3 := hu1.cell HY2.out HBC.out
        have HC1 := Lib.hid hc1
        have HU1 := Lib.hid (HU.out.trans hu1)
        clear hc1 hu1
        go_wp2_with fail
        refine (cadd_c HC1.out _).mono ?_
        rintro _ wb ⟨⟨b3, rfl⟩, hc3, hu3⟩
        have HC3 := Lib.hid hc3
        have HU3 := Lib.hid (HU1.out.trans hu3)
        clear hc3 hu3
        go_wp2
        go_roundw
        case rel => exact ⟨k + 1, by first | rfl | simp, by omega, HC3.out, HU3.out⟩
        case measure => simp [intOf]; omega
    · have hk2 : n = k := by omega
      subst hk2
      go_wp2
      go_end0
      exact ⟨⟨_, rfl⟩, HC.out, HU.out⟩
set_option maxHeartbeats 1600000 in
set_option maxRecDepth 100000 in
theorem cgroups_c {c : Nat} {w : World} (h : CntIs w c) (A : Option Addr) (cp : Nat) (l : List HW) (hs : Sl2 w A l) (hf : l ≠ [] → ∀ b o, A = some ⟨b, o, none⟩ → b ≠ c) (hf2 : ∀ x ∈ l, x.2.2 ≠ [] → ∀ b o, x.1 = some ⟨b, o, none⟩ → b ≠ c) :
    Calls Try.prog 87 #[.pointer (some ⟨c, 0, none⟩), .slice A l.length cp] w fun e w' => (∃ v, e = .returned v) ∧ CntIs w' c ∧ Upd (fun j => j = c) w w' := by
  have hm := hs.1.1
  have H := Lib.hid h
  have HS := Lib.hid hs
  have HF := Lib.hid hf
  have HF2 := Lib.hid hf2
  clear h hs hf hf2
  obtain ⟨n, hn⟩ : ∃ n, l.length = n := ⟨_, rfl⟩
  rw [hn] at hm ⊢
  have HN := Lib.hid hn
  clear hn
  go_enter Try.func87, Try.ntmps87
  go_wp2_with fail
  refine (cadd_c H.out _).mono ?_
  rintro _ w1 ⟨⟨b1, rfl⟩, hc1, hu1⟩
  have HC1 := Lib.hid hc1
  have HU1 := Lib.hid hu1
  clear hc1 hu1
  go_wp2_with fail
  go_loopw [4] (fun s4 wr => ∃ (k : Nat), s4 = .int .i64 k ∧ k ≤ n ∧ CntIs wr c ∧ Upd (fun j => j = c) w wr) (fun s4 wr => n - (intOf s4).toNat)
  case atStart => exact ⟨0, rfl, by omega, HC1.out, HU1.out⟩
  case round =>
    obtain ⟨k, rfl, hk, hc, hu⟩ := hrel
    have HC := Lib.hid hc
    have HU := Lib.hid hu
    clear hc hu
    by_cases hlt : k < n
    · obtain ⟨x, hx⟩ := getElem?_of_lt (l := l) (by rw [HN.out]; exact hlt : k < l.length)
      obtain ⟨b2, o2, hB2, hb2, hc2⟩ := (HS.out.1.upd2 HU.out (fun ne b o e => HF.out ne b o e)).at hx
      have HXF := Lib.hid (HF2.out x (List.mem_of_getElem? hx))
      have HXS := Lib.hid ((HS.out.2 x (List.mem_of_getElem? hx)).upd2 HU.out (fun ne b o e => HXF.out ne b o e))
      subst hB2
      have y0 : wr.cell? ⟨b2, o2 + k, none⟩ = some (.slice x.1 x.2.2.length x.2.1) := by simpa using hc2 0 _ rfl
      have i1 : (0 : Int) ≤ k := by omega
      have i2 : (k : Int) < n := by omega
      clear hc2 hx
      obtain ⟨xa, xc, xl⟩ := x
      simp only at y0
      go_wp2_with fail
      refine (cok_c HC.out).mono ?_
      rintro _ _ ⟨⟨b, rfl⟩, rfl⟩
      cases b with
      | false =>
        go_wp2
        go_end0
        exact ⟨⟨_, rfl⟩, HC.out, HU.out⟩
      | true =>
        go_wp2_with fail
        refine (cwrites_c HC.out xa xc xl HXS.out HXF.out).mono ?_
        rintro _ wa ⟨⟨v, rfl⟩, hc1, hu1⟩
        have HC3 := Lib.hid hc1
        have HU3 := Lib.hid (HU.out.trans hu1)
        clear hc1 hu1
        go_wp2
        go_roundw
        case rel => exact ⟨k + 1, by first | rfl | simp, by omega, HC3.out, HU3.out⟩
        case measure => simp [intOf]; omega
    · have hk2 : n = k := by omega
      subst hk2
      go_wp2
      go_end0
      exact ⟨⟨_, rfl⟩, HC.out, HU.out⟩
set_option maxHeartbeats 1600000 in
set_option maxRecDepth 100000 in
theorem groups_c (A : Option Addr) (cp : Nat) (l : List HW) (w : World) (hs : Sl2 w A l) :
    Calls Try.prog 31 #[.slice A l.length cp] w fun e w' => (∃ b, e = .returned (.bool b)) ∧ Below w.heap.size w w' := by
  have HS := Lib.hid hs
  clear hs
  go_enter Try.func31, Try.ntmps31
  go_wp2_with fail
  refine (cmany_c _ w).mono ?_
  rintro _ w1 ⟨rfl, hc1, hb1⟩
  have HC1 := Lib.hid hc1
  have HB1 := Lib.hid hb1
  clear hc1 hb1
  go_wp2_with fail
  refine (cgroups_c HC1.out A cp l (HS.out.later HB1.out) (fun ne b o e => by have := HS.out.1.low ne b o e; omega) (fun x hx ne b o e => by have := (HS.out.2 x hx).low ne b o e; omega)).mono ?_
  rintro _ w2 ⟨⟨v, rfl⟩, hc2, hu2⟩
  have HC2 := Lib.hid hc2
  have HB2 := Lib.hid (hu2.below HB1.out (fun k hk => by omega))
  clear hc2 hu2
  go_wp2_with fail
  refine (cok_c HC2.out).mono ?_
  rintro _ _ ⟨⟨b, rfl⟩, rfl⟩
  go_wp2
  go_ret
  exact ⟨⟨_, rfl⟩, HB2.out⟩
end Go.Proofs.Ytjbbobhjomhnmaa.H
namespace Go.Proofs.Ytjbbobhjomhnmaa.H
open Go Go.RowKit Go.Deep Go.Shelf Go.Proofs Go.Proofs.YtjbbobhjomhnmaaW.PrintWords
set_option linter.unusedVariables false
set_option linter.unusedSimpArgs false
def encK (s : ByteArray) : List Value := [.string s]
theorem okK : EncOk encK 1 := fun x => ⟨rfl, by simp [encK, Value.oneCell']⟩
theorem infoK : (Try.prog.info? 9).map (fun i => (i.zero, i.size, i.bytes)) = some (some (.string ⟨#[]⟩), 1, 16) := by kernel_rfl
theorem uSlK : Try.prog.underlying 93 = some (.slice 9) := Try.underlying93
def keysOf (l : List (List Wri)) : List ByteArray := l.flatMap (fun b => b.map (·.1))
def keysL (l : List (List Wri)) (key : ByteArray) : List ByteArray := key :: keysOf l
theorem keysOf_snoc {l : List (List Wri)} {k : Nat} {x : List Wri} (h : l[k]? = some x) : keysOf (l.take (k + 1)) = keysOf (l.take k) ++ x.map (·.1) := by
  unfold keysOf
  rw [List.take_add_one, h]
  simp
theorem keysOf_len (l : List (List Wri)) : (keysOf l).length = tot l := by
  unfold keysOf tot
  rw [List.length_flatMap]
  simp
set_option maxHeartbeats 1600000 in
set_option maxRecDepth 100000 in
theorem keys_c (A : Option Addr) (c : Nat) (l : List HW) (key : ByteArray) (w : World) (hs : Sl2 w A l) (ht : tot (l.map (·.2.2)) ≤ 100000) :
    Calls Try.prog 41 #[.slice A l.length c, .string key] w fun e w' => ∃ v, e = .returned v ∧ Own encK 9 1 w' w.heap.size v (keysL (l.map (·.2.2)) key) ∧ Below w.heap.size w w' := by
  have hm := hs.1.1
  have HS := Lib.hid hs
  clear hs
  have HTT := Lib.hid (fun k => Nat.le_trans (tot_le (l.map (·.2.2)) k) ht)
  clear ht
  obtain ⟨n, hn⟩ : ∃ n, l.length = n := ⟨_, rfl⟩
  rw [hn] at hm ⊢
  have HN := Lib.hid hn
  clear hn
  go_enter Try.func41, Try.ntmps41
  go_wp2_with fail
  have hown0 : Own encK 9 1 (w.alloc (.cells #[.string key] 9)) w.heap.size (.slice (some ⟨w.heap.size, 0, none⟩) 1 1) [key] := ⟨by simp [encK], .inr ⟨w.heap.size, 1, _, rfl, Nat.le_refl _, heap_alloc_new _ _, Nat.le_refl _, by decide, rfl, rfl⟩⟩
  have HO0 := Lib.hid hown0
  clear hown0
  go_loopw [5, 6] (fun s5 s6 wr => ∃ (k : Nat), s6 = .int .i64 k ∧ k ≤ n ∧ Own encK 9 1 wr w.heap.size s5 (key :: keysOf ((l.map (·.2.2)).take k)) ∧ Below w.heap.size w wr) (fun s5 s6 wr => n - (intOf s6).toNat)
  case atStart => exact ⟨0, rfl, by omega, HO0.out, (Below.refl _ _).alloc (Nat.le_refl _) _⟩
  case round =>
    obtain ⟨k, rfl, hk, hown, hbw⟩ := hrel
    have HO := Lib.hid hown
    have HBW := Lib.hid hbw
    clear hown hbw
    by_cases hlt : k < n
    · obtain ⟨x, hx⟩ := getElem?_of_lt (l := l) (by rw [HN.out]; exact hlt : k < l.length)
      have HXS := Lib.hid (HS.out.2 x (List.mem_of_getElem? hx))
      obtain ⟨b2, o2, hB2, hb2, hc2⟩ := HS.out.1.at hx
      subst hB2
      have z0 : w.cell? ⟨b2, o2 + k, none⟩ = some (.slice x.1 x.2.2.length x.2.1) := by simpa using hc2 0 _ rfl
      have HX := Lib.hid (show (l.map (·.2.2))[k]? = some x.2.2 by rw [List.getElem?_map, hx]; rfl)
      clear hc2 hx
      have i1 : (0 : Int) ≤ k := by omega
      have i2 : (k : Int) < n := by omega
      obtain ⟨xa, xc, xl⟩ := x
      simp only at z0
      have HZ0 := Lib.hid z0
      clear z0
      have HSN := Lib.hid (keysOf_snoc HX.out)
      have HLN := Lib.hid (show (keysOf ((l.map (·.2.2)).take k)).length + xl.length ≤ 100000 by
        have h1 := HTT.out (k + 1)
        rw [tot_snoc HX.out, ← keysOf_len] at h1
        exact h1)
      obtain ⟨kk, hkk⟩ : ∃ K, keysOf ((l.map (·.2.2)).take k) = K := ⟨_, rfl⟩
      rw [hkk] at HO HLN HSN
      clear hkk
      obtain ⟨xn, hxn⟩ : ∃ X, xl.length = X := ⟨_, rfl⟩
      rw [hxn] at HZ0 HLN
      have HXN := Lib.hid hxn
      clear hxn
      have hxb : xn ≤ 100000 := by have := HLN.out; omega
      go_wp2_with fail
      generalize wr = wx at *
      go_loopw [5, 7] (fun s5 s7 wr => ∃ (j : Nat), s7 = .int .i64 j ∧ j ≤ xn ∧ Own encK 9 1 wr w.heap.size s5 (key :: (kk ++ (xl.take j).map (·.1))) ∧ Below w.heap.size w wr) (fun s5 s7 wr => xn - (intOf s7).toNat)
      case atStart => exact ⟨0, rfl, by omega, by simpa using HO.out, HBW.out⟩
      case round =>
        obtain ⟨j, rfl, hj, hown, hbw⟩ := hrel
        obtain ⟨A1, c1, rfl⟩ := own_slice hown
        have HO1 := Lib.hid hown
        have HB1 := Lib.hid hbw
        have y0 := cell_later hbw HZ0.out
        clear hown hbw
        by_cases hlt2 : j < xn
        · obtain ⟨y, hy⟩ := getElem?_of_lt (l := xl) (by rw [HXN.out]; exact hlt2 : j < xl.length)
          obtain ⟨b3, o3, hB3, hb3, hc3⟩ := (HXS.out.later HB1.out).at hy
          subst hB3
          have y1 : wr.cell? ⟨b3, o3 + j * 3, none⟩ = some (.string y.1) := hc3 0 _ rfl
          have HY := Lib.hid hy
          clear hc3 hy
          have i3 : (0 : Int) ≤ j := by omega
          have i4 : (j : Int) < xn := by omega
          have HSN2 := Lib.hid (show key :: (kk ++ (xl.take (j + 1)).map (·.1)) = (key :: (kk ++ (xl.take j).map (·.1))) ++ [y.1] by rw [List.take_add_one, HY.out]; simp)
          have HLL := Lib.hid (show (key :: (kk ++ (xl.take j).map (·.1))).length ≤ 100001 by
            have := HLN.out
            simp
            omega)
          obtain ⟨dd, hdd⟩ : ∃ D, key :: (kk ++ (xl.take j).map (·.1)) = D := ⟨_, rfl⟩
          rw [hdd] at HO1 HSN2 HLL ⊢
          clear hdd
          obtain ⟨dn, hdn⟩ : ∃ D, dd.length = D := ⟨_, rfl⟩
          rw [hdn] at HO1 HLL ⊢
          have HDN := Lib.hid hdn
          clear hdn
          go_wp2_with (at_builtin; refine wpList_app rfl (.tmp 25) (.tmp 34) rfl uSlK infoK rfl (by decide) (by decide) okK (.slice A1 dn c1) dd rfl (base := w.heap.size) ?c1 (some ⟨wr.heap.size, 0, none⟩) 1 [y.1] rfl ?c2 ?c3 ?c4 ?_)
          case c1 => exact HO1.out.below ((Below.refl _ _).alloc (Nat.le_refl _) _)
          case c2 => exact Sl.one okK wr _ _ rfl
          case c3 => have := HLL.out; have := HDN.out; show (dd.length + 1) * 16 ≤ 140737488355328; omega
          case c4 => have h1 := HB1.out.size; first | (simp; omega) | omega
          intro v1 wz ho1 hg1 hat1
          have HBN := Lib.hid ((HB1.out.alloc HB1.out.size _).grown hg1 (by have := HB1.out.size; simp; omega) (fun i hi => (HO1.out.block_lt hi).1))
          have HO2 := Lib.hid ho1
          clear ho1 hg1 hat1
          go_wp2
          go_roundw
          case rel => exact ⟨j + 1, by first | rfl | simp, by omega, by rw [HSN2.out]; exact HO2.out, HBN.out⟩
          case measure => simp [intOf]; omega
        · have hj2 : xn = j := by omega
          have HO3 := Lib.hid (show Own encK 9 1 wr w.heap.size (.slice A1 (key :: (kk ++ (xl.take j).map (·.1))).length c1) (key :: keysOf ((l.map (·.2.2)).take (k + 1))) by
            rw [HSN.out]
            have : xl.take j = xl := List.take_of_length_le (by rw [HXN.out, hj2]; exact Nat.le_refl _)
            rw [this] at HO1 ⊢
            exact HO1.out)
          subst hj2
          clear HO1
          obtain ⟨dn, hdn⟩ : ∃ D, (key :: (kk ++ (xl.take xn).map (·.1))).length = D := ⟨_, rfl⟩
          rw [hdn] at HO3 ⊢
          clear hdn
          go_wp2
          go_roundw
          case rel => exact ⟨k + 1, by first | rfl | simp, by omega, HO3.out, HB1.out⟩
          case measure => simp [intOf]; omega
    · have hk2 : n = k := by omega
      subst hk2
      have HE := Lib.hid (show key :: keysOf ((l.map (·.2.2)).take n) = keysL (l.map (·.2.2)) key by
        rw [List.take_of_length_le (by rw [List.length_map, HN.out]; exact Nat.le_refl _)]; rfl)
      rw [HE.out] at HO
      go_wp2
      go_ret
      exact ⟨_, rfl, HO.out, HBW.out⟩
end Go.Proofs.Ytjbbobhjomhnmaa.H
namespace Go.Proofs.Ytjbbobhjomhnmaa.H
open Go Go.RowKit Go.Deep Go.Shelf Go.Proofs Go.Proofs.YtjbbobhjomhnmaaW.PrintWords
set_option linter.unusedVariables false
set_option linter.unusedSimpArgs false
theorem cells3 {W : World} {b : Nat} {v0 v1 v2 : Value} {t : TypeId} (h : W.heap[b]? = some (.cells #[v0, v1, v2] t (0, 0))) :
    (W.cell? ⟨b, 0, none⟩ = some v0 ∧ W.cell? ⟨b, 1, none⟩ = some v1 ∧ W.cell? ⟨b, 2, none⟩ = some v2) ∧ W.frozen? ⟨b, 0, none⟩ = false ∧ W.frozen? ⟨b, 1, none⟩ = false ∧ W.frozen? ⟨b, 2, none⟩ = false :=
  ⟨⟨(blk_cell h 0).trans rfl, (blk_cell h 1).trans rfl, (blk_cell h 2).trans rfl⟩, blk_frozen h 0, blk_frozen h 1, blk_frozen h 2⟩
theorem put3_heap {W : World} {b : Nat} {v0 v1 v2 u0 u1 u2 : Value} {t : TypeId} (h : W.heap[b]? = some (.cells #[v0, v1, v2] t (0, 0))) :
    (((W.setCell ⟨b, 0, none⟩ u0).setCell ⟨b, 1, none⟩ u1).setCell ⟨b, 2, none⟩ u2).heap[b]? = some (.cells #[u0, u1, u2] t (0, 0)) := blk_set (blk_set (blk_set h 0 u0) 1 u1) 2 u2
theorem put3_upd {S : Nat → Prop} (W : World) {b : Nat} (u0 u1 u2 : Value) (h : S b) : Upd S W (((W.setCell ⟨b, 0, none⟩ u0).setCell ⟨b, 1, none⟩ u1).setCell ⟨b, 2, none⟩ u2) :=
  ((Upd.setCell _ _ _ h).trans (Upd.setCell _ _ _ h)).trans (Upd.setCell _ _ _ h)
theorem res_w_tmp2 {fn : Func} {p u r : Tmp} (h : fn.results = #[.cell p 89, .tmp u, .tmp r]) (tmps : Array Value) (W : World) (b : Nat) (e : Wri) (v x : Value) (hp : tmps.getD p undef = .pointer (some ⟨b, 0, none⟩)) (hu : tmps.getD u undef = v) (hx : tmps.getD r undef = x)
    (hr : W.heap[b]? = some (.cells (encW e).toArray 89 (0, 0))) : (results fn tmps).run Try.prog W = .ok (.tuple #[.agg (encW e).toArray, v, x]) W := by
  obtain ⟨⟨x0, x1, x2⟩, _⟩ := cells3 (t := 89) (show W.heap[b]? = some (.cells #[.string e.1, .bool e.2.1, .string e.2.2] 89 (0, 0)) from hr)
  have hp' : tmps[p]?.getD undef = .pointer (some ⟨b, 0, none⟩) := by simpa using hp
  have hu' : tmps[u]?.getD undef = v := by simpa using hu
  have hx' : tmps[r]?.getD undef = x := by simpa using hx
  clear hr
  unfold encW
  simp [results, h, hp', hu', hx', asAddr]
  go_simp
/-! ### what last tells -/
abbrev LS := Wri × Int × Bool
def zeroW : Wri := (⟨#[]⟩, false, ⟨#[]⟩)
def lastS (key : ByteArray) (q : Int) (s : LS) (k : Int) (x : Wri) : LS := if x.1.toList = key.toList ∧ k ≤ q then (x, k, true) else s
def lastG (key : ByteArray) (q : Int) (s : LS × Int) (x : Wri) : LS × Int := (lastS key q s.1 s.2 x, s.2 + 1)
def lastF (f : Int) (key : ByteArray) (q : Int) (p : List Wri) : LS := (p.foldl (lastG key q) ((zeroW, 0, false), f)).1
theorem lastF_snd (f : Int) (key : ByteArray) (q : Int) : ∀ (p : List Wri) (s : LS), (p.foldl (lastG key q) (s, f)).2 = f + p.length
  | [], s => by simp
  | x :: p, s => by
    rw [List.foldl_cons]
    show (p.foldl (lastG key q) (lastS key q s f x, f + 1)).2 = _
    rw [lastF_snd (f + 1) key q p]
    simp
    omega
theorem lastF_snoc (f : Int) (key : ByteArray) (q : Int) (p : List Wri) (x : Wri) : lastF f key q (p ++ [x]) = lastS key q (lastF f key q p) (f + p.length) x := by
  unfold lastF
  rw [List.foldl_append]
  show lastS key q _ (p.foldl (lastG key q) ((zeroW, 0, false), f)).2 x = _
  rw [lastF_snd]
theorem flat_snoc {l : List (List Wri)} {k : Nat} {x : List Wri} (h : l[k]? = some x) : (l.take (k + 1)).flatten = (l.take k).flatten ++ x := by
  rw [List.take_add_one, h]
  simp
theorem flat_tot (l : List (List Wri)) : l.flatten.length = tot l := by
  unfold tot
  rw [List.length_flatten]
/-- The state of last's loops: what is found among p lies in the cells of w. -/
structure LastAt (w wr : World) (f : Int) (key : ByteArray) (q : Int) (p : List Wri) (s : LS) : Prop where
  eq : lastF f key q p = s
  r0 : wr.heap[w.heap.size]? = some (.cells #[.string ⟨#[]⟩, .bool false, .string ⟨#[]⟩] 89 (0, 0))
  r1 : wr.heap[w.heap.size + 1]? = some (.cells #[.string s.1.1, .bool s.1.2.1, .string s.1.2.2] 89 (0, 0))
  bel : Below w.heap.size w wr
theorem LastAt.skip {w wr : World} {f : Int} {key : ByteArray} {q : Int} {p : List Wri} {s : LS} (h : LastAt w wr f key q p s) {x : Wri} (hn : ¬ (x.1.toList = key.toList ∧ f + (p.length : Int) ≤ q)) : LastAt w wr f key q (p ++ [x]) s :=
  ⟨by rw [lastF_snoc, h.eq]; exact if_neg hn, h.r0, h.r1, h.bel⟩
theorem LastAt.find {w wr : World} {f : Int} {key : ByteArray} {q : Int} {p : List Wri} {s : LS} (h : LastAt w wr f key q p s) {x : Wri} (h1 : x.1.toList = key.toList) (h2 : f + (p.length : Int) ≤ q) :
    LastAt w (((wr.setCell ⟨w.heap.size + 1, 0, none⟩ (.string x.1)).setCell ⟨w.heap.size + 1, 1, none⟩ (.bool x.2.1)).setCell ⟨w.heap.size + 1, 2, none⟩ (.string x.2.2)) f key q (p ++ [x]) (x, f + (p.length : Int), true) :=
  ⟨by rw [lastF_snoc, h.eq]; exact if_pos ⟨h1, h2⟩, (put3_upd (S := fun k => k = w.heap.size + 1) _ _ _ _ rfl).heap h.r0 (by omega), put3_heap h.r1,
    (put3_upd (S := fun k => k = w.heap.size + 1) _ _ _ _ rfl).below h.bel (fun k hk => by omega)⟩
set_option maxHeartbeats 1600000 in
set_option maxRecDepth 100000 in
theorem last_c (A : Option Addr) (c : Nat) (l : List HW) (f : Int) (key : ByteArray) (q : Int) (w : World) (hs : Sl2 w A l) (hf : 0 ≤ f) (hf2 : f ≤ 1000) (ht : tot (l.map (·.2.2)) ≤ 100000) :
    Calls Try.prog 42 #[.slice A l.length c, .int .u64 f, .string key, .int .u64 q] w fun e w' =>
      e = .returned (.tuple #[.agg (encW (lastF f key q (l.map (·.2.2)).flatten).1).toArray, .int .u64 (lastF f key q (l.map (·.2.2)).flatten).2.1, .bool (lastF f key q (l.map (·.2.2)).flatten).2.2]) ∧ Below w.heap.size w w' := by
  have hm := hs.1.1
  have HS := Lib.hid hs
  clear hs
  have HTT := Lib.hid (fun k => Nat.le_trans (tot_le (l.map (·.2.2)) k) ht)
  clear ht
  obtain ⟨n, hn⟩ : ∃ n, l.length = n := ⟨_, rfl⟩
  rw [hn] at hm ⊢
  have HN := Lib.hid hn
  clear hn
  obtain ⟨w2, hw2⟩ : ∃ w2, (w.alloc (.cells #[.string ⟨#[]⟩, .bool false, .string ⟨#[]⟩] 89)).alloc (.cells #[.string ⟨#[]⟩, .bool false, .string ⟨#[]⟩] 89) = w2 := ⟨_, rfl⟩
  have HL0 := Lib.hid (show LastAt w w2 f key q [] (zeroW, 0, false) from ⟨rfl, by rw [← hw2]; exact blk_alloc (heap_alloc_new _ _) _, by rw [← hw2]; exact alloc2_new _ _ _, by rw [← hw2]; exact ((Below.refl _ _).alloc (Nat.le_refl _) _).alloc (by simp) _⟩)
  go_enter Try.func42, Try.ntmps42
  go_wp2_with fail
  clear hw2
  go_loopw [12, 13, 14, 15] (fun s12 s13 s14 s15 wr => ∃ (k : Nat) (p : List Wri) (t : Nat) (s : LS), s12 = .int .u64 s.2.1 ∧ s13 = .bool s.2.2 ∧ s14 = .int .u64 (f + t) ∧ s15 = .int .i64 k ∧ k ≤ n ∧ ((l.map (·.2.2)).take k).flatten = p ∧ p.length = t ∧ LastAt w wr f key q p s) (fun s12 s13 s14 s15 wr => n - (intOf s15).toNat)
  case atStart => exact ⟨0, [], 0, (zeroW, 0, false), rfl, rfl, by simp, rfl, by omega, by simp, rfl, HL0.out⟩
  case round =>
    obtain ⟨k, p, t, s, rfl, rfl, rfl, rfl, hk, hp, hpt, hat⟩ := hrel
    have HAT := Lib.hid hat
    have HPT := Lib.hid hpt
    have HP := Lib.hid hp
    clear hat hpt hp
    by_cases hlt : k < n
    · obtain ⟨x, hx⟩ := getElem?_of_lt (l := l) (by rw [HN.out]; exact hlt : k < l.length)
      have HXS := Lib.hid (HS.out.2 x (List.mem_of_getElem? hx))
      obtain ⟨b2, o2, hB2, hb2, hc2⟩ := HS.out.1.at hx
      subst hB2
      have z0 : w.cell? ⟨b2, o2 + k, none⟩ = some (.slice x.1 x.2.2.length x.2.1) := by simpa using hc2 0 _ rfl
      have HX := Lib.hid (show (l.map (·.2.2))[k]? = some x.2.2 by rw [List.getElem?_map, hx]; rfl)
      clear hc2 hx
      have i1 : (0 : Int) ≤ k := by omega
      have i2 : (k : Int) < n := by omega
      obtain ⟨xa, xc, xl⟩ := x
      simp only at z0
      have HZ0 := Lib.hid z0
      clear z0
      have HSN := Lib.hid (show ((l.map (·.2.2)).take (k + 1)).flatten = p ++ xl by rw [flat_snoc HX.out, HP.out])
      have htb : t + xl.length ≤ 100000 := by
        have h1 := HTT.out (k + 1)
        rw [← flat_tot, HSN.out, List.length_append, HPT.out] at h1
        exact h1
      obtain ⟨xn, hxn⟩ : ∃ X, xl.length = X := ⟨_, rfl⟩
      rw [hxn] at HZ0 htb
      have HXN := Lib.hid hxn
      clear hxn
      go_wp2_with fail
      generalize wr = wx at *
      go_loopw [12, 13, 14, 16] (fun s12 s13 s14 s16 wr => ∃ (j : Nat) (s : LS), s12 = .int .u64 s.2.1 ∧ s13 = .bool s.2.2 ∧ s14 = .int .u64 (f + t + j) ∧ s16 = .int .i64 j ∧ j ≤ xn ∧ LastAt w wr f key q (p ++ xl.take j) s) (fun s12 s13 s14 s16 wr => xn - (intOf s16).toNat)
      case atStart => exact ⟨0, s, rfl, rfl, by simp, rfl, by omega, by simpa using HAT.out⟩
      case round =>
        obtain ⟨j, s1, rfl, rfl, rfl, rfl, hj, hat1⟩ := hrel
        have HS1 := Lib.hid hat1
        have y0 := cell_later hat1.bel HZ0.out
        clear hat1
        by_cases hlt2 : j < xn
        · obtain ⟨y, hy⟩ := getElem?_of_lt (l := xl) (by rw [HXN.out]; exact hlt2 : j < xl.length)
          obtain ⟨b3, o3, hB3, hb3, hc3⟩ := (HXS.out.later HS1.out.bel).at hy
          subst hB3
          have y1 : wr.cell? ⟨b3, o3 + j * 3, none⟩ = some (.string y.1) := hc3 0 _ rfl
          have y2 : wr.cell? ⟨b3, o3 + j * 3 + 1, none⟩ = some (.bool y.2.1) := hc3 1 _ rfl
          have y3 : wr.cell? ⟨b3, o3 + j * 3 + 2, none⟩ = some (.string y.2.2) := hc3 2 _ rfl
          have HY := Lib.hid (show p ++ xl.take (j + 1) = (p ++ xl.take j) ++ [y] by rw [List.take_add_one, hy]; simp)
          have HPL := Lib.hid (show (p ++ xl.take j).length = t + j by rw [List.length_append, HPT.out, List.length_take, HXN.out]; omega)
          clear hc3 hy
          have i3 : (0 : Int) ≤ j := by omega
          have i4 : (j : Int) < xn := by omega
          have w5 : IntKind.u64.wrap (f + t + j + 1) = f + t + j + 1 := by rw [IntKind.wrap_u64]; omega
          by_cases hkey : y.1.toList = key.toList
          · by_cases hq : f + t + j ≤ q
            · obtain ⟨⟨v0, v1, v2⟩, g0, g1, g2⟩ := cells3 HS1.out.r1
              have HN2 := Lib.hid (HS1.out.find (x := y) hkey (by rw [HPL.out]; push_cast; omega))
              rw [← HY.out] at HN2
              go_wp2
              go_roundw
              case rel => exact ⟨j + 1, (y, f + t + j, true), by first | rfl | simp, rfl, by first | rfl | (simp [Int.add_assoc]; done), by first | rfl | simp, by omega, by have := HN2.out; rw [HPL.out] at this; simpa [Int.add_assoc] using this⟩
              case measure => simp [intOf]; omega
            · have HN2 := Lib.hid (HS1.out.skip (x := y) (fun h => hq (by have := h.2; rw [HPL.out] at this; push_cast at this; omega)))
              rw [← HY.out] at HN2
              go_wp2
              go_roundw
              case rel => exact ⟨j + 1, s1, by first | rfl | simp, rfl, by first | rfl | (simp [Int.add_assoc]; done), by first | rfl | simp, by omega, HN2.out⟩
              case measure => simp [intOf]; omega
          · have hk' : (y.1.toList == key.toList) = false := by simpa using hkey
            have HN2 := Lib.hid (HS1.out.skip (x := y) (fun h => hkey h.1))
            rw [← HY.out] at HN2
            go_wp2
            go_roundw
            case rel => exact ⟨j + 1, s1, by first | rfl | simp, rfl, by first | rfl | (simp [Int.add_assoc]; done), by first | rfl | simp, by omega, HN2.out⟩
            case measure => simp [intOf]; omega
        · have hj2 : xn = j := by omega
          have HS2 := Lib.hid (show LastAt w wr f key q (p ++ xl) s1 by
            have : xl.take j = xl := List.take_of_length_le (by rw [HXN.out, hj2]; exact Nat.le_refl _)
            have h2 := HS1.out
            rw [this] at h2
            exact h2)
          clear HS1
          subst hj2
          go_wp2
          go_roundw
          case rel => exact ⟨k + 1, p ++ xl, t + xn, s1, by first | rfl | simp, rfl, by first | rfl | (simp [Int.add_assoc]; done), by first | rfl | simp, by omega, HSN.out, by rw [List.length_append, HPT.out, HXN.out], HS2.out⟩
          case measure => simp [intOf]; omega
    · have hk2 : n = k := by omega
      subst hk2
      have HE := Lib.hid (show p = (l.map (·.2.2)).flatten by
        rw [← HP.out, List.take_of_length_le (by rw [List.length_map, HN.out]; exact Nat.le_refl _)])
      obtain ⟨⟨v0, v1, v2⟩, g0, g1, g2⟩ := cells3 HAT.out.r1
      obtain ⟨⟨x0, x1, x2⟩, k0, k1, k2⟩ := cells3 HAT.out.r0
      go_wp2
      refine bodyPost_ret (res_w_tmp2 rfl _ _ w.heap.size s.1 _ _ rfl rfl rfl (put3_heap HAT.out.r0)) rfl ?_
      rw [← HE.out, HAT.out.eq]
      exact ⟨rfl, (put3_upd (S := fun k => k = w.heap.size) _ _ _ _ rfl).below HAT.out.bel (fun k hk => by omega)⟩
end Go.Proofs.Ytjbbobhjomhnmaa.H
