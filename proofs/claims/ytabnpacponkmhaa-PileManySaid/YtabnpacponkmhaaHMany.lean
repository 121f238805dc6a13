/- The law PileMany: true of every number and list. Conditions: none. -/
import Derived.Test.YtabnpacponkmhaaHSides
import Derived.Test.YtabnpacponkmhaaHInts
namespace Go.Proofs.Ytabnpacponkmhaa.H
open Go.RowKit Go.Deep Go.Proofs Go.Proofs.YtabnpacponkmhaaW.PrintWords
set_option linter.unusedVariables false
set_option linter.unusedSimpArgs false
/-- A pointer to the head of a block. -/
def encP (p : Nat) : List Value := [.pointer (some ⟨p, 0, none⟩)]
theorem okP : EncOk encP 1 := fun x => ⟨rfl, by simp [encP, Value.oneCell']⟩
theorem infoSide : (Try.prog.info? 34).map (fun i => (i.zero, i.size, i.bytes)) = some (some (.pointer none), 1, 8) := by kernel_rfl
theorem uSlSide : Try.prog.underlying 64 = some (.slice 34) := Try.underlying64
theorem Sides.reown {w0 wr w' : World} {N : Nat} {R R' : Nat → Prop} {L : List (Nat × Int)} (h : Sides w0 wr N R L) (u : Upd R wr w') (hR : ∀ k, R k → w0.heap.size ≤ k) (hR' : ∀ k, R' k → (R k ∨ wr.heap.size ≤ k) ∧ k < w'.heap.size) : Sides w0 w' N R' L := by
  obtain ⟨h1, h2, S, h3, h4, h5⟩ := h
  refine ⟨u.below h1 hR, fun k hk => (hR' k hk).2, S, fun i sp o hi => ?_, fun i k hk => ?_, h5⟩
  · obtain ⟨n, hn, hs⟩ := h3 i sp o hi
    exact ⟨n, hn, hs.upd u (fun k hk => (h4 i k hk).2.2)⟩
  · obtain ⟨a, b, c⟩ := h4 i k hk
    refine ⟨a, Nat.lt_of_lt_of_le b u.size, fun r => ?_⟩
    rcases (hR' k r).1 with r | r
    · exact c r
    · omega
def rowB (v : Value) (k : Nat) : Prop := v.ownBlock = some k
/-- The sides, and the list of the pointers to them. -/
structure ManyAt (w0 wr : World) (N : Nat) (v : Value) (L : List (Nat × Int)) : Prop where
  sd : Sides w0 wr N (rowB v) L
  ow : Own encP 34 1 wr w0.heap.size v (L.map (·.1))
theorem ManyAt.play {w0 wr : World} {N : Nat} {v : Value} {L : List (Nat × Int)} (h : ManyAt w0 wr N v L) (hN : N < 10000000000) {i sp : Nat} {o : Int} (hi : L[i]? = some (sp, o)) (K M : Int) (sec : Bool) :
    Calls Try.prog 15 #[.pointer (some ⟨sp, 0, none⟩), opV K M sec] wr fun e w' => e = .returned (.bool true) ∧ ManyAt w0 w' (N + 1) v L :=
  (h.sd.play hN hi K M sec).mono fun e w' ⟨he, hs, T, hu, hT⟩ => ⟨he, hs, h.ow.upd hu (fun k hk e => (hT k e).2 hk)⟩
theorem ManyAt.drain {w0 wr : World} {N : Nat} {v : Value} {L : List (Nat × Int)} (h : ManyAt w0 wr N v L) (hN : N < 10000000000) {i sp : Nat} {o : Int} (hi : L[i]? = some (sp, o)) :
    Calls Try.prog 16 #[.pointer (some ⟨sp, 0, none⟩)] wr fun e w' => e = .returned (.bool true) ∧ ManyAt w0 w' (N + 1) v L :=
  (h.sd.drain hN hi).mono fun e w' ⟨he, hs, T, hu, hT⟩ => ⟨he, hs, h.ow.upd hu (fun k hk e => (hT k e).2 hk)⟩
/-- The pointer at a place. -/
theorem ManyAt.at {w0 wr : World} {N : Nat} {v : Value} {L : List (Nat × Int)} (h : ManyAt w0 wr N v L) {i sp : Nat} {o : Int} (hi : L[i]? = some (sp, o)) : ∃ b c, v = .slice (some ⟨b, 0, none⟩) L.length c ∧ wr.cell? ⟨b, i, none⟩ = some (.pointer (some ⟨sp, 0, none⟩)) := by
  obtain ⟨A, c, hv, hlc, hs, hne⟩ := h.ow.slice (fun x => (okP x).1)
  have hm : (L.map (·.1))[i]? = some sp := by rw [List.getElem?_map, hi]; rfl
  obtain ⟨b, hA, _⟩ := hne (by rintro e; rw [e] at hm; simp at hm)
  subst hA
  obtain ⟨b', o', hA, _, hc⟩ := hs.at hm
  injection hA with hA; injection hA with h1 h2; subst h1; subst h2
  exact ⟨b, c, by rw [hv, List.length_map], by simpa using hc 0 _ rfl⟩
theorem ManyAt.form {w0 wr : World} {N : Nat} {v : Value} {L : List (Nat × Int)} (h : ManyAt w0 wr N v L) : ∃ A c, v = .slice A L.length c := by
  obtain ⟨A, c, hv, _⟩ := h.ow.slice (fun x => (okP x).1)
  exact ⟨A, c, by rw [hv, List.length_map]⟩
theorem slEnd {α : Type} {enc : α → List Value} {sz : Nat} {w w' : World} {A : Option Addr} {l : List α} (h : Sl enc sz w A l) (hb : Below w.heap.size w w') : Sl enc sz w' A l := h.below hb (fun b o hA hl => sl_lt h hA hl)
set_option maxHeartbeats 12800000 in
theorem pileMany_c (n : Int) (A : Option Addr) (c : Nat) (l : List Int) (w : World) (hs : Sl encI 1 w A l) :
    Calls Try.prog 7 #[.int .i64 n, .slice A l.length c] w fun e w' => e = .returned (.bool true) ∧ Below w.heap.size w w' := by
  have hm := hs.1
  by_cases hout : n < 0 ∨ 38 < n ∨ 600 < l.length
  · have e1 : (decide (n < 0) = true) ∨ (decide (n < 0) = false ∧ decide (38 < n) = true) ∨ (decide (n < 0) = false ∧ decide (38 < n) = false ∧ decide ((600 : Int) < (l.length : Int)) = true) := by
      by_cases h1 : n < 0
      · exact .inl (by simpa using h1)
      · by_cases h2 : 38 < n
        · exact .inr (.inl ⟨by simpa using h1, by simpa using h2⟩)
        · exact .inr (.inr ⟨by simpa using h1, by simpa using h2, by simp; omega⟩)
    clear hs hout
    rcases e1 with e1 | ⟨e1, e2⟩ | ⟨e1, e2, e3⟩
    all_goals
      go_enter Try.func7, Try.ntmps7
      go_wp2
      go_ret
      exact ⟨by simp, Below.refl _ _⟩
  obtain ⟨m, rfl⟩ : ∃ m : Nat, n = m := ⟨n.toNat, by omega⟩
  have e1 : decide ((m : Int) < 0) = false := by simp
  have e2 : decide (38 < (m : Int)) = false := by simp; omega
  have e3 : decide ((600 : Int) < (l.length : Int)) = false := by simp; omega
  have hm38 : m ≤ 38 := by omega
  have hlen : l.length ≤ 600 := by omega
  have HS := Lib.hid hs
  have H0 := Lib.hid (Sides.nil w)
  clear hs hout
  go_enter Try.func7, Try.ntmps7
  go_wp2
  clear e1 e2 e3
  go_loopw [5, 6] (fun s5 s6 wr => ∃ (i N : Nat) (L : List (Nat × Int)), s6 = .int .i64 i ∧ i ≤ m + 2 ∧ L.length = i ∧ N ≤ i ∧ ManyAt w wr N s5 L) (fun _ s6 _ => m + 2 - (intOf s6).toNat)
  case atStart => exact ⟨0, 0, [], rfl, by omega, rfl, Nat.le_refl _, ⟨(Sides.nil w).reown (Upd.refl _ _) (fun _ h => h.elim) (fun k hk => by simp [rowB, Value.ownBlock] at hk), Own.nil _ _ _ _ _⟩⟩
  case round =>
    obtain ⟨i, N, L, rfl, hi, hL, hN, hM⟩ := hrel
    have HL := Lib.hid hL
    obtain ⟨Ai, ci, rfl⟩ := hM.form
    have HM := Lib.hid hM
    clear hL hM
    by_cases hlt : i < m + 2
    · have i1 : (0 : Int) ≤ (i : Int) := by omega
      have i2 : (i : Int) < (m : Int) + 2 := by omega
      go_wp2_with fail
      refine (heap_c _ wr).mono ?_
      rintro e w1 ⟨rfl, hh1, hc1, hb1⟩
      obtain ⟨hs1, hbb1⟩ := side_new hh1 hc1 hb1
      have hAdd := HM.out.sd.add hbb1 hs1 (fun k hk => ⟨hk.1, by simpa using hk.2⟩)
      have hAo := HM.out.ow.below hbb1
      obtain ⟨g, cg⟩ := hAdd.head (i := L.length) List.getElem?_concat_length
      have HAdd := Lib.hid hAdd
      have HAo := Lib.hid hAo
      clear hh1 hc1 hb1 hs1 hbb1 hAdd hAo
      go_upto_region 8 with (fail)
      generalize (w1.alloc (.cells #[.int .i64 ((i : Int) % 4), .slice none 0 0] 39)).alloc (.cells #[.pointer (some ⟨wr.heap.size + 1, 0, none⟩), .pointer (some ⟨w1.heap.size, 0, none⟩), .int .i64 0, .bool false] 41) = wb at *
      generalize w1.heap.size + 1 = sp at *
      have i3 : (100 * (i : Int)) + 7 ≤ 10000 := by omega
      go_wp2_with fail
      have hMb : ManyAt w wb N (.slice Ai L.length ci) (L ++ [(sp, (i : Int) % 4)]) → True := fun _ => trivial
      clear hMb
      refine (HAdd.out.play (by omega) (i := L.length) List.getElem?_concat_length 1 (100 * (i : Int) + 7) false).mono ?_
      rintro e w2 ⟨rfl, hs2, T, hu2, hT2⟩
      have ho2 := HAo.out.upd hu2 (fun k hk e => (hT2 k e).2 hk)
      have HS2 := Lib.hid hs2
      have HO2 := Lib.hid ho2
      have hzz := hs2.below.size
      clear hs2 ho2 hu2 hT2 cg
      go_wp2_with (at_builtin; refine wpList_app rfl (.tmp 51) (.tmp 53) rfl uSlSide infoSide rfl (by decide) (by decide) okP (.slice Ai L.length ci) (L.map (·.1)) rfl (base := w.heap.size) ?c1 (some ⟨w2.heap.size, 0, none⟩) 1 [sp] rfl ?c2 ?c3 ?c4 ?_)
      case c1 => exact HO2.out.below ((Below.refl _ _).alloc (Nat.le_refl _) _)
      case c2 => exact Sl.one okP w2 sp _ rfl
      case c3 => have := HL.out; simp; omega
      case c4 => simp; omega
      intro v3 w3 ho3 hg3 hat3
      have hu3 : Upd (rowB (.slice Ai L.length ci)) w2 w3 := (Upd.alloc w2 _).trans (Upd.of_grown hg3 (fun k hk => hk))
      have hM3 : ManyAt w w3 (N + 1) v3 (L ++ [(sp, (i : Int) % 4)]) := by
        refine ⟨HS2.out.reown hu3 (fun k hk => (HO2.out.block_lt hk).1) (fun k hk => ⟨?_, (ho3.block_lt hk).2⟩), by rw [List.map_append]; exact ho3⟩
        rcases hat3 with h | h
        · left; unfold rowB at hk ⊢; rw [← h]; exact hk
        · right; unfold rowB at hk; rw [h] at hk; injection hk with hk; try simp at hk
          omega
      have HM3 := Lib.hid hM3
      clear ho3 hg3 hat3 hu3 hM3
      go_wp2
      go_roundw
      case rel => exact ⟨i + 1, N + 1, L ++ [(sp, (i : Int) % 4)], by go_num, by omega, by simp [HL.out], by omega, HM3.out⟩
      case measure => simp [intOf]; omega
    · have hi2 : i = m + 2 := by omega
      subst hi2
      have HN := Lib.hid hN
      clear hi hN hlt
      obtain ⟨wo, rfl⟩ : ∃ wo : World, wo = wr := ⟨_, rfl⟩
      go_wp2
      go_loopw [8] (fun s8 wr => ∃ (j N' : Nat), s8 = .int .i64 j ∧ j ≤ l.length ∧ N' ≤ N + 2 * j ∧ ManyAt w wr N' (.slice Ai L.length ci) L) (fun s8 _ => l.length - (intOf s8).toNat)
      case atStart => exact ⟨0, N, rfl, Nat.zero_le _, by omega, HM.out⟩
      case round =>
        obtain ⟨j, N', rfl, hj, hN', hM'⟩ := hrel
        have HM' := Lib.hid hM'
        clear hM'
        by_cases hjl : j < l.length
        · obtain ⟨x, hx⟩ := getElem?_of_lt hjl
          have HX := Lib.hid hx
          obtain ⟨b, ob, rfl, hbl, hc⟩ := (slEnd HS.out HM'.out.sd.below).at hx
          have a0 : wr.cell? ⟨b, ob + j, none⟩ = some (.int .i64 x) := by simpa using hc 0 _ rfl
          obtain ⟨idx, hidx⟩ : ∃ q : Nat, q = (7 * j) % (m + 2) := ⟨_, rfl⟩
          have hq : idx < L.length := by rw [HL.out, hidx]; exact Nat.mod_lt _ (by omega)
          have ex : (7 * (j : Int)) % ((m : Int) + 2) = (idx : Int) := by rw [hidx]; simp
          obtain ⟨⟨sp, o⟩, hsp⟩ := getElem?_of_lt hq
          obtain ⟨bb, cc, hv, hcs⟩ := HM'.out.at hsp
          injection hv with hv1 hv2 hv3
          subst hv1; subst hv3
          have HSP := Lib.hid hsp
          have i1 : (0 : Int) ≤ (j : Int) := by omega
          have i2 : (j : Int) < (l.length : Int) := by omega
          have i3 : (0 : Int) ≤ (idx : Int) := by omega
          have i4 : (idx : Int) < (L.length : Int) := by omega
          have i5 : 7 * (j : Int) ≤ 10000 := by omega
          have hN6 : N' ≤ 5000 := by have := HN.out; omega
          clear hc hx hsp hidx hv2
          go_wp2_with fail
          refine (HM'.out.play (by omega) HSP.out _ x false).mono ?_
          rintro e w3 ⟨rfl, h3⟩
          obtain ⟨b', ob', hAA, _, hc⟩ := (slEnd HS.out h3.sd.below).at HX.out
          injection hAA with hAA; injection hAA with q1 q2; subst q1; subst q2
          have a1 : w3.cell? ⟨b, ob + j, none⟩ = some (.int .i64 x) := by simpa using hc 0 _ rfl
          have H3 := Lib.hid h3
          clear hc h3 a0 hcs ex
          go_wp2_with fail
          refine (H3.out.play (by omega) HSP.out 1 x false).mono ?_
          rintro e w4 ⟨rfl, h4⟩
          have H4 := Lib.hid h4
          clear h4 a1
          go_wp2
          go_roundw
          case rel =>
            (repeat apply Exists.intro)
            refine ⟨⟨j + 1, N' + 1 + 1, by go_num, by omega, by omega, H4.out⟩, ?_⟩
            rfl
          case measure => simp [intOf]; omega
        · have hN6 : N' ≤ 5000 := by have := HN.out; omega
          have i2 : ¬ ((j : Int) < (l.length : Int)) := by omega
          clear hj hjl hN'
          obtain ⟨wp, rfl⟩ : ∃ wp : World, wp = wr := ⟨_, rfl⟩
          have HLL := HL.out
          go_wp2
          go_loopw [10] (fun s10 wr => ∃ (j N'' : Nat), s10 = .int .i64 j ∧ j ≤ L.length ∧ N'' ≤ 5000 + j ∧ ManyAt w wr N'' (.slice Ai L.length ci) L) (fun s10 _ => L.length - (intOf s10).toNat)
          case atStart => exact ⟨0, N', rfl, Nat.zero_le _, by omega, HM'.out⟩
          case round =>
            obtain ⟨q, N'', rfl, hq, hN'', hM''⟩ := hrel
            have HM'' := Lib.hid hM''
            clear hM''
            by_cases hql : q < L.length
            · obtain ⟨⟨sp, o⟩, hsp⟩ := getElem?_of_lt hql
              obtain ⟨bb, cc, hv, hcs⟩ := HM''.out.at hsp
              injection hv with hv1 hv2 hv3
              subst hv1; subst hv3
              have HSP := Lib.hid hsp
              have i3 : (0 : Int) ≤ (q : Int) := by omega
              have i4 : (q : Int) < (L.length : Int) := by omega
              clear hsp hv2
              go_wp2_with fail
              refine (HM''.out.drain (by omega) HSP.out).mono ?_
              rintro e w4 ⟨rfl, h4⟩
              have H4 := Lib.hid h4
              clear h4 hcs
              go_wp2
              go_roundw
              case rel => exact ⟨q + 1, N'' + 1, by go_num, by omega, by omega, H4.out⟩
              case measure => simp [intOf]; omega
            · have i4 : ¬ ((q : Int) < (L.length : Int)) := by omega
              clear hq hql
              go_wp2
              go_ret
              exact ⟨rfl, HM''.out.sd.below⟩
end Go.Proofs.Ytabnpacponkmhaa.H
