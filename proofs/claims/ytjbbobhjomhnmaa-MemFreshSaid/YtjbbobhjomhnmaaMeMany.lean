/- The law's many: twenty memtables beside one another (printed by genmany.py). No conditions. -/
import Derived.Test.YtjbbobhjomhnmaaMe16
import Derived.Test.YtjbbobhjomhnmaaMeOrd
namespace Go.Proofs.Ytjbbobhjomhnmaa.H
open Go Go.RowKit Go.Deep Go.Shelf Go.Proofs Go.Proofs.YtjbbobhjomhnmaaW.PrintWords
set_option linter.unusedVariables false
set_option linter.unusedSimpArgs false
abbrev TP := Nat × Nat × (Nat → Prop)
def encT (x : TP) : List Value := [.pointer (some ⟨x.1, 0, none⟩)]
theorem okT : EncOk encT 1 := fun x => ⟨rfl, by simp [encT, Value.oneCell']⟩
theorem infoT : (Try.prog.info? 81).map (fun i => (i.zero, i.size, i.bytes)) = some (some (.pointer none), 1, 8) := by kernel_rfl
theorem uSlT : Try.prog.underlying 145 = some (.slice 81) := Try.underlying145
def wkW : Wri := (⟨#[107]⟩, false, ⟨#[]⟩)
def mK (i : Nat) : MemV := memF [(i : Int)] 1 (List.replicate (i + 1) wkW)
theorem rep_ok (n : Nat) : ∀ x ∈ List.replicate n wkW, x.1.size ≤ 64 ∧ x.2.2.size ≤ 512 ∧ (x.2.1 = true → x.2.2 = ⟨#[]⟩) := fun x hx => by
  rw [List.eq_of_mem_replicate hx]
  exact ⟨by decide, by decide, fun h => rfl⟩
theorem last_rep (q : Int) (n : Nat) (h : (n : Int) + 1 ≤ q) : lastF 1 ⟨#[107]⟩ q (List.replicate (n + 1) wkW) = (wkW, (n : Int) + 1, true) := by
  rw [List.replicate_succ', lastF_snoc]
  unfold lastS
  rw [List.length_replicate, if_pos ⟨rfl, by omega⟩, show (1 : Int) + (n : Int) = (n : Int) + 1 by omega]
theorem mK_get (n : Nat) (h : n < 20) : getM (mK n).L ⟨#[107]⟩ 18446744073709551615 = ((⟨#[107]⟩, (n : Int) + 1, false, ⟨#[]⟩), true) := by
  unfold mK
  rw [get_last _ _ _ _ _ (by decide) (by rw [List.length_replicate]; push_cast; omega), last_rep _ n (by omega)]
  rfl
theorem wsum_rep : ∀ n : Nat, wsum (List.replicate n wkW) = 450 * (n : Int)
  | 0 => rfl
  | n + 1 => by
    rw [List.replicate_succ', wsum_snoc, wsum_rep n]
    show 450 * (n : Int) + (2 * ((1 : Nat) : Int) + ((0 : Nat) : Int) + 448) = _
    push_cast
    omega
theorem mK_sums (n : Nat) (h : n < 20) : (mK n).wt = 450 * ((n : Int) + 1) ∧ (mK n).last = (n : Int) + 1 := by
  unfold mK
  rw [memE_F]
  have hu : Unlike (ents 1 (List.replicate (n + 1) wkW)) := ents_unlike (by decide) (by rw [List.length_replicate]; push_cast; omega)
  obtain ⟨h1, h2⟩ := memE_sums [(n : Int)] _ hu
  rw [h1, h2, wF_ents 1 _ (fun y hy => (rep_ok _ y hy).2.2), wsum_rep, lF_ents _ (by rw [List.length_replicate]; push_cast; omega), List.length_replicate]
  exact ⟨by push_cast; rfl, by push_cast; rfl⟩
/-- Memtables in a list, each in blocks of its own. -/
structure ManyIs (w : World) (base : Nat) (v : Value) (TS : List TP) : Prop where
  own : Own encT 81 1 w base v TS
  mem : ∀ (i : Nat) (x : TP), TS[i]? = some x → MemIs w x.1 x.2.1 x.2.2 [(i : Int)] (mK i)
  far : ∀ x ∈ TS, ∀ k, (x.2.2 k ∨ k = x.1) → v.ownBlock ≠ some k
theorem MemIs.lt {w : World} {t g : Nat} {S : Nat → Prop} {draws : List Int} {m : MemV} (h : MemIs w t g S draws m) {k : Nat} (hk : S k ∨ k = t) : k < w.heap.size := by
  rcases hk with hk | hk
  · exact h.list.lt k hk
  · rw [hk]; exact blk_lt h.row
theorem ManyIs.later {w w' : World} {base : Nat} {v : Value} {TS : List TP} (h : ManyIs w base v TS) (hb : Below w.heap.size w w') : ManyIs w' base v TS :=
  ⟨h.own.below hb, fun i x hx => (h.mem i x hx).later hb, h.far⟩
theorem ManyIs.snoc {w w' : World} {base : Nat} {v v' : Value} {TS : List TP} {x : TP} (h : ManyIs w base v TS) (hx : MemIs w x.1 x.2.1 x.2.2 [(TS.length : Int)] (mK TS.length)) (hx2 : ∀ k, (x.2.2 k ∨ k = x.1) → v.ownBlock ≠ some k)
    (ho : Own encT 81 1 w' base v' (TS ++ [x])) (hg : w.grownBy w' v.ownBlock) (ha : v'.ownBlock = v.ownBlock ∨ ∃ k, v'.ownBlock = some k ∧ w.heap.size ≤ k) : ManyIs w' base v' (TS ++ [x]) := by
  have hu : Upd (fun k => v.ownBlock = some k) w w' := Upd.of_grown hg (fun k e => e)
  refine ⟨ho, fun i y hy => ?_, fun y hy k hk => ?_⟩
  · by_cases hi : i < TS.length
    · rw [List.getElem?_append_left hi] at hy
      exact (h.mem i y hy).upd hu (fun k hk => h.far y (List.mem_of_getElem? hy) k (.inl hk)) (h.far y (List.mem_of_getElem? hy) _ (.inr rfl))
    · have hi2 : i = TS.length := by
        have := (List.getElem?_eq_some_iff.1 hy).1
        rw [List.length_append, List.length_singleton] at this
        omega
      subst hi2
      rw [List.getElem?_append_right (Nat.le_refl _), Nat.sub_self] at hy
      have : y = x := by simpa using hy.symm
      subst this
      exact hx.upd hu (fun k hk => hx2 k (.inl hk)) (hx2 _ (.inr rfl))
  · have key : k < w.heap.size ∧ v.ownBlock ≠ some k := by
      rcases List.mem_append.1 hy with hy | hy
      · obtain ⟨i, hi⟩ := List.getElem?_of_mem hy
        exact ⟨(h.mem i y hi).lt hk, h.far y hy k hk⟩
      · rw [List.mem_singleton.1 hy] at hk
        exact ⟨hx.lt hk, hx2 k hk⟩
    rcases ha with ha | ⟨j, ha, hj⟩
    · rw [ha]; exact key.2
    · rw [ha]
      intro e
      injection e with e
      have := key.1
      omega
theorem addK_c {t g : Nat} {S : Nat → Prop} {w : World} (i j : Nat) (hj : j ≤ 20) (h : MemIs w t g S [(i : Int)] (memF [(i : Int)] 1 (List.replicate j wkW))) :
    Calls Try.prog 35 #[.pointer (some ⟨t, 0, none⟩), .int .u64 ((j : Int) + 1), .slice (some ⟨w.heap.size, 0, none⟩) 1 1] (w.alloc (.cells #[.string ⟨#[107]⟩, .bool false, .string ⟨#[]⟩] 89)) fun e w' =>
      e = .returned (.int .i64 0) ∧ AddOk (w.alloc (.cells #[.string ⟨#[107]⟩, .bool false, .string ⟨#[]⟩] 89)) w' t g S [(i : Int)] (memF [(i : Int)] 1 (List.replicate (j + 1) wkW)) := by
  have ha := addB_c 1 (List.replicate j wkW) [wkW] (h.later ((Below.refl _ _).alloc (Nat.le_refl _) (.cells #[.string ⟨#[107]⟩, .bool false, .string ⟨#[]⟩] 89))) (some ⟨w.heap.size, 0, none⟩) 1 (Sl.of_block (fun x => (okW x).1) (heap_alloc_new w _) rfl (by decide)) (by decide) (rep_ok 1) (rep_ok j) (by rw [List.length_replicate]; omega)
  rw [List.length_replicate, show (1 : Int) + (j : Int) = (j : Int) + 1 by omega, ← List.replicate_succ'] at ha
  exact ha
set_option maxHeartbeats 6400000 in
set_option maxRecDepth 100000 in
theorem many_c (w : World) : Calls Try.prog 56 #[] w fun e w' => e = .returned (.bool true) ∧ Below w.heap.size w w' := by
  go_enter Try.func56, Try.ntmps56
  go_wp2_with fail
  go_loopw [1, 2] (fun s1 s2 wr => ∃ (k : Nat) (TS : List TP), s2 = .int .i64 k ∧ k ≤ 20 ∧ TS.length = k ∧ ManyIs wr w.heap.size s1 TS ∧ Below w.heap.size w wr) (fun s1 s2 wr => 20 - (intOf s2).toNat)
  case atStart => exact ⟨0, [], rfl, by omega, rfl, ⟨Own.nil _ _ _ _ _, fun i x h => by simp at h, fun x h => by simp at h⟩, Below.refl _ _⟩
  case round =>
    obtain ⟨k, TS, rfl, hk, hl, hm, hb⟩ := hrel
    generalize wr = wq at *
    have HM := Lib.hid hm
    have HB := Lib.hid hb
    have HL := Lib.hid hl
    clear hm hb hl
    by_cases hk20 : k < 20
    · have i1 : (0 : Int) ≤ k := by omega
      have i2 : (k : Int) < 20 := by omega
      have HN := Lib.hid (mnew_c (some ⟨wq.heap.size, 0, none⟩) 1 [(k : Int)] (wq.alloc (.cells #[.int .u8 (k : Int)] 5)) (Sl.one okB wq _ _ rfl) (by simp) (fun x hx => by
        rw [List.mem_singleton.1 hx]
        exact ⟨i1, by omega⟩))
      go_wp2_with fail
      refine HN.out.mono ?_
      rintro _ w2 ⟨t, g, S0, rfl, hm0, hS0, ht0, hb2⟩
      have HM0 := Lib.hid hm0
      have HS0 := Lib.hid (show ∀ j, S0 j → wq.heap.size ≤ j from fun j hj => by have := hS0 j hj; simp at this; omega)
      have HT0 := Lib.hid (show wq.heap.size ≤ t by simp at ht0; omega)
      have HB2 := Lib.hid (show Below wq.heap.size wq w2 from ((Below.refl _ _).alloc (Nat.le_refl _) _).trans (hb2.mono (by simp)))
      clear hm0 hS0 ht0 hb2 HN
      go_wp2_with fail
      go_loopw [4] (fun s4 wr => ∃ (j : Nat) (S : Nat → Prop), s4 = .int .i64 j ∧ j ≤ k + 1 ∧ MemIs wr t g S [(k : Int)] (memF [(k : Int)] 1 (List.replicate j wkW)) ∧ (∀ i, S i → wq.heap.size ≤ i) ∧ Below wq.heap.size wq wr) (fun s4 wr => k + 1 - (intOf s4).toNat)
      case atStart => exact ⟨0, S0, rfl, by omega, HM0.out, HS0.out, HB2.out⟩
      case round =>
        obtain ⟨j, S, rfl, hj, hm, hS, hb⟩ := hrel
        generalize wr = w3 at *
        have HM1 := Lib.hid hm
        have HS1 := Lib.hid hS
        have HB3 := Lib.hid hb
        clear hm hS hb
        have i3 : (0 : Int) ≤ j := by omega
        by_cases hjk : j ≤ k
        · have i4 : (j : Int) ≤ k := by omega
          have HA := Lib.hid (addK_c k j (by omega) HM1.out)
          go_wp2_with fail
          refine HA.out.mono ?_
          rintro _ w4 ⟨rfl, hu, S', hg, hm⟩
          have HU := Lib.hid (hu.below (HB3.out.alloc HB3.out.size _) (fun i hi => by
            rcases hi with hi | hi
            · exact HS1.out i hi
            · rw [hi]; exact HT0.out))
          have HS2 := Lib.hid (show ∀ i, S' i → wq.heap.size ≤ i from fun i hi => by
            rcases hg i hi with h | h
            · exact HS1.out i h
            · have := HB3.out.size; simp at h; omega)
          have HM2 := Lib.hid hm
          clear hu hg hm
          go_wp2
          go_roundw
          case rel => exact ⟨j + 1, S', by first | rfl | simp, by omega, HM2.out, HS2.out, HU.out⟩
          case measure => simp [intOf]; omega
        · have hj2 : j = k + 1 := by omega
          have HM2 := Lib.hid (show MemIs w3 t g S [(k : Int)] (mK k) by rw [hj2] at HM1; exact HM1.out)
          have i4 : ¬ (j : Int) ≤ k := by omega
          clear hj hj2 hjk HM1
          obtain ⟨A1, c1, hs1⟩ := own_slice HM.out.own
          rename_i s1x
          subst hs1
          rw [HL.out]
          have HMQ := Lib.hid ((HM.out.later HB3.out).later ((Below.refl _ _).alloc (Nat.le_refl _) (.cells #[.pointer (some ⟨t, 0, none⟩)] 81)))
          have HMT := Lib.hid (HM2.out.later ((Below.refl _ _).alloc (Nat.le_refl _) (.cells #[.pointer (some ⟨t, 0, none⟩)] 81)))
          rw [HL.out] at HMQ
          go_wp2_with (at_builtin; refine wpList_app rfl (.tmp 30) (.tmp 32) rfl uSlT infoT rfl (by decide) (by decide) okT (.slice A1 k c1) TS rfl (base := w.heap.size) ?c1 (some ⟨w3.heap.size, 0, none⟩) 1 [(t, g, S)] rfl ?c2 ?c3 ?c4 ?_)
          case c1 => exact HMQ.out.own
          case c2 => exact Sl.one okT w3 _ _ rfl
          case c3 => have := HL.out; simp; omega
          case c4 => have h1 := HB.out.size; have h2 := HB3.out.size; simp; omega
          intro v1 w4 ho1 hg1 hat1
          have HSN := Lib.hid (HMQ.out.snoc (x := (t, g, S)) (by rw [HL.out]; exact HMT.out) (fun i hi e => by
            have h1 := (HM.out.own.block_lt (by rw [HL.out]; exact e)).2
            rcases hi with hi | hi
            · have := HS1.out i hi; omega
            · have := HT0.out; simp only at hi; omega) ho1 hg1 (hat1.imp id (fun e => ⟨_, e, by simp⟩)))
          have HBN := Lib.hid (((HB.out.trans (HB3.out.mono HB.out.size)).alloc (by have := HB.out.size; have := HB3.out.size; omega) _).grown hg1 (by have := HB.out.size; have := HB3.out.size; simp; omega) (fun i hi => (HMQ.out.own.block_lt hi).1))
          clear ho1 hg1 hat1
          go_wp2
          go_roundw
          case rel => exact ⟨k + 1, TS ++ [(t, g, S)], by first | rfl | simp, by omega, by rw [List.length_append, HL.out]; rfl, HSN.out, HBN.out⟩
          case measure => simp [intOf]; omega
    · have hk2 : k = 20 := by omega
      have HK2 := Lib.hid hk2
      have i9 : ¬ (k : Int) < 20 := by omega
      obtain ⟨A1, c1, hs1⟩ := own_slice HM.out.own
      rename_i s1x
      subst hs1
      rw [HL.out] at HM ⊢
      obtain ⟨_, _, e, _, hs, _⟩ := HM.out.own.slice (fun x => (okT x).1)
      injection e with e1 e2 e3
      rw [← e1] at hs
      have HSL := Lib.hid hs
      clear e1 e2 e3 hs hk hk20 hk2
      go_wp2_with fail
      go_loopw [5] (fun s5 wr => ∃ (k : Nat) (s : Int), s5 = .int .i64 s ∧ s + 1 = k ∧ k ≤ 20 ∧ Below wq.heap.size wq wr) (fun s5 wr => (intOf s5 + 1).toNat)
      case atStart => exact ⟨20, 19, rfl, rfl, by omega, Below.refl _ _⟩
      case round =>
        obtain ⟨k, s, rfl, hks, hk, hb⟩ := hrel
        generalize wr = w3 at *
        have HB3 := Lib.hid hb
        clear hb
        cases k with
        | zero =>
          have hs : s = -1 := by omega
          subst hs
          go_wp2
          go_ret
          exact ⟨rfl, HB.out.trans (HB3.out.mono HB.out.size)⟩
        | succ m =>
          have hs : s = (m : Int) := by push_cast at hks; omega
          subst hs
          have hm20 : m < 20 := by omega
          obtain ⟨x, hx⟩ := getElem?_of_lt (l := TS) (by rw [HL.out, HK2.out]; exact hm20 : m < TS.length)
          obtain ⟨b2, o2, hA2, _, hc2⟩ := (HSL.out.later HB3.out).at hx
          subst hA2
          have y2 : w3.cell? ⟨b2, o2 + m, none⟩ = some (.pointer (some ⟨x.1, 0, none⟩)) := by simpa using hc2 0 _ rfl
          have Y2 := Lib.hid y2
          have HMX := Lib.hid ((HM.out.mem m x hx).later HB3.out)
          have i1 : (0 : Int) ≤ m := by omega
          have i2 : (m : Int) < 20 := by omega
          have i3 : (m : Int) < k := by rw [HK2.out]; omega
          have hg := get_c HMX.out ⟨#[107]⟩ 18446744073709551615
          rw [mK_get m hm20] at hg
          have HG := Lib.hid (show Calls Try.prog 43 #[.pointer (some ⟨x.1, 0, none⟩), .string ⟨#[107]⟩, .int .u64 18446744073709551615] w3 fun en w' => en = .returned (.tuple #[.agg #[.string ⟨#[107]⟩, .int .u64 ((m : Int) + 1), .bool false, .string ⟨#[]⟩], .bool true]) ∧ Below w3.heap.size w3 w' from hg)
          have HSM := Lib.hid (mK_sums m hm20)
          clear hx hc2 hg hks
          go_wp2_with fail
          refine HG.out.mono ?_
          rintro _ w4 ⟨rfl, hb4⟩
          obtain ⟨E, hE⟩ : ∃ Z, w4.alloc (.cells #[.string ⟨#[]⟩, .int .u64 0, .bool false, .string ⟨#[]⟩] 53) = Z := ⟨_, rfl⟩
          have rE : E.heap[w4.heap.size]? = some (.cells #[.string ⟨#[]⟩, .int .u64 0, .bool false, .string ⟨#[]⟩] 53 (0, 0)) := by rw [← hE]; exact heap_alloc_new _ _
          obtain ⟨⟨ey0, ey1, ey2, ey3⟩, eg0, eg1, eg2, eg3⟩ := cells4 rE
          obtain ⟨Ea, hEa⟩ : ∃ Z4, (((E.setCell ⟨w4.heap.size, 0, none⟩ (.string ⟨#[107]⟩)).setCell ⟨w4.heap.size, 1, none⟩ (.int .u64 ((m : Int) + 1))).setCell ⟨w4.heap.size, 2, none⟩ (.bool false)).setCell ⟨w4.heap.size, 3, none⟩ (.string ⟨#[]⟩) = Z4 := ⟨_, rfl⟩
          have qE : Ea.heap[w4.heap.size]? = some (.cells #[.string ⟨#[107]⟩, .int .u64 ((m : Int) + 1), .bool false, .string ⟨#[]⟩] 53 (0, 0)) := by rw [← hEa]; exact put4_heap rE
          have bE : Below w4.heap.size w4 Ea := by
            rw [← hEa, ← hE]
            exact ((Below.refl _ _).alloc (Nat.le_refl _) _).trans ((put4_upd (S := fun k => k = w4.heap.size) _ _ _ _ _ rfl).bel (fun k hk => by omega) (by simp))
          have BE := Lib.hid bE
          have QE := Lib.hid qE
          clear bE qE rE
          have HBE := Lib.hid (hb4.trans (BE.out.mono hb4.size))
          have hml := mlast_c (HMX.out.later HBE.out)
          have hmw := mweight_c (HMX.out.later HBE.out)
          rw [HSM.out.2] at hml
          rw [HSM.out.1] at hmw
          have HML := Lib.hid hml
          have HMW := Lib.hid hmw
          obtain ⟨⟨e0, e1, e2, e3⟩, _⟩ := cells4 QE.out
          have y3 := cell_later HBE.out Y2.out
          clear hb4 hml hmw y2
          go_wp2_with fail
          refine HML.out.mono ?_
          rintro _ _ ⟨rfl, rfl⟩
          go_wp2_with fail
          refine HMW.out.mono ?_
          rintro _ _ ⟨rfl, rfl⟩
          go_wp2
          go_roundw
          trace_state
          case rel => exact ⟨m, (m : Int) - 1, by first | rfl | simp, by omega, by omega, HB3.out.trans (HBE.out.mono HB3.out.size)⟩
          case measure => first | (simp [intOf]; done) | (simp [intOf]; omega)
end Go.Proofs.Ytjbbobhjomhnmaa.H
