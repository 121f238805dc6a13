/- PaceLine: the walk. Conditions: the numbers are ints. -/
import Derived.Test.YtjgpcbednhoplaaPTwo
namespace Go.Proofs.Ytjgpcbednhoplaa.H
open Go.RowKit Go.Deep Go.Shelf Go.Proofs Go.Proofs.YtjgpcbednhoplaaW.PrintWords
set_option linter.unusedVariables false
set_option linter.unusedSimpArgs false
/-- The bucket in blocks from base on, none of them in X. -/
def BK (w : World) (b base : Nat) (l : List Int) (t r u : Int) (X : Nat → Prop) : Prop := ∃ S, BuckIs w b S l t r u ∧ ∀ k, S k → base ≤ k ∧ k < w.heap.size ∧ ¬ X k
theorem BK.upd {w w' : World} {b base : Nat} {l : List Int} {t r u : Int} {X X' T : Nat → Prop} (h : BK w b base l t r u X) (hu : Upd T w w') (hT : ∀ k, base ≤ k → k < w.heap.size → ¬ X k → ¬ T k ∧ ¬ X' k) : BK w' b base l t r u X' := by
  obtain ⟨S, h1, h2⟩ := h
  exact ⟨S, h1.upd hu (fun k hk => (hT k (h2 k hk).1 (h2 k hk).2.1 (h2 k hk).2.2).1), fun k hk => ⟨(h2 k hk).1, Nat.lt_of_lt_of_le (h2 k hk).2.1 hu.size, (hT k (h2 k hk).1 (h2 k hk).2.1 (h2 k hk).2.2).2⟩⟩
theorem bk_op {f : FuncId} {args : Array Value} {v : Value} {w : World} {b base : Nat} {l l' : List Int} {t t' r u : Int} {X : Nat → Prop} (h : BK w b base l t r u X) (hb : base ≤ w.heap.size) (hX : ∀ k, X k → k < w.heap.size)
    (op : ∀ S, BuckIs w b S l t r u → Calls Try.prog f args w fun e w' => e = .returned v ∧ BuckIs w' b (New S w) l' t' r u ∧ Upd S w w') : Calls Try.prog f args w fun e w' => e = .returned v ∧ BK w' b base l' t' r u X ∧ Upd (fun k => base ≤ k ∧ ¬ X k) w w' := by
  obtain ⟨S, h1, h2⟩ := h
  refine (op S h1).mono fun e w' ⟨he, hk, hu⟩ => ⟨he, ⟨_, hk.tight', fun k hk => ?_⟩, hu.mono fun k hk => ⟨(h2 k hk).1, (h2 k hk).2.2⟩⟩
  rcases hk.1 with h | h
  · exact ⟨(h2 k h).1, hk.2, (h2 k h).2.2⟩
  · exact ⟨by omega, hk.2, fun hx => by have := hX k hx; omega⟩
section
variable {w : World} {b base : Nat} {l : List Int} {t r u : Int} {X : Nat → Prop}
theorem bk_may (x : Int) (h : BK w b base l t r u X) (hb : base ≤ w.heap.size) (hX : ∀ k, X k → k < w.heap.size) (hl : l.length < 1099511627776) : Calls Try.prog 21 #[.pointer (some ⟨b, 0, none⟩), .int .i64 x] w fun e w' => e = .returned (.bool (mayL l t x)) ∧ BK w' b base (if mayL l t x = true then l else joined l x) t r u X ∧ Upd (fun k => base ≤ k ∧ ¬ X k) w w' :=
  bk_op h hb hX fun S hS => may_c b S l t r u x w hS hl
theorem bk_tick (h : BK w b base l t r u X) (hb : base ≤ w.heap.size) (hX : ∀ k, X k → k < w.heap.size) (ht : I64 t) (hr : I64 r) : Calls Try.prog 20 #[.pointer (some ⟨b, 0, none⟩)] w fun e w' => e = .returned (.tuple #[]) ∧ BK w' b base l (mni (sadd t r) u) r u X ∧ Upd (fun k => base ≤ k ∧ ¬ X k) w w' :=
  bk_op h hb hX fun S hS => (tick_c b S l t r u w hS ht hr).mono fun e w' ⟨he, hk, hu⟩ => ⟨he, hk.mono fun k h => .inl h, hu⟩
theorem bk_take (x n : Int) (h : BK w b base l t r u X) (hb : base ≤ w.heap.size) (hX : ∀ k, X k → k < w.heap.size) (ht : I64 t) (hn : I64 n) : Calls Try.prog 22 #[.pointer (some ⟨b, 0, none⟩), .int .i64 x, .int .i64 n] w fun e w' => e = .returned (.tuple #[]) ∧ BK w' b base (l.erase x) (tookL t n) r u X ∧ Upd (fun k => base ≤ k ∧ ¬ X k) w w' :=
  bk_op h hb hX fun S hS => (take_c b S l t r u x n w hS ht hn).mono fun e w' ⟨he, hk, hu⟩ => ⟨he, hk.mono fun k h => .inl h, hu⟩
theorem bk_tokens (h : BK w b base l t r u X) : Calls Try.prog 17 #[.pointer (some ⟨b, 0, none⟩)] w fun e w' => e = .returned (.int .i64 t) ∧ w = w' := by
  obtain ⟨S, h1, _⟩ := h
  exact tokens_c b S l t r u w h1
theorem bk_line (h : BK w b base l t r u X) (hl : l.length < 1099511627776) : Calls Try.prog 19 #[.pointer (some ⟨b, 0, none⟩)] w fun e w' => ∃ A c, e = .returned (.slice A l.length c) ∧ Sl encI 1 w' A l ∧ Below w.heap.size w w' := by
  obtain ⟨S, h1, _⟩ := h
  refine (bline_c b S l t r u w h1 hl).mono fun e w' ⟨v, he, ho, hb⟩ => ?_
  obtain ⟨A, c, rfl, _, hs, _⟩ := ho.slice (fun x => (okI x).1)
  exact ⟨A, c, he, hs, hb⟩
theorem BK.below {w' : World} (h : BK w b base l t r u X) (hb : Below w.heap.size w w') : BK w' b base l t r u X := h.upd (Upd.of_below (S := fun _ => False) hb) (fun k _ _ hx => ⟨fun h => h, hx⟩)
end
theorem mayL_low {l : List Int} {t x : Int} (h : t ≤ 0) : mayL l t x = false := by simp [mayL]; omega
theorem Sl.moved {w w' : World} {T : Nat → Prop} {A : Option Addr} {l : List Int} (h : Sl encI 1 w A l) (hu : Upd T w w') (hT : ∀ b o, A = some ⟨b, o, none⟩ → ¬ T b) : Sl encI 1 w' A l := by
  refine ⟨h.1, ?_⟩
  rcases h.2 with h | ⟨b, o, rfl, hb, hc⟩
  · exact .inl h
  · exact .inr ⟨b, o, rfl, Nat.lt_of_lt_of_le hb hu.size, fun i x hx j y hy => hu.cell (hc i x hx j y hy) (hT b o rfl)⟩
def lenV : Value → Nat
  | .slice _ n _ => n
  | _ => 0
set_option maxHeartbeats 20000000 in
set_option maxRecDepth 100000 in
theorem paceLine_c (rate burst takes : Int) (hr : I64 rate) (hu : I64 burst) (hk : I64 takes) (A : Option Addr) (c : Nat) (l : List Int) (w : World) (hs : Sl encI 1 w A l) (hq : ∀ x ∈ l, (Lit.int .i64 x).wf = true) :
    Calls Try.prog 6 #[.int .i64 rate, .int .i64 burst, .int .i64 takes, .slice A l.length c] w fun e w' => e = .returned (.bool true) ∧ Below w.heap.size w w' := by
  have hlen := hs.1
  have HS := Lib.hid hs
  clear hs hq
  obtain ⟨n, hn⟩ : ∃ n, l.length = n := ⟨_, rfl⟩
  rw [hn] at hlen ⊢
  have HN := Lib.hid hn
  clear hn
  obtain ⟨r1, r2⟩ := hr
  obtain ⟨u1, u2⟩ := hu
  obtain ⟨m1, m2⟩ := hk
  go_enter Try.func6, Try.ntmps6
  go_wp2_with fail
  refine (known_c _).mono ?_
  rintro e w1 ⟨rfl, hb1⟩
  have HB1 := Lib.hid hb1
  clear hb1
  by_cases g1 : (n : Int) > 300
  · go_wp2
    go_ret
    exact ⟨by rfl, HB1.out⟩
  by_cases g2 : rate < 1
  · go_wp2
    go_ret
    exact ⟨by rfl, HB1.out⟩
  by_cases g3 : burst < 1
  · go_wp2
    go_ret
    exact ⟨by rfl, HB1.out⟩
  by_cases g4 : rate > 1000
  · go_wp2
    go_ret
    exact ⟨by rfl, HB1.out⟩
  by_cases g5 : burst > 1000
  · go_wp2
    go_ret
    exact ⟨by rfl, HB1.out⟩
  by_cases g6 : takes < 1
  · go_wp2
    go_ret
    exact ⟨by rfl, HB1.out⟩
  by_cases g7 : takes > 1000
  · go_wp2
    go_ret
    exact ⟨by rfl, HB1.out⟩
  go_wp2_with fail
  refine (newBucket_c rate burst _).mono ?_
  rw [show abv burst = burst by unfold abv; rw [if_neg (by omega)], show abv rate = rate by unfold abv; rw [if_neg (by omega)]]
  rintro e w2 ⟨b, rfl, hk, hb2⟩
  have hbk : BK w2 b w1.heap.size [] burst rate burst (fun _ => False) := ⟨_, hk.tight', fun k hk => ⟨by rcases hk.1 with h | h; exact h.elim; exact h, hk.2, fun h => h⟩⟩
  have HB2 := Lib.hid (HB1.out.trans (hb2.mono HB1.out.size))
  have HZ := Lib.hid HB1.out.size
  have HK2 := Lib.hid hbk
  have HS2 := Lib.hid hb2.size
  clear hk hb2 hbk
  have hn2 : n ≤ 300 := by omega
  have r3 : 1 ≤ rate := by omega
  have u3 : 1 ≤ burst := by omega
  have m3 : 1 ≤ takes := by omega
  have r4 : rate ≤ 1000 := by omega
  have u4 : burst ≤ 1000 := by omega
  have m4 : takes ≤ 1000 := by omega
  clear g1 g2 g3 g4 g5 g6 g7 r1 r2 u1 u2 m1 m2
  have HUI := Lib.hid (show I64 burst from I64.lit (by omega) (by omega))
  have HRI := Lib.hid (show I64 rate from I64.lit (by omega) (by omega))
  have HTI := Lib.hid (show I64 takes from I64.lit (by omega) (by omega))
  have HDI := Lib.hid (show I64 (2 * burst) from I64.lit (by omega) (by omega))
  go_wp2_with fail
  refine (bk_take 1099511627776 (2 * burst) HK2.out HS2.out (fun _ h => h.elim) HUI.out HDI.out).mono ?_
  rw [show tookL burst (2 * burst) = -burst by unfold tookL; rw [if_pos (by omega), sadd_is (by omega) (by omega)]; omega, show List.erase ([] : List Int) 1099511627776 = [] from rfl]
  rintro e w3 ⟨rfl, hbk, hu3⟩
  have HK3 := Lib.hid hbk
  have HB3 := Lib.hid (Upd.below HB2.out hu3 (fun k h => Nat.le_trans HZ.out h.1))
  have HS3 := Lib.hid (Nat.le_trans HS2.out hu3.size)
  clear hbk hu3
  go_wp2
  go_loopw [11, 12] (fun s11 s12 wr => ∃ (k : Nat) (ln : List Int), s12 = .int .i64 k ∧ k ≤ n ∧ ln.length ≤ k ∧ ln.Nodup ∧ BK wr b w1.heap.size ln (-burst) rate burst (fun k => s11.ownBlock = some k) ∧ Own encI 3 1 wr w1.heap.size s11 ln ∧ Below w.heap.size w wr ∧ w1.heap.size ≤ wr.heap.size) (fun _ s12 _ => n - (intOf s12).toNat)
  case atStart => exact ⟨0, [], rfl, by omega, by simp, List.nodup_nil, HK3.out.upd (Upd.refl (fun _ => False) _) (fun k _ _ _ => ⟨fun h => h, by simp [Value.ownBlock]⟩), Own.nil _ _ _ _ _, HB3.out, HS3.out⟩
  case round =>
    obtain ⟨k, ln, rfl, hk, hln, hnd, hbk, ho, hbw, hsz⟩ := hrel
    obtain ⟨A2, c2, rfl, hlc, hs2, hne⟩ := ho.slice (fun x => (okI x).1)
    have HND := Lib.hid hnd
    have HBK := Lib.hid hbk
    have HO := Lib.hid ho
    have HBW := Lib.hid hbw
    have HSZ := Lib.hid hsz
    have HS2 := Lib.hid hs2
    have HNE := Lib.hid hne
    clear hnd hbk ho hbw hsz hs2 hne
    obtain ⟨m, hm⟩ : ∃ m, ln.length = m := ⟨_, rfl⟩
    have HM := Lib.hid hm
    rw [hm] at hln hlc ⊢
    rw [hm] at HBK HO
    have HLC := Lib.hid hlc
    clear hm hlc
    have i1 : (0 : Int) ≤ k := by omega
    have hm3 : m ≤ 300 := by omega
    by_cases hlt : k < n
    · have i2 : (k : Int) < n := by omega
      obtain ⟨x, hx⟩ := getElem?_of_lt (l := l) (by have := HN.out; omega : k < l.length)
      obtain ⟨b3, o3, rfl, hb3, hc3⟩ := HS.out.at hx
      have HLT := Lib.hid hb3
      have HA := Lib.hid (show w.cell? ⟨b3, o3 + k, none⟩ = some (.int .i64 x) by simpa using hc3 0 _ rfl)
      have a1 : wr.cell? ⟨b3, o3 + k, none⟩ = some (.int .i64 x) := (HBW.out.cell (p := ⟨b3, o3 + k, none⟩) hb3).trans HA.out
      clear hc3 hx hb3
      go_wp2_with fail
      refine (bk_tokens HBK.out).mono ?_
      rintro e w' ⟨rfl, rfl⟩
      go_wp2_with fail
      have hmay := bk_may x HBK.out HSZ.out (fun q hq => (HO.out.block_lt hq).2) (by have := HM.out; omega)
      rw [mayL_low (by omega), if_neg (by simp)] at hmay
      refine hmay.mono ?_
      rintro e w4 ⟨rfl, hbk4, hu4⟩
      have HO4 := Lib.hid (HO.out.upd hu4 (fun q hq h => h.2 hq))
      have HBK4 := Lib.hid hbk4
      have HBW4 := Lib.hid (Upd.below HBW.out hu4 (fun k h => Nat.le_trans HZ.out h.1))
      have HSZ4 := Lib.hid (Nat.le_trans HSZ.out hu4.size)
      clear hmay hbk4 hu4 a1
      have HA4 := Lib.hid ((HBW4.out.cell (p := ⟨b3, o3 + k, none⟩) HLT.out).trans HA.out)
      obtain ⟨A5, c5, hv5, hlc5, hs5, hne5⟩ := HO4.out.slice (fun x => (okI x).1)
      injection hv5 with hv1 hv2 hv3
      subst hv1
      subst hv3
      have HS4 := Lib.hid hs5
      have HNE4 := Lib.hid hne5
      clear hv2 hlc5 hs5 hne5 HS2 HNE HO HBK HBW HSZ
      go_wp2
      go_loopw [13, 14] (fun s13 s14 wq => ∃ (q nq : Nat), s14 = .int .i64 q ∧ q ≤ m ∧ s13 = .bool (decide (x ∈ ln.take q)) ∧ wq = w4.drewN nq) (fun _ s14 _ => m - (intOf s14).toNat)
      case atStart => exact ⟨0, 0, rfl, by omega, by simp, rfl⟩
      case round =>
        obtain ⟨q, nq, rfl, hq, rfl, rfl⟩ := hrel
        have j1 : (0 : Int) ≤ q := by omega
        have b1 := HA4.out
        by_cases hqm : q < m
        · have j2 : (q : Int) < m := by omega
          obtain ⟨y, hy⟩ := getElem?_of_lt (l := ln) (by have := HM.out; omega : q < ln.length)
          obtain ⟨b6, o6, rfl, hb6, hc6⟩ := HS4.out.at hy
          have a6 : w4.cell? ⟨b6, o6 + q, none⟩ = some (.int .i64 y) := by simpa using hc6 0 _ rfl
          have ht : ln.take (q + 1) = ln.take q ++ [y] := by rw [List.take_add_one, hy]; rfl
          have HT := Lib.hid ht
          clear hc6 hb6 ht hy
          rcases hd : decide (x ∈ ln.take q) with _ | _
          · by_cases he : y = x
            · have HD := Lib.hid (show decide (x ∈ ln.take (q + 1)) = true by rw [HT.out]; simp [he])
              subst he
              clear hd
              go_wp2_with fail
              go_quiet (fail)
              go_wp2
              go_roundw
              case rel => exact ⟨q + 1, _, by go_num, by omega, by rw [HD.out], rfl⟩
              case measure => simp [intOf]; omega
            · have e1 : (y == x) = false := by simpa using he
              have HD := Lib.hid (show decide (x ∈ ln.take (q + 1)) = false by
                rw [HT.out]
                have h1 : x ∉ ln.take q := by simpa using hd
                simp only [List.mem_append, List.mem_singleton, decide_eq_false_iff_not, not_or]
                exact ⟨h1, fun h => he h.symm⟩)
              clear hd he
              go_wp2_with fail
              go_quiet (fail)
              go_wp2
              go_roundw
              case rel => exact ⟨q + 1, _, by go_num, by omega, by rw [HD.out], rfl⟩
              case measure => simp [intOf]; omega
          · have HD := Lib.hid (show decide (x ∈ ln.take (q + 1)) = true by
                rw [HT.out]
                have h1 : x ∈ ln.take q := by simpa using hd
                simp only [List.mem_append, decide_eq_true_eq]
                exact .inl h1)
            clear hd
            go_wp2_with fail
            go_quiet (fail)
            go_wp2
            go_roundw
            case rel => exact ⟨q + 1, _, by go_num, by omega, by rw [HD.out], rfl⟩
            case measure => simp [intOf]; omega
        · have hqm' : q = m := by omega
          subst hqm'
          have hta : ln.take q = ln := by rw [← HM.out, List.take_length]
          rw [hta]
          rcases hd : decide (x ∈ ln) with _ | _
          · have hx : x ∉ ln := by simpa using hd
            have HJ := Lib.hid (show joined ln x = ln ++ [x] by unfold joined; rw [if_neg hx])
            have HNJ := Lib.hid (joined_nodup HND.out x)
            clear hx hd hta
            go_wp2_with (at_builtin; refine wpList_app rfl (.tmp 96) (.tmp 101) rfl uSlInt infoInt rfl (by decide) (by decide) okI (.slice A2 q c2) ln rfl (base := w1.heap.size) ?c1 (some ⟨(w4.drewN nq).heap.size, 0, none⟩) 1 [x] rfl ?c2 ?c3 ?c4 ?_)
            case c1 => exact (HO4.out.below (below_drewN (Below.refl _ _) nq)).below ((Below.refl _ _).alloc (Nat.le_refl _) _)
            case c2 => exact Sl.one okI _ x _ rfl
            case c3 => have := HM.out; simp; omega
            case c4 => have := HSZ4.out; simp; omega
            intro v1 w5 ho5 hg5 hat5
            have hb5 : Upd (fun q' => (Value.slice A2 q c2).ownBlock = some q') w4 w5 := (Upd.of_below ((below_drewN (Below.refl _ _) nq).alloc (Nat.le_refl _) _)).trans (Upd.of_grown hg5 (fun q' hq' => hq'))
            have HBK5 := Lib.hid (HBK4.out.upd (X' := fun q' => v1.ownBlock = some q') hb5 (fun q' h1 h2 h3 => ⟨h3, fun h => by
              rcases hat5 with h6 | h6
              · exact h3 (h6 ▸ h)
              · rw [h6] at h
                injection h with h
                try simp at h
                omega⟩))
            have HBW5 := Lib.hid (Upd.below HBW4.out hb5 (fun q' h => Nat.le_trans HZ.out (HO4.out.block_lt h).1))
            have HSZ5 := Lib.hid (Nat.le_trans HSZ4.out hb5.size)
            have HO5 := Lib.hid ho5
            clear ho5 hg5 hat5 hb5
            go_wp2
            go_roundw
            case rel => exact ⟨k + 1, joined ln x, by go_num, by omega, by rw [HJ.out]; have := HM.out; simp; omega, HNJ.out, HBK5.out, by rw [HJ.out]; exact HO5.out, HBW5.out, HSZ5.out⟩
            case measure => simp [intOf]; omega
          · have hx : x ∈ ln := by simpa using hd
            have HJ := Lib.hid (show joined ln x = ln by unfold joined; rw [if_pos hx])
            clear hx hd hta
            go_wp2
            go_roundw
            case rel => exact ⟨k + 1, ln, by go_num, by omega, by have := HM.out; omega, HND.out, by have := HBK4.out.below (below_drewN (Below.refl _ _) nq); rwa [HJ.out] at this, HO4.out.below (below_drewN (Below.refl _ _) nq), below_drewN HBW4.out nq, HSZ4.out⟩
            case measure => simp [intOf]; omega
    · go_wp2_with fail
      refine (bk_line HBK.out (by have := HM.out; omega)).mono ?_
      rintro e w4 ⟨A4, c4, rfl, hs4, hb4⟩
      have hsame := sameInts_c A4 c4 ln A2 c2 ln w4 hs4 (HS2.out.later hb4)
      rw [HM.out, show decide (ln = ln) = true by simp] at hsame
      rw [HM.out]
      have HBK4 := Lib.hid (HBK.out.below hb4)
      have HS4 := Lib.hid (HS2.out.later hb4)
      have HBW4 := Lib.hid (HBW.out.trans (hb4.mono HBW.out.size))
      have HSZ4 := Lib.hid (Nat.le_trans HSZ.out hb4.size)
      clear hs4 hb4
      go_wp2_with fail
      refine hsame.mono ?_
      rintro e w5 ⟨rfl, nq, rfl⟩
      clear hsame
      go_wp2
      have HL5 := Lib.hid (Nat.le_trans (Nat.le_of_eq HM.out) hm3)
      generalize hw5 : w4.drewN nq = w5 at *
      have HBK5 := Lib.hid (hw5 ▸ HBK4.out.below (below_drewN (Below.refl _ _) nq) : BK w5 b w1.heap.size ln (-burst) rate burst _)
      have HS5 := Lib.hid (hw5 ▸ HS4.out.later (below_drewN (Below.refl _ _) nq) : Sl encI 1 w5 A2 ln)
      have HBW5 := Lib.hid (hw5 ▸ below_drewN HBW4.out nq : Below w.heap.size w w5)
      have HSZ5 := Lib.hid (hw5 ▸ HSZ4.out : w1.heap.size ≤ w5.heap.size)
      have HX5 := Lib.hid (show ∀ q, (ln ≠ [] ∧ ∃ o, A2 = some ⟨q, o, none⟩) → (Value.slice A2 m c2).ownBlock = some q from fun q ⟨h1, o, h2⟩ => by
        obtain ⟨g, hg, _⟩ := HNE.out h1
        rw [hg] at h2 ⊢
        injection h2 with h2
        injection h2 with h2 h3
        subst h2
        rfl)
      clear hw5
      clear HBK4 HS4 HBW4 HSZ4 HBK HO HBW HSZ HS2 HNE
      go_loopw [11] (fun s11 wr => ∃ (ln : List Int) (A2 : Option Addr) (c2 : Nat) (t : Int), s11 = .slice A2 ln.length c2 ∧ ln.length ≤ c2 ∧ ln.length ≤ 300 ∧ ln.Nodup ∧ Sl encI 1 wr A2 ln ∧ BK wr b w1.heap.size ln t rate burst (fun q => ln ≠ [] ∧ ∃ o, A2 = some ⟨q, o, none⟩) ∧ -(burst + takes) ≤ t ∧ t ≤ burst ∧ Below w.heap.size w wr ∧ w1.heap.size ≤ wr.heap.size) (fun s11 _ => lenV s11)
      case atStart => exact ⟨ln, A2, c2, -burst, by rw [HM.out], by rw [HM.out]; exact HLC.out, HL5.out, HND.out, HS5.out, HBK5.out.upd (Upd.refl (fun _ => False) _) (fun q _ _ h => ⟨fun h => h, fun h2 => h (HX5.out q h2)⟩), by omega, by omega, HBW5.out, HSZ5.out⟩
      case round =>
        clear HBK5 HS5 HBW5 HSZ5 HX5 HL5 HND HM
        obtain ⟨ln, A2, c2, t, rfl, hlc3, hl3, hnd, hs2, hbk, t1, t2, hbw, hsz⟩ := hrel
        generalize wr = wx at *
        have HND := Lib.hid hnd
        have HS2 := Lib.hid hs2
        have HBK := Lib.hid hbk
        have HBW := Lib.hid hbw
        have HSZ := Lib.hid hsz
        clear hnd hs2 hbk hbw hsz
        cases ln with
        | nil =>
          clear HBK
          go_wp2
          go_ret
          exact ⟨by rfl, HBW.out⟩
        | cons y ln =>
          obtain ⟨m, hm⟩ : ∃ m, (y :: ln).length = m := ⟨_, rfl⟩
          have HM := Lib.hid hm
          have mp : 1 ≤ m := by simp at hm; omega
          rw [hm] at hl3 hlc3 ⊢
          have HLC3 := Lib.hid hlc3
          clear hm hlc3
          have hX : ∀ q, (y :: ln ≠ [] ∧ ∃ o, A2 = some ⟨q, o, none⟩) → q < wx.heap.size := fun q ⟨_, o, h⟩ => by
            subst h
            obtain ⟨b', o', h1, h2, _⟩ := HS2.out.at (i := 0) (x := y) rfl
            injection h1 with h1
            injection h1 with h1
            omega
          have HX := Lib.hid hX
          clear hX
          go_wp2_with fail
          generalize decide (0 < m) = bz at *
          go_loopw [15] (fun s15 wq => ∃ (q : Nat) (t : Int), s15 = .int .i64 q ∧ (q : Int) ≤ t + (burst + takes) ∧ t ≤ burst ∧ BK wq b w1.heap.size (y :: ln) t rate burst (fun q => y :: ln ≠ [] ∧ ∃ o, A2 = some ⟨q, o, none⟩) ∧ Upd (fun k => w1.heap.size ≤ k ∧ ¬ (y :: ln ≠ [] ∧ ∃ o, A2 = some ⟨k, o, none⟩)) wx wq) (fun s15 _ => 3000 - (intOf s15).toNat)
          case atStart => exact ⟨0, t, rfl, by omega, t2, HBK.out, Upd.refl _ _⟩
          case round =>
            clear HBK t1 t2
            obtain ⟨q, t, rfl, hq, t2, hbk, huq⟩ := hrel
            generalize wr = wq at *
            have HBK := Lib.hid hbk
            have HUQ := Lib.hid huq
            clear hbk huq
            have j1 : (0 : Int) ≤ q := by omega
            go_wp2_with fail
            refine (bk_tokens HBK.out).mono ?_
            rintro e w' ⟨rfl, rfl⟩
            by_cases ht : t ≤ 0
            · have j2 : (q : Int) ≤ 2000 := by omega
              have hq4 : ¬ (q : Int) > 4 * (burst + takes) := by omega
              obtain ⟨t', et1, et2, et3⟩ : ∃ t', mni (sadd t rate) burst = t' ∧ t + 1 ≤ t' ∧ t' ≤ burst := by
                refine ⟨_, rfl, ?_⟩
                rw [sadd_is (by omega) (by omega)]
                unfold mni
                split <;> omega
              have htick := bk_tick HBK.out (Nat.le_trans HSZ.out HUQ.out.size) (fun q hq => Nat.lt_of_lt_of_le (HX.out q hq) HUQ.out.size) (I64.lit (by omega) (by omega)) HRI.out
              rw [et1] at htick
              go_wp2_with fail
              refine htick.mono ?_
              rintro e w6 ⟨rfl, hbk6, hu6⟩
              have HBK6 := Lib.hid hbk6
              have HU6 := Lib.hid (HUQ.out.trans hu6)
              clear htick hbk6 hu6
              go_wp2
              go_roundw
              case rel => exact ⟨q + 1, t', by go_num, by omega, et3, HBK6.out, HU6.out⟩
              case measure => simp [intOf]; omega
            · have tp : 0 < t := by omega
              clear hq
              go_wp2
              go_loopw [16] (fun s16 wz => ∃ (z : Nat), s16 = .int .i64 z ∧ z ≤ m - 1 ∧ BK wz b w1.heap.size (y :: ln) t rate burst (fun q => y :: ln ≠ [] ∧ ∃ o, A2 = some ⟨q, o, none⟩) ∧ Upd (fun k => w1.heap.size ≤ k ∧ ¬ (y :: ln ≠ [] ∧ ∃ o, A2 = some ⟨k, o, none⟩)) wx wz) (fun s16 _ => (intOf s16).toNat)
              case atStart => exact ⟨m - 1, by first | rfl | (congr 1; omega), by omega, HBK.out, HUQ.out⟩
              case round =>
                clear HBK HUQ
                obtain ⟨z, rfl, hz, hbk, huz⟩ := hrel
                generalize wr = wz at *
                have HBK := Lib.hid hbk
                have HUZ := Lib.hid huz
                have HSZ2 := Lib.hid (Nat.le_trans HSZ.out huz.size)
                have HX2 := Lib.hid (fun q hq => Nat.lt_of_lt_of_le (HX.out q hq) huz.size)
                have hsz := HS2.out.moved huz (fun b o h h2 => h2.2 ⟨by simp, o, h⟩)
                have HS3 := Lib.hid hsz
                clear hbk huz hsz
                by_cases hz0 : 0 < z
                · have j1 : (0 : Int) < z := by omega
                  have j2 : (z : Int) < m := by omega
                  obtain ⟨x, hx⟩ := getElem?_of_lt (l := y :: ln) (by have := HM.out; omega : z < (y :: ln).length)
                  have hxm := List.mem_of_getElem? hx
                  have hxy : ¬ y = x := by
                    intro e
                    have h1 : (y :: ln)[0]? = some x := by rw [← e]; rfl
                    have := (List.getElem?_inj (by have := HM.out; omega) HND.out).1 (h1.trans hx.symm)
                    omega
                  have hmay := bk_may x HBK.out HSZ2.out HX2.out (by have := HM.out; omega)
                  rw [show mayL (y :: ln) t x = false by simp [mayL, hxy], if_neg (by simp), show joined (y :: ln) x = y :: ln by unfold joined; rw [if_pos hxm]] at hmay
                  obtain ⟨b6, o6, rfl, hb6, hc6⟩ := HS3.out.at hx
                  have a6 : wz.cell? ⟨b6, o6 + z, none⟩ = some (.int .i64 x) := by simpa using hc6 0 _ rfl
                  clear hc6 hb6 hx hxm hxy
                  go_wp2_with fail
                  refine hmay.mono ?_
                  rintro e w6 ⟨rfl, hbk6, hu6⟩
                  have HBK6 := Lib.hid hbk6
                  have HU6 := Lib.hid (HUZ.out.trans hu6)
                  clear hmay hbk6 hu6
                  go_wp2
                  go_roundw
                  case rel => exact ⟨z - 1, by first | go_num | (congr 1; omega), by omega, HBK6.out, HU6.out⟩
                  case measure => simp [intOf]; omega
                · have hz1 : z = 0 := by omega
                  subst hz1
                  obtain ⟨b6, o6, hA6, hb6, hc6⟩ := HS3.out.at (i := 0) (x := y) rfl
                  have a6 : wz.cell? ⟨b6, o6, none⟩ = some (.int .i64 y) := by simpa using hc6 0 _ rfl
                  have hmay := bk_may y HBK.out HSZ2.out HX2.out (by have := HM.out; omega)
                  rw [show mayL (y :: ln) t y = true by simp [mayL, tp], if_pos rfl] at hmay
                  subst hA6
                  have HLT6 := Lib.hid hb6
                  clear hc6 hb6
                  go_wp2_with fail
                  refine hmay.mono ?_
                  rintro e w6 ⟨rfl, hbk6, hu6⟩
                  have HBK6 := Lib.hid hbk6
                  have HUZ6 := Lib.hid hu6
                  have HU6 := Lib.hid (HUZ.out.trans hu6)
                  have a7 := hu6.cell a6 (fun h => h.2 ⟨by simp, o6, rfl⟩)
                  have HSZ6 := Lib.hid (Nat.le_trans HSZ2.out hu6.size)
                  have HX6 := Lib.hid (fun q hq => Nat.lt_of_lt_of_le (HX2.out q hq) hu6.size)
                  clear hmay hbk6 hu6 a6
                  have htake := bk_take y takes HBK6.out HSZ6.out HX6.out (I64.lit (by omega) (by omega)) HTI.out
                  rw [show tookL t takes = t - takes by unfold tookL; rw [if_pos (by omega), sadd_is (by omega) (by omega)]; omega, show (y :: ln).erase y = ln by simp] at htake
                  go_wp2_with fail
                  refine htake.mono ?_
                  rintro e w7 ⟨rfl, hbk7, hu7⟩
                  have HBK7 := Lib.hid hbk7
                  have HUZ7 := Lib.hid (HUZ6.out.trans hu7)
                  have HU7 := Lib.hid (HU6.out.trans hu7)
                  clear htake hbk7 hu7 a7
                  go_wp2_with fail
                  case inr h =>
                    have hs7 : Sl encI 1 w7 (some ⟨b6, o6 + 1, none⟩) ln := by simpa using (HS3.out.moved (T := fun k => w1.heap.size ≤ k ∧ ¬ (y :: ln ≠ [] ∧ ∃ o, some (⟨b6, o6, none⟩ : Addr) = some ⟨k, o, none⟩)) HUZ7.out (fun b o h h2 => h2.2 ⟨by simp, o, h⟩)).drop_ 1
                    have HS7 := Lib.hid hs7
                    have HLN := Lib.hid (show m - 1 = ln.length by have := HM.out; simp at this; omega)
                    clear hs7
                    refine (bk_line HBK7.out (by have := HLN.out; omega)).mono ?_
                    rintro e w8 ⟨A9, c9, rfl, hs9, hb9⟩
                    have hsame := sameInts_c A9 c9 ln (some ⟨b6, o6 + 1, none⟩) (c2 - 1) ln w8 hs9 (HS7.out.later hb9)
                    rw [← HLN.out, show decide (ln = ln) = true by simp] at hsame
                    rw [← HLN.out]
                    have HBK8 := Lib.hid (HBK7.out.below hb9)
                    have HS8 := Lib.hid (HS7.out.later hb9)
                    have HU8 := Lib.hid (HU7.out.trans (Upd.of_below hb9))
                    clear hs9 hb9
                    go_wp2_with fail
                    refine hsame.mono ?_
                    rintro e w9 ⟨rfl, nq, rfl⟩
                    clear hsame
                    have HF := Lib.hid (show ∃ (ln : List Int) (Ax : Option Addr) (cx : Nat) (t : Int), (Value.slice (some ⟨b6, o6 + 1, none⟩) (m - 1) (c2 - 1)) = .slice Ax ln.length cx ∧ ln.length ≤ cx ∧ ln.length ≤ 300 ∧ ln.Nodup ∧ Sl encI 1 (w8.drewN nq) Ax ln ∧ BK (w8.drewN nq) b w1.heap.size ln t rate burst (fun q => ln ≠ [] ∧ ∃ o, Ax = some ⟨q, o, none⟩) ∧ -(burst + takes) ≤ t ∧ t ≤ burst ∧ Below w.heap.size w (w8.drewN nq) ∧ w1.heap.size ≤ (w8.drewN nq).heap.size from
                      ⟨ln, some ⟨b6, o6 + 1, none⟩, c2 - 1, t - takes, by rw [HLN.out], by have := HLN.out; have := HLC3.out; omega, by have := HLN.out; omega, (List.nodup_cons.1 HND.out).2, HS8.out.later (below_drewN (Below.refl _ _) nq), (HBK8.out.below (below_drewN (Below.refl _ _) nq)).upd (Upd.refl (fun _ => False) _) (fun q _ _ hx => ⟨fun h => h, fun h2 => hx (by
                        obtain ⟨_, o, h2⟩ := h2
                        injection h2 with h2
                        injection h2 with h2 h3
                        exact ⟨by simp, o6, by rw [h2]⟩)⟩), by omega, by omega, below_drewN (Upd.below HBW.out HU8.out (fun k h => Nat.le_trans HZ.out h.1)) nq, Nat.le_trans HSZ.out HU8.out.size⟩)
                    go_wp2
                    go_roundw
                    case rel => exact HF.out
                    case measure => simp [lenV]; omega
                  case inl h =>
                    have hs7 : Sl encI 1 w7 (some ⟨b6, o6, none⟩) ln := by have h9 : ln = [] := (by have := HM.out; have h8 := HLC3.out; rw [h] at h8; cases ln with | nil => rfl | cons z l => simp at *; omega); rw [h9]; exact Sl.nil _ _ _ _
                    have HS7 := Lib.hid hs7
                    have HLN := Lib.hid (show m - 1 = ln.length by have := HM.out; simp at this; omega)
                    clear hs7
                    refine (bk_line HBK7.out (by have := HLN.out; omega)).mono ?_
                    rintro e w8 ⟨A9, c9, rfl, hs9, hb9⟩
                    have hsame := sameInts_c A9 c9 ln (some ⟨b6, o6, none⟩) (0) ln w8 hs9 (HS7.out.later hb9)
                    rw [← HLN.out, show decide (ln = ln) = true by simp] at hsame
                    rw [← HLN.out]
                    have HBK8 := Lib.hid (HBK7.out.below hb9)
                    have HS8 := Lib.hid (HS7.out.later hb9)
                    have HU8 := Lib.hid (HU7.out.trans (Upd.of_below hb9))
                    clear hs9 hb9
                    go_wp2_with fail
                    refine hsame.mono ?_
                    rintro e w9 ⟨rfl, nq, rfl⟩
                    clear hsame
                    have HF := Lib.hid (show ∃ (ln : List Int) (Ax : Option Addr) (cx : Nat) (t : Int), (Value.slice (some ⟨b6, o6, none⟩) (m - 1) (0)) = .slice Ax ln.length cx ∧ ln.length ≤ cx ∧ ln.length ≤ 300 ∧ ln.Nodup ∧ Sl encI 1 (w8.drewN nq) Ax ln ∧ BK (w8.drewN nq) b w1.heap.size ln t rate burst (fun q => ln ≠ [] ∧ ∃ o, Ax = some ⟨q, o, none⟩) ∧ -(burst + takes) ≤ t ∧ t ≤ burst ∧ Below w.heap.size w (w8.drewN nq) ∧ w1.heap.size ≤ (w8.drewN nq).heap.size from
                      ⟨ln, some ⟨b6, o6, none⟩, 0, t - takes, by rw [HLN.out], by have := HLN.out; have := HLC3.out; omega, by have := HLN.out; omega, (List.nodup_cons.1 HND.out).2, HS8.out.later (below_drewN (Below.refl _ _) nq), (HBK8.out.below (below_drewN (Below.refl _ _) nq)).upd (Upd.refl (fun _ => False) _) (fun q _ _ hx => ⟨fun h => h, fun h2 => hx (by
                        obtain ⟨_, o, h2⟩ := h2
                        injection h2 with h2
                        injection h2 with h2 h3
                        exact ⟨by simp, o6, by rw [h2]⟩)⟩), by omega, by omega, below_drewN (Upd.below HBW.out HU8.out (fun k h => Nat.le_trans HZ.out h.1)) nq, Nat.le_trans HSZ.out HU8.out.size⟩)
                    go_wp2
                    go_roundw
                    case rel => exact HF.out
                    case measure => simp [lenV]; omega
end Go.Proofs.Ytjgpcbednhoplaa.H
