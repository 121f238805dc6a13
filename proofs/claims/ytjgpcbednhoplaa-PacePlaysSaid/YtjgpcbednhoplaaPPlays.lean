/- PacePlays: the walk (printed by genplays.py). Conditions: the numbers are ints. -/
import Derived.Test.YtjgpcbednhoplaaPTwo
namespace Go.Proofs.Ytjgpcbednhoplaa.H
open Go.RowKit Go.Deep Go.Shelf Go.Proofs Go.Proofs.YtjgpcbednhoplaaW.PrintWords
set_option linter.unusedVariables false
set_option linter.unusedSimpArgs false
def PlayR (wr : World) (b rb base : Nat) (l : List Int) (t r u : Int) (s : Option (List Int × Int)) (W : World) : Prop :=
  (match s with | none => TwoIs W b rb (fun k => base ≤ k) l t l t r u | some p => TwoIs W b rb (fun k => base ≤ k) p.1 p.2 p.1 p.2 r u ∧ p.1.Nodup ∧ p.1.length ≤ l.length + 1 ∧ I64 p.2) ∧ Upd (fun k => base ≤ k) wr W
def leP {α : Type} (a b : Option α) : Prop := a = none ∨ a = b
theorem leP_refl {α : Type} (a : Option α) : leP a a := .inr rfl
theorem leP_trans {α : Type} (a b c : Option α) (h : leP a b) (h' : leP b c) : leP a c := by
  rcases h with rfl | rfl
  · exact .inl rfl
  · exact h'
theorem PlayR.some {wr W : World} {b rb base : Nat} {l l' : List Int} {t t' r u : Int} {s : Option (List Int × Int)} (h : PlayR wr b rb base l t r u s W) (hs : leP (.some (l', t')) s) : TwoIs W b rb (fun k => base ≤ k) l' t' l' t' r u := by
  rcases hs with hs | hs
  · cases hs
  · subst hs
    exact h.1.1
theorem ldOp (b o : Nat) (x y z : Int) (W : World) (h0 : W.cell? ⟨b, o, none⟩ = some (.int .i64 x)) (h1 : W.cell? ⟨b, o + 1, none⟩ = some (.int .i64 y)) (h2 : W.cell? ⟨b, o + 2, none⟩ = some (.int .i64 z)) :
    (Instr.loadAt 38 (.pointer (some ⟨b, o, none⟩))).run Try.prog W = .ok (.agg #[.int .i64 x, .int .i64 y, .int .i64 z]) W := by
  go_simp
theorem abv_I64 {x : Int} (h : I64 x) : I64 (abv x) := by unfold abv; split; exact I64.lit (by omega) (by omega); exact h
set_option maxHeartbeats 3200000 in
set_option maxRecDepth 100000 in
theorem pacePlays_c (rate burst : Int) (hr : I64 rate) (hu : I64 burst) (A : Option Addr) (c : Nat) (l : List OpT) (w : World) (hs : Sl encOp 3 w A l) (hq : ∀ x ∈ l, QOp x) :
    Calls Try.prog 4 #[.int .i64 rate, .int .i64 burst, .slice A l.length c] w fun e w' => e = .returned (.bool true) ∧ Below w.heap.size w w' := by
  have hlen := hs.1
  have HS := Lib.hid hs
  have HQ := Lib.hid hq
  clear hs hq
  obtain ⟨n, hn⟩ : ∃ n, l.length = n := ⟨_, rfl⟩
  rw [hn] at hlen ⊢
  have HN := Lib.hid hn
  clear hn
  have HRR := Lib.hid (abv_I64 hr)
  have HUU := Lib.hid (abv_I64 hu)
  clear hr hu
  go_enter Try.func4, Try.ntmps4
  go_wp2_with fail
  refine (known_c _).mono ?_
  rintro e w1 ⟨rfl, hb1⟩
  have HB1 := Lib.hid hb1
  clear hb1
  by_cases g1 : (n : Int) > 2000
  · go_wp2
    go_ret
    exact ⟨by rfl, HB1.out⟩
  go_wp2_with fail
  refine (newBucket_c rate burst _).mono ?_
  rintro e w2 ⟨b, rfl, hk, hb2⟩
  have HB2 := Lib.hid (HB1.out.trans (hb2.mono HB1.out.size))
  have HK2 := Lib.hid hk.tight'
  have HS2 := Lib.hid hb2.size
  clear hk hb2
  go_wp2_with fail
  refine (newR_c rate burst _).mono ?_
  rintro e w3 ⟨rb, rfl, hk, hb3⟩
  have HT3 := Lib.hid (show TwoIs w3 b rb (fun k => w1.heap.size ≤ k) [] (abv burst) [] (abv burst) (abv rate) (abv burst) from
    ⟨_, _, HK2.out.upd (Upd.of_below (S := fun _ => False) hb3) (fun _ _ h => h), hk.tight, fun k h1 h2 => by rcases h2.1 with h | h; exact h; exact absurd h1.2 (by omega),
      fun k h => ⟨by rcases h.1 with h | h; exact h.elim; exact h, by have := h.2; have := hb3.size; omega⟩, fun k h => ⟨by rcases h.1 with h | h; exact h.elim; exact Nat.le_trans HS2.out h, h.2⟩⟩)
  have HB3 := Lib.hid (HB2.out.trans (hb3.mono HB2.out.size))
  have HS3 := Lib.hid (Nat.le_trans HS2.out hb3.size)
  have HZ := Lib.hid HB1.out.size
  clear hk hb3 HK2 HB2
  generalize abv rate = r at *
  generalize abv burst = u at *
  have hn2 : n ≤ 2000 := by omega
  clear g1
  go_wp2
  go_loopw [10] (fun s10 wr => ∃ (k : Nat) (t : Int) (ln : List Int), s10 = .int .i64 k ∧ k ≤ n ∧ ln.length ≤ k ∧ ln.Nodup ∧ I64 t ∧ TwoIs wr b rb (fun k => w1.heap.size ≤ k) ln t ln t r u ∧ Below w.heap.size w wr ∧ w1.heap.size ≤ wr.heap.size) (fun s10 _ => n - (intOf s10).toNat)
  case atStart => exact ⟨0, u, [], rfl, by omega, by simp, List.nodup_nil, HUU.out, HT3.out, HB3.out, HS3.out⟩
  case round =>
    obtain ⟨k, t, ln, rfl, hk, hln, hnd, ht, htw, hbw, hsz⟩ := hrel
    have HT := Lib.hid ht
    have HND := Lib.hid hnd
    have HTW := Lib.hid htw
    have HBW := Lib.hid hbw
    have HSZ := Lib.hid hsz
    clear hnd ht htw hbw hsz
    have i1 : (0 : Int) ≤ k := by omega
    by_cases hlt : k < n
    · have i2 : (k : Int) < n := by omega
      obtain ⟨⟨kd, who, num⟩, hx⟩ := getElem?_of_lt (l := l) (by have := HN.out; omega : k < l.length)
      have hqx := HQ.out _ (List.mem_of_getElem? hx)
      have HNUM := Lib.hid (show I64 num from wf_i64 hqx.2.2)
      obtain ⟨b3, o3, rfl, hb3, hc3⟩ := HS.out.at hx
      have hnb : ∀ W, Upd (fun k => w1.heap.size ≤ k) wr W → ∀ o v, w.cell? ⟨b3, o, none⟩ = some v → W.cell? ⟨b3, o, none⟩ = some v := fun W hW o v hv => hW.cell (p := ⟨b3, o, none⟩) ((HBW.out.cell (p := ⟨b3, o, none⟩) hb3).trans hv) (by show ¬ w1.heap.size ≤ b3; have := HZ.out; omega)
      have a0 : w.cell? ⟨b3, o3 + k * 3, none⟩ = some (.int .i64 kd) := by simpa using hc3 0 _ rfl
      have a1 : w.cell? ⟨b3, o3 + k * 3 + 1, none⟩ = some (.int .i64 who) := by simpa using hc3 1 _ rfl
      have a2 : w.cell? ⟨b3, o3 + k * 3 + 2, none⟩ = some (.int .i64 num) := by simpa using hc3 2 _ rfl
      clear hc3 hqx hx hb3
      go_wp2_with fail
      refine wp_region_step (PlayR wr b rb w1.heap.size ln t r u) leP leP_refl leP_trans none [0, 0, 0, 0, 0, 1, 2, 0, 0, 0, 1, 0, 0, 0, 1, 0] [.pointer (some ⟨b, 0, none⟩), .pointer (some ⟨rb, 0, none⟩), .slice (some ⟨b3, o3, none⟩) n c, .int .i64 k, .pointer (some ⟨b3, o3 + k * 3, none⟩), undef, undef, .bool false, .bool false, .pointer (some ⟨b, 0, none⟩), undef, .pointer (some ⟨rb, 0, none⟩), .pointer (some ⟨rb, 0, none⟩), .pointer (some ⟨rb, 2, none⟩), undef, .bool false] 16 (by kernel_rfl) (by kernel_rfl) ⟨HTW.out.upd (Upd.drew (S := fun _ => False) _) (fun _ _ _ h => h), Upd.drew _⟩ ?_
      simp only [List.take_succ_cons, List.take_zero, List.drop_succ_cons, List.drop_zero]
      refine schain0 ?_
      refine @schain _ _ _ _ _ _ _ _ _ _ _ _ _ _ 34 (.pointer (some ⟨b, 0, none⟩)) (by rfl) (by rfl) (by kernel_rfl) (by rfl) (by exact fun s' W2 hW => srun_mv (by rfl) (by exact eval_base (by kernel_rfl) (by rfl)) hW) ?_
      refine @schain _ _ _ _ _ _ _ _ _ _ _ _ _ _ 35 (.pointer (some ⟨rb, 0, none⟩)) (by rfl) (by rfl) (by kernel_rfl) (by rfl) (by exact fun s' W2 hW => srun_mv (by rfl) (by exact eval_base (by kernel_rfl) (by rfl)) hW) ?_
      refine @schain _ _ _ _ _ _ _ _ _ _ _ _ _ _ 36 (.slice (some ⟨b3, o3, none⟩) n c) (by rfl) (by rfl) (by kernel_rfl) (by rfl) (by exact fun s' W2 hW => srun_mv (by rfl) (by exact eval_base (by kernel_rfl) (by rfl)) hW) ?_
      refine @schain _ _ _ _ _ _ _ _ _ _ _ _ _ _ 37 (.int .i64 k) (by rfl) (by rfl) (by kernel_rfl) (by rfl) (by exact fun s' W2 hW => srun_mv (by rfl) (by exact eval_base (by kernel_rfl) (by rfl)) hW) ?_
      refine @schain _ _ _ _ _ _ _ _ _ _ _ _ _ _ 38 (.pointer (some ⟨b3, o3 + k * 3, none⟩)) (by rfl) (by rfl) (by kernel_rfl) (by rfl) (by exact fun s' W2 hW => srun_ia (u := .slice (some ⟨b3, o3, none⟩) n c) (v := .int .i64 k) (by rfl) (by exact eval_look (by kernel_rfl) (by kernel_rfl)) (by exact eval_look (by kernel_rfl) (by kernel_rfl)) (fun W => by go_simp) hW) ?_
      refine @schain1 _ _ _ _ _ _ _ _ _ _ _ _ _ _ 39 (.agg #[.int .i64 kd, .int .i64 who, .int .i64 num]) (by rfl) (by kernel_rfl) (by rfl) (by exact fun s' hs W2 hW => srun_ld (by rfl) (by exact eval_look (by kernel_rfl) (by kernel_rfl)) (ldOp _ _ _ _ _ _ (hnb W2 hW.2 _ _ a0) (hnb W2 hW.2 _ _ a1) (hnb W2 hW.2 _ _ a2)) hW) ?_
      refine @schainT _ _ _ _ _ _ _ _ _ _ _ _ _ _ 40 (fun v s' => v = .bool true ∧ ∃ p, s' = some p) (by rfl) (by kernel_rfl) (by rfl) (⟨_, some (ln, t), rfl, _, rfl⟩) (fun _ _ _ => .inl rfl) (by exact fun W2 hW => srun_callT (vs := #[.pointer (some ⟨b, 0, none⟩), .pointer (some ⟨rb, 0, none⟩), .agg #[.int .i64 kd, .int .i64 who, .int .i64 num]]) (by rfl) (by kernel_rfl) (enters_of Try.func16 (by kernel_rfl) (by rfl)) ((does_c b rb w1.heap.size ln t r u kd who num W2 hW.1 (Nat.le_trans HSZ.out hW.2.size) (by omega) HND.out HT.out HRR.out HUU.out HNUM.out).mono fun e W' ⟨l', t', he, d1, d2, d3, d4, d5⟩ => ⟨_, he, some (l', t'), ⟨rfl, _, rfl⟩, ⟨d1, d2, d3, d4⟩, hW.2.trans d5⟩)) (fun x s' hx => ?_)
      obtain ⟨rfl, ⟨l', t'⟩, rfl⟩ := hx
      refine @schain _ _ _ _ _ _ _ _ _ _ _ _ _ _ 41 (.bool false) (by rfl) (by rfl) (by kernel_rfl) (by rfl) (by exact fun s' W2 hW => srun_uo (u := .bool true) (by rfl) (by exact eval_look (by kernel_rfl) (by kernel_rfl)) (fun W => by go_simp) hW) ?_
      refine @schain _ _ _ _ _ _ _ _ _ _ _ _ _ _ 42 (.bool false) (by rfl) (by rfl) (by kernel_rfl) (by rfl) (by exact fun s' W2 hW => srun_mv (by rfl) (by exact eval_look (by kernel_rfl) (by kernel_rfl)) hW) ?_
      refine @schain _ _ _ _ _ _ _ _ _ _ _ _ _ _ 43 (.pointer (some ⟨b, 0, none⟩)) (by rfl) (by rfl) (by kernel_rfl) (by rfl) (by exact fun s' W2 hW => srun_mv (by rfl) (by exact eval_base (by kernel_rfl) (by rfl)) hW) ?_
      refine @schain1 _ _ _ _ _ _ _ _ _ _ _ _ _ _ 44 (.int .i64 t') (by rfl) (by kernel_rfl) (by rfl) (by exact fun s' hs W2 hW => srun_call (vs := #[.pointer (some ⟨b, 0, none⟩)]) (by rfl) (by kernel_rfl) (enters_of Try.func17 (by kernel_rfl) (by rfl)) ((tokens_2 (hW.some hs)).mono fun e W' ⟨he, hw⟩ => ⟨he, hw ▸ hW⟩)) ?_
      refine @schain _ _ _ _ _ _ _ _ _ _ _ _ _ _ 45 (.pointer (some ⟨rb, 0, none⟩)) (by rfl) (by rfl) (by kernel_rfl) (by rfl) (by exact fun s' W2 hW => srun_mv (by rfl) (by exact eval_base (by kernel_rfl) (by rfl)) hW) ?_
      refine @schain _ _ _ _ _ _ _ _ _ _ _ _ _ _ 46 (.pointer (some ⟨rb, 0, none⟩)) (by rfl) (by rfl) (by kernel_rfl) (by rfl) (by exact fun s' W2 hW => srun_nc (by rfl) (by exact eval_look (by kernel_rfl) (by kernel_rfl)) hW) ?_
      refine @schain _ _ _ _ _ _ _ _ _ _ _ _ _ _ 47 (.pointer (some ⟨rb, 2, none⟩)) (by rfl) (by rfl) (by kernel_rfl) (by rfl) (by exact fun s' W2 hW => srun_fa (p := .pointer (some ⟨rb, 0, none⟩)) (by rfl) (by exact eval_look (by kernel_rfl) (by kernel_rfl)) (fun W => by first | kernel_rfl | go_simp) hW) ?_
      refine @schain1 _ _ _ _ _ _ _ _ _ _ _ _ _ _ 48 (.int .i64 t') (by rfl) (by kernel_rfl) (by rfl) (by exact fun s' hs W2 hW => srun_ld (by rfl) (by exact eval_look (by kernel_rfl) (by kernel_rfl)) (ldInt _ _ _ _ ((hW.some hs).n)) hW) ?_
      refine @schain _ _ _ _ _ _ _ _ _ _ _ _ _ _ 49 (.bool false) (by rfl) (by rfl) (by kernel_rfl) (by rfl) (by exact fun s' W2 hW => srun_bo (u := .int .i64 t') (v := .int .i64 t') (by rfl) (by exact eval_look (by kernel_rfl) (by kernel_rfl)) (by exact eval_look (by kernel_rfl) (by kernel_rfl)) (fun W => by go_simp) hW) ?_
      refine snil (fun W2 hW2 => ?_)
      refine Eq.mpr (congrArg (fun a => wpList _ _ _ _ a W2) (show _ = (⟨#[.int .i64 rate, .int .i64 burst, .slice (some ⟨b3, o3, none⟩) n c, undef, undef, undef, u6, .bool true, .pointer (some ⟨b, 0, none⟩), .pointer (some ⟨rb, 0, none⟩), .int .i64 k, .bool true, .bool true, .bool false, .bool false, .slice (some ⟨b3, o3, none⟩) n c, .int .i64 n, .bool (decide (2000 < (n : Int))), .bool (decide (2000 < (n : Int))), undef, .int .i64 rate, .int .i64 burst, .pointer (some ⟨b, 0, none⟩), .pointer (some ⟨b, 0, none⟩), .bool false, .int .i64 rate, .int .i64 burst, .pointer (some ⟨rb, 0, none⟩), .int .i64 k, .slice (some ⟨b3, o3, none⟩) n c, .int .i64 n, .bool true, u32, u33, .pointer (some ⟨b, 0, none⟩), .pointer (some ⟨rb, 0, none⟩), .slice (some ⟨b3, o3, none⟩) n c, .int .i64 k, .pointer (some ⟨b3, o3 + k * 3, none⟩), .agg #[.int .i64 kd, .int .i64 who, .int .i64 num], .bool true, .bool false, .bool false, .pointer (some ⟨b, 0, none⟩), .int .i64 t', .pointer (some ⟨rb, 0, none⟩), .pointer (some ⟨rb, 0, none⟩), .pointer (some ⟨rb, 2, none⟩), .int .i64 t', .bool false, u50, undef, undef, undef, undef, undef, undef, undef], []⟩ : Act) by kernel_rfl)) ?_
      have HW := Lib.hid hW2.1
      have HU := Lib.hid hW2.2
      clear hW2 hnb a0 a1 a2
      go_wp2
      go_roundw
      case rel => exact ⟨k + 1, t', l', by go_num, by omega, (by have h7 : l'.length ≤ ln.length + 1 := HW.out.2.2.1; omega), HW.out.2.1, HW.out.2.2.2, HW.out.1, Upd.below HBW.out HU.out (fun k h => Nat.le_trans HZ.out h), Nat.le_trans HSZ.out HU.out.size⟩
      case measure => simp [intOf]; omega
    · skip
      obtain ⟨A3, c3, z3, hs3, hrb⟩ := HTW.out.list
      have i2 : ¬ (k : Int) < n := by omega
      go_wp2_with fail
      refine wp_region_step (LineR wr ln) leO leO_refl leO_trans none [0, 2, 0, 0, 0, 0, 1] [.pointer (some ⟨b, 0, none⟩), undef, .pointer (some ⟨rb, 0, none⟩), .pointer (some ⟨rb, 0, none⟩), .pointer (some ⟨rb, 3, none⟩), .slice A3 ln.length c3, undef] 7 (by kernel_rfl) (by kernel_rfl) ⟨(Below.refl _ _).drew, trivial⟩ ?_
      simp only [List.take_succ_cons, List.take_zero, List.drop_succ_cons, List.drop_zero]
      refine schain0 ?_
      refine @schain _ _ _ _ _ _ _ _ _ _ _ _ _ _ 51 (.pointer (some ⟨b, 0, none⟩)) (by rfl) (by rfl) (by kernel_rfl) (by rfl) (by exact fun s' W2 hW => srun_mv (by rfl) (by exact eval_base (by kernel_rfl) (by rfl)) hW) ?_
      refine @schainT _ _ _ _ _ _ _ _ _ _ _ _ _ _ 52 (fun v s' => s' = some v ∧ ∃ A c, v = .slice A ln.length c) (by rfl) (by kernel_rfl) (by rfl) (⟨.slice none ln.length ln.length, _, rfl, none, ln.length, rfl⟩) (fun _ _ _ => .inl rfl) (by exact fun W2 hW => srun_callT (vs := #[.pointer (some ⟨b, 0, none⟩)]) (by rfl) (by kernel_rfl) (enters_of Try.func19 (by kernel_rfl) (by rfl)) ((bline_2 (HTW.out.upd (Upd.of_below (S := fun _ => False) hW.1) (fun _ _ _ h => h)) (by omega)).mono fun e W' ⟨v, he, ho, hb⟩ => ⟨v, he, some v, ⟨rfl, by obtain ⟨A, c, rfl, _⟩ := ho.slice (fun x => (okI x).1); exact ⟨A, c, rfl⟩⟩, hW.1.trans (hb.mono hW.1.size), ho.weaken (Nat.zero_le _)⟩)) (fun x s' hx => ?_)
      obtain ⟨rfl, A4, c4, rfl⟩ := hx
      refine @schain _ _ _ _ _ _ _ _ _ _ _ _ _ _ 53 (.pointer (some ⟨rb, 0, none⟩)) (by rfl) (by rfl) (by kernel_rfl) (by rfl) (by exact fun s' W2 hW => srun_mv (by rfl) (by exact eval_base (by kernel_rfl) (by rfl)) hW) ?_
      refine @schain _ _ _ _ _ _ _ _ _ _ _ _ _ _ 54 (.pointer (some ⟨rb, 0, none⟩)) (by rfl) (by rfl) (by kernel_rfl) (by rfl) (by exact fun s' W2 hW => srun_nc (by rfl) (by exact eval_look (by kernel_rfl) (by kernel_rfl)) hW) ?_
      refine @schain _ _ _ _ _ _ _ _ _ _ _ _ _ _ 55 (.pointer (some ⟨rb, 3, none⟩)) (by rfl) (by rfl) (by kernel_rfl) (by rfl) (by exact fun s' W2 hW => srun_fa (p := .pointer (some ⟨rb, 0, none⟩)) (by rfl) (by exact eval_look (by kernel_rfl) (by kernel_rfl)) (fun W => by first | kernel_rfl | go_simp) hW) ?_
      refine @schain _ _ _ _ _ _ _ _ _ _ _ _ _ _ 56 (.slice A3 ln.length c3) (by rfl) (by rfl) (by kernel_rfl) (by rfl) (by exact fun s' W2 hW => srun_ld (by rfl) (by exact eval_look (by kernel_rfl) (by kernel_rfl)) (ldSl _ _ _ _ _ _ ((hW.1.cell (p := ⟨rb, 3, none⟩) hrb).trans z3)) hW) ?_
      refine @schain1 _ _ _ _ _ _ _ _ _ _ _ _ _ _ 57 (.bool true) (by rfl) (by kernel_rfl) (by rfl) (by exact fun s' hs W2 hW => srun_call (vs := #[.slice A4 ln.length c4, .slice A3 ln.length c3]) (by rfl) (by kernel_rfl) (enters_of Try.func18 (by kernel_rfl) (by rfl)) (sameAt hW hs hs3)) ?_
      refine snil (fun W2 hW2 => ?_)
      refine Eq.mpr (congrArg (fun a => wpList _ _ _ _ a W2) (show _ = (⟨#[.int .i64 rate, .int .i64 burst, .slice A n c, undef, undef, undef, u6, .bool true, .pointer (some ⟨b, 0, none⟩), .pointer (some ⟨rb, 0, none⟩), .int .i64 k, .bool true, .bool true, .bool false, .bool false, .slice A n c, .int .i64 n, .bool (decide (2000 < (n : Int))), .bool (decide (2000 < (n : Int))), undef, .int .i64 rate, .int .i64 burst, .pointer (some ⟨b, 0, none⟩), .pointer (some ⟨b, 0, none⟩), .bool false, .int .i64 rate, .int .i64 burst, .pointer (some ⟨rb, 0, none⟩), .int .i64 k, .slice A n c, .int .i64 n, .bool false, u32, u33, u34, u35, u36, u37, u38, u39, u40, u41, u42, u43, u44, u45, u46, u47, u48, u49, u50, .pointer (some ⟨b, 0, none⟩), .slice A4 ln.length c4, .pointer (some ⟨rb, 0, none⟩), .pointer (some ⟨rb, 0, none⟩), .pointer (some ⟨rb, 3, none⟩), .slice A3 ln.length c3, .bool true], []⟩ : Act) by kernel_rfl)) ?_
      have HW := Lib.hid hW2.1
      clear hW2 z3 hs3
      go_wp2
      go_ret
      exact ⟨by rfl, HBW.out.trans (HW.out.mono HBW.out.size)⟩
end Go.Proofs.Ytjgpcbednhoplaa.H
