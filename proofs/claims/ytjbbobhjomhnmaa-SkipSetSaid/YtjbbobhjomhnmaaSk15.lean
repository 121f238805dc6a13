/- made: a list of entries that were put in, and which of them were taken. Conditions: sizes. -/
import Derived.Test.YtjbbobhjomhnmaaSk14
namespace Go.Proofs.Ytjbbobhjomhnmaa.H
open Go Go.RowKit Go.Deep Go.Shelf Go.Proofs Go.Proofs.YtjbbobhjomhnmaaW.PrintWords
set_option linter.unusedVariables false
set_option linter.unusedSimpArgs false
abbrev Made := List EH × List Ent
def madeS (draws : List Int) (s : Made) (e : Ent) : Made := if hasL s.1 e = true then s else (insL s.1 (e, hgt draws s.1.length), s.2 ++ [e])
def madeF (draws : List Int) (l : List Ent) : Made := l.foldl (madeS draws) ([], [])
theorem madeF_take {draws : List Int} {l : List Ent} {k : Nat} {e : Ent} (h : l[k]? = some e) : madeF draws (l.take (k + 1)) = madeS draws (madeF draws (l.take k)) e := by
  unfold madeF
  rw [List.take_add_one, h, List.foldl_append]
  rfl
theorem filter_len {α : Type} (p : α → Bool) : ∀ l : List α, (l.filter p).length + (l.filter (fun x => !p x)).length = l.length
  | [] => rfl
  | x :: l => by
    have := filter_len p l
    cases h : p x <;> simp [h] <;> omega
theorem insL_len (L : List EH) (x : EH) : (insL L x).length = L.length + 1 := by
  unfold insL
  have := filter_len (fun y : EH => decide (ltE y.1 x.1)) L
  simp only [List.length_append, List.length_cons]
  omega
theorem madeS_len {draws : List Int} {s : Made} {e : Ent} (h : s.1.length = s.2.length) : (madeS draws s e).1.length = (madeS draws s e).2.length ∧ (madeS draws s e).2.length ≤ s.2.length + 1 := by
  unfold madeS
  split
  · exact ⟨h, by omega⟩
  · simp [insL_len, h]
theorem madeF_len (draws : List Int) (l : List Ent) : ∀ k, (madeF draws (l.take k)).1.length = (madeF draws (l.take k)).2.length ∧ (madeF draws (l.take k)).2.length ≤ k
  | 0 => by simp [madeF]
  | k + 1 => by
    obtain ⟨h1, h2⟩ := madeF_len draws l k
    cases h : l[k]? with
    | none =>
      have : l.take (k + 1) = l.take k := by rw [List.take_add_one, h]; simp
      rw [this]
      exact ⟨h1, by omega⟩
    | some e =>
      rw [madeF_take h]
      obtain ⟨q1, q2⟩ := madeS_len (draws := draws) (e := e) h1
      exact ⟨q1, by omega⟩
theorem madeS_putS {draws : List Int} {s : Made} {e : Ent} : (madeS draws s e).1 = putS draws s.1 e := by
  unfold madeS putS
  split <;> rfl
theorem eqP_run {a b : Nat} (W : World) : (binOp .neq 43 (.pointer (some ⟨a, 0, none⟩)) (.pointer none)).run Try.prog W = .ok (.bool true) W := by go_simp
set_option maxHeartbeats 1600000 in
set_option maxRecDepth 100000 in
theorem made_c (A : Option Addr) (c : Nat) (draws : List Int) (B : Option Addr) (d : Nat) (l : List Ent) (w : World) (ha : Sl encB 1 w A draws) (hal : draws.length < 140737488351233) (hby : ∀ x ∈ draws, U8 x) (hb : Sl encE 4 w B l) (hbl : l.length < 2932031007319) :
    Calls Try.prog 22 #[.slice A draws.length c, .slice B l.length d] w fun e w' => ∃ g S v, e = .returned (.tuple #[.pointer (some ⟨g, 0, none⟩), v]) ∧ (∀ k, S k → w.heap.size ≤ k) ∧ SkL w' g S draws (madeF draws l).1 ∧ Own encE 53 4 w' w.heap.size v (madeF draws l).2 ∧ Below w.heap.size w w' := by
  have HNEW := Lib.hid (new_L A c draws w ha hal hby)
  have HB := Lib.hid hb
  clear ha hb hby
  obtain ⟨nd, hnd⟩ : ∃ n, draws.length = n := ⟨_, rfl⟩
  obtain ⟨n, hn⟩ : ∃ n, l.length = n := ⟨_, rfl⟩
  rw [hnd] at HNEW ⊢
  rw [hn] at hbl ⊢
  have HN := Lib.hid hn
  clear hn hnd hal
  go_enter Try.func22, Try.ntmps22
  go_wp2_with (go_at_call 13; refine HNEW.out.mono ?_; rintro e w2 ⟨g, S, rfl, hS, hsk, hbw⟩)
  have HS := Lib.hid hS
  have HSK := Lib.hid hsk
  have HBW := Lib.hid hbw
  clear hS hsk hbw
  go_loopw [7, 8] (fun s7 s8 wr => ∃ (k : Nat) (S : Nat → Prop), s8 = .int .i64 k ∧ k ≤ n ∧ SkL wr g S draws (madeF draws (l.take k)).1 ∧ Own encE 53 4 wr w.heap.size s7 (madeF draws (l.take k)).2 ∧ (∀ j, s7.ownBlock = some j → ¬ S j) ∧ (∀ j, S j → w.heap.size ≤ j) ∧ Below w.heap.size w wr) (fun s7 s8 wr => n - (intOf s8).toNat)
  case atStart => exact ⟨0, S, rfl, by omega, HSK.out, Own.nil _ _ _ _ _, (fun j hj => by cases hj), HS.out, HBW.out⟩
  case round =>
    obtain ⟨k, S1, rfl, hk, hsk, hown, hap, hge, hbw⟩ := hrel
    obtain ⟨A1, c1, rfl⟩ := own_slice hown
    obtain ⟨len1, len2⟩ := madeF_len draws l k
    have HSK1 := Lib.hid hsk
    have HOWN := Lib.hid hown
    have HAP := Lib.hid hap
    have HGE := Lib.hid hge
    have HBW1 := Lib.hid hbw
    clear hsk hown hap hge hbw
    obtain ⟨m, hm⟩ : ∃ m, (madeF draws (l.take k)).2.length = m := ⟨_, rfl⟩
    rw [hm] at HOWN HAP len1 len2 ⊢
    have hml : m ≤ k := len2
    have HL1 := Lib.hid len1
    clear len1 len2
    by_cases hlt : k < n
    · obtain ⟨x, hx⟩ := getElem?_of_lt (l := l) (by rw [HN.out]; exact hlt : k < l.length)
      obtain ⟨b2, o2, hB2, hb2, hc2⟩ := HB.out.at hx
      subst hB2
      have hcx := fun j u hu => (HBW1.out.cell (p := ⟨b2, o2 + k * 4 + j, none⟩) hb2).trans (hc2 j u hu)
      have y0 := hcx 0 _ rfl
      have y1 := hcx 1 _ rfl
      have y2 := hcx 2 _ rfl
      have y3 := hcx 3 _ rfl
      simp only [Nat.add_zero] at y0
      have HX := Lib.hid hx
      have HC2 := Lib.hid hc2
      have HB2 := Lib.hid hb2
      clear hcx hx hc2 hb2
      have i1 : (0 : Int) ≤ k := by omega
      have i2 : (k : Int) < n := by omega
      have HPUT := Lib.hid (put_L g S1 draws _ x wr HSK1.out (by rw [HL1.out]; omega))
      go_wp2_with fail
      refine HPUT.out.mono ?_
      rintro e w3 ⟨rfl, hu3, S3, hg3, hs3⟩
      have hb3 : Below w.heap.size wr w3 := hu3.bel HGE.out HBW1.out.size
      have hge3 : ∀ j, S3 j → w.heap.size ≤ j := hg3.ge HGE.out HBW1.out.size
      have hown3 := HOWN.out.upd hu3 HAP.out
      have hcx := fun j u hu => (hb3.cell (p := ⟨b2, o2 + k * 4 + j, none⟩) HB2.out).trans ((HBW1.out.cell (p := ⟨b2, o2 + k * 4 + j, none⟩) HB2.out).trans (HC2.out j u hu))
      have z0 := hcx 0 _ rfl
      have z1 := hcx 1 _ rfl
      have z2 := hcx 2 _ rfl
      have z3 := hcx 3 _ rfl
      simp only [Nat.add_zero] at z0
      have HU3 := Lib.hid hu3
      have HG3 := Lib.hid hg3
      have HS3 := Lib.hid hs3
      have HGE3 := Lib.hid hge3
      have HOWN3 := Lib.hid hown3
      have HBW3 := Lib.hid (HBW1.out.trans hb3)
      have HMT := Lib.hid (madeF_take (draws := draws) HX.out)
      clear hcx hu3 hg3 hs3 hge3 hown3 hb3 y0 y1 y2 y3
      cases hh : hasL (madeF draws (l.take k)).1 x with
      | true =>
        have HST := Lib.hid (show madeF draws (l.take (k + 1)) = madeF draws (l.take k) by rw [HMT.out]; unfold madeS; rw [if_pos hh])
        have HPS := Lib.hid (show putS draws (madeF draws (l.take k)).1 x = (madeF draws (l.take k)).1 by unfold putS; rw [if_pos hh])
        clear hh
        go_wp2_with fail
        go_roundw
        case rel => exact ⟨k + 1, S3, by first | rfl | simp, by omega, by rw [HST.out, ← HPS.out]; exact HS3.out, by rw [HST.out]; exact HOWN3.out, fun j hj h3 => by (rcases HG3.out j h3 with h | h; exact HAP.out j hj h; have := (HOWN.out.block_lt (k := j) hj).2; omega), HGE3.out, HBW3.out⟩
        case measure => simp [intOf]; omega
      | false =>
        have HST := Lib.hid (show madeF draws (l.take (k + 1)) = (putS draws (madeF draws (l.take k)).1 x, (madeF draws (l.take k)).2 ++ [x]) by rw [HMT.out]; unfold madeS putS; rw [if_neg (by rw [hh]; decide), if_neg (by rw [hh]; decide)])
        clear hh
        go_wp2_with (at_builtin; refine wpList_app rfl (.tmp 27) (.tmp 32) rfl uSlE infoE rfl (by decide) (by decide) okE (.slice A1 m c1) (madeF draws (l.take k)).2 rfl (base := w.heap.size) ?c1 (some ⟨w3.heap.size, 0, none⟩) 1 [x] rfl ?c2 ?c3 ?c4 ?_)
        case c1 => exact HOWN3.out.below ((Below.refl _ _).alloc (Nat.le_refl _) _)
        case c2 => exact Sl.one okE w3 x 53 rfl
        case c3 => have := HL1.out; simp; omega
        case c4 => have := HBW3.out.size; simp; omega
        intro v4 w4 ho4 hg4 hat4
        have HAP3 := Lib.hid (show ∀ j, (Value.slice A1 m c1).ownBlock = some j → ¬ S3 j from fun j hj h3 => by (rcases HG3.out j h3 with h | h; exact HAP.out j hj h; have := (HOWN.out.block_lt (k := j) hj).2; omega))
        have HS4 := Lib.hid ((HS3.out.later ((Below.refl _ _).alloc (Nat.le_refl _) (.cells #[.string x.1, .int .u64 x.2.1, .bool x.2.2.1, .string x.2.2.2] 53))).upd (Upd.of_grown (S := fun k => (Value.slice A1 m c1).ownBlock = some k) hg4 (fun k hk => hk)) (fun j h3 hj => HAP3.out j hj h3))
        have HB4 := Lib.hid (HBW3.out.trans ((((Below.refl _ _).alloc (Nat.le_refl _) (.cells #[.string x.1, .int .u64 x.2.1, .bool x.2.2.1, .string x.2.2.2] 53)).mono HBW3.out.size).trans ((Upd.of_grown (S := fun k => w.heap.size ≤ k) hg4 (fun k hk => (HOWN.out.block_lt hk).1)).bel (fun _ h => h) (by have := HBW3.out.size; simp; omega))))
        have HAP4 := Lib.hid (show ∀ j, v4.ownBlock = some j → ¬ S3 j from fun j hj h3 => by
          rcases hat4 with h | h
          · exact HAP3.out j (by rw [← h]; exact hj) h3
          · rw [h] at hj
            injection hj with hj
            have h5 := HS3.out.lt j h3
            try rw [World.size_alloc] at hj
            omega)
        have HO4 := Lib.hid ho4
        clear ho4 hg4 hat4 z0 z1 z2 z3
        go_wp2
        go_roundw
        case rel => exact ⟨k + 1, S3, by first | rfl | simp, by omega, by rw [HST.out]; exact HS4.out, by rw [HST.out]; exact HO4.out, HAP4.out, HGE3.out, HB4.out⟩
        case measure => simp [intOf]; omega
    · have hkn : k = n := by omega
      subst hkn
      have e1 : l.take k = l := List.take_of_length_le (by rw [HN.out]; exact Nat.le_refl _)
      rw [e1] at HSK1 HOWN
      go_wp2
      go_ret2
      exact ⟨g, S1, _, rfl, HGE.out, HSK1.out, HOWN.out, HBW1.out⟩
end Go.Proofs.Ytjbbobhjomhnmaa.H
