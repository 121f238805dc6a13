/- The laws' batches: right, batches, numbered. Conditions: sizes. -/
import Derived.Test.YtjbbobhjomhnmaaIk1
import Derived.Test.YtjbbobhjomhnmaaSk6
namespace Go.Proofs.Ytjbbobhjomhnmaa.H
open Go Go.RowKit Go.Deep Go.Shelf Go.Proofs Go.Proofs.YtjbbobhjomhnmaaW.PrintWords
set_option linter.unusedVariables false
set_option linter.unusedSimpArgs false
theorem infoW : (Try.prog.info? 89).map (fun i => (i.zero, i.size, i.bytes)) = some (some (.agg #[.string ⟨#[]⟩, .bool false, .string ⟨#[]⟩]), 3, 40) := by kernel_rfl
theorem uSlW : Try.prog.underlying 87 = some (.slice 89) := Try.underlying87
theorem okW : EncOk encW 3 := fun x => ⟨rfl, by simp [encW, Value.oneCell']⟩
def cutB (s : ByteArray) (n : Nat) : ByteArray := if n < s.size then s.extract 0 n else s
def keyR (k : ByteArray) : ByteArray := cutB (if k.size = 0 then ⟨#[107]⟩ else k) 64
def rightW (x : Wri) : Wri := (keyR x.1, x.2.1, if x.2.1 then ⟨#[]⟩ else cutB x.2.2 512)
def rightL (l : List Wri) : List Wri := (l.take 16).map rightW
set_option maxHeartbeats 1600000 in
set_option maxRecDepth 100000 in
theorem right_c (A : Option Addr) (c : Nat) (l : List Wri) (w : World) (hs : Sl encW 3 w A l) :
    Calls Try.prog 45 #[.slice A l.length c] w fun e w' => ∃ v, e = .returned v ∧ Own encW 89 3 w' w.heap.size v (rightL l) ∧ Below w.heap.size w w' := by
  have hm := hs.1
  have HS := Lib.hid hs
  clear hs
  obtain ⟨n, hn⟩ : ∃ n, l.length = n := ⟨_, rfl⟩
  rw [hn] at hm ⊢
  have HN := Lib.hid hn
  clear hn
  go_enter Try.func45, Try.ntmps45
  go_wp2_with fail
  go_loopw [3, 4] (fun s3 s4 wr => ∃ k : Nat, s4 = .int .i64 k ∧ k ≤ n ∧ k ≤ 16 ∧ Own encW 89 3 wr w.heap.size s3 ((l.take k).map rightW) ∧ Below w.heap.size w wr) (fun s3 s4 wr => n - (intOf s4).toNat)
  case atStart => exact ⟨0, rfl, by omega, by omega, by simpa using Own.nil _ _ _ _ _, Below.refl _ _⟩
  case round =>
    obtain ⟨k, rfl, hk, hk16, hown, hbw⟩ := hrel
    obtain ⟨A1, c1, rfl⟩ := own_slice hown
    have HOWN := Lib.hid hown
    have HBW := Lib.hid hbw
    clear hown hbw
    obtain ⟨dn, hdn⟩ : ∃ d, (l.take k).map rightW = d := ⟨_, rfl⟩
    have hdl : dn.length = k := by rw [← hdn, List.length_map, List.length_take, HN.out]; omega
    rw [hdn] at HOWN ⊢
    rw [hdl] at HOWN ⊢
    have HDN := Lib.hid hdn
    have HDL := Lib.hid hdl
    clear hdn hdl
    by_cases hlt : k < n
    · by_cases h16 : k < 16
      · obtain ⟨x, hx⟩ := getElem?_of_lt (l := l) (by rw [HN.out]; exact hlt : k < l.length)
        obtain ⟨b2, o2, hB2, hb2, hc2⟩ := (HS.out.later HBW.out).at hx
        subst hB2
        have y0 : wr.cell? ⟨b2, o2 + k * 3, none⟩ = some (.string x.1) := hc2 0 _ rfl
        have y1 : wr.cell? ⟨b2, o2 + k * 3 + 1, none⟩ = some (.bool x.2.1) := hc2 1 _ rfl
        have y2 : wr.cell? ⟨b2, o2 + k * 3 + 2, none⟩ = some (.string x.2.2) := hc2 2 _ rfl
        have HX := Lib.hid hx
        clear hc2 hx
        have i1 : (0 : Int) ≤ k := by omega
        have i2 : (k : Int) < n := by omega
        have i3 : (k : Int) < 16 := by omega
        have HSN := Lib.hid (show (l.take (k + 1)).map rightW = dn ++ [rightW x] by rw [← HDN.out, List.take_add_one, HX.out]; simp)
        obtain ⟨xk, xd, xv⟩ := x
        clear HX
        by_cases hk : xk.size = 0
        · skip
          cases xd with
          | true =>
            by_cases hv : 512 < xv.size
            · skip
              have HR := Lib.hid (show rightW (xk, true, xv) = ((⟨#[107]⟩ : ByteArray), true, (⟨#[]⟩ : ByteArray)) by
                have h1 : keyR xk = (⟨#[107]⟩ : ByteArray) := by
                  unfold keyR cutB
                  rw [if_pos hk, if_neg (by decide)]
                have h2 : (if true = true then (⟨#[]⟩ : ByteArray) else cutB xv 512) = (⟨#[]⟩ : ByteArray) := by
                  rfl
                unfold rightW
                rw [h1]
                exact congrArg (fun v => ((⟨#[107]⟩ : ByteArray), true, v)) h2)




              go_wp2_with (at_builtin; refine wpList_app rfl (.tmp 44) (.tmp 46) rfl uSlW infoW rfl (by decide) (by decide) okW (.slice A1 k c1) dn rfl (base := w.heap.size) ?c1 (some ⟨wr.heap.size + 1, 0, none⟩) 1 [rightW (xk, true, xv)] rfl ?c2 ?c3 ?c4 ?_)
              case c1 => exact (HOWN.out.below ((Below.refl _ _).alloc (Nat.le_refl _) _)).below ((Below.refl _ _).alloc (Nat.le_refl _) _)
              case c2 => exact Sl.of_block (fun x => (okW x).1) (alloc2_new _ _ _) (by rw [HR.out]; first | rfl | kernel_rfl | (simp [encW]; done)) (by simp)
              case c3 => have := HDL.out; simp; omega
              case c4 => have := HBW.out.size; first | (simp; omega) | omega
              intro v1 w1 ho1 hg1 hat1
              have HB1 := Lib.hid (((HBW.out.alloc HBW.out.size _).alloc (by have := HBW.out.size; simp; omega) _).grown hg1 (by have := HBW.out.size; simp; omega) (fun k hk => (HOWN.out.block_lt hk).1))
              have HO1 := Lib.hid ho1
              clear ho1 hg1 hat1
              go_wp2
              go_roundw
              case rel => exact ⟨k + 1, by first | rfl | simp, by omega, by omega, by rw [HSN.out]; exact HO1.out, HB1.out⟩
              case measure => simp [intOf]; omega
            · skip
              have HR := Lib.hid (show rightW (xk, true, xv) = ((⟨#[107]⟩ : ByteArray), true, (⟨#[]⟩ : ByteArray)) by
                have h1 : keyR xk = (⟨#[107]⟩ : ByteArray) := by
                  unfold keyR cutB
                  rw [if_pos hk, if_neg (by decide)]
                have h2 : (if true = true then (⟨#[]⟩ : ByteArray) else cutB xv 512) = (⟨#[]⟩ : ByteArray) := by
                  rfl
                unfold rightW
                rw [h1]
                exact congrArg (fun v => ((⟨#[107]⟩ : ByteArray), true, v)) h2)



              have hv' : ¬ (512 : Int) < (xv.size : Int) := by omega
              go_wp2_with (at_builtin; refine wpList_app rfl (.tmp 44) (.tmp 46) rfl uSlW infoW rfl (by decide) (by decide) okW (.slice A1 k c1) dn rfl (base := w.heap.size) ?c1 (some ⟨wr.heap.size + 1, 0, none⟩) 1 [rightW (xk, true, xv)] rfl ?c2 ?c3 ?c4 ?_)
              case c1 => exact (HOWN.out.below ((Below.refl _ _).alloc (Nat.le_refl _) _)).below ((Below.refl _ _).alloc (Nat.le_refl _) _)
              case c2 => exact Sl.of_block (fun x => (okW x).1) (alloc2_new _ _ _) (by rw [HR.out]; first | rfl | kernel_rfl | (simp [encW]; done)) (by simp)
              case c3 => have := HDL.out; simp; omega
              case c4 => have := HBW.out.size; first | (simp; omega) | omega
              intro v1 w1 ho1 hg1 hat1
              have HB1 := Lib.hid (((HBW.out.alloc HBW.out.size _).alloc (by have := HBW.out.size; simp; omega) _).grown hg1 (by have := HBW.out.size; simp; omega) (fun k hk => (HOWN.out.block_lt hk).1))
              have HO1 := Lib.hid ho1
              clear ho1 hg1 hat1
              go_wp2
              go_roundw
              case rel => exact ⟨k + 1, by first | rfl | simp, by omega, by omega, by rw [HSN.out]; exact HO1.out, HB1.out⟩
              case measure => simp [intOf]; omega
          | false =>
            by_cases hv : 512 < xv.size
            · skip
              have HR := Lib.hid (show rightW (xk, false, xv) = ((⟨#[107]⟩ : ByteArray), false, xv.extract 0 512) by
                have h1 : keyR xk = (⟨#[107]⟩ : ByteArray) := by
                  unfold keyR cutB
                  rw [if_pos hk, if_neg (by decide)]
                have h2 : (if false = true then (⟨#[]⟩ : ByteArray) else cutB xv 512) = xv.extract 0 512 := by
                  show cutB xv 512 = _; unfold cutB; rw [if_pos hv]
                unfold rightW
                rw [h1]
                exact congrArg (fun v => ((⟨#[107]⟩ : ByteArray), false, v)) h2)




              go_wp2_with (at_builtin; refine wpList_app rfl (.tmp 44) (.tmp 46) rfl uSlW infoW rfl (by decide) (by decide) okW (.slice A1 k c1) dn rfl (base := w.heap.size) ?c1 (some ⟨wr.heap.size + 1, 0, none⟩) 1 [rightW (xk, false, xv)] rfl ?c2 ?c3 ?c4 ?_)
              case c1 => exact (HOWN.out.below ((Below.refl _ _).alloc (Nat.le_refl _) _)).below ((Below.refl _ _).alloc (Nat.le_refl _) _)
              case c2 => exact Sl.of_block (fun x => (okW x).1) (alloc2_new _ _ _) (by rw [HR.out]; first | rfl | kernel_rfl | (simp [encW]; done)) (by simp)
              case c3 => have := HDL.out; simp; omega
              case c4 => have := HBW.out.size; first | (simp; omega) | omega
              intro v1 w1 ho1 hg1 hat1
              have HB1 := Lib.hid (((HBW.out.alloc HBW.out.size _).alloc (by have := HBW.out.size; simp; omega) _).grown hg1 (by have := HBW.out.size; simp; omega) (fun k hk => (HOWN.out.block_lt hk).1))
              have HO1 := Lib.hid ho1
              clear ho1 hg1 hat1
              go_wp2
              go_roundw
              case rel => exact ⟨k + 1, by first | rfl | simp, by omega, by omega, by rw [HSN.out]; exact HO1.out, HB1.out⟩
              case measure => simp [intOf]; omega
            · skip
              have HR := Lib.hid (show rightW (xk, false, xv) = ((⟨#[107]⟩ : ByteArray), false, xv) by
                have h1 : keyR xk = (⟨#[107]⟩ : ByteArray) := by
                  unfold keyR cutB
                  rw [if_pos hk, if_neg (by decide)]
                have h2 : (if false = true then (⟨#[]⟩ : ByteArray) else cutB xv 512) = xv := by
                  show cutB xv 512 = _; unfold cutB; rw [if_neg hv]
                unfold rightW
                rw [h1]
                exact congrArg (fun v => ((⟨#[107]⟩ : ByteArray), false, v)) h2)



              have hv' : ¬ (512 : Int) < (xv.size : Int) := by omega
              go_wp2_with (at_builtin; refine wpList_app rfl (.tmp 44) (.tmp 46) rfl uSlW infoW rfl (by decide) (by decide) okW (.slice A1 k c1) dn rfl (base := w.heap.size) ?c1 (some ⟨wr.heap.size + 1, 0, none⟩) 1 [rightW (xk, false, xv)] rfl ?c2 ?c3 ?c4 ?_)
              case c1 => exact (HOWN.out.below ((Below.refl _ _).alloc (Nat.le_refl _) _)).below ((Below.refl _ _).alloc (Nat.le_refl _) _)
              case c2 => exact Sl.of_block (fun x => (okW x).1) (alloc2_new _ _ _) (by rw [HR.out]; first | rfl | kernel_rfl | (simp [encW]; done)) (by simp)
              case c3 => have := HDL.out; simp; omega
              case c4 => have := HBW.out.size; first | (simp; omega) | omega
              intro v1 w1 ho1 hg1 hat1
              have HB1 := Lib.hid (((HBW.out.alloc HBW.out.size _).alloc (by have := HBW.out.size; simp; omega) _).grown hg1 (by have := HBW.out.size; simp; omega) (fun k hk => (HOWN.out.block_lt hk).1))
              have HO1 := Lib.hid ho1
              clear ho1 hg1 hat1
              go_wp2
              go_roundw
              case rel => exact ⟨k + 1, by first | rfl | simp, by omega, by omega, by rw [HSN.out]; exact HO1.out, HB1.out⟩
              case measure => simp [intOf]; omega
        · by_cases hk64 : 64 < xk.size
          · skip
            cases xd with
            | true =>
              by_cases hv : 512 < xv.size
              · skip
                have HR := Lib.hid (show rightW (xk, true, xv) = (xk.extract 0 64, true, (⟨#[]⟩ : ByteArray)) by
                  have h1 : keyR xk = xk.extract 0 64 := by
                    unfold keyR cutB
                    rw [if_neg hk, if_pos hk64]
                  have h2 : (if true = true then (⟨#[]⟩ : ByteArray) else cutB xv 512) = (⟨#[]⟩ : ByteArray) := by
                    rfl
                  unfold rightW
                  rw [h1]
                  exact congrArg (fun v => (xk.extract 0 64, true, v)) h2)
                have hk' : ((xk.size : Int) == 0) = false := by simpa using hk
                have hk2' : ¬ (xk.size : Int) = 0 := by omega


                go_wp2_with (at_builtin; refine wpList_app rfl (.tmp 44) (.tmp 46) rfl uSlW infoW rfl (by decide) (by decide) okW (.slice A1 k c1) dn rfl (base := w.heap.size) ?c1 (some ⟨wr.heap.size + 1, 0, none⟩) 1 [rightW (xk, true, xv)] rfl ?c2 ?c3 ?c4 ?_)
                case c1 => exact (HOWN.out.below ((Below.refl _ _).alloc (Nat.le_refl _) _)).below ((Below.refl _ _).alloc (Nat.le_refl _) _)
                case c2 => exact Sl.of_block (fun x => (okW x).1) (alloc2_new _ _ _) (by rw [HR.out]; first | rfl | kernel_rfl | (simp [encW]; done)) (by simp)
                case c3 => have := HDL.out; simp; omega
                case c4 => have := HBW.out.size; first | (simp; omega) | omega
                intro v1 w1 ho1 hg1 hat1
                have HB1 := Lib.hid (((HBW.out.alloc HBW.out.size _).alloc (by have := HBW.out.size; simp; omega) _).grown hg1 (by have := HBW.out.size; simp; omega) (fun k hk => (HOWN.out.block_lt hk).1))
                have HO1 := Lib.hid ho1
                clear ho1 hg1 hat1
                go_wp2
                go_roundw
                case rel => exact ⟨k + 1, by first | rfl | simp, by omega, by omega, by rw [HSN.out]; exact HO1.out, HB1.out⟩
                case measure => simp [intOf]; omega
              · skip
                have HR := Lib.hid (show rightW (xk, true, xv) = (xk.extract 0 64, true, (⟨#[]⟩ : ByteArray)) by
                  have h1 : keyR xk = xk.extract 0 64 := by
                    unfold keyR cutB
                    rw [if_neg hk, if_pos hk64]
                  have h2 : (if true = true then (⟨#[]⟩ : ByteArray) else cutB xv 512) = (⟨#[]⟩ : ByteArray) := by
                    rfl
                  unfold rightW
                  rw [h1]
                  exact congrArg (fun v => (xk.extract 0 64, true, v)) h2)
                have hk' : ((xk.size : Int) == 0) = false := by simpa using hk
                have hk2' : ¬ (xk.size : Int) = 0 := by omega

                have hv' : ¬ (512 : Int) < (xv.size : Int) := by omega
                go_wp2_with (at_builtin; refine wpList_app rfl (.tmp 44) (.tmp 46) rfl uSlW infoW rfl (by decide) (by decide) okW (.slice A1 k c1) dn rfl (base := w.heap.size) ?c1 (some ⟨wr.heap.size + 1, 0, none⟩) 1 [rightW (xk, true, xv)] rfl ?c2 ?c3 ?c4 ?_)
                case c1 => exact (HOWN.out.below ((Below.refl _ _).alloc (Nat.le_refl _) _)).below ((Below.refl _ _).alloc (Nat.le_refl _) _)
                case c2 => exact Sl.of_block (fun x => (okW x).1) (alloc2_new _ _ _) (by rw [HR.out]; first | rfl | kernel_rfl | (simp [encW]; done)) (by simp)
                case c3 => have := HDL.out; simp; omega
                case c4 => have := HBW.out.size; first | (simp; omega) | omega
                intro v1 w1 ho1 hg1 hat1
                have HB1 := Lib.hid (((HBW.out.alloc HBW.out.size _).alloc (by have := HBW.out.size; simp; omega) _).grown hg1 (by have := HBW.out.size; simp; omega) (fun k hk => (HOWN.out.block_lt hk).1))
                have HO1 := Lib.hid ho1
                clear ho1 hg1 hat1
                go_wp2
                go_roundw
                case rel => exact ⟨k + 1, by first | rfl | simp, by omega, by omega, by rw [HSN.out]; exact HO1.out, HB1.out⟩
                case measure => simp [intOf]; omega
            | false =>
              by_cases hv : 512 < xv.size
              · skip
                have HR := Lib.hid (show rightW (xk, false, xv) = (xk.extract 0 64, false, xv.extract 0 512) by
                  have h1 : keyR xk = xk.extract 0 64 := by
                    unfold keyR cutB
                    rw [if_neg hk, if_pos hk64]
                  have h2 : (if false = true then (⟨#[]⟩ : ByteArray) else cutB xv 512) = xv.extract 0 512 := by
                    show cutB xv 512 = _; unfold cutB; rw [if_pos hv]
                  unfold rightW
                  rw [h1]
                  exact congrArg (fun v => (xk.extract 0 64, false, v)) h2)
                have hk' : ((xk.size : Int) == 0) = false := by simpa using hk
                have hk2' : ¬ (xk.size : Int) = 0 := by omega


                go_wp2_with (at_builtin; refine wpList_app rfl (.tmp 44) (.tmp 46) rfl uSlW infoW rfl (by decide) (by decide) okW (.slice A1 k c1) dn rfl (base := w.heap.size) ?c1 (some ⟨wr.heap.size + 1, 0, none⟩) 1 [rightW (xk, false, xv)] rfl ?c2 ?c3 ?c4 ?_)
                case c1 => exact (HOWN.out.below ((Below.refl _ _).alloc (Nat.le_refl _) _)).below ((Below.refl _ _).alloc (Nat.le_refl _) _)
                case c2 => exact Sl.of_block (fun x => (okW x).1) (alloc2_new _ _ _) (by rw [HR.out]; first | rfl | kernel_rfl | (simp [encW]; done)) (by simp)
                case c3 => have := HDL.out; simp; omega
                case c4 => have := HBW.out.size; first | (simp; omega) | omega
                intro v1 w1 ho1 hg1 hat1
                have HB1 := Lib.hid (((HBW.out.alloc HBW.out.size _).alloc (by have := HBW.out.size; simp; omega) _).grown hg1 (by have := HBW.out.size; simp; omega) (fun k hk => (HOWN.out.block_lt hk).1))
                have HO1 := Lib.hid ho1
                clear ho1 hg1 hat1
                go_wp2
                go_roundw
                case rel => exact ⟨k + 1, by first | rfl | simp, by omega, by omega, by rw [HSN.out]; exact HO1.out, HB1.out⟩
                case measure => simp [intOf]; omega
              · skip
                have HR := Lib.hid (show rightW (xk, false, xv) = (xk.extract 0 64, false, xv) by
                  have h1 : keyR xk = xk.extract 0 64 := by
                    unfold keyR cutB
                    rw [if_neg hk, if_pos hk64]
                  have h2 : (if false = true then (⟨#[]⟩ : ByteArray) else cutB xv 512) = xv := by
                    show cutB xv 512 = _; unfold cutB; rw [if_neg hv]
                  unfold rightW
                  rw [h1]
                  exact congrArg (fun v => (xk.extract 0 64, false, v)) h2)
                have hk' : ((xk.size : Int) == 0) = false := by simpa using hk
                have hk2' : ¬ (xk.size : Int) = 0 := by omega

                have hv' : ¬ (512 : Int) < (xv.size : Int) := by omega
                go_wp2_with (at_builtin; refine wpList_app rfl (.tmp 44) (.tmp 46) rfl uSlW infoW rfl (by decide) (by decide) okW (.slice A1 k c1) dn rfl (base := w.heap.size) ?c1 (some ⟨wr.heap.size + 1, 0, none⟩) 1 [rightW (xk, false, xv)] rfl ?c2 ?c3 ?c4 ?_)
                case c1 => exact (HOWN.out.below ((Below.refl _ _).alloc (Nat.le_refl _) _)).below ((Below.refl _ _).alloc (Nat.le_refl _) _)
                case c2 => exact Sl.of_block (fun x => (okW x).1) (alloc2_new _ _ _) (by rw [HR.out]; first | rfl | kernel_rfl | (simp [encW]; done)) (by simp)
                case c3 => have := HDL.out; simp; omega
                case c4 => have := HBW.out.size; first | (simp; omega) | omega
                intro v1 w1 ho1 hg1 hat1
                have HB1 := Lib.hid (((HBW.out.alloc HBW.out.size _).alloc (by have := HBW.out.size; simp; omega) _).grown hg1 (by have := HBW.out.size; simp; omega) (fun k hk => (HOWN.out.block_lt hk).1))
                have HO1 := Lib.hid ho1
                clear ho1 hg1 hat1
                go_wp2
                go_roundw
                case rel => exact ⟨k + 1, by first | rfl | simp, by omega, by omega, by rw [HSN.out]; exact HO1.out, HB1.out⟩
                case measure => simp [intOf]; omega
          · skip
            cases xd with
            | true =>
              by_cases hv : 512 < xv.size
              · skip
                have HR := Lib.hid (show rightW (xk, true, xv) = (xk, true, (⟨#[]⟩ : ByteArray)) by
                  have h1 : keyR xk = xk := by
                    unfold keyR cutB
                    rw [if_neg hk, if_neg hk64]
                  have h2 : (if true = true then (⟨#[]⟩ : ByteArray) else cutB xv 512) = (⟨#[]⟩ : ByteArray) := by
                    rfl
                  unfold rightW
                  rw [h1]
                  exact congrArg (fun v => (xk, true, v)) h2)
                have hk' : ((xk.size : Int) == 0) = false := by simpa using hk
                have hk2' : ¬ (xk.size : Int) = 0 := by omega
                have hk3' : ¬ (64 : Int) < (xk.size : Int) := by omega

                go_wp2_with (at_builtin; refine wpList_app rfl (.tmp 44) (.tmp 46) rfl uSlW infoW rfl (by decide) (by decide) okW (.slice A1 k c1) dn rfl (base := w.heap.size) ?c1 (some ⟨wr.heap.size + 1, 0, none⟩) 1 [rightW (xk, true, xv)] rfl ?c2 ?c3 ?c4 ?_)
                case c1 => exact (HOWN.out.below ((Below.refl _ _).alloc (Nat.le_refl _) _)).below ((Below.refl _ _).alloc (Nat.le_refl _) _)
                case c2 => exact Sl.of_block (fun x => (okW x).1) (alloc2_new _ _ _) (by rw [HR.out]; first | rfl | kernel_rfl | (simp [encW]; done)) (by simp)
                case c3 => have := HDL.out; simp; omega
                case c4 => have := HBW.out.size; first | (simp; omega) | omega
                intro v1 w1 ho1 hg1 hat1
                have HB1 := Lib.hid (((HBW.out.alloc HBW.out.size _).alloc (by have := HBW.out.size; simp; omega) _).grown hg1 (by have := HBW.out.size; simp; omega) (fun k hk => (HOWN.out.block_lt hk).1))
                have HO1 := Lib.hid ho1
                clear ho1 hg1 hat1
                go_wp2
                go_roundw
                case rel => exact ⟨k + 1, by first | rfl | simp, by omega, by omega, by rw [HSN.out]; exact HO1.out, HB1.out⟩
                case measure => simp [intOf]; omega
              · skip
                have HR := Lib.hid (show rightW (xk, true, xv) = (xk, true, (⟨#[]⟩ : ByteArray)) by
                  have h1 : keyR xk = xk := by
                    unfold keyR cutB
                    rw [if_neg hk, if_neg hk64]
                  have h2 : (if true = true then (⟨#[]⟩ : ByteArray) else cutB xv 512) = (⟨#[]⟩ : ByteArray) := by
                    rfl
                  unfold rightW
                  rw [h1]
                  exact congrArg (fun v => (xk, true, v)) h2)
                have hk' : ((xk.size : Int) == 0) = false := by simpa using hk
                have hk2' : ¬ (xk.size : Int) = 0 := by omega
                have hk3' : ¬ (64 : Int) < (xk.size : Int) := by omega
                have hv' : ¬ (512 : Int) < (xv.size : Int) := by omega
                go_wp2_with (at_builtin; refine wpList_app rfl (.tmp 44) (.tmp 46) rfl uSlW infoW rfl (by decide) (by decide) okW (.slice A1 k c1) dn rfl (base := w.heap.size) ?c1 (some ⟨wr.heap.size + 1, 0, none⟩) 1 [rightW (xk, true, xv)] rfl ?c2 ?c3 ?c4 ?_)
                case c1 => exact (HOWN.out.below ((Below.refl _ _).alloc (Nat.le_refl _) _)).below ((Below.refl _ _).alloc (Nat.le_refl _) _)
                case c2 => exact Sl.of_block (fun x => (okW x).1) (alloc2_new _ _ _) (by rw [HR.out]; first | rfl | kernel_rfl | (simp [encW]; done)) (by simp)
                case c3 => have := HDL.out; simp; omega
                case c4 => have := HBW.out.size; first | (simp; omega) | omega
                intro v1 w1 ho1 hg1 hat1
                have HB1 := Lib.hid (((HBW.out.alloc HBW.out.size _).alloc (by have := HBW.out.size; simp; omega) _).grown hg1 (by have := HBW.out.size; simp; omega) (fun k hk => (HOWN.out.block_lt hk).1))
                have HO1 := Lib.hid ho1
                clear ho1 hg1 hat1
                go_wp2
                go_roundw
                case rel => exact ⟨k + 1, by first | rfl | simp, by omega, by omega, by rw [HSN.out]; exact HO1.out, HB1.out⟩
                case measure => simp [intOf]; omega
            | false =>
              by_cases hv : 512 < xv.size
              · skip
                have HR := Lib.hid (show rightW (xk, false, xv) = (xk, false, xv.extract 0 512) by
                  have h1 : keyR xk = xk := by
                    unfold keyR cutB
                    rw [if_neg hk, if_neg hk64]
                  have h2 : (if false = true then (⟨#[]⟩ : ByteArray) else cutB xv 512) = xv.extract 0 512 := by
                    show cutB xv 512 = _; unfold cutB; rw [if_pos hv]
                  unfold rightW
                  rw [h1]
                  exact congrArg (fun v => (xk, false, v)) h2)
                have hk' : ((xk.size : Int) == 0) = false := by simpa using hk
                have hk2' : ¬ (xk.size : Int) = 0 := by omega
                have hk3' : ¬ (64 : Int) < (xk.size : Int) := by omega

                go_wp2_with (at_builtin; refine wpList_app rfl (.tmp 44) (.tmp 46) rfl uSlW infoW rfl (by decide) (by decide) okW (.slice A1 k c1) dn rfl (base := w.heap.size) ?c1 (some ⟨wr.heap.size + 1, 0, none⟩) 1 [rightW (xk, false, xv)] rfl ?c2 ?c3 ?c4 ?_)
                case c1 => exact (HOWN.out.below ((Below.refl _ _).alloc (Nat.le_refl _) _)).below ((Below.refl _ _).alloc (Nat.le_refl _) _)
                case c2 => exact Sl.of_block (fun x => (okW x).1) (alloc2_new _ _ _) (by rw [HR.out]; first | rfl | kernel_rfl | (simp [encW]; done)) (by simp)
                case c3 => have := HDL.out; simp; omega
                case c4 => have := HBW.out.size; first | (simp; omega) | omega
                intro v1 w1 ho1 hg1 hat1
                have HB1 := Lib.hid (((HBW.out.alloc HBW.out.size _).alloc (by have := HBW.out.size; simp; omega) _).grown hg1 (by have := HBW.out.size; simp; omega) (fun k hk => (HOWN.out.block_lt hk).1))
                have HO1 := Lib.hid ho1
                clear ho1 hg1 hat1
                go_wp2
                go_roundw
                case rel => exact ⟨k + 1, by first | rfl | simp, by omega, by omega, by rw [HSN.out]; exact HO1.out, HB1.out⟩
                case measure => simp [intOf]; omega
              · skip
                have HR := Lib.hid (show rightW (xk, false, xv) = (xk, false, xv) by
                  have h1 : keyR xk = xk := by
                    unfold keyR cutB
                    rw [if_neg hk, if_neg hk64]
                  have h2 : (if false = true then (⟨#[]⟩ : ByteArray) else cutB xv 512) = xv := by
                    show cutB xv 512 = _; unfold cutB; rw [if_neg hv]
                  unfold rightW
                  rw [h1]
                  exact congrArg (fun v => (xk, false, v)) h2)
                have hk' : ((xk.size : Int) == 0) = false := by simpa using hk
                have hk2' : ¬ (xk.size : Int) = 0 := by omega
                have hk3' : ¬ (64 : Int) < (xk.size : Int) := by omega
                have hv' : ¬ (512 : Int) < (xv.size : Int) := by omega
                go_wp2_with (at_builtin; refine wpList_app rfl (.tmp 44) (.tmp 46) rfl uSlW infoW rfl (by decide) (by decide) okW (.slice A1 k c1) dn rfl (base := w.heap.size) ?c1 (some ⟨wr.heap.size + 1, 0, none⟩) 1 [rightW (xk, false, xv)] rfl ?c2 ?c3 ?c4 ?_)
                case c1 => exact (HOWN.out.below ((Below.refl _ _).alloc (Nat.le_refl _) _)).below ((Below.refl _ _).alloc (Nat.le_refl _) _)
                case c2 => exact Sl.of_block (fun x => (okW x).1) (alloc2_new _ _ _) (by rw [HR.out]; first | rfl | kernel_rfl | (simp [encW]; done)) (by simp)
                case c3 => have := HDL.out; simp; omega
                case c4 => have := HBW.out.size; first | (simp; omega) | omega
                intro v1 w1 ho1 hg1 hat1
                have HB1 := Lib.hid (((HBW.out.alloc HBW.out.size _).alloc (by have := HBW.out.size; simp; omega) _).grown hg1 (by have := HBW.out.size; simp; omega) (fun k hk => (HOWN.out.block_lt hk).1))
                have HO1 := Lib.hid ho1
                clear ho1 hg1 hat1
                go_wp2
                go_roundw
                case rel => exact ⟨k + 1, by first | rfl | simp, by omega, by omega, by rw [HSN.out]; exact HO1.out, HB1.out⟩
                case measure => simp [intOf]; omega
      · have hk2 : k = 16 := by omega
        subst hk2
        have HE := Lib.hid (show dn = rightL l from HDN.out.symm)
        have i2 : ((16 : Nat) : Int) < n := by omega
        rw [HE.out] at HOWN
        go_wp2
        go_ret
        exact ⟨_, rfl, HOWN.out, HBW.out⟩
    · have hk2 : n = k := by omega
      subst hk2
      have HE := Lib.hid (show dn = rightL l by rw [← HDN.out]; unfold rightL; rw [List.take_of_length_le (by rw [HN.out]; exact Nat.le_refl _), List.take_of_length_le (by rw [HN.out]; exact hk16)])
      rw [HE.out] at HOWN
      go_wp2
      go_ret
      exact ⟨_, rfl, HOWN.out, HBW.out⟩
end Go.Proofs.Ytjbbobhjomhnmaa.H
