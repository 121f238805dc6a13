/- SievePicks' walk. Conditions: sizes. -/
import Derived.Test.YtdpijhpjicbecaaVA
namespace Go.Proofs.Ytdpijhpjicbecaa.H
open Go Go.RowKit Go.Deep Go.Shelf Go.Proofs Go.Proofs.YtdpijhpjicbecaaW.PrintWords
set_option linter.unusedVariables false
set_option linter.unusedSimpArgs false
attribute [local go_sem] Oper.semAt_some
set_option maxHeartbeats 12800000 in
set_option maxRecDepth 100000 in
theorem sievePicks_c (A : Option Addr) (c : Nat) (l : List Ent) (b : Bw) (w : World) (hs : Sl encE 4 w A l) (hb : b.at w) :
    Calls Try.prog 8 #[.slice A l.length c, .agg b.cells] w fun e w' => e = .returned (.bool true) ∧ Below w.heap.size w w' := by
  obtain ⟨W0, hW0⟩ : ∃ Z, (w.alloc (.cells #[.slice A l.length c] 27)).alloc (.cells b.cells 60) = Z := ⟨_, rfl⟩
  have k1 : W0.heap[w.heap.size]? = some (.cells #[.slice A l.length c] 27 (0, 0)) := by rw [← hW0]; exact blk_alloc (heap_alloc_new _ _) _
  have k2 : W0.heap[w.heap.size + 1]? = some (.cells b.cells 60 (0, 0)) := by rw [← hW0]; simpa using heap_alloc_new (w.alloc (.cells #[.slice A l.length c] 27)) (.cells b.cells 60)
  have hb0 : Below w.heap.size w W0 := by rw [← hW0]; exact ((Below.refl _ _).alloc (Nat.le_refl _) _).alloc (by simp) _
  have hm := hs.1
  have HS := Lib.hid hs
  have HBT := Lib.hid (show ∀ W, Below w.heap.size w W → b.at W from fun W h => ⟨hb.1.later h, hb.2.later h⟩)
  have HB0 := Lib.hid hb0
  have HK1 := Lib.hid k1
  have HK2 := Lib.hid k2
  have HREF := Lib.hid (fun (W : World) (h : Below w.heap.size w W) => refPick_c A c l b W (hs.later h) (HBT.out W h))
  have HASK := Lib.hid (fun (bo : Nat) (x : Ent) (W : World) (h : Below W0.heap.size W0 W) (ho : W.heap[bo]? = some (.cells #[.bool false] 4 (0, 0))) (hx : l[0]? = some x) => asks8_c bo w.heap.size (w.heap.size + 1) A c l b x W ho (blk_below HK1.out h) (blk_below HK2.out h) (HS.out.later (HB0.out.trans (h.mono HB0.out.size))) (HBT.out W (HB0.out.trans (h.mono HB0.out.size))) hx)
  have HKN := Lib.hid (known12_c W0)
  obtain ⟨bf, hbf⟩ : ∃ f, b.has = f := ⟨_, rfl⟩
  rw [hbf] at HREF HASK
  obtain ⟨bA, bc, ks, bB, bd, bh, nt⟩ := b
  have hmk : ks.length ≤ 9223372036854775807 := hb.1.1
  unfold Bw.cells at HREF HK2 hW0 ⊢
  dsimp only at HREF HK2 hW0 ⊢
  obtain ⟨n1, hn1⟩ : ∃ n, ks.length = n := ⟨_, rfl⟩
  obtain ⟨n2, hn2⟩ : ∃ n, bh.length = n := ⟨_, rfl⟩
  obtain ⟨n, hn⟩ : ∃ n, l.length = n := ⟨_, rfl⟩
  rw [hn1, hn2] at HREF HK2 hW0 ⊢
  rw [hn1] at hmk
  rw [hn] at HREF HK1 hW0 hm ⊢
  have HN := Lib.hid hn
  clear hs hb k1 k2 hb0 hn1 hn2 hn hbf
  go_enter Try.func8, Try.ntmps8
  go_wp2_with fail
  try rw [hW0]
  refine HKN.out.mono ?_
  clear HKN hW0
  rintro _ W1 ⟨rfl, hb1⟩
  have HB1 := Lib.hid hb1
  have HBW := Lib.hid (HB0.out.trans (hb1.mono HB0.out.size))
  have h1 := blk_below HK1.out hb1
  have h2 := blk_below HK2.out hb1
  have c1 : W1.cell? ⟨w.heap.size, 0, none⟩ = some (.slice A n c) := (blk_cell h1 0).trans rfl
  have c2 : W1.cell? ⟨w.heap.size + 1, 0, none⟩ = some (.slice bA n1 bc) := (blk_cell h2 0).trans rfl
  clear hb1 h1 h2
  by_cases hn4 : n ≤ 4000
  · have i1 : ¬ (4000 : Int) < n := by omega
    by_cases hk4 : n1 ≤ 4000
    · have i2 : ¬ (4000 : Int) < n1 := by omega
      go_wp2_with fail
      go_loopw [6] (fun s6 wr => ∃ i : Nat, s6 = .int .i64 i ∧ 1 ≤ i ∧ (∀ (j : Nat) (y x : Ent), j < i → l[j]? = some y → l[0]? = some x → y.1 = x.1) ∧ Below W1.heap.size W1 wr) (fun s6 wr => n - (intOf s6).toNat)
      case atStart => exact ⟨1, rfl, by omega, (fun j y x hj hy hx => by have h0 : j = 0 := (by omega); rw [h0, hx] at hy; injection hy with hy; rw [hy]), Below.refl _ _⟩
      case round =>
        obtain ⟨i, rfl, hi, hall, hb3⟩ := hrel
        generalize wr = W3 at *
        have HALL := Lib.hid hall
        have HB13 := Lib.hid hb3
        have HB3 := Lib.hid (HB1.out.trans (hb3.mono HB1.out.size))
        have d1 := cell_later hb3 c1
        have d2 := cell_later hb3 c2
        have j0 : (0 : Int) ≤ i := by omega
        clear hall hb3
        by_cases hlt : i < n
        · have j1 : (i : Int) < n := by omega
          have j2 : (0 : Int) < n := by omega
          obtain ⟨y, hy⟩ := getElem?_of_lt (l := l) (by rw [HN.out]; exact hlt : i < l.length)
          obtain ⟨x, hx⟩ := getElem?_of_lt (l := l) (by rw [HN.out]; omega : 0 < l.length)
          have HSW := HS.out.later (HB0.out.trans (HB3.out.mono HB0.out.size))
          obtain ⟨b1, o1, hA1, _, hc1⟩ := HSW.at hy
          obtain ⟨b2, o2, hA2, _, hc2⟩ := HSW.at hx
          rw [hA1] at hA2
          injection hA2 with hA2
          injection hA2 with hA2 hA3
          subst hA2 hA3
          subst hA1
          have y0 : W3.cell? ⟨b1, o1 + i * 4, none⟩ = some (.string y.1) := hc1 0 _ rfl
          have x0 : W3.cell? ⟨b1, o1, none⟩ = some (.string x.1) := by have := hc2 0 _ rfl; simpa using this
          have HY := Lib.hid hy
          have HX := Lib.hid hx
          clear hc1 hc2 HSW hx hy
          by_cases he : y.1 = x.1
          · have e1 : (y.1.toList == x.1.toList) = true := by rw [he]; simp
            have e2 : (y.1.toList != x.1.toList) = false := by rw [he]; simp
            have HE := Lib.hid he
            clear he
            go_wp2_with fail
            go_quiet (fail)
            go_wp2_with fail
            go_roundw
            case rel => exact ⟨i + 1, by first | rfl | simp, by omega, (fun j z x' hj hz hx' => by
              by_cases hji : j < i
              · exact HALL.out j z x' hji hz hx'
              · have : j = i := by omega
                subst this
                rw [HY.out] at hz
                rw [HX.out] at hx'
                injection hz with hz
                injection hx' with hx'
                rw [← hz, ← hx']
                exact HE.out), HB13.out.trans (((Upd.drewN (S := fun _ => False) _ _).bel (fun _ h => h.elim) (Nat.le_refl _)).mono HB13.out.size)⟩
            case measure => simp [intOf]; omega
          · have e1 : (y.1.toList == x.1.toList) = false := toList_ne he
            have HBE := Lib.hid (show ∀ nq, Below w.heap.size w (W3.drewN nq) from fun nq => (HB0.out.trans (HB3.out.mono HB0.out.size)).trans ((Upd.drewN (S := fun _ => False) _ _).bel (fun _ h => h.elim) (HB0.out.trans (HB3.out.mono HB0.out.size)).size))
            clear he
            go_wp2_with fail
            go_quiet (fail)
            go_wp2_with fail
            go_ret
            exact ⟨rfl, HBE.out _⟩
        · have HKEY := Lib.hid (show ∀ (y x : Ent), y ∈ l → l[0]? = some x → y.1 = x.1 from fun y x hy hx => by
            obtain ⟨j, hj⟩ := List.getElem?_of_mem hy
            exact HALL.out j y x (by have := (List.getElem?_eq_some_iff.1 hj).1; have := HN.out; omega) hj hx)
          clear HALL
          go_wp2_with (at_builtin; refine wpList_app rfl (.const (.slice none 0 0)) (.tmp 46) rfl uSlE infoE rfl (by decide) (by decide) okE (.slice none 0 0) [] rfl (base := W3.heap.size) ?c1 A c l (by rw [HN.out]; rfl) ?c2 ?c3 ?c4 ?_)
          case c1 => exact Own.nil _ _ _ _ _
          case c2 => exact HS.out.later (HB0.out.trans (HB3.out.mono HB0.out.size))
          case c3 => have := HN.out; simp; omega
          case c4 => omega
          intro v4 w4 ho4 hg4 _
          obtain ⟨A4, c4, rfl⟩ := own_slice ho4
          rw [HN.out] at ho4 ⊢
          have hb4 : Below W3.heap.size W3 w4 := (Below.refl _ _).grown hg4 (Nat.le_refl _) (fun k hk => by cases hk)
          go_wp2_with fail
          obtain ⟨W5, hW5⟩ : ∃ Z, w4.alloc (.cells #[.bool false] 4) = Z := ⟨_, rfl⟩
          have r5 : W5.heap[w4.heap.size]? = some (.cells #[.bool false] 4 (0, 0)) := by rw [← hW5]; exact heap_alloc_new _ _
          have b5 : Below w4.heap.size w4 W5 := by rw [← hW5]; exact (Below.refl _ _).alloc (Nat.le_refl _) _
          have HB5 := Lib.hid (HB3.out.trans ((hb4.trans (b5.mono hb4.size)).mono HB3.out.size))
          have HO5 := Lib.hid (ho4.below b5)
          have HR5 := Lib.hid r5
          obtain ⟨bo, hbo⟩ : ∃ bo, w4.heap.size = bo := ⟨_, rfl⟩
          rw [hbo] at HR5
          try rw [hW5]
          try rw [hbo]
          clear ho4 hg4 hb4 r5 b5 d1 d2 c1 c2
          clear hW5 hbo
          go_loopw [10] (fun s10 wr => ∃ i : Nat, s10 = .int .i64 i ∧ i ≤ 2 ∧ Below W5.heap.size W5 wr) (fun s10 wr => 2 - (intOf s10).toNat)
          case atStart => exact ⟨0, rfl, by omega, Below.refl _ _⟩
          case round =>
            obtain ⟨i, rfl, hi2, hb6⟩ := hrel
            generalize wr = W6 at *
            have HB56 := Lib.hid hb6
            have HB6 := Lib.hid (HB5.out.trans (hb6.mono HB5.out.size))
            have j0 : (0 : Int) ≤ i := by omega
            have g0 := blk_below HR5.out hb6
            have g1 : W6.cell? ⟨bo, 0, none⟩ = some (.bool false) := (blk_cell g0 0).trans rfl
            have HG0 := Lib.hid g0
            have h1 := blk_below HK1.out HB6.out
            have h2 := blk_below HK2.out HB6.out
            have c1 : W6.cell? ⟨w.heap.size, 0, none⟩ = some (.slice A n c) := (blk_cell h1 0).trans rfl
            clear hb6 g0 h1 h2
            by_cases hlt : i < 2
            · have j1 : (i : Int) < 2 := by omega
              have HPK := Lib.hid (pick_c A4 c4 l (30, #[], #[.pointer (some ⟨bo, 0, none⟩), .pointer (some ⟨w.heap.size, 0, none⟩), .pointer (some ⟨w.heap.size + 1, 0, none⟩)]) bf (fun key => ∃ x, l[0]? = some x ∧ key = x.1) W6 (own_sl (HO5.out.below HB56.out) (fun x => (okE x).1))
                (fun e he => by
                  obtain ⟨x, hx⟩ := getElem?_of_lt (l := l) (i := 0) (by obtain ⟨j, hj⟩ := List.getElem?_of_mem he; have := (List.getElem?_eq_some_iff.1 hj).1; omega)
                  exact ⟨x, hx, HKEY.out e x he hx⟩)
                (enters_of Try.func30 (by kernel_rfl) rfl)
                (fun key W hK hb => by
                  obtain ⟨x, hx, rfl⟩ := hK
                  exact HASK.out bo x W (HB6.out.trans (hb.mono HB6.out.size)) (blk_below HG0.out hb) hx))
              obtain ⟨e0, he0⟩ : ∃ e, (pickL bf l).getD zeroE = e := ⟨_, rfl⟩
              obtain ⟨ok, hok⟩ : ∃ e, (pickL bf l).isSome = e := ⟨_, rfl⟩
              have hpv : pickV (pickL bf l) = .tuple #[.agg #[.string e0.1, .int .u64 e0.2.1, .bool e0.2.2.1, .string e0.2.2.2], .bool ok] := by rw [← he0, ← hok]; rfl
              have HRF := Lib.hid (show ∀ W, Below W6.heap.size W6 W → Calls Try.prog 33 #[.slice A n c, .agg #[.slice bA n1 bc, .slice bB n2 bd, .bool nt]] W (fun e w' => e = .returned (.tuple #[.agg #[.string e0.1, .int .u64 e0.2.1, .bool e0.2.2.1, .string e0.2.2.2], .bool ok]) ∧ Below W.heap.size W w') from fun W hb => by
                have := HREF.out W ((HB0.out.trans (HB6.out.mono HB0.out.size)).trans (hb.mono (HB0.out.trans (HB6.out.mono HB0.out.size)).size))
                rw [hpv] at this
                exact this)
              rw [hpv, HN.out, show valF (30, #[], #[.pointer (some ⟨bo, 0, none⟩), .pointer (some ⟨w.heap.size, 0, none⟩), .pointer (some ⟨w.heap.size + 1, 0, none⟩)]) = .func (.func 30) #[] #[.pointer (some ⟨bo, 0, none⟩), .pointer (some ⟨w.heap.size, 0, none⟩), .pointer (some ⟨w.heap.size + 1, 0, none⟩)] from rfl] at HPK
              clear he0 hok hpv
              go_wp2_with fail
              refine HPK.out.mono ?_
              clear HPK
              rintro _ W7 ⟨rfl, hb7⟩
              obtain ⟨W8, hW8⟩ : ∃ Z, W7.alloc (.cells #[.string e0.1, .int .u64 e0.2.1, .bool e0.2.2.1, .string e0.2.2.2] 53) = Z := ⟨_, rfl⟩
              have r8 : W8.heap[W7.heap.size]? = some (.cells #[.string e0.1, .int .u64 e0.2.1, .bool e0.2.2.1, .string e0.2.2.2] 53 (0, 0)) := by rw [← hW8]; exact heap_alloc_new _ _
              have b8 : Below W6.heap.size W6 W8 := by rw [← hW8]; exact hb7.alloc hb7.size _
              have HB8 := Lib.hid b8
              have HR8 := Lib.hid r8
              have HB08 := Lib.hid (HB6.out.trans (b8.mono HB6.out.size))
              have h1 := blk_below HK1.out HB08.out
              have h2 := blk_below HK2.out HB08.out
              have d1 : W8.cell? ⟨w.heap.size, 0, none⟩ = some (.slice A n c) := (blk_cell h1 0).trans rfl
              have e0' : W8.cell? ⟨w.heap.size + 1, 0, none⟩ = some (.slice bA n1 bc) := (blk_cell h2 0).trans rfl
              have e1' : W8.cell? ⟨w.heap.size + 1, 1, none⟩ = some (.slice bB n2 bd) := (blk_cell h2 1).trans rfl
              have e2' : W8.cell? ⟨w.heap.size + 1, 2, none⟩ = some (.bool nt) := (blk_cell h2 2).trans rfl
              clear r8 b8 h1 h2 hb7 c1 g1
              go_upto_region 16 with fail
              try rw [hW8]
              clear hW8
              go_wp2_with fail
              refine (HRF.out W8 HB8.out).mono ?_
              clear HRF
              rintro _ W9 ⟨rfl, hb9⟩
              obtain ⟨Wa, hWa⟩ : ∃ Z, W9.alloc (.cells #[.string e0.1, .int .u64 e0.2.1, .bool e0.2.2.1, .string e0.2.2.2] 53) = Z := ⟨_, rfl⟩
              have ra : Wa.heap[W9.heap.size]? = some (.cells #[.string e0.1, .int .u64 e0.2.1, .bool e0.2.2.1, .string e0.2.2.2] 53 (0, 0)) := by rw [← hWa]; exact heap_alloc_new _ _
              have ba : Below W8.heap.size W8 Wa := by rw [← hWa]; exact hb9.alloc hb9.size _
              have HBA := Lib.hid (HB08.out.trans (ba.mono HB08.out.size))
              have HB5A := Lib.hid (HB56.out.trans ((HB8.out.trans (ba.mono HB8.out.size)).mono HB56.out.size))
              obtain ⟨p0, p1, p2, p3, _, _, _, _⟩ := four (blk_below HR8.out ba)
              obtain ⟨q0, q1, q2, q3, _, _, _, _⟩ := four ra
              have h1 := blk_below HK1.out HBA.out
              have m1 : Wa.cell? ⟨w.heap.size, 0, none⟩ = some (.slice A n c) := (blk_cell h1 0).trans rfl
              have hne := neE_run e0 e0
              rw [decide_eq_true rfl] at hne
              have HSM := Lib.hid (same12_c A4 c4 l A c l Wa (own_sl (HO5.out.below HB5A.out) (fun x => (okE x).1)) (HS.out.later (HB0.out.trans (HBA.out.mono HB0.out.size))))
              rw [decide_eq_true rfl, HN.out] at HSM
              clear ra ba hb9 h1 d1 e0' e1' e2'
              go_upto_region 17 with fail
              try rw [hWa]
              clear hWa
              go_wp2_with fail
              refine HSM.out.mono ?_
              clear HSM
              rintro _ Wb ⟨rfl, hbb⟩
              have HBB := Lib.hid (HB5A.out.trans (hbb.mono HB5A.out.size))
              clear hbb
              go_wp2_with fail
              go_roundw
              case rel => exact ⟨i + 1, by first | rfl | simp, by omega, HBB.out⟩
              case measure => simp [intOf]; omega
            · have e : i = 2 := by omega
              subst e
              go_wp2
              go_ret
              exact ⟨rfl, HB0.out.trans (HB6.out.mono HB0.out.size)⟩
    · have i2 : (4000 : Int) < n1 := by omega
      go_wp2
      go_ret
      exact ⟨rfl, HBW.out⟩
  · have i1 : (4000 : Int) < n := by omega
    go_wp2
    go_ret
    exact ⟨rfl, HBW.out⟩
end Go.Proofs.Ytdpijhpjicbecaa.H
