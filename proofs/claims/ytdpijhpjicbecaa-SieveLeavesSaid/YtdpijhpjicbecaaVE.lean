/- SieveKeeps' walk. Conditions: sizes. -/
import Derived.Test.YtdpijhpjicbecaaVD
namespace Go.Proofs.Ytdpijhpjicbecaa.H
open Go Go.RowKit Go.Deep Go.Shelf Go.Proofs Go.Proofs.YtdpijhpjicbecaaW.PrintWords
set_option linter.unusedVariables false
set_option linter.unusedSimpArgs false
attribute [local go_sem] Oper.semAt_some
theorem group_mem {ls : List (List Ent)} {x : List Ent} (hx : x ∈ groupsL (mergeL ls)) {e : Ent} (he : e ∈ x) : ∃ a ∈ ls, e ∈ a :=
  mergeL_mem (by rw [← groups_flat (mergeL ls)]; exact List.mem_flatten.2 ⟨x, hx, he⟩)
/-- A function that tells of below from the world w on, whatever is laid or written later. -/
theorem tells_of (g : FV) (b : ByteArray → Bool) (K : ByteArray → Prop) (w : World) (hen : ∀ args w, (callFunc g.1 args).run Try.prog w = .ok (.enter g.1 args) w)
    (h : ∀ (key : ByteArray) (W : World), K key → Below w.heap.size w W → Calls Try.prog g.1 (g.2.1 ++ #[.string key] ++ g.2.2) W fun e W' => e = .returned (.bool (b key)) ∧ Below W.heap.size W W') :
    TellsAt g b K w.heap.size noU (fun W => Upd (fun k => w.heap.size ≤ k) w W) :=
  ⟨hen, fun W W' h u => h.trans (u.mono fun k hk => hk.elim (fun h => h.elim) id), fun W hW hn key W' hK hb => h key W' hK ((hW.bel (fun k hk => hk) (Nat.le_refl _)).trans (hb.mono hn))⟩
set_option maxHeartbeats 1600000 in
set_option maxRecDepth 100000 in
theorem asks9_c (bo bl bb : Nat) (A : Option Addr) (c : Nat) (L : List HE) (b : Bw) (key : ByteArray) (w : World) (ho : w.heap[bo]? = some (.cells #[.bool false] 4 (0, 0))) (hl : w.heap[bl]? = some (.cells #[.slice A L.length c] 22 (0, 0))) (hb : w.heap[bb]? = some (.cells b.cells 60 (0, 0)))
    (hs : Sl2 w A L) (hln : ∀ x ∈ L, x.2.2.length ≤ 140737488351232) (hso : ∀ x ∈ L, SortK x.2.2) (hex : ∃ x ∈ L, ∃ e ∈ x.2.2, e.1 = key) (hbat : b.at w) :
    Calls Try.prog 38 #[.string key, .pointer (some ⟨bo, 0, none⟩), .pointer (some ⟨bl, 0, none⟩), .pointer (some ⟨bb, 0, none⟩)] w fun e w' => e = .returned (.bool (b.has key)) ∧ Below w.heap.size w w' := by
  have HST := Lib.hid (stands_c A c L key w hs hln hso hex)
  obtain ⟨n, hn⟩ : ∃ n, L.length = n := ⟨_, rfl⟩
  rw [hn] at hl HST
  have c0 : w.cell? ⟨bo, 0, none⟩ = some (.bool false) := (blk_cell ho 0).trans rfl
  have cl : w.cell? ⟨bl, 0, none⟩ = some (.slice A n c) := (blk_cell hl 0).trans rfl
  have HO := Lib.hid ho
  have HB := Lib.hid hb
  have HBT := Lib.hid hbat
  obtain ⟨bf, hbf⟩ : ∃ f, b.has = f := ⟨_, rfl⟩
  have HHS := Lib.hid (show ∀ W, Below w.heap.size w W → Calls Try.prog 31 #[.agg b.cells, .string key] W fun e w' => e = .returned (.bool (bf key)) ∧ Below W.heap.size W w' from fun W hW => by
    have := has_c b key W ⟨hbat.1.later hW, hbat.2.later hW⟩
    rw [hbf] at this
    exact this)
  rw [hbf]
  obtain ⟨bA, bc, ks, bB, bd, bh, nt⟩ := b
  unfold Bw.cells at HHS HB
  dsimp only at HHS HB
  obtain ⟨n1, hn1⟩ : ∃ n, ks.length = n := ⟨_, rfl⟩
  obtain ⟨n2, hn2⟩ : ∃ n, bh.length = n := ⟨_, rfl⟩
  rw [hn1, hn2] at HHS HB
  clear ho hl hb hs hln hso hex hbat hbf hn hn1 hn2
  go_enter Try.func38, Try.ntmps38
  go_wp2_with fail
  refine HST.out.mono ?_
  clear HST
  rintro _ W1 ⟨rfl, hb1⟩
  have ho1 := blk_below HO.out hb1
  have d0 : W1.cell? ⟨bo, 0, none⟩ = some (.bool false) := (blk_cell ho1 0).trans rfl
  have f0 : W1.frozen? ⟨bo, 0, none⟩ = false := blk_frozen ho1 0
  obtain ⟨W2, hW2⟩ : ∃ Z, W1.setCell ⟨bo, 0, none⟩ (.bool false) = Z := ⟨_, rfl⟩
  have hb2 : Below w.heap.size w W2 := hb1.trans (by rw [← hW2]; exact bel_same ho1 _)
  have hbb := blk_below HB.out hb2
  have e0 : W2.cell? ⟨bb, 0, none⟩ = some (.slice bA n1 bc) := (blk_cell hbb 0).trans rfl
  have e1 : W2.cell? ⟨bb, 1, none⟩ = some (.slice bB n2 bd) := (blk_cell hbb 1).trans rfl
  have e2 : W2.cell? ⟨bb, 2, none⟩ = some (.bool nt) := (blk_cell hbb 2).trans rfl
  have HB2 := Lib.hid hb2
  have HH := Lib.hid (HHS.out W2 hb2)
  clear ho1 hb1 hb2 hbb HHS
  go_wp2_with fail
  try rw [hW2]
  refine HH.out.mono ?_
  rintro _ W3 ⟨rfl, hb3⟩
  have HB3 := Lib.hid (HB2.out.trans (hb3.mono HB2.out.size))
  clear hb3 hW2
  go_wp2
  go_ret
  exact ⟨rfl, HB3.out⟩
set_option maxHeartbeats 12800000 in
set_option maxRecDepth 100000 in
theorem sieveKeeps_c (A : Option Addr) (c : Nat) (L : List HE) (b : Bw) (w : World) (hs : Sl2 w A L) (hln : ∀ x ∈ L, x.2.2.length ≤ 140737488351232) (hb : b.at w) :
    Calls Try.prog 9 #[.slice A L.length c, .agg b.cells] w fun e w' => e = .returned (.bool true) ∧ Below w.heap.size w w' := by
  obtain ⟨W0, hW0⟩ : ∃ Z, (w.alloc (.cells #[.slice A L.length c] 22)).alloc (.cells b.cells 60) = Z := ⟨_, rfl⟩
  have k1 : W0.heap[w.heap.size]? = some (.cells #[.slice A L.length c] 22 (0, 0)) := by rw [← hW0]; exact blk_alloc (heap_alloc_new _ _) _
  have k2 : W0.heap[w.heap.size + 1]? = some (.cells b.cells 60 (0, 0)) := by rw [← hW0]; simpa using heap_alloc_new (w.alloc (.cells #[.slice A L.length c] 22)) (.cells b.cells 60)
  have hb0 : Below w.heap.size w W0 := by rw [← hW0]; exact ((Below.refl _ _).alloc (Nat.le_refl _) _).alloc (by simp) _
  have hm := hs.1.1
  have HS := Lib.hid hs
  have HLN := Lib.hid hln
  have HBT := Lib.hid (show ∀ W, Below w.heap.size w W → b.at W from fun W h => ⟨hb.1.later h, hb.2.later h⟩)
  have HB0 := Lib.hid hb0
  have HK1 := Lib.hid k1
  have HK2 := Lib.hid k2
  have HSML := Lib.hid (fun (W : World) (h : Below w.heap.size w W) => small_c A c L W (hs.later h) hln)
  have HRIS := Lib.hid (fun (W : World) (h : Below w.heap.size w W) => rises_c A c L W (hs.later h) hln)
  have HREF := Lib.hid (fun (hl : L.length + totL (L.map (·.2.2)) ≤ 1000000) (W : World) (h : Below w.heap.size w W) => refKeep_c A c L b W (hs.later h) hl (HBT.out W h))
  have HSRC := Lib.hid (fun (hl : L.length < 1000000000) (W : World) (h : Below w.heap.size w W) => sources12_c A c L W (hs.later h) hl)
  have HASK := Lib.hid (fun (bo : Nat) (key : ByteArray) (W : World) (h : Below W0.heap.size W0 W) (ho : W.heap[bo]? = some (.cells #[.bool false] 4 (0, 0))) (hso : ∀ x ∈ L, SortK x.2.2) (hx : ∃ x ∈ L, ∃ e ∈ x.2.2, e.1 = key) => asks9_c bo w.heap.size (w.heap.size + 1) A c L b key W ho (blk_below HK1.out h) (blk_below HK2.out h) (HS.out.later (HB0.out.trans (h.mono HB0.out.size))) hln hso hx (HBT.out W (HB0.out.trans (h.mono HB0.out.size))))
  have HKN := Lib.hid (known12_c W0)
  obtain ⟨bf, hbf⟩ : ∃ f, b.has = f := ⟨_, rfl⟩
  rw [hbf] at HREF HASK
  obtain ⟨bA, bc, ks, bB, bd, bh, nt⟩ := b
  have hmk : ks.length ≤ 9223372036854775807 := hb.1.1
  unfold Bw.cells at HREF HK2 hW0 ⊢
  dsimp only at HREF HK2 hW0 ⊢
  obtain ⟨n1, hn1⟩ : ∃ n, ks.length = n := ⟨_, rfl⟩
  obtain ⟨n2, hn2⟩ : ∃ n, bh.length = n := ⟨_, rfl⟩
  obtain ⟨n, hn⟩ : ∃ n, L.length = n := ⟨_, rfl⟩
  rw [hn1, hn2] at HREF HK2 hW0 ⊢
  rw [hn1] at hmk
  rw [hn] at HREF HK1 hW0 hm HSML HRIS HSRC ⊢
  have HN := Lib.hid hn
  clear hs hln hb k1 k2 hb0 hn1 hn2 hn hbf
  go_enter Try.func9, Try.ntmps9
  go_wp2_with fail
  try rw [hW0]
  refine HKN.out.mono ?_
  clear HKN hW0
  rintro _ W1 ⟨rfl, hb1⟩
  have HB1 := Lib.hid hb1
  have h1 := blk_below HK1.out hb1
  have c1 : W1.cell? ⟨w.heap.size, 0, none⟩ = some (.slice A n c) := (blk_cell h1 0).trans rfl
  clear hb1 h1
  go_wp2_with fail
  refine (HSML.out W1 (HB0.out.trans (HB1.out.mono HB0.out.size))).mono ?_
  clear HSML
  rintro _ W2 ⟨rfl, hb2⟩
  have HB2 := Lib.hid (HB1.out.trans (hb2.mono HB1.out.size))
  have h1 := blk_below HK1.out HB2.out
  have h2 := blk_below HK2.out HB2.out
  have d1 : W2.cell? ⟨w.heap.size, 0, none⟩ = some (.slice A n c) := (blk_cell h1 0).trans rfl
  have d2 : W2.cell? ⟨w.heap.size + 1, 0, none⟩ = some (.slice bA n1 bc) := (blk_cell h2 0).trans rfl
  have HBW2 := Lib.hid (HB0.out.trans (HB2.out.mono HB0.out.size))
  clear hb2 h1 h2
  by_cases hsm : n + totL (L.map (·.2.2)) ≤ 4000
  · rw [decide_eq_true hsm]
    have HSM := Lib.hid hsm
    clear hsm
    by_cases hk4 : n1 ≤ 4000
    · have i2 : ¬ (4000 : Int) < n1 := by omega
      go_wp2_with fail
      refine (HRIS.out W2 HBW2.out).mono ?_
      clear HRIS
      rintro _ W3 ⟨r, rfl, hri, hb3⟩
      have HB3 := Lib.hid (HB2.out.trans (hb3.mono HB2.out.size))
      have HBW3 := Lib.hid (HB0.out.trans (HB3.out.mono HB0.out.size))
      have h1 := blk_below HK1.out HB3.out
      have h2 := blk_below HK2.out HB3.out
      clear hb3
      cases r with
      | false =>
        go_wp2
        go_ret
        exact ⟨rfl, HBW3.out⟩
      | true =>
        have HSO := Lib.hid (show ∀ x ∈ L, SortK x.2.2 from fun x hx => rise_sort (hri rfl x hx))
        clear hri d1 d2
        have c3 : W3.cell? ⟨w.heap.size, 0, none⟩ = some (.slice A n c) := (blk_cell h1 0).trans rfl
        clear h1 h2
        go_upto_region 5 with fail
        obtain ⟨W4, hW4⟩ : ∃ Z, W3.alloc (.cells #[.bool false] 4) = Z := ⟨_, rfl⟩
        have r4 : W4.heap[W3.heap.size]? = some (.cells #[.bool false] 4 (0, 0)) := by rw [← hW4]; exact heap_alloc_new _ _
        have b4 : Below W3.heap.size W3 W4 := by rw [← hW4]; exact (Below.refl _ _).alloc (Nat.le_refl _) _
        have HB4 := Lib.hid (HB3.out.trans (b4.mono HB3.out.size))
        have HBW4 := Lib.hid (HB0.out.trans (HB4.out.mono HB0.out.size))
        have h1 := blk_below HK1.out HB4.out
        have c4 : W4.cell? ⟨w.heap.size, 0, none⟩ = some (.slice A n c) := (blk_cell h1 0).trans rfl
        have HR4 := Lib.hid r4
        obtain ⟨bo, hbo⟩ : ∃ bo, W3.heap.size = bo := ⟨_, rfl⟩
        rw [hbo] at HR4
        clear h1 r4 b4 c3
        rw [hW4, hbo]
        clear hW4 hbo
        go_wp2_with fail
        refine (HSRC.out (by have := HSM.out; omega) W4 HBW4.out).mono ?_
        clear HSRC
        rintro _ W5 ⟨v5, ps, rfl, hpl, hown, hsrc, _, hb5⟩
        obtain ⟨A5, c5, rfl⟩ := own_slice hown
        have HB5 := Lib.hid (HB4.out.trans (hb5.mono HB4.out.size))
        have HR5 := Lib.hid (blk_below HR4.out hb5)
        have HKP := Lib.hid (keepV_c A5 c5 ps L (38, #[], #[.pointer (some ⟨bo, 0, none⟩), .pointer (some ⟨w.heap.size, 0, none⟩), .pointer (some ⟨w.heap.size + 1, 0, none⟩)]) bf (fun key => ∃ x ∈ L, ∃ e ∈ x.2.2, e.1 = key) (fun W => Upd (fun k => W5.heap.size ≤ k) W5 W) W5 (own_sl hown (fun x => (okF x).1))
          (fun h => by have := own_form hown; simpa [h] using this) (by rw [hpl, HN.out]) hsrc (by have := HSM.out; omega) (by have := HSM.out; omega)
          (tells_of _ _ _ W5 (enters_of Try.func38 (by kernel_rfl) rfl) (fun key W hK hb => HASK.out bo key W (HB5.out.trans (hb.mono HB5.out.size)) (blk_below HR5.out hb) HSO.out hK)) (Upd.refl _ _)
          (fun x hx e he => by
            obtain ⟨a, ha, hea⟩ := group_mem hx he
            obtain ⟨y, hy, rfl⟩ := List.mem_map.1 ha
            exact ⟨y, hy, e, hea, rfl⟩))
        have hlen : (ps.map fv1).length = n := by rw [List.length_map, hpl]
        have hpn : ps.length = n := hpl
        rw [hpn, show valF (38, #[], #[.pointer (some ⟨bo, 0, none⟩), .pointer (some ⟨w.heap.size, 0, none⟩), .pointer (some ⟨w.heap.size + 1, 0, none⟩)]) = .func (.func 38) #[] #[.pointer (some ⟨bo, 0, none⟩), .pointer (some ⟨w.heap.size, 0, none⟩), .pointer (some ⟨w.heap.size + 1, 0, none⟩)] from rfl] at HKP
        rw [hlen]
        have hlk : (keepL bf (groupsL (mergeL (L.map (·.2.2))))).length ≤ 4000 := by
          have h1 : (keepL bf (groupsL (mergeL (L.map (·.2.2))))).length ≤ (groupsL (mergeL (L.map (·.2.2)))).length := List.length_filterMap_le _ _
          have h2 := groups_len (mergeL (L.map (·.2.2)))
          rw [mergeL_length] at h2
          have := HSM.out
          omega
        obtain ⟨kl, hkl⟩ : ∃ k, keepL bf (groupsL (mergeL (L.map (·.2.2)))) = k := ⟨_, rfl⟩
        rw [hkl] at HKP HREF hlk
        clear hlen hpn hpl hown hsrc hb5 hkl
        go_wp2_with fail
        refine HKP.out.mono ?_
        clear HKP
        rintro _ W6 ⟨f, rfl, hb6, hheld⟩
        have HB6 := Lib.hid (HB5.out.trans (hb6.mono HB5.out.size))
        have HBW6 := Lib.hid (HB0.out.trans (HB6.out.mono HB0.out.size))
        have HR6 := Lib.hid (blk_below HR5.out hb6)
        have HH6 := Lib.hid hheld
        have h1 := blk_below HK1.out HB6.out
        have h2 := blk_below HK2.out HB6.out
        have e1 : W6.cell? ⟨w.heap.size, 0, none⟩ = some (.slice A n c) := (blk_cell h1 0).trans rfl
        have e2 : W6.cell? ⟨w.heap.size + 1, 0, none⟩ = some (.slice bA n1 bc) := (blk_cell h2 0).trans rfl
        have e3 : W6.cell? ⟨w.heap.size + 1, 1, none⟩ = some (.slice bB n2 bd) := (blk_cell h2 1).trans rfl
        have e4 : W6.cell? ⟨w.heap.size + 1, 2, none⟩ = some (.bool nt) := (blk_cell h2 2).trans rfl
        clear hb6 hheld h1 h2
        go_wp2_with fail
        refine (HREF.out (by have := HSM.out; omega) W6 HBW6.out).mono ?_
        clear HREF
        rintro _ W7 ⟨v7, rfl, hown7, hb7⟩
        obtain ⟨A7, c7, rfl⟩ := own_slice hown7
        have HB7 := Lib.hid (HB6.out.trans (hb7.mono HB6.out.size))
        have HH7 := Lib.hid (HH6.out.later hb7)
        have HO7 := Lib.hid (own_sl hown7 (fun x => (okE x).1))
        have HR7 := Lib.hid (blk_below HR6.out hb7)
        obtain ⟨q, hq⟩ : ∃ q, kl.length = q := ⟨_, rfl⟩
        have HQ := Lib.hid hq
        rw [hq] at hlk ⊢
        clear hown7 hb7 hq e1 e2 e3 e4
        go_wp2_with fail
        go_loopw [9] (fun s9 wr => ∃ i : Nat, s9 = .int .i64 i ∧ i ≤ 2 ∧ Below W7.heap.size W7 wr) (fun s9 wr => 2 - (intOf s9).toNat)
        case atStart => exact ⟨0, rfl, by omega, Below.refl _ _⟩
        case round =>
          obtain ⟨i, rfl, hi2, hb8⟩ := hrel
          generalize wr = W8 at *
          have HB78 := Lib.hid hb8
          have HB8 := Lib.hid (HB7.out.trans (hb8.mono HB7.out.size))
          have j0 : (0 : Int) ≤ i := by omega
          have h1 := blk_below HR7.out hb8
          have g0 : W8.cell? ⟨bo, 0, none⟩ = some (.bool false) := (blk_cell h1 0).trans rfl
          clear hb8 h1
          by_cases hlt : i < 2
          · have j1 : (i : Int) < 2 := by omega
            have HG := Lib.hid (heldGives_c f kl (q : Int) W8 (HH7.out.later HB78.out) (by rw [HQ.out]; omega) (by rw [HQ.out]; exact Int.le_refl _))
            go_wp2_with fail
            refine HG.out.mono ?_
            clear HG
            rintro _ W9 ⟨v9, rfl, hown9, hb9⟩
            obtain ⟨A9, c9, rfl⟩ := own_slice hown9
            have HB9 := Lib.hid (HB78.out.trans (hb9.mono HB78.out.size))
            have HSME := Lib.hid (same12_c A9 c9 kl A7 c7 kl W9 (own_sl hown9 (fun x => (okE x).1)) (HO7.out.later HB9.out))
            rw [decide_eq_true rfl, HQ.out] at HSME
            rw [HQ.out]
            clear hown9 hb9
            go_wp2_with fail
            refine HSME.out.mono ?_
            clear HSME
            rintro _ Wa ⟨rfl, hba⟩
            have HBA := Lib.hid (HB9.out.trans (hba.mono HB9.out.size))
            clear hba
            go_wp2_with fail
            go_roundw
            case rel => exact ⟨i + 1, by first | rfl | simp, by omega, HBA.out⟩
            case measure => simp [intOf]; omega
          · have e : i = 2 := by omega
            subst e
            go_wp2
            go_ret
            exact ⟨rfl, HB0.out.trans (HB8.out.mono HB0.out.size)⟩
    · have i2 : (4000 : Int) < n1 := by omega
      go_wp2
      go_ret
      exact ⟨rfl, HBW2.out⟩
  · rw [decide_eq_false hsm]
    clear hsm
    go_wp2
    go_ret
    exact ⟨rfl, HBW2.out⟩
theorem lists_len {l : List (List Ent)} (h : l.length * Try.prog.bytesOf 27 ≤ 140737488351232 ∧ ∀ x ∈ l, x.length * Try.prog.bytesOf 53 ≤ 140737488351232 ∧ ∀ y ∈ x, QEntry y) : ∀ x ∈ l, x.length ≤ 140737488351232 := fun x hx => by
  have := (h.2 x hx).1
  rw [show Try.prog.bytesOf 53 = 48 by kernel_rfl] at this
  omega
theorem sieveKeeps_w (A : Option Addr) (c : Nat) (l : List (List Ent)) (b : Bw) (w : World) (hb : ∃ L : List HE, L.map (·.2.2) = l ∧ Sl2 w A L) (hln : ∀ x ∈ l, x.length ≤ 140737488351232) (hbw : b.at w) :
    Calls Try.prog 9 #[.slice A l.length c, .agg b.cells] w fun e w' => e = .returned (.bool true) ∧ Below w.heap.size w w' := by
  obtain ⟨L, rfl, hL⟩ := hb
  rw [List.length_map]
  exact sieveKeeps_c A c L b w hL (fun h hh => hln h.2.2 (List.mem_map_of_mem hh)) hbw
end Go.Proofs.Ytdpijhpjicbecaa.H
