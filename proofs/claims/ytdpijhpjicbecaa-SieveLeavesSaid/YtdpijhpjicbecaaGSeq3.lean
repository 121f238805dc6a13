/- screelaw11's sources. Conditions: sizes. -/
import Derived.Test.YtdpijhpjicbecaaGSeq2
import Derived.Deep.DeepCutAuto
namespace Go.Proofs.Ytdpijhpjicbecaa.H
open Go Go.RowKit Go.Deep Go.Shelf Go.Proofs Go.Proofs.YtdpijhpjicbecaaW.PrintWords
set_option linter.unusedVariables false
set_option linter.unusedSimpArgs false
attribute [local go_sem] Oper.semAt_some
set_option maxHeartbeats 3200000 in
set_option maxRecDepth 100000 in
theorem sources_c (A : Option Addr) (c : Nat) (L : List HE) (w : World) (hs : Sl2 w A L) (hl : L.length < 1000000000) (hll : ∀ h ∈ L, h.2.2.length < 1000000000) :
    Calls Try.prog 13 #[.slice A L.length c] w fun e w' => ∃ v4 v5 X L2, e = .returned (.tuple #[v4, v5]) ∧ SrcMade w' w.heap.size v4 v5 X L2 ∧ X.map (·.l) = L.map (fun h => risenL h.2.2) ∧ L2.map (·.2.2) = L.map (fun h => risenL h.2.2) ∧ Below w.heap.size w w' := by
  have hm := hs.1.1
  have HS := Lib.hid hs
  have HLL := Lib.hid hll
  clear hs hll
  obtain ⟨n, hn⟩ : ∃ n, L.length = n := ⟨_, rfl⟩
  rw [hn] at hm hl ⊢
  have HN := Lib.hid hn
  clear hn
  go_enter Try.func13, Try.ntmps13
  go_wp2_with fail
  go_loopw [4, 5, 6] (fun s4 s5 s6 wr => ∃ (k : Nat) (X : List Src) (L2 : List HE), s6 = .int .i64 k ∧ k ≤ n ∧ SrcMade wr w.heap.size s4 s5 X L2 ∧ X.map (·.l) = (L.take k).map (fun h => risenL h.2.2) ∧ L2.map (·.2.2) = (L.take k).map (fun h => risenL h.2.2) ∧ Below w.heap.size w wr) (fun s4 s5 s6 wr => n - (intOf s6).toNat)
  case atStart => exact ⟨0, [], [], rfl, by omega, SrcMade.nil _ _, rfl, rfl, Below.refl _ _⟩
  case round =>
    obtain ⟨k, X, L2, rfl, hk, hmade, hX, hL2, hb⟩ := hrel
    obtain ⟨A4, c4, rfl⟩ := own_slice hmade.own4
    obtain ⟨A5, c5, rfl⟩ := own_slice hmade.made5.own
    have hxl : X.length = k := by
      have := congrArg List.length hX
      rw [List.length_map, List.length_map, List.length_take, HN.out] at this
      omega
    have hl2 : L2.length = k := by
      have := congrArg List.length hL2
      rw [List.length_map, List.length_map, List.length_take, HN.out] at this
      omega
    rw [hxl, hl2] at hmade ⊢
    have HM := Lib.hid hmade
    have HB := Lib.hid hb
    have HX := Lib.hid hX
    have HL2 := Lib.hid hL2
    have HXL := Lib.hid hxl
    have HL2L := Lib.hid hl2
    clear hmade hb hX hL2 hxl hl2
    generalize wr = W5 at *
    by_cases hlt : k < n
    · obtain ⟨x, hx⟩ := getElem?_of_lt (l := L) (by rw [HN.out]; exact hlt : k < L.length)
      have hs' := HS.out.later HB.out
      obtain ⟨b2, o2, hB2, hb2, hc2⟩ := hs'.1.at hx
      subst hB2
      have y0 : W5.cell? ⟨b2, o2 + k, none⟩ = some (.slice x.1 x.2.2.length x.2.1) := by simpa using hc2 0 _ rfl
      have HRI := Lib.hid (risen_c x.1 x.2.1 x.2.2 W5 (hs'.2 x (List.mem_of_getElem? hx)) (HLL.out x (List.mem_of_getElem? hx)))
      have HXX := Lib.hid hx
      have HRL := Lib.hid (show (risenL x.2.2).length < 1000000000 from Nat.lt_of_le_of_lt (risenL_len _) (HLL.out x (List.mem_of_getElem? hx)))
      clear hc2 hx hs'
      have i1 : (0 : Int) ≤ k := by omega
      have i2 : (k : Int) < n := by omega
      obtain ⟨xa, xc, xl⟩ := x
      simp only at y0 HRI HXX HRL
      go_wp2_with fail
      refine HRI.out.mono ?_
      rintro _ Wa ⟨va, rfl, hva, hba⟩
      obtain ⟨Ar, cr, rfl⟩ := own_slice hva
      obtain ⟨rl, hrl⟩ : ∃ rl, risenL xl = rl := ⟨_, rfl⟩
      rw [hrl] at hva HRL ⊢
      obtain ⟨Wb, hWb⟩ : ∃ Z, Wa.alloc (.cells #[.slice Ar rl.length cr, .int .i64 0, .int .i64 0] 39) = Z := ⟨_, rfl⟩
      have rb : Wb.heap[Wa.heap.size]? = some (.cells #[.slice Ar rl.length cr, .int .i64 0, .int .i64 0] 39 (0, 0)) := by rw [← hWb]; exact heap_alloc_new _ _
      have hbb : Below Wa.heap.size Wa Wb := by rw [← hWb]; exact (Below.refl _ _).alloc (Nat.le_refl _) _
      have hszb : Wb.heap.size = Wa.heap.size + 1 := by rw [← hWb]; simp
      have HVA := Lib.hid hva
      have HBA := Lib.hid hba
      have HBB := Lib.hid hbb
      have HRB := Lib.hid rb
      have hw5 := HB.out.size
      have hwa := hba.size
      have HRLE := Lib.hid hrl
      have HSZB := Lib.hid hszb
      clear hva hba hbb rb hrl hszb
      go_upto_region 8 with (at_builtin; refine wpList_app rfl (.tmp 19) (.tmp 23) rfl uSlS infoS rfl (by decide) (by decide) okS' (.slice A4 k c4) X rfl (base := w.heap.size) ?c1 (some ⟨Wb.heap.size, 0, none⟩) 1 [(⟨Wa.heap.size, Ar, cr, rl⟩ : Src)] rfl ?c2 ?c3 ?c4 ?_; (case c1 => exact (HM.out.later (HBA.out.trans (HBB.out.mono HBA.out.size))).own4.below ((Below.refl _ _).alloc (Nat.le_refl _) _)); (case c2 => exact Sl.one okS' Wb _ _ rfl); (case c3 => have := HXL.out; simp only [this, List.length_cons, List.length_nil]; omega); (case c4 => have := HSZB.out; simp; omega); intro v4 Wc hoc hgc hatc)
      obtain ⟨A4', c4', rfl⟩ := own_slice hoc
      have hbw1 : Below W5.heap.size W5 (Wb.alloc (.cells #[.pointer (some ⟨Wa.heap.size, 0, none⟩)] 40)) := (HBA.out.trans (HBB.out.mono HBA.out.size)).alloc (by have := HBB.out.size; omega) _
      have hva1 := HVA.out
      have hadr := own_addr hva1
      have hwb := HBB.out.size
      have hszb := HSZB.out
      have hmc := HM.out.addS hbw1 hw5 ⟨Wa.heap.size, Ar, cr, rl⟩ (blk_alloc HRB.out _) (((own_sl hva1 (fun x => (okE x).1)).later HBB.out).later ((Below.refl _ _).alloc (Nat.le_refl _) _)) hwa (fun _ b o e => by have := hadr b o e; refine .inl ⟨this.1, ?_, ?_⟩ <;> first | (simp; omega) | (show b ≠ Wa.heap.size; omega)) hoc hgc (by simpa using hatc)
      have huc : Upd (fun j => (Value.slice A4 k c4).ownBlock = some j) Wb Wc := (Upd.alloc _ _).trans (Upd.of_grown hgc (fun j hj => hj))
      have hslc : Sl encE 4 Wc Ar rl := ((own_sl hva1 (fun x => (okE x).1)).later HBB.out).upd huc (fun b o e hx => by have := (HM.out.own4.block_lt hx).2; have := (hadr b o e).1; omega)
      have hszc := huc.size
      have HMC := Lib.hid hmc
      have HSLC := Lib.hid hslc
      have HSZC := Lib.hid (show W5.heap.size ≤ Wc.heap.size ∧ w.heap.size ≤ Wc.heap.size by omega)
      have HBC := Lib.hid (show Below w.heap.size w Wc from (HB.out.trans (hbw1.mono hw5)).trans ((Upd.of_grown (S := fun j => (Value.slice A4 k c4).ownBlock = some j) hgc (fun j hj => hj)).bel (fun j hj => (HM.out.own4.block_lt hj).1) (by have := hbw1.size; omega)))
      have HXN := Lib.hid (show (X ++ [(⟨Wa.heap.size, Ar, cr, rl⟩ : Src)]).map (·.l) = (L.take (k + 1)).map (fun h => risenL h.2.2) from by rw [List.map_append, HX.out, take_suc HXX.out, List.map_append]; simp [HRLE.out])
      have HLN := Lib.hid (show ∀ (A27 : Option Addr) (c27 : Nat), (L2 ++ [((A27, c27, rl) : HE)]).map (·.2.2) = (L.take (k + 1)).map (fun h => risenL h.2.2) from fun _ _ => by rw [List.map_append, HL2.out, take_suc HXX.out, List.map_append]; simp [HRLE.out])
      obtain ⟨X', hX'⟩ : ∃ X', X ++ [(⟨Wa.heap.size, Ar, cr, rl⟩ : Src)] = X' := ⟨_, rfl⟩
      have hX1 : X'.length = k + 1 := by rw [← hX']; have := HXL.out; simp; omega
      rw [hX'] at HMC HXN ⊢
      rw [hX1] at HMC ⊢
      clear hoc hgc hatc hbw1 hva1 hadr hwb hszb hmc huc hslc hszc hX' hX1 HM HB HBA HBB HRB HVA HSZB HRI
      obtain ⟨t, ht⟩ : ∃ t, Wa.heap.size = t := ⟨_, rfl⟩
      obtain ⟨t2, ht2⟩ : ∃ t, Wb.heap.size = t := ⟨_, rfl⟩
      go_wp2_with (at_builtin; refine wpList_app rfl (.const (.slice none 0 0)) (.tmp 26) rfl uSlE infoE rfl (by decide) (by decide) okE (.slice none 0 0) [] rfl (base := Wc.heap.size) ?c1 Ar cr rl rfl ?c2 ?c3 ?c4 ?_)
      case c1 => exact Own.nil _ _ _ _ _
      case c2 => exact HSLC.out
      case c3 => have := HRL.out; simp; omega
      case c4 => exact Nat.le_refl _
      intro v27 Wd ho27 hg27 hat27
      obtain ⟨A27, c27, rfl⟩ := own_slice ho27
      try simp only [List.nil_append] at ho27
      try simp only [List.nil_append]
      have hbd : Below Wc.heap.size Wc Wd := (Upd.of_grown (S := fun _ => False) hg27 (fun j hj => by cases hj)).bel (fun _ h => h.elim) (Nat.le_refl _)
      have hsd := hbd.size
      have hmd := HMC.out.later hbd
      have HMD := Lib.hid hmd
      have HO27 := Lib.hid ho27
      have HBD := Lib.hid hbd
      clear ho27 hg27 hat27 hmd hbd
      go_wp2_with (at_builtin; refine wpList_app rfl (.tmp 25) (.tmp 28) rfl uSlEE infoEE rfl (by decide) (by decide) okHE (.slice A5 k c5) L2 rfl (base := w.heap.size) ?c1 (some ⟨Wd.heap.size, 0, none⟩) 1 [((A27, c27, rl) : HE)] rfl ?c2 ?c3 ?c4 ?_)
      case c1 => exact HMD.out.made5.own.below ((Below.refl _ _).alloc (Nat.le_refl _) _)
      case c2 => exact Sl.one okHE Wd _ _ rfl
      case c3 => have := HL2L.out; simp only [this, List.length_cons, List.length_nil]; omega
      case c4 => have := HSZC.out; simp; omega
      intro v5 We ho5 hg5 hat5
      have hadr := own_addr HO27.out
      have hme := HMC.out.addL (HBD.out.alloc hsd (.cells #[.slice A27 rl.length c27] 27)) HSZC.out.2 ((A27, c27, rl) : HE) ((own_sl HO27.out (fun x => (okE x).1)).later ((Below.refl _ _).alloc (Nat.le_refl _) _)) (fun b o e => by have := hadr b o e; refine ⟨this.1, ?_⟩; simp; omega) ho5 hg5 (by simpa using hat5)
      have HME := Lib.hid hme
      have HBE := Lib.hid (show Below w.heap.size w We from (HBC.out.trans ((HBD.out.alloc hsd (.cells #[.slice A27 rl.length c27] 27)).mono HSZC.out.2)).trans ((Upd.of_grown (S := fun j => (Value.slice A5 k c5).ownBlock = some j) hg5 (fun j hj => hj)).bel (fun j hj => (HMC.out.made5.own.block_lt hj).1) (by have := HSZC.out; simp; omega)))
      clear ho5 hg5 hat5 hme hadr
      go_wp2
      go_roundw
      case rel => exact ⟨k + 1, X', _, by first | rfl | simp, by omega, HME.out, HXN.out, HLN.out A27 c27, HBE.out⟩
      case measure => simp [intOf]; omega
    · have hk2 : n = k := by omega
      subst hk2
      have HE1 := Lib.hid (show L.take n = L from List.take_of_length_le (by rw [HN.out]; exact Nat.le_refl _))
      rw [HE1.out] at HX HL2
      go_wp2
      go_ret2
      first | exact ⟨_, _, X, L2, rfl, HM.out, HX.out, HL2.out, HB.out⟩ | exact ⟨_, _, rfl, X, L2, HM.out, HX.out, HL2.out, HB.out⟩
end Go.Proofs.Ytdpijhpjicbecaa.H
