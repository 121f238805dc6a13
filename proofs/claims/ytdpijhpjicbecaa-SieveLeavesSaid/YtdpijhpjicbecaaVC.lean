/- rises: does each list rise? Conditions: sizes. (genvc.py) -/
import Derived.Test.YtdpijhpjicbecaaSvC
namespace Go.Proofs.Ytdpijhpjicbecaa.H
open Go Go.RowKit Go.Deep Go.Shelf Go.Proofs Go.Proofs.YtdpijhpjicbecaaW.PrintWords
set_option linter.unusedVariables false
set_option linter.unusedSimpArgs false
attribute [local go_sem] Oper.semAt_some
/-- Of two that stand one behind the other: the second may not stand ahead. -/
def RiseP (a b : Ent) : Prop := Op.bytesLess b.1.toList a.1.toList = false ∧ (a.1 = b.1 → ¬ a.2.1 < b.2.1)
def RiseTo (l : List Ent) (n : Nat) : Prop := ∀ (k : Nat) (a b : Ent), k + 1 < n → l[k]? = some a → l[k + 1]? = some b → RiseP a b
set_option maxHeartbeats 12800000 in
set_option maxRecDepth 100000 in
theorem rises_c (A : Option Addr) (c : Nat) (L : List HE) (w : World) (hs : Sl2 w A L) (hln : ∀ x ∈ L, x.2.2.length ≤ 140737488351232) :
    Calls Try.prog 36 #[.slice A L.length c] w fun e w' => ∃ r, e = .returned (.bool r) ∧ (r = true → ∀ x ∈ L, RiseTo x.2.2 x.2.2.length) ∧ Below w.heap.size w w' := by
  have hm := hs.1.1
  have HS := Lib.hid hs
  have HLN := Lib.hid hln
  obtain ⟨n, hn⟩ : ∃ n, L.length = n := ⟨_, rfl⟩
  rw [hn] at hm ⊢
  have HN := Lib.hid hn
  clear hs hn hln
  go_enter Try.func36, Try.ntmps36
  go_wp2_with fail
  go_loopw [3] (fun s3 wr => ∃ i : Nat, s3 = .int .i64 i ∧ i ≤ n ∧ (∀ x ∈ L.take i, RiseTo x.2.2 x.2.2.length) ∧ Below w.heap.size w wr) (fun s3 wr => n - (intOf s3).toNat)
  case atStart => exact ⟨0, rfl, by omega, (fun x hx => by simp at hx), Below.refl _ _⟩
  case round =>
    obtain ⟨i, rfl, hi, hall, hb⟩ := hrel
    generalize wr = W5 at *
    have HALL := Lib.hid hall
    have HB := Lib.hid hb
    clear hall hb
    have i0 : (0 : Int) ≤ i := by omega
    by_cases hlt : i < n
    · have i1 : (i : Int) < n := by omega
      obtain ⟨x, hx⟩ := getElem?_of_lt (l := L) (by rw [HN.out]; exact hlt : i < L.length)
      have HX := Lib.hid hx
      obtain ⟨b1, o1, hA1, _, _⟩ := (HS.out.1.later HB.out).at hx
      subst hA1
      obtain ⟨m, hm2⟩ : ∃ m, x.2.2.length = m := ⟨_, rfl⟩
      have HM := Lib.hid hm2
      have hml : m ≤ 140737488351232 := by rw [← hm2]; exact HLN.out x (List.mem_of_getElem? hx)
      have HROW := Lib.hid (show ∀ W, Below w.heap.size w W → W.cell? ⟨b1, o1 + i, none⟩ = some (.slice x.1 m x.2.1) from fun W hW => by
        obtain ⟨b3, o3, hA3, _, hc3⟩ := (HS.out.1.later hW).at HX.out
        injection hA3 with hA3
        injection hA3 with e1 e2
        subst e1 e2
        have := hc3 0 _ rfl
        rw [HM.out] at this
        simpa using this)
      clear hx hm2
      go_wp2_with fail
      go_loopw [4] (fun s4 wr => ∃ k : Nat, s4 = .int .i64 k ∧ 1 ≤ k ∧ (k ≤ m ∨ k = 1) ∧ RiseTo x.2.2 k ∧ Below w.heap.size w wr) (fun s4 wr => m - (intOf s4).toNat)
      case atStart => exact ⟨1, rfl, by omega, .inr rfl, (fun k a b hk => by omega), HB.out⟩
      case round =>
        obtain ⟨k, rfl, hk, hkm, hr, hb⟩ := hrel
        generalize wr = W6 at *
        have HR := Lib.hid hr
        have HB6 := Lib.hid hb
        have c0 := HROW.out W6 hb
        clear hr hb
        have k0 : (0 : Int) ≤ k := by omega
        by_cases hlk : k < m
        · have k1 : (k : Int) < m := by omega
          obtain ⟨k', rfl⟩ : ∃ k', k = k' + 1 := ⟨k - 1, by omega⟩
          obtain ⟨a, ha⟩ := getElem?_of_lt (l := x.2.2) (i := k') (by rw [HM.out]; omega)
          obtain ⟨b, hb⟩ := getElem?_of_lt (l := x.2.2) (i := k' + 1) (by rw [HM.out]; exact hlk)
          have HSX := (HS.out.2 x (List.mem_of_getElem? HX.out)).later HB6.out
          obtain ⟨b2, o2, hA2, _, hca⟩ := HSX.at ha
          obtain ⟨b3, o3, hA3, _, hcb⟩ := HSX.at hb
          rw [hA2] at hA3
          injection hA3 with hA3
          injection hA3 with e1 e2
          subst e1 e2
          rw [hA2] at c0
          have HCA := Lib.hid hca
          have HCB := Lib.hid hcb
          have HA := Lib.hid ha
          have HBE := Lib.hid hb
          clear hca hcb ha hb HSX
          go_wp2_with fail
          have a0 := HCA.out 0 _ rfl
          have a1 := HCA.out 1 _ rfl
          have a2 := HCA.out 2 _ rfl
          have a3 := HCA.out 3 _ rfl
          have b0 := HCB.out 0 _ rfl
          have b1' := HCB.out 1 _ rfl
          have b2' := HCB.out 2 _ rfl
          have b3' := HCB.out 3 _ rfl
          simp only [Nat.add_zero] at a0 b0
          have jm : ((k' : Int) + 1 - 1) = (k' : Int) := by omega
          have jw : IntKind.i64.wrap (k' : Int) = (k' : Int) := by rw [IntKind.wrap_i64]; omega
          have j0 : (0 : Int) ≤ k' := by omega
          have j1 : (k' : Int) < m := by omega
          have zc := fun o => cell_later ((Below.refl W6.heap.size W6).alloc (Nat.le_refl _) o) c0
          have za0 := fun o => cell_later ((Below.refl W6.heap.size W6).alloc (Nat.le_refl _) o) a0
          have za1 := fun o => cell_later ((Below.refl W6.heap.size W6).alloc (Nat.le_refl _) o) a1
          have za2 := fun o => cell_later ((Below.refl W6.heap.size W6).alloc (Nat.le_refl _) o) a2
          have za3 := fun o => cell_later ((Below.refl W6.heap.size W6).alloc (Nat.le_refl _) o) a3
          have zb0 := fun o => cell_later ((Below.refl W6.heap.size W6).alloc (Nat.le_refl _) o) b0
          have zb1 := fun o => cell_later ((Below.refl W6.heap.size W6).alloc (Nat.le_refl _) o) b1'
          have zb2 := fun o => cell_later ((Below.refl W6.heap.size W6).alloc (Nat.le_refl _) o) b2'
          have zb3 := fun o => cell_later ((Below.refl W6.heap.size W6).alloc (Nat.le_refl _) o) b3'
          have yc := fun o o' => cell_later ((Below.refl (W6.alloc o).heap.size (W6.alloc o)).alloc (Nat.le_refl _) o') (zc o)
          have ya0 := fun o o' => cell_later ((Below.refl (W6.alloc o).heap.size (W6.alloc o)).alloc (Nat.le_refl _) o') (za0 o)
          have ya1 := fun o o' => cell_later ((Below.refl (W6.alloc o).heap.size (W6.alloc o)).alloc (Nat.le_refl _) o') (za1 o)
          have ya2 := fun o o' => cell_later ((Below.refl (W6.alloc o).heap.size (W6.alloc o)).alloc (Nat.le_refl _) o') (za2 o)
          have ya3 := fun o o' => cell_later ((Below.refl (W6.alloc o).heap.size (W6.alloc o)).alloc (Nat.le_refl _) o') (za3 o)
          have yb0 := fun o o' => cell_later ((Below.refl (W6.alloc o).heap.size (W6.alloc o)).alloc (Nat.le_refl _) o') (zb0 o)
          have yb1 := fun o o' => cell_later ((Below.refl (W6.alloc o).heap.size (W6.alloc o)).alloc (Nat.le_refl _) o') (zb1 o)
          have yb2 := fun o o' => cell_later ((Below.refl (W6.alloc o).heap.size (W6.alloc o)).alloc (Nat.le_refl _) o') (zb2 o)
          have yb3 := fun o o' => cell_later ((Below.refl (W6.alloc o).heap.size (W6.alloc o)).alloc (Nat.le_refl _) o') (zb3 o)
          go_region
          · clear za0 ya0 a0 za1 ya1 a1 za2 ya2 a2 za3 ya3 a3 zb0 yb0 b0 zb1 yb1 b1' zb2 yb2 b2' zb3 yb3 b3' zc yc jm jw
            obtain ⟨W7, hW7⟩ : ∃ Z, ((W6.alloc (.cells #[.string a.1, .int .u64 a.2.1, .bool a.2.2.1, .string a.2.2.2] 53)).alloc (.cells #[.string b.1, .int .u64 b.2.1, .bool b.2.2.1, .string b.2.2.2] 53)).drew = Z := ⟨_, rfl⟩
            have r1 : W7.heap[W6.heap.size]? = some (.cells #[.string a.1, .int .u64 a.2.1, .bool a.2.2.1, .string a.2.2.2] 53 (0, 0)) := by rw [← hW7]; exact blk_alloc (heap_alloc_new _ _) _
            have r2 : W7.heap[W6.heap.size + 1]? = some (.cells #[.string b.1, .int .u64 b.2.1, .bool b.2.2.1, .string b.2.2.2] 53 (0, 0)) := by have := heap_alloc_new (W6.alloc (.cells #[.string a.1, .int .u64 a.2.1, .bool a.2.2.1, .string a.2.2.2] 53)) (.cells #[.string b.1, .int .u64 b.2.1, .bool b.2.2.1, .string b.2.2.2] 53); rw [World.size_alloc] at this; rw [← hW7]; exact this
            have hb7 : Below W6.heap.size W6 W7 := by rw [← hW7]; exact (((Below.refl _ _).alloc (Nat.le_refl _) _).alloc (by simp) _).drew
            have HB7 := Lib.hid (HB6.out.trans (hb7.mono HB6.out.size))
            obtain ⟨u0, u1, _, _, _, _, _, _⟩ := four r1
            obtain ⟨v0, v1, _, _, _, _, _, _⟩ := four r2
            rw [hW7]
            clear hW7 r1 r2 hb7
            cases hl : Op.bytesLess a.1.toList b.1.toList with
            | true =>
              have HRP := Lib.hid (show RiseP a b from ⟨less_asymm _ _ hl, fun e => by rw [e, less_irrefl] at hl; cases hl⟩)
              have he : ¬ a.1.toList = b.1.toList := fun e => by rw [e, less_irrefl] at hl; cases hl
              go_wp2_with fail
              go_roundw
              case rel => exact ⟨k' + 1 + 1, by first | rfl | simp, by omega, .inl (by omega), (fun j y z hj h1 h2 => by
                by_cases hjk : j + 1 < k' + 1
                · exact HR.out j y z hjk h1 h2
                · have hj2 : j = k' := (by omega)
                  subst hj2
                  rw [HA.out] at h1
                  rw [HBE.out] at h2
                  injection h1 with h1
                  injection h2 with h2
                  rw [← h1, ← h2]
                  exact HRP.out), HB7.out⟩
              case measure => simp [intOf]; omega
            | false =>
              by_cases hk2 : a.1 = b.1
              · have he : a.1.toList = b.1.toList := by rw [hk2]
                by_cases hs : a.2.1 < b.2.1
                · go_wp2_with fail
                  go_ret
                  exact ⟨false, rfl, (fun h => by cases h), HB7.out⟩
                · have HRP := Lib.hid (show RiseP a b from ⟨by rw [hk2]; exact less_irrefl _, fun _ => hs⟩)
                  go_wp2_with fail
                  go_roundw
                  case rel => exact ⟨k' + 1 + 1, by first | rfl | simp, by omega, .inl (by omega), (fun j y z hj h1 h2 => by
                    by_cases hjk : j + 1 < k' + 1
                    · exact HR.out j y z hjk h1 h2
                    · have hj2 : j = k' := (by omega)
                      subst hj2
                      rw [HA.out] at h1
                      rw [HBE.out] at h2
                      injection h1 with h1
                      injection h2 with h2
                      rw [← h1, ← h2]
                      exact HRP.out), HB7.out⟩
                  case measure => simp [intOf]; omega
              · have he : ¬ a.1.toList = b.1.toList := fun e => hk2 (bytes_inj e)
                go_wp2_with fail
                go_ret
                exact ⟨false, rfl, (fun h => by cases h), HB7.out⟩
          · clear za0 ya0 a0 za1 ya1 a1 za2 ya2 a2 za3 ya3 a3 zb0 yb0 b0 zb1 yb1 b1' zb2 yb2 b2' zb3 yb3 b3' zc yc jm jw
            obtain ⟨W7, hW7⟩ : ∃ Z, ((W6.alloc (.cells #[.string b.1, .int .u64 b.2.1, .bool b.2.2.1, .string b.2.2.2] 53)).alloc (.cells #[.string a.1, .int .u64 a.2.1, .bool a.2.2.1, .string a.2.2.2] 53)).drew = Z := ⟨_, rfl⟩
            have r1 : W7.heap[W6.heap.size]? = some (.cells #[.string b.1, .int .u64 b.2.1, .bool b.2.2.1, .string b.2.2.2] 53 (0, 0)) := by rw [← hW7]; exact blk_alloc (heap_alloc_new _ _) _
            have r2 : W7.heap[W6.heap.size + 1]? = some (.cells #[.string a.1, .int .u64 a.2.1, .bool a.2.2.1, .string a.2.2.2] 53 (0, 0)) := by have := heap_alloc_new (W6.alloc (.cells #[.string b.1, .int .u64 b.2.1, .bool b.2.2.1, .string b.2.2.2] 53)) (.cells #[.string a.1, .int .u64 a.2.1, .bool a.2.2.1, .string a.2.2.2] 53); rw [World.size_alloc] at this; rw [← hW7]; exact this
            have hb7 : Below W6.heap.size W6 W7 := by rw [← hW7]; exact (((Below.refl _ _).alloc (Nat.le_refl _) _).alloc (by simp) _).drew
            have HB7 := Lib.hid (HB6.out.trans (hb7.mono HB6.out.size))
            obtain ⟨u0, u1, _, _, _, _, _, _⟩ := four r1
            obtain ⟨v0, v1, _, _, _, _, _, _⟩ := four r2
            rw [hW7]
            clear hW7 r1 r2 hb7
            cases hl : Op.bytesLess a.1.toList b.1.toList with
            | true =>
              have HRP := Lib.hid (show RiseP a b from ⟨less_asymm _ _ hl, fun e => by rw [e, less_irrefl] at hl; cases hl⟩)
              have he : ¬ a.1.toList = b.1.toList := fun e => by rw [e, less_irrefl] at hl; cases hl
              go_wp2_with fail
              go_roundw
              case rel => exact ⟨k' + 1 + 1, by first | rfl | simp, by omega, .inl (by omega), (fun j y z hj h1 h2 => by
                by_cases hjk : j + 1 < k' + 1
                · exact HR.out j y z hjk h1 h2
                · have hj2 : j = k' := (by omega)
                  subst hj2
                  rw [HA.out] at h1
                  rw [HBE.out] at h2
                  injection h1 with h1
                  injection h2 with h2
                  rw [← h1, ← h2]
                  exact HRP.out), HB7.out⟩
              case measure => simp [intOf]; omega
            | false =>
              by_cases hk2 : a.1 = b.1
              · have he : a.1.toList = b.1.toList := by rw [hk2]
                by_cases hs : a.2.1 < b.2.1
                · go_wp2_with fail
                  go_ret
                  exact ⟨false, rfl, (fun h => by cases h), HB7.out⟩
                · have HRP := Lib.hid (show RiseP a b from ⟨by rw [hk2]; exact less_irrefl _, fun _ => hs⟩)
                  go_wp2_with fail
                  go_roundw
                  case rel => exact ⟨k' + 1 + 1, by first | rfl | simp, by omega, .inl (by omega), (fun j y z hj h1 h2 => by
                    by_cases hjk : j + 1 < k' + 1
                    · exact HR.out j y z hjk h1 h2
                    · have hj2 : j = k' := (by omega)
                      subst hj2
                      rw [HA.out] at h1
                      rw [HBE.out] at h2
                      injection h1 with h1
                      injection h2 with h2
                      rw [← h1, ← h2]
                      exact HRP.out), HB7.out⟩
                  case measure => simp [intOf]; omega
              · have he : ¬ a.1.toList = b.1.toList := fun e => hk2 (bytes_inj e)
                go_wp2_with fail
                go_ret
                exact ⟨false, rfl, (fun h => by cases h), HB7.out⟩
        · have HFIN := Lib.hid (show ∀ y ∈ L.take (i + 1), RiseTo y.2.2 y.2.2.length from fun y hy => by
            rw [take_suc HX.out] at hy
            rcases List.mem_append.1 hy with hy | hy
            · exact HALL.out y hy
            · rw [List.mem_singleton.1 hy, HM.out]
              intro k a b hk2 h1 h2
              exact HR.out k a b (by omega) h1 h2)
          go_wp2_with fail
          go_roundw
          case rel => exact ⟨i + 1, by first | rfl | simp, by omega, HFIN.out, HB6.out⟩
          case measure => simp [intOf]; omega
    · have hk2 : n = i := by omega
      subst hk2
      have HFIN := Lib.hid (show ∀ y ∈ L, RiseTo y.2.2 y.2.2.length from by have := HALL.out; rwa [List.take_of_length_le (by rw [HN.out]; exact Nat.le_refl _)] at this)
      go_wp2
      go_ret
      exact ⟨true, rfl, fun _ => HFIN.out, HB.out⟩
end Go.Proofs.Ytdpijhpjicbecaa.H
