/- stands, where some entry has the key. Conditions: sizes. -/
import Derived.Test.YtdpijhpjicbecaaVC
namespace Go.Proofs.Ytdpijhpjicbecaa.H
open Go Go.RowKit Go.Deep Go.Shelf Go.Proofs Go.Proofs.YtdpijhpjicbecaaW.PrintWords
set_option linter.unusedVariables false
set_option linter.unusedSimpArgs false
attribute [local go_sem] Oper.semAt_some
theorem nless_trans {a b c : List UInt8} (h : Op.bytesLess b a = false) (k : Op.bytesLess c b = false) : Op.bytesLess c a = false := by
  cases h1 : Op.bytesLess c a with
  | false => rfl
  | true =>
    cases h2 : Op.bytesLess a b with
    | true => rw [less_trans _ _ _ h1 h2] at k; cases k
    | false =>
      have := less_total _ _ h2 h
      subst this
      rw [h1] at k
      cases k
/-- By key, none stands ahead of one before it. -/
def SortK (l : List Ent) : Prop := ∀ (i j : Nat) (a b : Ent), i ≤ j → l[i]? = some a → l[j]? = some b → Op.bytesLess b.1.toList a.1.toList = false
theorem rise_sort {l : List Ent} (h : RiseTo l l.length) : SortK l := by
  intro i j a b hij ha hb
  obtain ⟨d, rfl⟩ : ∃ d, j = i + d := ⟨j - i, by omega⟩
  induction d generalizing b with
  | zero =>
    rw [Nat.add_zero, ha] at hb
    injection hb with hb
    rw [hb]
    exact less_irrefl _
  | succ d ih =>
    have hlt := (List.getElem?_eq_some_iff.1 hb).1
    obtain ⟨x, hx⟩ := getElem?_of_lt (l := l) (i := i + d) (by omega)
    exact nless_trans (ih x (by omega) hx) (h (i + d) x b (by omega) hx hb).1
set_option maxHeartbeats 12800000 in
set_option maxRecDepth 100000 in
theorem stands_c (A : Option Addr) (c : Nat) (L : List HE) (key : ByteArray) (w : World) (hs : Sl2 w A L) (hln : ∀ x ∈ L, x.2.2.length ≤ 140737488351232) (hso : ∀ x ∈ L, SortK x.2.2) (hex : ∃ x ∈ L, ∃ e ∈ x.2.2, e.1 = key) :
    Calls Try.prog 39 #[.slice A L.length c, .string key] w fun e w' => e = .returned (.bool true) ∧ Below w.heap.size w w' := by
  have hm := hs.1.1
  have HS := Lib.hid hs
  have HLN := Lib.hid hln
  have HSO := Lib.hid hso
  have HEX := Lib.hid hex
  obtain ⟨n, hn⟩ : ∃ n, L.length = n := ⟨_, rfl⟩
  rw [hn] at hm ⊢
  have HN := Lib.hid hn
  clear hs hn hln hso hex
  go_enter Try.func39, Try.ntmps39
  go_wp2_with fail
  go_loopw [5] (fun s5 wr => ∃ i : Nat, s5 = .int .i64 i ∧ i ≤ n ∧ (∀ x ∈ L.take i, ∀ e ∈ x.2.2, ¬ e.1 = key) ∧ Below w.heap.size w wr) (fun s5 wr => n - (intOf s5).toNat)
  case atStart => exact ⟨0, rfl, by omega, (fun x hx => by simp at hx), Below.refl _ _⟩
  case round =>
    obtain ⟨i, rfl, hi, hall, hb⟩ := hrel
    generalize wr = W5 at *
    have HALL := Lib.hid hall
    have HB := Lib.hid hb
    clear hall hb
    have i0 : (0 : Int) ≤ i := by omega
    by_cases hlt : i < n
    · have i1 : (i : Int) < n := by omega
      obtain ⟨x, hx⟩ := getElem?_of_lt (l := L) (by rw [HN.out]; exact hlt : i < L.length)
      have HX := Lib.hid hx
      obtain ⟨b1, o1, hA1, _, _⟩ := (HS.out.1.later HB.out).at hx
      subst hA1
      obtain ⟨m, hm2⟩ : ∃ m, x.2.2.length = m := ⟨_, rfl⟩
      have HM := Lib.hid hm2
      have hml : m ≤ 140737488351232 := by rw [← hm2]; exact HLN.out x (List.mem_of_getElem? hx)
      have HROW := Lib.hid (show ∀ W, Below w.heap.size w W → W.cell? ⟨b1, o1 + i, none⟩ = some (.slice x.1 m x.2.1) from fun W hW => by
        obtain ⟨b3, o3, hA3, _, hc3⟩ := (HS.out.1.later hW).at HX.out
        injection hA3 with hA3
        injection hA3 with e1 e2
        subst e1 e2
        have := hc3 0 _ rfl
        rw [HM.out] at this
        simpa using this)
      have c0 := HROW.out W5 HB.out
      have HSK := Lib.hid (HSO.out x (List.mem_of_getElem? HX.out))
      clear hx hm2
      go_wp2_with fail
      go_quiet (fail)
      obtain ⟨W6, hW6⟩ : ∃ Z, W5.drewN nq = Z := ⟨_, rfl⟩
      have HB6 := Lib.hid (show Below w.heap.size w W6 from by rw [← hW6]; exact HB.out.trans ((Upd.drewN (S := fun _ => False) _ _).bel (fun _ h => h.elim) HB.out.size))
      rw [hW6]
      clear hW6 c0
      go_wp2_with fail
      go_loopw [6, 7, 8] (fun s6 s7 s8 wr => ∃ lo hi : Nat, s6 = .int .i64 lo ∧ s7 = .int .i64 hi ∧ lo ≤ hi ∧ hi ≤ m ∧ (∀ (j : Nat) (e : Ent), j < lo → x.2.2[j]? = some e → Op.bytesLess e.1.toList key.toList = true) ∧ (∀ (j : Nat) (e : Ent), hi ≤ j → x.2.2[j]? = some e → Op.bytesLess e.1.toList key.toList = false) ∧ Below W6.heap.size W6 wr) (fun s6 s7 s8 wr => (intOf s7).toNat - (intOf s6).toNat)
      case atStart => exact ⟨0, m, rfl, rfl, by omega, Nat.le_refl _, (fun j e hj => by omega), (fun j e hj he => by have := (List.getElem?_eq_some_iff.1 he).1; have := HM.out; omega), Below.refl _ _⟩
      case round =>
        obtain ⟨lo, hi', rfl, rfl, hlh, hhm, hlo, hhi, hb⟩ := hrel
        generalize wr = W7 at *
        have HLO := Lib.hid hlo
        have HHI := Lib.hid hhi
        have HB7 := Lib.hid hb
        have HBW := Lib.hid (HB6.out.trans (hb.mono HB6.out.size))
        have c0 := HROW.out W7 HBW.out
        clear hlo hhi hb
        have l0 : (0 : Int) ≤ lo := by omega
        by_cases hlk : lo < hi'
        · have k1 : (lo : Int) < hi' := by omega
          obtain ⟨mid, hmid⟩ : ∃ q : Nat, (lo + hi') / 2 = q := ⟨_, rfl⟩
          have hd : ((lo : Int) + (hi' : Int)).tdiv 2 = (mid : Int) := by rw [Int.tdiv_eq_ediv_of_nonneg (by omega)]; omega
          have hwr : IntKind.i64.wrap ((lo : Int) + (hi' : Int)) = (lo : Int) + (hi' : Int) := by rw [IntKind.wrap_i64]; omega
          have hwr2 : IntKind.i64.wrap (mid : Int) = (mid : Int) := by rw [IntKind.wrap_i64]; omega
          have m0 : (0 : Int) ≤ mid := by omega
          have m1 : (mid : Int) < m := by omega
          obtain ⟨e, he⟩ := getElem?_of_lt (l := x.2.2) (i := mid) (by rw [HM.out]; omega)
          have HE := Lib.hid he
          obtain ⟨b2, o2, hA2, _, hce⟩ := ((HS.out.2 x (List.mem_of_getElem? HX.out)).later HBW.out).at he
          rw [hA2] at c0
          have e0 : W7.cell? ⟨b2, o2 + mid * 4, none⟩ = some (.string e.1) := hce 0 _ rfl
          clear he hce
          have hmb : lo ≤ mid ∧ mid < hi' := by omega
          have HMB := Lib.hid hmb
          clear hmid
          cases hl : Op.bytesLess e.1.toList key.toList with
          | true =>
            have HNL := Lib.hid (show ∀ (j : Nat) (y : Ent), j < mid + 1 → x.2.2[j]? = some y → Op.bytesLess y.1.toList key.toList = true from fun j y hj hy => by
              have h1 := HSK.out j mid y e (by omega) hy HE.out
              cases h2 : Op.bytesLess y.1.toList key.toList with
              | true => rfl
              | false => have := nless_trans h2 (show Op.bytesLess e.1.toList y.1.toList = false from h1); rw [hl] at this; cases this)
            go_wp2_with fail
            go_roundw
            case rel => exact ⟨mid + 1, hi', by first | rfl | simp, by first | rfl | simp, by omega, by omega, HNL.out, HHI.out, HB7.out⟩
            case measure => simp [intOf]; omega
          | false =>
            have HNL := Lib.hid (show ∀ (j : Nat) (y : Ent), mid ≤ j → x.2.2[j]? = some y → Op.bytesLess y.1.toList key.toList = false from fun j y hj hy => by
              have h1 := HSK.out mid j e y hj HE.out hy
              exact nless_trans hl h1)
            go_wp2_with fail
            go_roundw
            case rel => exact ⟨lo, mid, by first | rfl | simp, by first | rfl | simp, by omega, by omega, HLO.out, HNL.out, HB7.out⟩
            case measure => simp [intOf]; omega
        · have hlo2 : lo = hi' := by omega
          subst hlo2
          by_cases hlm : lo < m
          · have k1 : (lo : Int) < m := by omega
            obtain ⟨e, he⟩ := getElem?_of_lt (l := x.2.2) (i := lo) (by rw [HM.out]; omega)
            have HE := Lib.hid he
            obtain ⟨b2, o2, hA2, _, hce⟩ := ((HS.out.2 x (List.mem_of_getElem? HX.out)).later HBW.out).at he
            rw [hA2] at c0
            have e0 : W7.cell? ⟨b2, o2 + lo * 4, none⟩ = some (.string e.1) := hce 0 _ rfl
            clear he hce
            by_cases hk : e.1 = key
            · have hkb : e.1.toList = key.toList := by rw [hk]
              clear hk
              go_wp2_with fail
              go_ret
              exact ⟨rfl, HBW.out⟩
            · have hkb : (e.1.toList == key.toList) = false := toList_ne hk
              have HNX := Lib.hid (show ∀ y ∈ L.take (i + 1), ∀ z ∈ y.2.2, ¬ z.1 = key from fun y hy z hz => by
                rw [take_suc HX.out] at hy
                rcases List.mem_append.1 hy with hy | hy
                · exact HALL.out y hy z hz
                · rw [List.mem_singleton.1 hy] at hz
                  intro hzk
                  obtain ⟨j, hj⟩ := List.getElem?_of_mem hz
                  by_cases hjl : j < lo
                  · have := HLO.out j z hjl hj
                    rw [hzk, less_irrefl] at this
                    cases this
                  · have h1 := HSK.out lo j e z (by omega) HE.out hj
                    have h2 := HHI.out lo e (Nat.le_refl _) HE.out
                    rw [hzk] at h1
                    exact hk (bytes_inj (less_total _ _ h2 h1)))
              clear hk
              go_wp2_with fail
              go_roundw
              case rel => exact ⟨i + 1, by first | rfl | simp, by omega, HNX.out, HBW.out⟩
              case measure => simp [intOf]; omega
          · have HNX := Lib.hid (show ∀ y ∈ L.take (i + 1), ∀ z ∈ y.2.2, ¬ z.1 = key from fun y hy z hz => by
              rw [take_suc HX.out] at hy
              rcases List.mem_append.1 hy with hy | hy
              · exact HALL.out y hy z hz
              · rw [List.mem_singleton.1 hy] at hz
                intro hzk
                obtain ⟨j, hj⟩ := List.getElem?_of_mem hz
                have := HLO.out j z (by have := (List.getElem?_eq_some_iff.1 hj).1; have := HM.out; omega) hj
                rw [hzk, less_irrefl] at this
                cases this)
            have k1 : ¬ (lo : Int) < m := by omega
            go_wp2_with fail
            go_roundw
            case rel => exact ⟨i + 1, by first | rfl | simp, by omega, HNX.out, HBW.out⟩
            case measure => simp [intOf]; omega
    · exfalso
      obtain ⟨x, hx, e, he, hk⟩ := HEX.out
      exact HALL.out x (by rw [List.take_of_length_le (by rw [HN.out]; omega)]; exact hx) e he hk
end Go.Proofs.Ytdpijhpjicbecaa.H
