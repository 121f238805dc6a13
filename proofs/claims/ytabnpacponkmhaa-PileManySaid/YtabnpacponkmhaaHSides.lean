/- screelaw4: many sides beside one another; the law PilePlays: true of every script. Conditions: none. -/
import Derived.Test.YtabnpacponkmhaaHDrain
namespace Go.Proofs.Ytabnpacponkmhaa.H
open Go.RowKit Go.Deep Go.Proofs Go.Proofs.YtabnpacponkmhaaW.PrintWords
set_option linter.unusedVariables false
set_option linter.unusedSimpArgs false
/-- The sides of L (their structs' blocks, their orders), each with at most N things, none touching another one nor R; all of them made since w0. -/
def Sides (w0 wr : World) (N : Nat) (R : Nat → Prop) (L : List (Nat × Int)) : Prop :=
  Below w0.heap.size w0 wr ∧ (∀ k, R k → k < wr.heap.size) ∧ ∃ S : Nat → Nat → Prop, (∀ i sp o, L[i]? = some (sp, o) → ∃ n, n ≤ N ∧ SideIs wr sp (S i) o n) ∧
    (∀ i k, S i k → w0.heap.size ≤ k ∧ k < wr.heap.size ∧ ¬ R k) ∧ ∀ i j k, i ≠ j → S i k → ¬ S j k
theorem Sides.below {w0 wr : World} {N : Nat} {R : Nat → Prop} {L : List (Nat × Int)} (h : Sides w0 wr N R L) : Below w0.heap.size w0 wr := h.1
theorem Sides.nil (w : World) : Sides w w 0 (fun _ => False) [] := ⟨Below.refl _ _, fun k h => h.elim, fun _ _ => False, fun i sp o h => by simp at h, fun i k h => h.elim, fun i j k _ h => h.elim⟩
theorem Sides.add {w0 wr w' : World} {N sp : Nat} {R S0 : Nat → Prop} {L : List (Nat × Int)} {o : Int} (h : Sides w0 wr N R L) (hb : Below wr.heap.size wr w') (hs : SideIs w' sp S0 o 0) (hS : ∀ k, S0 k → wr.heap.size ≤ k ∧ k < w'.heap.size) :
    Sides w0 w' N R (L ++ [(sp, o)]) := by
  obtain ⟨h1, h2, S, h3, h4, h5⟩ := h
  refine ⟨h1.trans (hb.mono h1.size), fun k hk => Nat.lt_of_lt_of_le (h2 k hk) hb.size, fun i => if i = L.length then S0 else if i < L.length then S i else fun _ => False, ?_, ?_, ?_⟩
  · intro i sp' o' hi
    rcases Nat.lt_trichotomy i L.length with h | h | h
    · rw [List.getElem?_append_left h] at hi
      obtain ⟨n, hn, hs'⟩ := h3 i sp' o' hi
      refine ⟨n, hn, ?_⟩
      dsimp only
      rw [if_neg (by omega), if_pos h]
      exact hs'.upd (Upd.of_below (S := fun _ => False) hb) (fun _ _ h => h)
    · subst h
      rw [List.getElem?_concat_length] at hi
      injection hi with hi
      injection hi with e1 e2
      subst e1; subst e2
      exact ⟨0, Nat.zero_le _, by dsimp only; rw [if_pos rfl]; exact hs⟩
    · rw [List.getElem?_eq_none (by simp; omega)] at hi
      cases hi
  · intro i k hk
    have hk : (if i = L.length then S0 else if i < L.length then S i else fun _ => False) k := hk
    split at hk
    · obtain ⟨a, b⟩ := hS k hk
      exact ⟨Nat.le_trans h1.size a, b, fun r => by have := h2 k r; omega⟩
    · split at hk
      · obtain ⟨a, b, c⟩ := h4 i k hk
        exact ⟨a, Nat.lt_of_lt_of_le b hb.size, c⟩
      · exact hk.elim
  · intro i j k hij hi hj
    have hi : (if i = L.length then S0 else if i < L.length then S i else fun _ => False) k := hi
    have hj : (if j = L.length then S0 else if j < L.length then S j else fun _ => False) k := hj
    split at hi
    · split at hj
      · omega
      · split at hj
        · have := (h4 j k hj).2.1
          have := (hS k hi).1
          omega
        · exact hj
    · split at hi
      · split at hj
        · have := (h4 i k hi).2.1
          have := (hS k hj).1
          omega
        · split at hj
          · exact h5 i j k hij hi hj
          · exact hj
      · exact hi
/-- A call of one of them. -/
theorem Sides.act {w0 wr : World} {N : Nat} {R : Nat → Prop} {L : List (Nat × Int)} (h : Sides w0 wr N R L) {i sp : Nat} {o : Int} (hi : L[i]? = some (sp, o)) {f : Nat} {args : Array Value} {v : Value}
    (hC : ∀ S n, n ≤ N → SideIs wr sp S o n → Calls Try.prog f args wr fun e w' => e = .returned v ∧ ∃ n', n' ≤ N + 1 ∧ Played wr sp S o n' w') :
    Calls Try.prog f args wr fun e w' => e = .returned v ∧ Sides w0 w' (N + 1) R L ∧ ∃ T : Nat → Prop, Upd T wr w' ∧ ∀ k, T k → w0.heap.size ≤ k ∧ ¬ R k := by
  obtain ⟨h1, h2, S, h3, h4, h5⟩ := h
  obtain ⟨n, hn, hs⟩ := h3 i sp o hi
  refine (hC (S i) n hn hs).mono ?_
  rintro e w' ⟨he, n', hn', hp⟩
  obtain ⟨hs', hu⟩ := hp
  have hs'' := hs'.tight
  refine ⟨he, ⟨hu.below h1 (fun k hk => (h4 i k hk).1), fun k hk => Nat.lt_of_lt_of_le (h2 k hk) hu.size, fun j => if j = i then (fun k => New (S i) wr k ∧ k < w'.heap.size) else S j, ?_, ?_, ?_⟩, S i, hu, fun k hk => ⟨(h4 i k hk).1, (h4 i k hk).2.2⟩⟩
  · intro j sp' o' hj
    by_cases e : j = i
    · subst e
      rw [hi] at hj
      injection hj with hj
      injection hj with e1 e2
      subst e1; subst e2
      exact ⟨n', hn', by dsimp only; rw [if_pos rfl]; exact hs''⟩
    · obtain ⟨m, hm, hsj⟩ := h3 j sp' o' hj
      exact ⟨m, by omega, by dsimp only; rw [if_neg e]; exact hsj.upd hu (fun k hk hk' => h5 j i k e hk hk')⟩
  · intro j k hk
    have hk : (if j = i then (fun k => New (S i) wr k ∧ k < w'.heap.size) else S j) k := hk
    split at hk
    · obtain ⟨a | a, b⟩ := hk
      · obtain ⟨x, y, z⟩ := h4 i k a
        exact ⟨x, b, z⟩
      · exact ⟨Nat.le_trans h1.size a, b, fun r => by have := h2 k r; omega⟩
    · obtain ⟨x, y, z⟩ := h4 j k hk
      exact ⟨x, Nat.lt_of_lt_of_le y hu.size, z⟩
  · intro a b k hab ha hb
    have ha : (if a = i then (fun k => New (S i) wr k ∧ k < w'.heap.size) else S a) k := ha
    have hb : (if b = i then (fun k => New (S i) wr k ∧ k < w'.heap.size) else S b) k := hb
    by_cases ea : a = i
    · rw [if_pos ea] at ha
      by_cases eb : b = i
      · omega
      · rw [if_neg eb] at hb
        obtain ⟨x | x, _⟩ := ha
        · exact h5 i b k (fun e => eb e.symm) x hb
        · have := (h4 b k hb).2.1
          omega
    · rw [if_neg ea] at ha
      by_cases eb : b = i
      · rw [if_pos eb] at hb
        obtain ⟨x | x, _⟩ := hb
        · exact h5 a i k ea ha x
        · have := (h4 a k ha).2.1
          omega
      · rw [if_neg eb] at hb
        exact h5 a b k hab ha hb
theorem nAfter_le (K : Int) (n : Nat) : nAfter K n ≤ n + 1 := by unfold nAfter; split; omega; split <;> omega
theorem Sides.play {w0 wr : World} {N : Nat} {R : Nat → Prop} {L : List (Nat × Int)} (h : Sides w0 wr N R L) (hN : N < 10000000000) {i sp : Nat} {o : Int} (hi : L[i]? = some (sp, o)) (K M : Int) (sec : Bool) :
    Calls Try.prog 15 #[.pointer (some ⟨sp, 0, none⟩), opV K M sec] wr fun e w' => e = .returned (.bool true) ∧ Sides w0 w' (N + 1) R L ∧ ∃ T : Nat → Prop, Upd T wr w' ∧ ∀ k, T k → w0.heap.size ≤ k ∧ ¬ R k :=
  h.act hi fun S n hn hs => (plays_c sp S o n K M sec (by omega) wr hs).mono fun e w' ⟨he, hp⟩ => ⟨he, _, by have := nAfter_le K n; omega, hp⟩
theorem Sides.drain {w0 wr : World} {N : Nat} {R : Nat → Prop} {L : List (Nat × Int)} (h : Sides w0 wr N R L) (hN : N < 10000000000) {i sp : Nat} {o : Int} (hi : L[i]? = some (sp, o)) :
    Calls Try.prog 16 #[.pointer (some ⟨sp, 0, none⟩)] wr fun e w' => e = .returned (.bool true) ∧ Sides w0 w' (N + 1) R L ∧ ∃ T : Nat → Prop, Upd T wr w' ∧ ∀ k, T k → w0.heap.size ≤ k ∧ ¬ R k :=
  h.act hi fun S n hn hs => (drains_c sp S o n (by omega) wr hs).mono fun e w' ⟨he, hp⟩ => ⟨he, 0, by omega, hp⟩
theorem Sides.head {w0 wr : World} {N : Nat} {R : Nat → Prop} {L : List (Nat × Int)} (h : Sides w0 wr N R L) {i sp : Nat} {o : Int} (hi : L[i]? = some (sp, o)) : ∃ g, wr.cell? ⟨sp, 0, none⟩ = some (.pointer (some ⟨g, 0, none⟩)) := by
  obtain ⟨h1, h2, S, h3, h4, h5⟩ := h
  obtain ⟨n, hn, hs⟩ := h3 i sp o hi
  exact hs.heapPtr
theorem sl_lt {α : Type} {enc : α → List Value} {sz : Nat} {w : World} {A : Option Addr} {l : List α} {b o : Nat} (h : Sl enc sz w A l) (hA : A = some ⟨b, o, none⟩) (hl : l ≠ []) : b < w.heap.size := by
  rcases h.2 with h0 | ⟨b', o', hA', hlt, _⟩
  · exact absurd h0 hl
  · rw [hA] at hA'
    injection hA' with e
    injection e with e1
    rw [e1]
    exact hlt
/-- A side is made. -/
theorem side_new {w w1 : World} {o : Int} (hh : HeapIs w1 (w.heap.size + 1) (fun k => k = w.heap.size + 1) (ordV w.heap.size) []) (hc : CellI w.heap.size o w1) (hb : Below w.heap.size w w1) :
    SideIs ((w1.alloc (.cells #[.int .i64 o, .slice none 0 0] 39)).alloc (.cells #[.pointer (some ⟨w.heap.size + 1, 0, none⟩), .pointer (some ⟨w1.heap.size, 0, none⟩), .int .i64 0, .bool false] 41)) (w1.heap.size + 1)
      (fun k => w.heap.size ≤ k ∧ k < w1.heap.size + 2) o 0 ∧
    Below w.heap.size w ((w1.alloc (.cells #[.int .i64 o, .slice none 0 0] 39)).alloc (.cells #[.pointer (some ⟨w.heap.size + 1, 0, none⟩), .pointer (some ⟨w1.heap.size, 0, none⟩), .int .i64 0, .bool false] 41)) := by
  have hlt := hh.lt
  have hw1 := hb.size
  have hbb : Below w1.heap.size w1 ((w1.alloc (.cells #[.int .i64 o, .slice none 0 0] 39)).alloc (.cells #[.pointer (some ⟨w.heap.size + 1, 0, none⟩), .pointer (some ⟨w1.heap.size, 0, none⟩), .int .i64 0, .bool false] 41)) :=
    ((Below.refl w1.heap.size w1).alloc (Nat.le_refl _) _).trans ((Below.refl _ _).alloc (by simp) _)
  have hs2 : (w1.alloc (.cells #[.int .i64 o, .slice none 0 0] 39)).heap.size = w1.heap.size + 1 := by simp
  have hst : sideB ((w1.alloc (.cells #[.int .i64 o, .slice none 0 0] 39)).alloc (.cells #[.pointer (some ⟨w.heap.size + 1, 0, none⟩), .pointer (some ⟨w1.heap.size, 0, none⟩), .int .i64 0, .bool false] 41)) (w1.heap.size + 1) (w.heap.size + 1) w1.heap.size 0 false := by
    unfold sideB
    have := heap_alloc_new (w1.alloc (.cells #[.int .i64 o, .slice none 0 0] 39)) (.cells #[.pointer (some ⟨w.heap.size + 1, 0, none⟩), .pointer (some ⟨w1.heap.size, 0, none⟩), .int .i64 0, .bool false] 41)
    rwa [hs2] at this
  have hbag : BagIs ((w1.alloc (.cells #[.int .i64 o, .slice none 0 0] 39)).alloc (.cells #[.pointer (some ⟨w.heap.size + 1, 0, none⟩), .pointer (some ⟨w1.heap.size, 0, none⟩), .int .i64 0, .bool false] 41)) w1.heap.size (fun k => k = w1.heap.size) o [] := by
    refine ⟨.slice none 0 0, ?_, Own.nil _ _ _ _ _, rfl, by simp [Value.ownBlock]⟩
    have := ((Below.refl (w1.heap.size + 1) (w1.alloc (.cells #[.int .i64 o, .slice none 0 0] 39))).alloc (by rw [hs2]; exact Nat.le_refl _) (.cells #[.pointer (some ⟨w.heap.size + 1, 0, none⟩), .pointer (some ⟨w1.heap.size, 0, none⟩), .int .i64 0, .bool false] 41)).block w1.heap.size (by omega)
    rw [this]
    exact heap_alloc_new w1 _
  refine ⟨⟨w.heap.size + 1, w1.heap.size, w.heap.size, _, _, [], [], 0, false, ⟨hst, hh.later hbb, (CellI.stays (S := fun _ => False) (fun h => h)).later hc hbb, hbag, ?_, ?_, ?_, ?_, ?_, IsHeap.nil, List.Perm.refl _, by simp⟩, rfl⟩, hb.trans (hbb.mono hw1)⟩
  · intro k hk
    exact ⟨⟨by omega, by omega⟩, by omega, by omega, by omega⟩
  · intro k hk
    exact ⟨⟨by omega, by omega⟩, by omega, by omega⟩
  · exact ⟨by omega, by omega⟩
  · exact ⟨by omega, by omega⟩
  · omega
set_option maxHeartbeats 6400000 in
theorem pilePlays_c (o1 o2 : Int) (A : Option Addr) (c : Nat) (l : List OpT) (w : World) (hs : Sl encOp 3 w A l) :
    Calls Try.prog 4 #[.int .i64 o1, .int .i64 o2, .slice A l.length c] w fun e w' => e = .returned (.bool true) ∧ Below w.heap.size w w' := by
  have hm := hs.1
  have HS := Lib.hid hs
  have HSB := Lib.hid (fun (b o : Nat) (h : A = some ⟨b, o, none⟩) (hl : l ≠ []) => sl_lt hs h hl)
  have H0 := Lib.hid (Sides.nil w)
  clear hs
  go_enter Try.func4, Try.ntmps4
  go_wp2_with fail
  refine (heap_c o1 w).mono ?_
  rintro e w1 ⟨rfl, hh1, hc1, hb1⟩
  obtain ⟨hs1, hbb1⟩ := side_new hh1 hc1 hb1
  have HA := Lib.hid (H0.out.add hbb1 hs1 (fun k hk => ⟨hk.1, by simpa using hk.2⟩))
  clear hh1 hc1 hb1 hs1 hbb1
  go_wp2_with fail
  generalize (w1.alloc (.cells #[.int .i64 o1, .slice none 0 0] 39)).alloc (.cells #[.pointer (some ⟨w.heap.size + 1, 0, none⟩), .pointer (some ⟨w1.heap.size, 0, none⟩), .int .i64 0, .bool false] 41) = wa at *
  generalize w1.heap.size + 1 = sa at *
  refine (heap_c o2 wa).mono ?_
  rintro e w2 ⟨rfl, hh1, hc1, hb1⟩
  obtain ⟨hs1, hbb1⟩ := side_new hh1 hc1 hb1
  have HP := Lib.hid (HA.out.add hbb1 hs1 (fun k hk => ⟨hk.1, by simpa using hk.2⟩))
  clear hh1 hc1 hb1 hs1 hbb1 HA
  have hsz : ((w2.alloc (.cells #[.int .i64 o2, .slice none 0 0] 39)).alloc (.cells #[.pointer (some ⟨wa.heap.size + 1, 0, none⟩), .pointer (some ⟨w2.heap.size, 0, none⟩), .int .i64 0, .bool false] 41)).heap.size = w2.heap.size + 2 := by simp
  clear hsz
  go_upto_region 3 with (fail)
  obtain ⟨ga, ca⟩ := HP.out.head (i := 0) rfl
  obtain ⟨gb, cb⟩ := HP.out.head (i := 1) rfl
  generalize (w2.alloc (.cells #[.int .i64 o2, .slice none 0 0] 39)).alloc (.cells #[.pointer (some ⟨wa.heap.size + 1, 0, none⟩), .pointer (some ⟨w2.heap.size, 0, none⟩), .int .i64 0, .bool false] 41) = wb at *
  generalize w2.heap.size + 1 = sb at *
  by_cases hbig : 600 < l.length
  · have e1 : decide ((600 : Int) < (l.length : Int)) = true := by simp; omega
    go_wp2
    go_ret
    exact ⟨by simp, HP.out.below⟩
  · have e1 : decide ((600 : Int) < (l.length : Int)) = false := by simp; omega
    have hlen : l.length ≤ 600 := by omega
    clear hbig
    go_wp2
    clear e1 ca cb
    go_loopw [9] (fun s9 wr => ∃ i : Nat, s9 = .int .i64 i ∧ i ≤ l.length ∧ Sides w wr i (fun _ => False) [(sa, o1), (sb, o2)]) (fun s9 _ => l.length - (intOf s9).toNat)
    case atStart => exact ⟨0, rfl, Nat.zero_le _, HP.out⟩
    case round =>
      obtain ⟨i, rfl, hi, hsd⟩ := hrel
      by_cases hlt : i < l.length
      · obtain ⟨⟨ok, on, o2'⟩, hx⟩ := getElem?_of_lt hlt
        obtain ⟨b, o, rfl, hbl, hc⟩ := (HS.out.below hsd.below (fun b o hA hl => HSB.out b o hA hl)).at hx
        have a0 : wr.cell? ⟨b, o + i * 3, none⟩ = some (.int .i64 ok) := by simpa using hc 0 _ rfl
        have a1 : wr.cell? ⟨b, o + i * 3 + 1, none⟩ = some (.int .i64 on) := by simpa using hc 1 _ rfl
        have a2 : wr.cell? ⟨b, o + i * 3 + 2, none⟩ = some (.bool o2') := by simpa using hc 2 _ rfl
        have i1 : (0 : Int) ≤ (i : Int) := by omega
        have i2 : (i : Int) < (l.length : Int) := by omega
        have HA := Lib.hid (hsd.play (by omega) (i := 0) rfl ok on o2')
        have HB := Lib.hid (hsd.play (by omega) (i := 1) rfl ok on o2')
        clear hc hx hsd
        cases o2' with
        | false =>
          go_wp2_with fail
          refine HA.out.mono ?_
          rintro e w3 ⟨rfl, hs3, _⟩
          have HS3 := Lib.hid hs3
          clear hs3
          go_wp2
          go_roundw
          case rel => exact ⟨i + 1, by go_num, by omega, HS3.out⟩
          case measure => simp [intOf]; omega
        | true =>
          go_wp2_with fail
          refine HB.out.mono ?_
          rintro e w3 ⟨rfl, hs3, _⟩
          have HS3 := Lib.hid hs3
          clear hs3
          go_wp2
          go_roundw
          case rel => exact ⟨i + 1, by go_num, by omega, HS3.out⟩
          case measure => simp [intOf]; omega
      · have i2 : ¬ ((i : Int) < (l.length : Int)) := by omega
        have HS0 := Lib.hid hsd
        clear hsd
        go_wp2_with fail
        refine (HS0.out.play (by omega) (i := 0) rfl 4 0 false).mono ?_
        rintro e w3 ⟨rfl, hs3, _⟩
        have HS3 := Lib.hid hs3
        clear hs3
        go_wp2_with fail
        refine (HS3.out.play (by omega) (i := 1) rfl 4 0 false).mono ?_
        rintro e w4 ⟨rfl, hs4, _⟩
        have HS4 := Lib.hid hs4
        clear hs4
        go_wp2_with fail
        refine (HS4.out.drain (by omega) (i := 0) rfl).mono ?_
        rintro e w5 ⟨rfl, hs5, _⟩
        have HS5 := Lib.hid hs5
        clear hs5
        go_wp2_with fail
        refine (HS5.out.drain (by omega) (i := 1) rfl).mono ?_
        rintro e w6 ⟨rfl, hs6, _⟩
        have HS6 := Lib.hid hs6
        clear hs6
        go_wp2
        go_ret
        exact ⟨rfl, HS6.out.below⟩
end Go.Proofs.Ytabnpacponkmhaa.H
