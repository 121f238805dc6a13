/- screelaw11.known. No conditions. -/
import Derived.Test.YtdpijhpjicbecaaGUse
namespace Go.Proofs.Ytdpijhpjicbecaa.H
open Go Go.RowKit Go.Deep Go.Shelf Go.Proofs Go.Proofs.YtdpijhpjicbecaaW.PrintWords
set_option linter.unusedVariables false
set_option linter.unusedSimpArgs false
attribute [local go_sem] Oper.semAt_some
def kE (c : UInt8) (n : Int) (v : List UInt8) : Ent := (⟨#[c]⟩, n, false, ⟨v.toArray⟩)
def knX : List Ent := [kE 97 3 [], kE 97 1 [], kE 99 2 []]
def knY : List Ent := [kE 97 2 [], kE 98 9 [], kE 99 2 [118]]
def knAll : List Ent := [kE 97 3 [], kE 97 2 [], kE 97 1 [], kE 98 9 [], kE 99 2 [], kE 99 2 [118]]
theorem kn_merge : mergeL [knX, knY] = knAll := by
  simp [mergeL, totL, knX, knY, knAll, mergeN, bestO, lessR, cmpEE, kE, cmpE, cmpS, cmpN, or2, ByteArray.toList_eq, Op.bytesLess]
theorem kn_groups : groupsL knAll = [[kE 97 3 [], kE 97 2 [], kE 97 1 []], [kE 98 9 []], [kE 99 2 [], kE 99 2 [118]]] := by
  simp [groupsL, grpS, knAll, grpE, grpEnd, kE]
def knWX (w : World) : World := (w.alloc (.cells #[.string ⟨#[97]⟩, .int .u64 3, .bool false, .string ⟨#[]⟩, .string ⟨#[97]⟩, .int .u64 1, .bool false, .string ⟨#[]⟩, .string ⟨#[99]⟩, .int .u64 2, .bool false, .string ⟨#[]⟩] 53)).alloc (.cells #[.slice (some ⟨w.heap.size, 0, none⟩) 3 3, .int .i64 0, .int .i64 0] 39)
def knWY (w : World) : World := ((knWX w).alloc (.cells #[.string ⟨#[97]⟩, .int .u64 2, .bool false, .string ⟨#[]⟩, .string ⟨#[98]⟩, .int .u64 9, .bool false, .string ⟨#[]⟩, .string ⟨#[99]⟩, .int .u64 2, .bool false, .string ⟨#[118]⟩] 53)).alloc (.cells #[.slice (some ⟨w.heap.size + 1 + 1, 0, none⟩) 3 3, .int .i64 0, .int .i64 0] 39)
def knSrc (w : World) : List Src := [⟨w.heap.size + 1, some ⟨w.heap.size, 0, none⟩, 3, knX⟩, ⟨w.heap.size + 3, some ⟨w.heap.size + 2, 0, none⟩, 3, knY⟩]
theorem knWX_size (w : World) : (knWX w).heap.size = w.heap.size + 2 := by simp [knWX]
theorem knWY_size (w : World) : (knWY w).heap.size = w.heap.size + 4 := by simp [knWY, knWX]
theorem knWX_below (w : World) : Below w.heap.size w (knWX w) := ((Below.refl _ _).alloc (Nat.le_refl _) _).alloc (by simp) _
theorem knWY_below (w : World) : Below w.heap.size w (knWY w) := ((knWX_below w).alloc (by rw [knWX_size]; omega) _).alloc (by simp [knWX_size]; omega) _
theorem kn_nodup (w : World) : NoDup (knSrc w) := by
  intro i j s t hi hj e
  match i, j with
  | 0, 0 => rfl
  | 1, 1 => rfl
  | 0, 1 => simp [knSrc] at hi hj; subst hi; subst hj; simp at e
  | 1, 0 => simp [knSrc] at hi hj; subst hi; subst hj; simp at e
  | i + 2, _ => simp [knSrc] at hi
  | 0, j + 2 => simp [knSrc] at hj
  | 1, j + 2 => simp [knSrc] at hj
theorem kn_srcs (w : World) : SrcsX (w.heap.size + 4) (knSrc w) (knWY w) := by
  refine ⟨fun _ => (0, 0), ?_⟩
  have hin : ∀ b, InU (knSrc w) b → b = w.heap.size + 1 ∨ b = w.heap.size + 3 := by
    rintro b ⟨j, s, hj, rfl⟩
    match j with
    | 0 => simp [knSrc] at hj; subst hj; exact .inl rfl
    | 1 => simp [knSrc] at hj; subst hj; exact .inr rfl
    | j + 2 => simp [knSrc] at hj
  have r0 : (knWX w).heap[w.heap.size]? = some (.cells #[.string ⟨#[97]⟩, .int .u64 3, .bool false, .string ⟨#[]⟩, .string ⟨#[97]⟩, .int .u64 1, .bool false, .string ⟨#[]⟩, .string ⟨#[99]⟩, .int .u64 2, .bool false, .string ⟨#[]⟩] 53 (0, 0)) := blk_alloc (heap_alloc_new _ _) _
  have r1 : (knWX w).heap[w.heap.size + 1]? = some (.cells #[.slice (some ⟨w.heap.size, 0, none⟩) 3 3, .int .i64 0, .int .i64 0] 39 (0, 0)) := by
    have := heap_alloc_new (w.alloc (.cells #[.string ⟨#[97]⟩, .int .u64 3, .bool false, .string ⟨#[]⟩, .string ⟨#[97]⟩, .int .u64 1, .bool false, .string ⟨#[]⟩, .string ⟨#[99]⟩, .int .u64 2, .bool false, .string ⟨#[]⟩] 53)) (.cells #[.slice (some ⟨w.heap.size, 0, none⟩) 3 3, .int .i64 0, .int .i64 0] 39)
    simpa [knWX] using this
  have r2 : (knWY w).heap[w.heap.size + 2]? = some (.cells #[.string ⟨#[97]⟩, .int .u64 2, .bool false, .string ⟨#[]⟩, .string ⟨#[98]⟩, .int .u64 9, .bool false, .string ⟨#[]⟩, .string ⟨#[99]⟩, .int .u64 2, .bool false, .string ⟨#[118]⟩] 53 (0, 0)) := by
    have := blk_alloc (heap_alloc_new (knWX w) (.cells #[.string ⟨#[97]⟩, .int .u64 2, .bool false, .string ⟨#[]⟩, .string ⟨#[98]⟩, .int .u64 9, .bool false, .string ⟨#[]⟩, .string ⟨#[99]⟩, .int .u64 2, .bool false, .string ⟨#[118]⟩] 53)) (.cells #[.slice (some ⟨w.heap.size + 1 + 1, 0, none⟩) 3 3, .int .i64 0, .int .i64 0] 39)
    rw [knWX_size] at this
    exact this
  have r3 : (knWY w).heap[w.heap.size + 3]? = some (.cells #[.slice (some ⟨w.heap.size + 2, 0, none⟩) 3 3, .int .i64 0, .int .i64 0] 39 (0, 0)) := by
    have := heap_alloc_new ((knWX w).alloc (.cells #[.string ⟨#[97]⟩, .int .u64 2, .bool false, .string ⟨#[]⟩, .string ⟨#[98]⟩, .int .u64 9, .bool false, .string ⟨#[]⟩, .string ⟨#[99]⟩, .int .u64 2, .bool false, .string ⟨#[118]⟩] 53)) (.cells #[.slice (some ⟨w.heap.size + 1 + 1, 0, none⟩) 3 3, .int .i64 0, .int .i64 0] 39)
    rw [show ((knWX w).alloc _).heap.size = w.heap.size + 3 by rw [World.size_alloc, knWX_size]] at this
    exact this
  intro k s hk
  match k with
  | 0 =>
    simp [knSrc] at hk
    subst hk
    refine ⟨blk_alloc (blk_alloc r1 _) _, Sl.of_block (fun x => (okE x).1) (blk_alloc (blk_alloc r0 _) _) (by rfl) (by simp [knX]), by simp, fun _ b o e => ?_⟩
    injection e with e
    injection e with e
    subst e
    refine ⟨by omega, fun h => ?_⟩
    have := hin _ h
    omega
  | 1 =>
    simp [knSrc] at hk
    subst hk
    refine ⟨r3, Sl.of_block (fun x => (okE x).1) r2 (by rfl) (by simp [knY]), by simp, fun _ b o e => ?_⟩
    injection e with e
    injection e with e
    subst e
    refine ⟨by omega, fun h => ?_⟩
    have := hin _ h
    omega
  | k + 2 => simp [knSrc] at hk
theorem Own.later' {α : Type} {enc : α → List Value} {e : TypeId} {sz : Nat} {w w' : World} {base : Nat} {v : Value} {l : List α} (h : Own enc e sz w base v l) (hb : Below w.heap.size w w') : Own enc e sz w' base v l := h.below hb
theorem kn_low (w : World) : ∀ k, InU (knSrc w) k → w.heap.size ≤ k := by
  rintro b ⟨j, s, hj, rfl⟩
  match j with
  | 0 => simp [knSrc] at hj; subst hj; simp
  | 1 => simp [knSrc] at hj; subst hj; simp
  | j + 2 => simp [knSrc] at hj
theorem three_of {L : List HE} {a b c : List Ent} (h : L.map (·.2.2) = [a, b, c]) : ∃ h1 h2 h3, L = [h1, h2, h3] ∧ h1.2.2 = a ∧ h2.2.2 = b ∧ h3.2.2 = c := by
  cases L with
  | nil => simp at h
  | cons x L =>
    cases L with
    | nil => simp at h
    | cons y L =>
      cases L with
      | nil => simp at h
      | cons z L =>
        cases L with
        | nil => simp at h; exact ⟨x, y, z, rfl, h.1, h.2.1, h.2.2⟩
        | cons t L => simp at h
set_option maxHeartbeats 3200000 in
set_option maxRecDepth 100000 in
theorem known11_c (w : World) : Calls Try.prog 25 #[] w fun e w' => e = .returned (.bool true) ∧ Below w.heap.size w w' := by
  have hf5 : (knWY w).heap.size = w.heap.size + 4 := knWY_size w
  have hb4 := knWY_below w
  have HOF := Lib.hid (srcOf_c (w.heap.size + 4) (knSrc w) (some ⟨w.heap.size + 4, 0, none⟩) 2 ((knWY w).alloc (.cells #[.func (.func 26) #[.pointer (some ⟨w.heap.size + 1, 0, none⟩)] #[], .func (.func 26) #[.pointer (some ⟨w.heap.size + 3, 0, none⟩)] #[]] 31))
    (by rw [← hf5]; exact Sl.of_block (fun x => (okF x).1) (heap_alloc_new _ _) (by rfl) (by simp [knSrc])) (by simp [knSrc]) (kn_nodup w) ((kn_srcs w).later (by omega) ((Below.refl _ _).alloc (Nat.le_refl _) _)) (by simp; omega) (by simp [knSrc, totL, knX, knY]) (by simp [knSrc]))
  go_enter Try.func25, Try.ntmps25
  have hK : ∀ W : World, (knWY w).heap.size ≤ W.heap.size → True := fun _ _ => trivial
  go_wp2_with fail
  refine HOF.out.mono ?_
  rintro _ w6 ⟨f, rfl, hb6, hof⟩
  clear hK
  obtain ⟨W5, hW5⟩ : ∃ Z, (knWY w).alloc (.cells #[.func (.func 26) #[.pointer (some ⟨w.heap.size + 1, 0, none⟩)] #[], .func (.func 26) #[.pointer (some ⟨w.heap.size + 3, 0, none⟩)] #[]] 31) = Z := ⟨_, rfl⟩
  rw [hW5] at hb6
  have hb5 : Below w.heap.size w W5 := by rw [← hW5]; exact hb4.alloc (by omega) _
  have hs5 : W5.heap.size = w.heap.size + 5 := by rw [← hW5, World.size_alloc, hf5]
  have hx5 : SrcsX (w.heap.size + 4) (knSrc w) W5 := by rw [← hW5]; exact (kn_srcs w).later (by omega) ((Below.refl _ _).alloc (Nat.le_refl _) _)
  have hx6 := hx5.later (by omega) hb6
  have hml : mergeL ((knSrc w).map (·.l)) = knAll := kn_merge
  rw [hml] at hof
  have HTK := Lib.hid (takenOf_c (w.heap.size + 4) (knSrc w) f knAll (-1) w6 hof hx6 (by simp [knAll]))
  have hb6' : Below w.heap.size w w6 := hb5.trans (hb6.mono (by omega))
  have hs6 := hb6.size
  clear HOF hW5 hb5 hx5 hb6 hof hx6 hml hb4 hf5
  go_wp2_with fail
  refine HTK.out.mono ?_
  rintro _ w7 ⟨v7, rfl, hv7, hu7, hx7⟩
  rw [show takeN (-1) knAll = knAll from rfl] at hv7
  obtain ⟨A7, c7, rfl⟩ := own_slice hv7
  have hb7 : Below w.heap.size w w7 := hb6'.trans (hu7.bel (kn_low w) (by omega))
  have hs7 := hu7.size
  obtain ⟨W8, hW8⟩ : ∃ Z, w7.alloc (.cells #[.func (.func 26) #[.pointer (some ⟨w.heap.size + 1, 0, none⟩)] #[], .func (.func 26) #[.pointer (some ⟨w.heap.size + 1 + 1 + 1, 0, none⟩)] #[]] 31) = Z := ⟨_, rfl⟩
  have hb8 : Below w7.heap.size w7 W8 := by rw [← hW8]; exact (Below.refl _ _).alloc (Nat.le_refl _) _
  have hs8 := hb8.size
  have HKE := Lib.hid (srcKeys_c (w.heap.size + 4) (knSrc w) (some ⟨w7.heap.size, 0, none⟩) 2 W8
    (by rw [← hW8]; exact Sl.of_block (fun x => (okF x).1) (heap_alloc_new _ _) (by rfl) (by simp [knSrc])) (by simp [knSrc]) (kn_nodup w) (hx7.later (by omega) hb8) (by omega) (by simp [knSrc, totL, knX, knY]) (by simp [knSrc]))
  have HX8 := Lib.hid (hx7.later (by omega) hb8)
  have HB8 := Lib.hid (hb7.trans (hb8.mono (by omega)))
  have HV8 := Lib.hid (hv7.later' hb8)
  clear HTK hx7 hb8 hv7 hu7 hb6' hb7
  go_wp2_with fail
  refine HKE.out.mono ?_
  rintro _ w9 ⟨g, rfl, hb9, hkv⟩
  have hs9 := hb9.size
  have hml : mergeL ((knSrc w).map (·.l)) = knAll := kn_merge
  rw [hml, kn_groups] at hkv
  have HRU := Lib.hid (runsKeys_c (w.heap.size + 4) (knSrc w) g _ (-1) w9 hkv (HX8.out.later (by omega) hb9) (by simp) (by intro x hx; simp at hx; rcases hx with rfl | rfl | rfl <;> simp))
  have HB9 := Lib.hid hb9
  clear HKE hkv hb9 hml
  go_wp2_with fail
  refine HRU.out.mono ?_
  rintro _ wA ⟨vA, LA, rfl, hLA, hmade, huA, hxA⟩
  have hsA := huA.size
  have hbA : Below w.heap.size w wA := (HB8.out.trans (HB9.out.mono (by omega))).trans (huA.bel (kn_low w) (by omega))
  have hvA : Own encE 53 4 wA w6.heap.size (.slice A7 knAll.length c7) knAll := (HV8.out.later' HB9.out).upd huA (fun k hk hx => by
    have h1 := (HV8.out.block_lt hk).1
    obtain ⟨j, s, hj, e⟩ := hx
    match j with
    | 0 => simp [knSrc] at hj; subst hj; simp at e; omega
    | 1 => simp [knSrc] at hj; subst hj; simp at e; omega
    | j + 2 => simp [knSrc] at hj)
  obtain ⟨h1, h2, h3, rfl, e1, e2, e3⟩ : ∃ h1 h2 h3, LA = [h1, h2, h3] ∧ h1.2.2.length = 3 ∧ h2.2.2.length = 1 ∧ h3.2.2.length = 2 := by
    rw [show takeN (-1) [[kE 97 3 [], kE 97 2 [], kE 97 1 []], [kE 98 9 []], [kE 99 2 [], kE 99 2 [118]]] = [[kE 97 3 [], kE 97 2 [], kE 97 1 []], [kE 98 9 []], [kE 99 2 [], kE 99 2 [118]]] from rfl] at hLA
    obtain ⟨a, b, c, h0, h1, h2, h3⟩ := three_of hLA
    exact ⟨a, b, c, h0, by rw [h1]; rfl, by rw [h2]; rfl, by rw [h3]; rfl⟩
  obtain ⟨AA, cA, rfl⟩ := own_slice hmade.own
  have hsl := hmade.sl
  obtain ⟨bA, oA, rfl, hbA1, k0⟩ := hsl.at (i := 0) (x := h1) rfl
  obtain ⟨_, _, e4, _, k1⟩ := hsl.at (i := 1) (x := h2) rfl
  injection e4 with e4
  injection e4 with e4 e5
  subst e4; subst e5
  obtain ⟨_, _, e4, _, k2⟩ := hsl.at (i := 2) (x := h3) rfl
  injection e4 with e4
  injection e4 with e4 e5
  subst e4; subst e5
  have k0 : wA.cell? ⟨bA, oA, none⟩ = some (.slice h1.1 3 h1.2.1) := by have := k0 0 _ rfl; rw [e1] at this; simpa using this
  have k1 : wA.cell? ⟨bA, oA + 1, none⟩ = some (.slice h2.1 1 h2.2.1) := by have := k1 0 _ rfl; rw [e2] at this; simpa using this
  have k2 : wA.cell? ⟨bA, oA + 2, none⟩ = some (.slice h3.1 2 h3.2.1) := by have := k2 0 _ rfl; rw [e3] at this; simpa using this
  obtain ⟨WB, hWB⟩ : ∃ Z, wA.alloc (.cells #[.string ⟨#[97]⟩, .int .u64 3, .bool false, .string ⟨#[]⟩, .string ⟨#[97]⟩, .int .u64 2, .bool false, .string ⟨#[]⟩, .string ⟨#[97]⟩, .int .u64 1, .bool false, .string ⟨#[]⟩, .string ⟨#[98]⟩, .int .u64 9, .bool false, .string ⟨#[]⟩, .string ⟨#[99]⟩, .int .u64 2, .bool false, .string ⟨#[]⟩, .string ⟨#[99]⟩, .int .u64 2, .bool false, .string ⟨#[118]⟩] 53) = Z := ⟨_, rfl⟩
  have hbB : Below wA.heap.size wA WB := by rw [← hWB]; exact (Below.refl _ _).alloc (Nat.le_refl _) _
  have HSE := Lib.hid (sameEntries11_c A7 c7 knAll (some ⟨wA.heap.size, 0, none⟩) 6 knAll WB (own_sl (hvA.later' hbB) (fun x => (okE x).1)) (by rw [← hWB]; exact Sl.of_block (fun x => (okE x).1) (heap_alloc_new _ _) (by rfl) (by simp [knAll])))
  rw [decide_eq_true rfl] at HSE
  have HBB := Lib.hid (hbA.trans (hbB.mono (by omega)))
  have HBB2 := Lib.hid hbB
  have hle := hbA.size
  clear HRU hLA hmade huA hxA hbA hvA hsl e1 e2 e3 hbA1 hbB HX8 HB8 HV8 HB9
  go_wp2_with (go_at_call 21; refine HSE.out.mono ?_; rintro e wC ⟨rfl, hbC⟩; have hbAC := HBB2.out.trans (hbC.mono HBB2.out.size); have j0 := cell_later hbAC k0; have j1 := cell_later hbAC k1; have j2 := cell_later hbAC k2; have HBC := Lib.hid (HBB.out.trans (hbC.mono HBB.out.size)); clear k0 k1 k2 hbC hbAC)
  go_ret
  exact ⟨rfl, HBC.out⟩
end Go.Proofs.Ytdpijhpjicbecaa.H
