/- What Keep gave, held; small; known. Conditions: sizes. -/
import Derived.Test.YtdpijhpjicbecaaV8
import Derived.Test.YtdpijhpjicbecaaGKn
namespace Go.Proofs.Ytdpijhpjicbecaa.H
open Go Go.RowKit Go.Deep Go.Shelf Go.Proofs Go.Proofs.YtdpijhpjicbecaaW.PrintWords
set_option linter.unusedVariables false
set_option linter.unusedSimpArgs false
attribute [local go_sem] Oper.semAt_some
/-- An iterator that writes nothing but its caller's, held. -/
def KHeld (f : FV) (l : List Ent) (W : World) : Prop := ∃ (n : Nat) (HD : World → Prop), n ≤ W.heap.size ∧ Firm n HD ∧ HD W ∧ IterUV Try.prog (valF f) encA n noU HD HD HD l
theorem KHeld.upd {f : FV} {l : List Ent} {W W' : World} {S : Nat → Prop} (h : KHeld f l W) (u : Upd S W W') (hS : ∀ k, S k → W.heap.size ≤ k) : KHeld f l W' := by
  obtain ⟨n, HD, h1, h2, h3, h4⟩ := h
  exact ⟨n, HD, Nat.le_trans h1 u.size, h2, h2 _ _ h3 (u.mono fun k hk => Nat.le_trans h1 (hS k hk)), h4⟩
theorem KHeld.later {f : FV} {l : List Ent} {W W' : World} (h : KHeld f l W) (hb : Below W.heap.size W W') : KHeld f l W' := h.upd (Upd.of_below (S := noU) hb) (fun k h => h.elim)
theorem heldGives_c (f : FV) (l : List Ent) (n : Int) (w : World) (h : KHeld f l w) (hl : l.length < 2932031007319) (hln : (l.length : Int) ≤ n) :
    Calls Try.prog 42 #[valF f, .int .i64 n] w fun e w' => ∃ v, e = .returned (.tuple #[v, .bool true]) ∧ Own encE 53 4 w' w.heap.size v l ∧ Below w.heap.size w w' := by
  obtain ⟨m, HD, h1, h2, h3, h4⟩ := h
  refine (gives_c (valF f) n m noU HD HD l w h4 h2 h2 h3 h1 hl hln).mono ?_
  rintro e w' ⟨v, h1, h2, h3, _⟩
  exact ⟨v, h1, h2, h3.bel (fun k h => h.elim) (Nat.le_refl _)⟩
theorem keepV_c (A : Option Addr) (c : Nat) (ps : List Nat) (L : List HE) (g : FV) (b : ByteArray → Bool) (K : ByteArray → Prop) (HB : World → Prop) (w : World) (hs : Sl encF 1 w A (ps.map fv1)) (hA : ps = [] → (A = none ∧ c = 0) ∨ ∃ b o, A = some ⟨b, o, none⟩) (hpl : ps.length = L.length) (hsrc : SrcsL w.heap.size ps L w)
    (hl : ps.length < 1000000000) (ht : totL (L.map (·.2.2)) < 1000000000) (hg : TellsAt g b K w.heap.size noU HB) (hb : HB w) (hK : ∀ x ∈ groupsL (mergeL (L.map (·.2.2))), ∀ e ∈ x, K e.1) :
    Calls Try.prog 37 #[valF g, .slice A ps.length c] w fun e w' => ∃ f : FV, e = .returned (valF f) ∧ Below w.heap.size w w' ∧ KHeld f (keepL b (groupsL (mergeL (L.map (·.2.2))))) w' := by
  have h := keep_c A c (ps.map fv1) g w hs (fun h => hA (by simpa using h)) (by simpa using hl)
  rw [List.length_map] at h
  refine h.mono ?_
  rintro e w' ⟨f, h1, h2, HD, h3, h4, h5, h6⟩
  refine ⟨f, h1, h2, w'.heap.size, fun W => SrcsL w.heap.size ps L W ∧ HD W ∧ HB W, Nat.le_refl _, ?_, ⟨(srcsL_firm _ _ _).later hsrc h2, h3, hg.stays _ _ hb (Upd.of_below h2)⟩, ?_⟩
  · intro W W' ⟨i1, i2, i3⟩ u
    have hsz := h2.size
    exact ⟨srcsL_firm _ _ _ _ _ i1 (u.mono fun k hk => Nat.le_trans hsz hk), h4.firm _ _ i2 u, hg.stays _ _ i3 (u.mono fun k hk => .inr (Nat.le_trans hsz hk))⟩
  · exact h6 noU (fun _ => SrcsL w.heap.size ps L) (L.map (·.2.2)) b K HB (srcs_L _ _ _ hpl) (fun _ => srcsL_firm _ _ _) (fun k h => h.elim) ht ⟨hg.enter, fun W W' h u => hg.stays W W' h (u.mono fun k hk => hk.imp id (fun h => Nat.le_trans h2.size h)), fun W h hn => hg.tells W h (Nat.le_trans h2.size hn)⟩ hK
theorem tot_take (L : List HE) (k : Nat) : totL ((L.take k).map (·.2.2)) ≤ totL (L.map (·.2.2)) := by
  have h2 : ∀ a b : List (List Ent), totL (a ++ b) = totL a + totL b := by intro a b; simp [totL]
  have h3 := h2 ((L.take k).map (·.2.2)) ((L.drop k).map (·.2.2))
  rw [← List.map_append, List.take_append_drop] at h3
  omega
set_option maxHeartbeats 1600000 in
set_option maxRecDepth 100000 in
theorem small_c (A : Option Addr) (c : Nat) (L : List HE) (w : World) (hs : Sl2 w A L) (hln : ∀ x ∈ L, x.2.2.length ≤ 140737488351232) :
    Calls Try.prog 35 #[.slice A L.length c] w fun e w' => e = .returned (.bool (decide (L.length + totL (L.map (·.2.2)) ≤ 4000))) ∧ Below w.heap.size w w' := by
  have hm := hs.1.1
  have HS := Lib.hid hs
  obtain ⟨n, hn⟩ : ∃ n, L.length = n := ⟨_, rfl⟩
  rw [hn] at hm ⊢
  have HN := Lib.hid hn
  have HLN := Lib.hid hln
  clear hs hn hln
  go_enter Try.func35, Try.ntmps35
  go_wp2_with fail
  go_loopw [3, 4] (fun s3 s4 wr => ∃ k q : Nat, s4 = .int .i64 k ∧ k ≤ n ∧ s3 = .int .i64 q ∧ q = n + totL ((L.take k).map (·.2.2)) ∧ (k = 0 ∨ n + totL ((L.take (k - 1)).map (·.2.2)) ≤ 4000) ∧ Below w.heap.size w wr) (fun s3 s4 wr => n - (intOf s4).toNat)
  case atStart => exact ⟨0, n, rfl, by omega, rfl, by simp [totL], .inl rfl, Below.refl _ _⟩
  case round =>
    obtain ⟨k, q, rfl, hk, rfl, hq, hprev, hb⟩ := hrel
    generalize wr = W5 at *
    have HB := Lib.hid hb
    have HQ := Lib.hid hq
    have HPR := Lib.hid hprev
    clear hb hq hprev
    have i0 : (0 : Int) ≤ k := by omega
    by_cases hlt : k < n
    · have i1 : (k : Int) < n := by omega
      obtain ⟨x, hx⟩ := getElem?_of_lt (l := L) (by rw [HN.out]; exact hlt : k < L.length)
      obtain ⟨b2, o2, hA2, _, hc2⟩ := (HS.out.1.later HB.out).at hx
      subst hA2
      obtain ⟨pn, hpn⟩ : ∃ q, x.2.2.length = q := ⟨_, rfl⟩
      have y0 : W5.cell? ⟨b2, o2 + k, none⟩ = some (.slice x.1 pn x.2.1) := by have := hc2 0 _ rfl; rw [hpn] at this; simpa using this
      have hpm : pn ≤ 140737488351232 := by rw [← hpn]; exact HLN.out x (List.mem_of_getElem? hx)
      have HNX := Lib.hid (show q + pn = n + totL ((L.take (k + 1)).map (·.2.2)) from by rw [take_suc hx, List.map_append, HQ.out]; simp [totL, hpn]; omega)
      clear hc2 hx hpn
      by_cases hq4 : q ≤ 4000
      · have j1 : (q : Int) ≤ 4000 := by omega
        have HQL := Lib.hid (show n + totL ((L.take (k + 1 - 1)).map (·.2.2)) ≤ 4000 from by rw [Nat.add_sub_cancel, ← HQ.out]; exact hq4)
        go_wp2_with fail
        go_roundw
        case rel => exact ⟨k + 1, q + pn, by first | rfl | simp, by omega, by first | rfl | simp, HNX.out, .inr HQL.out, HB.out⟩
        case measure => simp [intOf]; omega
      · have j1 : ¬ (q : Int) ≤ 4000 := by omega
        have HFIN := Lib.hid (show ¬ n + totL (L.map (·.2.2)) ≤ 4000 from by
          have h1 := tot_take L k
          rw [HQ.out] at hq4
          omega)
        go_wp2_with fail
        go_ret
        exact ⟨by rw [decide_eq_false HFIN.out]; rfl, HB.out⟩
    · have hk2 : n = k := by omega
      subst hk2
      have HE := Lib.hid (show q = n + totL (L.map (·.2.2)) from by rw [HQ.out, List.take_of_length_le (by rw [HN.out]; exact Nat.le_refl _)])
      go_wp2_with fail
      go_ret
      have hdd : decide ((q : Int) ≤ 4000) = decide (q ≤ 4000) := decide_eq_decide.2 (by omega)
      exact ⟨by rw [← HE.out, ← hdd]; rfl, HB.out⟩
def kdE (c : UInt8) (n : Int) : Ent := (⟨#[c]⟩, n, true, ⟨#[]⟩)
def kvE (c : UInt8) (n : Int) (v : List UInt8) : Ent := (⟨#[c]⟩, n, false, ⟨v.toArray⟩)
def ksX : List Ent := [kvE 97 3 [120], kdE 98 5]
def ksY : List Ent := [kvE 97 1 [119], kvE 98 2 [118], kdE 99 4]
def isB (key : ByteArray) : Bool := decide (key = ⟨#[98]⟩)
theorem ks_keep : keepL isB (groupsL (mergeL [ksX, ksY])) = [kvE 97 3 [120], kdE 98 5] := by
  have h : mergeL [ksX, ksY] = [kvE 97 3 [120], kvE 97 1 [119], kdE 98 5, kvE 98 2 [118], kdE 99 4] := by
    simp [mergeL, totL, ksX, ksY, mergeN, bestO, lessR, cmpEE, kvE, kdE, cmpE, cmpS, cmpN, or2, ByteArray.toList_eq, Op.bytesLess]
  rw [h]
  have h2 : groupsL [kvE 97 3 [120], kvE 97 1 [119], kdE 98 5, kvE 98 2 [118], kdE 99 4] = [[kvE 97 3 [120], kvE 97 1 [119]], [kdE 98 5, kvE 98 2 [118]], [kdE 99 4]] := by
    simp [groupsL, grpS, grpE, grpEnd, kvE, kdE]
  rw [h2]
  simp [keepL, pickL, bestL, newE, kvE, kdE, isB]
def ksRX : Array Value := #[.string ⟨#[97]⟩, .int .u64 3, .bool false, .string ⟨#[120]⟩, .string ⟨#[98]⟩, .int .u64 5, .bool true, .string ⟨#[]⟩]
def ksRY : Array Value := #[.string ⟨#[97]⟩, .int .u64 1, .bool false, .string ⟨#[119]⟩, .string ⟨#[98]⟩, .int .u64 2, .bool false, .string ⟨#[118]⟩, .string ⟨#[99]⟩, .int .u64 4, .bool true, .string ⟨#[]⟩]
theorem isB_c (key : ByteArray) (w : World) : Calls Try.prog 71 #[.string key] w fun e w' => e = .returned (.bool (isB key)) ∧ Below w.heap.size w w' := by
  go_enter Try.func71, Try.ntmps71
  by_cases h : key = ⟨#[98]⟩
  · have hk : isB key = true := decide_eq_true h
    subst h
    go_wp2
    go_ret
    exact ⟨by rw [hk]; rfl, Below.refl _ _⟩
  · have hk : isB key = false := decide_eq_false h
    have h2 : (key.toList == [98]) = false := by
      have := toList_ne h
      rw [show (⟨#[98]⟩ : ByteArray).toList = [98] from by rw [ByteArray.toList_eq]] at this
      exact this
    clear h
    go_wp2
    go_ret
    exact ⟨by rw [hk, ← h2]; rfl, Below.refl _ _⟩
theorem no_c (key : ByteArray) (w : World) : Calls Try.prog 72 #[.string key] w fun e w' => e = .returned (.bool false) ∧ Below w.heap.size w w' := by
  go_enter Try.func72, Try.ntmps72
  go_wp2
  go_ret
  exact ⟨rfl, Below.refl _ _⟩
set_option maxHeartbeats 3200000 in
set_option maxRecDepth 100000 in
theorem known12_c (w : World) : Calls Try.prog 29 #[] w fun e w' => e = .returned (.bool true) ∧ Below w.heap.size w w' := by
  obtain ⟨W1, hW1⟩ : ∃ Z, w.alloc (.cells #[.string ⟨#[97]⟩, .int .u64 3, .bool false, .string ⟨#[120]⟩, .string ⟨#[98]⟩, .int .u64 5, .bool true, .string ⟨#[]⟩] 53) = Z := ⟨_, rfl⟩
  obtain ⟨W2, hW2⟩ : ∃ Z, W1.alloc (.cells #[.string ⟨#[97]⟩, .int .u64 1, .bool false, .string ⟨#[119]⟩, .string ⟨#[98]⟩, .int .u64 2, .bool false, .string ⟨#[118]⟩, .string ⟨#[99]⟩, .int .u64 4, .bool true, .string ⟨#[]⟩] 53) = Z := ⟨_, rfl⟩
  obtain ⟨W3, hW3⟩ : ∃ Z, W2.alloc (.cells #[.slice (some ⟨w.heap.size, 0, none⟩) 2 2, .slice (some ⟨w.heap.size + 1, 0, none⟩) 3 3] 27) = Z := ⟨_, rfl⟩
  have z1 : W1.heap.size = w.heap.size + 1 := by rw [← hW1]; simp
  have z2 : W2.heap.size = w.heap.size + 1 + 1 := by rw [← hW2, World.size_alloc, z1]
  have r1 : W1.heap[w.heap.size]? = some (.cells ksRX 53 (0, 0)) := by rw [← hW1]; exact heap_alloc_new _ _
  have r2 : W2.heap[w.heap.size + 1]? = some (.cells ksRY 53 (0, 0)) := by rw [← hW2, ← z1]; exact heap_alloc_new _ _
  have r3 : W3.heap[w.heap.size + 1 + 1]? = some (.cells #[.slice (some ⟨w.heap.size, 0, none⟩) 2 2, .slice (some ⟨w.heap.size + 1, 0, none⟩) 3 3] 27 (0, 0)) := by rw [← hW3, ← z2]; exact heap_alloc_new _ _
  have b1 : Below w.heap.size w W1 := by rw [← hW1]; exact (Below.refl _ _).alloc (Nat.le_refl _) _
  have b2 : Below w.heap.size w W2 := by rw [← hW2]; exact b1.alloc b1.size _
  have b3 : Below w.heap.size w W3 := by rw [← hW3]; exact b2.alloc b2.size _
  have q1 : W3.heap[w.heap.size]? = some (.cells ksRX 53 (0, 0)) := by rw [← hW3, ← hW2]; exact blk_alloc (blk_alloc r1 _) _
  have q2 : W3.heap[w.heap.size + 1]? = some (.cells ksRY 53 (0, 0)) := by rw [← hW3]; exact blk_alloc r2 _
  have HQ2 := Lib.hid q2
  have HQ3 := Lib.hid r3
  have B3 := Lib.hid b3
  have HS := Lib.hid (sources12_c (some ⟨w.heap.size + 1 + 1, 0, none⟩) 2 [(some ⟨w.heap.size, 0, none⟩, 2, ksX), (some ⟨w.heap.size + 1, 0, none⟩, 3, ksY)] W3
    ⟨Sl.of_block (fun x => (okHE x).1) r3 (by rfl) (by simp), fun x hx => by
      simp only [List.mem_cons, List.not_mem_nil, or_false] at hx
      rcases hx with rfl | rfl
      · exact Sl.of_block (fun x => (okE x).1) q1 (by rfl) (by simp [ksX])
      · exact Sl.of_block (fun x => (okE x).1) q2 (by rfl) (by simp [ksY])⟩ (by simp))
  clear r1 r2 r3 b1 b2 b3 q1 q2
  go_enter Try.func29, Try.ntmps29
  go_wp2_with fail
  try rw [hW1]
  try rw [hW2]
  try rw [hW3]
  refine HS.out.mono ?_
  clear HS
  rintro _ w4 ⟨v, ps, rfl, hpl, hown, hsrc, _, hb4⟩
  obtain ⟨A, c, rfl⟩ := own_slice hown
  have hlen : (ps.map fv1).length = 2 := by rw [List.length_map, hpl]; rfl
  have hp2 : ps.length = 2 := hpl
  have HB4 := Lib.hid (B3.out.trans (hb4.mono B3.out.size))
  have HKP := Lib.hid (keepV_c A c ps [(some ⟨w.heap.size, 0, none⟩, 2, ksX), (some ⟨w.heap.size + 1, 0, none⟩, 3, ksY)] (71, #[], #[]) isB (fun _ => True) (fun _ => True) w4 (own_sl hown (fun x => (okF x).1)) (fun h => by rw [h] at hp2; cases hp2) hpl hsrc (by omega) (by simp [totL, ksX, ksY])
    ⟨enters_of Try.func71 (by kernel_rfl) rfl, fun _ _ _ _ => trivial, fun W _ _ key W' _ _ => isB_c key W'⟩ trivial (fun _ _ _ _ => trivial))
  rw [hp2, show valF (71, #[], #[]) = .func (.func 71) #[] #[] from rfl] at HKP
  rw [hlen]
  have HQ24 := Lib.hid (blk_below HQ2.out hb4)
  have HQ34 := Lib.hid (blk_below HQ3.out hb4)
  clear hlen hp2 hpl hown hsrc hb4 hW1 hW2 hW3 z1 z2
  go_wp2_with fail
  refine HKP.out.mono ?_
  clear HKP
  rintro _ w5 ⟨f, rfl, hb5, hheld⟩
  have HG := Lib.hid (heldGives_c f _ 9 w5 hheld (by simp only [List.map_cons, List.map_nil]; rw [ks_keep]; simp) (by simp only [List.map_cons, List.map_nil]; rw [ks_keep]; simp))
  have HB5 := Lib.hid (HB4.out.trans (hb5.mono HB4.out.size))
  have HQ25 := Lib.hid (blk_below HQ24.out hb5)
  have HQ35 := Lib.hid (blk_below HQ34.out hb5)
  clear hb5 hheld
  go_wp2_with fail
  refine HG.out.mono ?_
  clear HG
  rintro _ w6 ⟨v6, rfl, hown6, hb6⟩
  simp only [List.map_cons, List.map_nil] at hown6
  rw [ks_keep] at hown6
  obtain ⟨A6, c6, rfl⟩ := own_slice hown6
  have HB6 := Lib.hid (HB5.out.trans (hb6.mono HB5.out.size))
  have HQ26 := Lib.hid (blk_below HQ25.out hb6)
  have HQ36 := Lib.hid (blk_below HQ35.out hb6)
  obtain ⟨W7, hW7⟩ : ∃ Z, w6.alloc (.cells #[.string ⟨#[97]⟩, .int .u64 3, .bool false, .string ⟨#[120]⟩, .string ⟨#[98]⟩, .int .u64 5, .bool true, .string ⟨#[]⟩] 53) = Z := ⟨_, rfl⟩
  have b7 : Below w6.heap.size w6 W7 := by rw [← hW7]; exact (Below.refl _ _).alloc (Nat.le_refl _) _
  have HSM := Lib.hid (same12_c A6 c6 [kvE 97 3 [120], kdE 98 5] (some ⟨w6.heap.size, 0, none⟩) 2 [kvE 97 3 [120], kdE 98 5] W7 ((own_sl hown6 (fun x => (okE x).1)).later b7) (Sl.of_block (cs := ksRX) (fun x => (okE x).1) (by rw [← hW7]; exact heap_alloc_new _ _) (by rfl) (by simp)))
  rw [decide_eq_true rfl] at HSM
  rw [show [kvE 97 3 [120], kdE 98 5].length = 2 from rfl] at HSM ⊢
  have HB7 := Lib.hid (HB6.out.trans (b7.mono HB6.out.size))
  have HQ27 := Lib.hid (blk_below HQ26.out b7)
  have HQ37 := Lib.hid (blk_below HQ36.out b7)
  clear hb6 hown6 b7
  go_wp2_with fail
  try rw [hW7]
  refine HSM.out.mono ?_
  clear HSM
  rintro _ W8 ⟨rfl, hb8⟩
  have HB8 := Lib.hid (HB7.out.trans (hb8.mono HB7.out.size))
  have h28 := blk_below HQ27.out hb8
  have h38 := blk_below HQ37.out hb8
  have c38 : W8.cell? ⟨w.heap.size + 1 + 1, 1, none⟩ = some (.slice (some ⟨w.heap.size + 1, 0, none⟩) 3 3) := (blk_cell h38 1).trans rfl
  have hsl : Sl encE 4 W8 (some ⟨w.heap.size + 1, 0, none⟩) ksY := Sl.of_block (fun x => (okE x).1) h28 (by rfl) (by simp [ksY])
  have hsl2 := (hsl.drop_ 1).take_ 1
  have HPC := Lib.hid (pick_c (some ⟨w.heap.size + 1, 0 + 1 * 4, none⟩) 2 ((ksY.drop 1).take 1) (72, #[], #[]) (fun _ => false) (fun _ => True) W8 hsl2 (fun _ _ => trivial) (enters_of Try.func72 (by kernel_rfl) rfl) (fun key W _ _ => no_c key W))
  rw [show ((ksY.drop 1).take 1).length = 1 from rfl, show pickL (fun _ => false) ((ksY.drop 1).take 1) = some (kvE 98 2 [118]) from by simp [pickL, ksY, bestL, newE, kvE, kdE], pickV_some, show valF (72, #[], #[]) = .func (.func 72) #[] #[] from rfl] at HPC
  clear h28 h38 hsl hsl2 hb8 hW7
  go_wp2_with fail
  refine HPC.out.mono ?_
  clear HPC
  rintro _ W9 ⟨rfl, hb9⟩
  have HB9 := Lib.hid (HB8.out.trans (hb9.mono HB8.out.size))
  clear hb9
  unfold kvE
  go_wp2_with fail
  go_ret
  exact ⟨rfl, HB9.out.alloc HB9.out.size _⟩
end Go.Proofs.Ytdpijhpjicbecaa.H
