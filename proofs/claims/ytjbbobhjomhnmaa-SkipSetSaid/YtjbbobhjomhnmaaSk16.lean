/- known: the chapter's first example. No conditions. -/
import Derived.Test.YtjbbobhjomhnmaaSk15
namespace Go.Proofs.Ytjbbobhjomhnmaa.H
open Go Go.RowKit Go.Deep Go.Shelf Go.Proofs Go.Proofs.YtjbbobhjomhnmaaW.PrintWords
set_option linter.unusedVariables false
set_option linter.unusedSimpArgs false
def cmpEE' (x y : Ent) : Int := cmpE x.1.data.toList y.1.data.toList x.2.1 y.2.1
theorem cmpEE_eq (x y : Ent) : cmpEE x y = cmpEE' x y := by unfold cmpEE cmpEE'; rw [ByteArray.toList_eq, ByteArray.toList_eq]
def hasL' (L : List EH) (e : Ent) : Bool := L.any (fun y => decide (cmpEE' y.1 e = 0))
def insL' (L : List EH) (x : EH) : List EH := L.filter (fun y => decide (cmpEE' y.1 x.1 < 0)) ++ x :: L.filter (fun y => !decide (cmpEE' y.1 x.1 < 0))
theorem hasL_eq (L : List EH) (e : Ent) : hasL L e = hasL' L e := by unfold hasL hasL'; simp only [cmpEE_eq]
theorem ltE_dec (x y : Ent) : decide (ltE x y) = decide (cmpEE' x y < 0) := decide_eq_decide.2 (by unfold ltE; rw [cmpEE_eq])
theorem insL_eq (L : List EH) (x : EH) : insL L x = insL' L x := by unfold insL insL'; simp only [ltE_dec]
def notAhead' (k : ByteArray) (q : Int) (l : List Ent) : List Ent := l.filter (fun e => !decide (cmpEE' e (k, q, false, ⟨#[]⟩) < 0))
theorem notAhead_eq (k : ByteArray) (q : Int) (l : List Ent) : notAhead k q l = notAhead' k q l := by unfold notAhead notAhead'; simp only [ltE_dec]
def dr5 : List Int := [0, 13, 5]
def eb2 : Ent := (⟨#[98]⟩, 2, false, ⟨#[]⟩)
def ea1 : Ent := (⟨#[97]⟩, 1, false, ⟨#[]⟩)
def eb3 : Ent := (⟨#[98]⟩, 3, false, ⟨#[]⟩)
def eb2x : Ent := (⟨#[98]⟩, 2, false, ⟨#[120]⟩)
def ec9 : Ent := (⟨#[99]⟩, 9, false, ⟨#[]⟩)
theorem put_1 : putS dr5 [] eb2 = [(eb2, 1)] := by unfold putS; rw [hasL_eq, insL_eq]; rfl
theorem put_2 : putS dr5 [(eb2, 1)] ea1 = [(ea1, 2), (eb2, 1)] := by unfold putS; rw [hasL_eq, insL_eq]; rfl
theorem put_3 : putS dr5 [(ea1, 2), (eb2, 1)] eb3 = [(ea1, 2), (eb3, 6), (eb2, 1)] := by unfold putS; rw [hasL_eq, insL_eq]; rfl
theorem put_4 : putS dr5 [(ea1, 2), (eb3, 6), (eb2, 1)] eb2x = [(ea1, 2), (eb3, 6), (eb2, 1)] := by unfold putS; rw [hasL_eq, insL_eq]; rfl
theorem put_5 : putS dr5 [(ea1, 2), (eb3, 6), (eb2, 1)] ec9 = [(ea1, 2), (eb3, 6), (eb2, 1), (ec9, 1)] := by unfold putS; rw [hasL_eq, insL_eq]; rfl
theorem has_1 : hasL [] eb2 = false := by rw [hasL_eq]; rfl
theorem has_2 : hasL [(eb2, 1)] ea1 = false := by rw [hasL_eq]; rfl
theorem has_3 : hasL [(ea1, 2), (eb2, 1)] eb3 = false := by rw [hasL_eq]; rfl
theorem has_4 : hasL [(ea1, 2), (eb3, 6), (eb2, 1)] eb2x = true := by rw [hasL_eq]; rfl
theorem has_5 : hasL [(ea1, 2), (eb3, 6), (eb2, 1)] ec9 = false := by rw [hasL_eq]; rfl
theorem na_1 : notAhead ⟨#[98]⟩ 5 (allE [(ea1, 2), (eb3, 6), (eb2, 1), (ec9, 1)]) = [eb3, eb2, ec9] := by rw [notAhead_eq]; rfl
theorem na_2 : notAhead ⟨#[99]⟩ 8 (allE [(ea1, 2), (eb3, 6), (eb2, 1), (ec9, 1)]) = [] := by rw [notAhead_eq]; rfl
/-- Put, its answer and its list given. -/
theorem put_K {g : Nat} {S : Nat → Prop} {draws : List Int} {L L' : List EH} {e : Ent} {b : Bool} {w : World} (h : SkL w g S draws L) (hl : L.length < 2932031007319) (hb : hasL L e = b) (hp : putS draws L e = L') (B : Nat) (hB : ∀ k, S k → B ≤ k) (hBw : B ≤ w.heap.size) :
    Calls Try.prog 26 #[.pointer (some ⟨g, 0, none⟩), .agg (encE e).toArray] w fun en w' => en = .returned (.bool (!b)) ∧ Below B w w' ∧ ∃ S', (∀ k, S' k → B ≤ k) ∧ SkL w' g S' draws L' := by
  subst hb; subst hp
  exact (put_L g S draws L e w h hl).mono fun en w' ⟨h1, h2, S', h3, h4⟩ => ⟨h1, h2.bel hB hBw, S', h3.ge hB hBw, h4⟩
set_option maxHeartbeats 3200000 in
set_option maxRecDepth 100000 in
theorem known5_c (w : World) : Calls Try.prog 21 #[] w fun e w' => e = .returned (.bool true) ∧ Below w.heap.size w w' := by
  have hsl : Sl encB 1 (w.alloc (.cells #[.int .u8 0, .int .u8 13, .int .u8 5] 5)) (some ⟨w.heap.size, 0, none⟩) dr5 := Sl.of_block (enc := encB) (sz := 1) (l := dr5) (fun _ => rfl) (heap_alloc_new w _) rfl (by decide)
  have HNEW := Lib.hid (new_L _ 3 dr5 _ hsl (by decide) (by intro x hx; simp [dr5] at hx; rcases hx with rfl | rfl | rfl <;> exact ⟨by decide, by decide⟩))
  clear hsl
  go_enter Try.func21, Try.ntmps21
  go_wp2_with fail
  refine HNEW.out.mono ?_
  rintro e w1 ⟨g, S0, rfl, hS0, hk0, hb0⟩
  have hb0' : Below w.heap.size w w1 := ((Below.refl _ _).alloc (Nat.le_refl _) _).trans (hb0.mono (by simp))
  have hS0' : ∀ k, S0 k → w.heap.size ≤ k := fun k hk => by have := hS0 k hk; simp at this; omega
  clear hb0 hS0
  go_wp2_with fail
  refine (put_K hk0 (by decide) has_1 put_1 w.heap.size hS0' hb0'.size).mono ?_
  rintro e w2 ⟨rfl, hb1, S1, hS1, hk1⟩
  go_wp2_with fail
  refine (put_K hk1 (by decide) has_2 put_2 w.heap.size hS1 (hb0'.trans hb1).size).mono ?_
  rintro e w3 ⟨rfl, hb2, S2, hS2, hk2⟩
  go_wp2_with fail
  refine (put_K hk2 (by decide) has_3 put_3 w.heap.size hS2 ((hb0'.trans hb1).trans hb2).size).mono ?_
  rintro e w4 ⟨rfl, hb3, S3, hS3, hk3⟩
  go_wp2_with fail
  refine (put_K hk3 (by decide) has_4 put_4 w.heap.size hS3 (((hb0'.trans hb1).trans hb2).trans hb3).size).mono ?_
  rintro e w5 ⟨rfl, hb4, S4, hS4, hk4⟩
  go_wp2_with fail
  refine (put_K hk4 (by decide) has_5 put_5 w.heap.size hS4 ((((hb0'.trans hb1).trans hb2).trans hb3).trans hb4).size).mono ?_
  rintro e w6 ⟨rfl, hb5, S5, hS5, hk5⟩
  have hb6 := ((((hb0'.trans hb1).trans hb2).trans hb3).trans hb4).trans hb5
  clear hb0' hb1 hb2 hb3 hb4 hb5 hk0 hk1 hk2 hk3 hk4 hS0' hS1 hS2 hS3 hS4
  have s1 := seek_L g S5 dr5 _ ⟨#[98]⟩ 5 w6 hk5
  rw [na_1] at s1
  have HS1 := Lib.hid (show Calls Try.prog 29 #[.pointer (some ⟨g, 0, none⟩), .string ⟨#[98]⟩, .int .u64 5] w6 fun e w' => e = .returned (.tuple #[.agg #[.string ⟨#[98]⟩, .int .u64 3, .bool false, .string ⟨#[]⟩], .bool true]) ∧ Below w6.heap.size w6 w' from s1)
  clear s1
  go_wp2_with fail
  refine HS1.out.mono ?_
  rintro e w7 ⟨rfl, hb7⟩
  obtain ⟨X, hX⟩ : ∃ Z, w7.alloc (.cells #[.string ⟨#[]⟩, .int .u64 0, .bool false, .string ⟨#[]⟩] 53) = Z := ⟨_, rfl⟩
  have rX : X.heap[w7.heap.size]? = some (.cells #[.string ⟨#[]⟩, .int .u64 0, .bool false, .string ⟨#[]⟩] 53 (0, 0)) := by rw [← hX]; exact heap_alloc_new _ _
  obtain ⟨⟨y0, y1, y2, y3⟩, g0, g1, g2, g3⟩ := cells4 rX
  obtain ⟨Xa, hXa⟩ : ∃ Z4, (((X.setCell ⟨w7.heap.size, 0, none⟩ (.string ⟨#[98]⟩)).setCell ⟨w7.heap.size, 1, none⟩ (.int .u64 3)).setCell ⟨w7.heap.size, 2, none⟩ (.bool false)).setCell ⟨w7.heap.size, 3, none⟩ (.string ⟨#[]⟩) = Z4 := ⟨_, rfl⟩
  have qX : Xa.heap[w7.heap.size]? = some (.cells #[.string ⟨#[98]⟩, .int .u64 3, .bool false, .string ⟨#[]⟩] 53 (0, 0)) := by rw [← hXa]; exact put4_heap rX
  have bX : Below w7.heap.size w7 Xa := by
    rw [← hXa, ← hX]
    exact ((Below.refl _ _).alloc (Nat.le_refl _) _).trans ((put4_upd (S := fun k => k = w7.heap.size) _ _ _ _ _ rfl).bel (fun k hk => by omega) (by simp))
  have BX := Lib.hid bX
  have QX := Lib.hid qX
  clear bX qX rX
  have s2 := seek_L g S5 dr5 _ ⟨#[99]⟩ 8 Xa ((hk5.later hb7).later BX.out)
  rw [na_2] at s2
  have HS2 := Lib.hid (show Calls Try.prog 29 #[.pointer (some ⟨g, 0, none⟩), .string ⟨#[99]⟩, .int .u64 8] Xa fun e w' => e = .returned (.tuple #[.agg #[.string ⟨#[]⟩, .int .u64 0, .bool false, .string ⟨#[]⟩], .bool false]) ∧ Below Xa.heap.size Xa w' from s2)
  clear s2
  go_wp2_with fail
  refine HS2.out.mono ?_
  rintro e w8 ⟨rfl, hb8⟩
  clear y0 y1 y2 y3 g0 g1 g2 g3
  obtain ⟨Y, hY⟩ : ∃ Z, w8.alloc (.cells #[.string ⟨#[]⟩, .int .u64 0, .bool false, .string ⟨#[]⟩] 53) = Z := ⟨_, rfl⟩
  have rY : Y.heap[w8.heap.size]? = some (.cells #[.string ⟨#[]⟩, .int .u64 0, .bool false, .string ⟨#[]⟩] 53 (0, 0)) := by rw [← hY]; exact heap_alloc_new _ _
  obtain ⟨⟨y0, y1, y2, y3⟩, g0, g1, g2, g3⟩ := cells4 rY
  obtain ⟨Ya, hYa⟩ : ∃ Z4, (((Y.setCell ⟨w8.heap.size, 0, none⟩ (.string ⟨#[]⟩)).setCell ⟨w8.heap.size, 1, none⟩ (.int .u64 0)).setCell ⟨w8.heap.size, 2, none⟩ (.bool false)).setCell ⟨w8.heap.size, 3, none⟩ (.string ⟨#[]⟩) = Z4 := ⟨_, rfl⟩
  have qY : Ya.heap[w8.heap.size]? = some (.cells #[.string ⟨#[]⟩, .int .u64 0, .bool false, .string ⟨#[]⟩] 53 (0, 0)) := by rw [← hYa]; exact put4_heap rY
  have bY : Below w8.heap.size w8 Ya := by
    rw [← hYa, ← hY]
    exact ((Below.refl _ _).alloc (Nat.le_refl _) _).trans ((put4_upd (S := fun k => k = w8.heap.size) _ _ _ _ _ rfl).bel (fun k hk => by omega) (by simp))
  have BY := Lib.hid bY
  have QY := Lib.hid qY
  clear bY qY rY
  have hkY := (((hk5.later hb7).later BX.out).later hb8).later BY.out
  have HLEN := Lib.hid (len_L g S5 dr5 _ Ya hkY)
  have HTOW := Lib.hid (towers_L g S5 dr5 _ Ya hkY (by decide))
  have hqX := blk_below (blk_below QX.out hb8) BY.out
  obtain ⟨⟨x0, x1, x2, x3⟩, _⟩ := cells4 hqX
  obtain ⟨⟨z0, z1, z2, z3⟩, _⟩ := cells4 QY.out
  go_wp2_with fail
  refine HLEN.out.mono ?_
  rintro e w9 ⟨rfl, rfl⟩
  go_wp2_with fail
  refine HTOW.out.mono ?_
  rintro e w10 ⟨v, rfl, hown, hb10⟩
  obtain ⟨A, c, hv, _, hsA, _⟩ := hown.slice (fun _ => rfl)
  subst hv
  have hsB : Sl encI 1 (w10.alloc (.cells #[.int .i64 2, .int .i64 6, .int .i64 1, .int .i64 1] 3)) (some ⟨w10.heap.size, 0, none⟩) [2, 6, 1, 1] := Sl.of_block (enc := encI) (sz := 1) (l := [2, 6, 1, 1]) (fun _ => rfl) (heap_alloc_new w10 _) rfl (by decide)
  have s3 := sameInts_c A c _ _ 4 [2, 6, 1, 1] (w10.alloc (.cells #[.int .i64 2, .int .i64 6, .int .i64 1, .int .i64 1] 3)) (hsA.later ((Below.refl _ _).alloc (Nat.le_refl _) _)) hsB
  rw [show decide (allH [(ea1, 2), (eb3, 6), (eb2, 1), (ec9, 1)] = [2, 6, 1, 1]) = true from rfl] at s3
  have HS3 := Lib.hid (show Calls Try.prog 77 #[.slice A 4 c, .slice (some ⟨w10.heap.size, 0, none⟩) 4 4] (w10.alloc (.cells #[.int .i64 2, .int .i64 6, .int .i64 1, .int .i64 1] 3)) fun e w' => e = .returned (.bool true) ∧ Below (w10.alloc (.cells #[.int .i64 2, .int .i64 6, .int .i64 1, .int .i64 1] 3)).heap.size (w10.alloc (.cells #[.int .i64 2, .int .i64 6, .int .i64 1, .int .i64 1] 3)) w' from s3)
  rw [show (allH [(ea1, 2), (eb3, 6), (eb2, 1), (ec9, 1)]).length = 4 from rfl]
  have HB6 := Lib.hid hb6
  have HB7 := Lib.hid hb7
  have HB8 := Lib.hid hb8
  have HB10 := Lib.hid hb10
  clear s3 hsB hsA hown hb10 hb8 hb7 hb6 hkY hk5 HNEW HLEN HTOW HS2 HS1
  go_wp2_with fail
  refine HS3.out.mono ?_
  rintro e w11 ⟨rfl, hb11⟩
  have HB11 := Lib.hid hb11
  clear hb11
  go_wp2
  go_ret
  have hX := HB6.out.trans (HB7.out.mono HB6.out.size)
  have hX2 := hX.trans (BX.out.mono hX.size)
  have hX3 := hX2.trans (HB8.out.mono hX2.size)
  have hX4 := hX3.trans (BY.out.mono hX3.size)
  have hX5 := hX4.trans (HB10.out.mono hX4.size)
  have hX6 := hX5.trans (((Below.refl w10.heap.size w10).alloc (Nat.le_refl _) (.cells #[.int .i64 2, .int .i64 6, .int .i64 1, .int .i64 1] 3)).mono hX5.size)
  exact ⟨rfl, hX6.trans (HB11.out.mono hX6.size)⟩
end Go.Proofs.Ytjbbobhjomhnmaa.H
