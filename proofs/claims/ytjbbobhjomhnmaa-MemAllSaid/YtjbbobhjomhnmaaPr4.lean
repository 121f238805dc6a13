/- The law's late iterators and place (screelaw5). Conditions: sizes. -/
import Derived.Test.YtjbbobhjomhnmaaPr2
import Derived.Test.YtjbbobhjomhnmaaPr3
namespace Go.Proofs.Ytjbbobhjomhnmaa.H
open Go Go.RowKit Go.Deep Go.Shelf Go.Proofs Go.Proofs.YtjbbobhjomhnmaaW.PrintWords
set_option linter.unusedVariables false
set_option linter.unusedSimpArgs false
/-- What an iterator of From's has caught, at b. -/
structure KeptAt (W : World) (b g : Nat) (k : ByteArray) (q : Int) : Prop where
  g0 : W.heap[b]? = some (.cells #[.pointer (some ⟨g, 0, none⟩)] 43 (0, 0))
  k0 : W.heap[b + 1]? = some (.cells #[.string k] 9 (0, 0))
  q0 : W.heap[b + 1 + 1]? = some (.cells #[.int .u64 q] 51 (0, 0))
abbrev keptV (b : Nat) : Value := .func (.func 79) #[] #[.pointer (some ⟨b, 0, none⟩), .pointer (some ⟨b + 1, 0, none⟩), .pointer (some ⟨b + 1 + 1, 0, none⟩)]
theorem KeptAt.upd {W W' : World} {T : Nat → Prop} {b g : Nat} {k : ByteArray} {q : Int} (h : KeptAt W b g k q) (hu : Upd T W W') (hT : ¬ T b ∧ ¬ T (b + 1) ∧ ¬ T (b + 1 + 1)) : KeptAt W' b g k q :=
  ⟨hu.heap h.g0 hT.1, hu.heap h.k0 hT.2.1, hu.heap h.q0 hT.2.2⟩
theorem KeptAt.later {W W' : World} {b g : Nat} {k : ByteArray} {q : Int} (h : KeptAt W b g k q) (hb : Below W.heap.size W W') : KeptAt W' b g k q :=
  ⟨blk_below h.g0 hb, blk_below h.k0 hb, blk_below h.q0 hb⟩
theorem kept_it {W : World} {b g : Nat} {k : ByteArray} {q : Int} {S : Nat → Prop} {draws : List Int} {L : List EH} (h : KeptAt W b g k q) (hs : SkL W g S draws L) : IterV Try.prog (keptV b) encA W.heap.size (notAhead k q (allE L)) W := by
  obtain ⟨l, hs, rfl, hlt⟩ := hs
  rw [show allE (ehs l) = l.map (·.e) from ehs_fst l]
  obtain ⟨pre, post, rfl, h1, h2⟩ := split_at l hs.order (k, q, false, ⟨#[]⟩)
  refine ⟨_, _, rfl, enters_of Try.func79 (by kernel_rfl) rfl, fun W' hW => ?_⟩
  rw [notAhead_post h1 h2]
  exact from1_it W W' g pre post k q hW hs.nodes h1 h2 _ _ _ (cell_later hW ((blk_cell h.g0 0).trans rfl)) (cell_later hW ((blk_cell h.k0 0).trans rfl)) (cell_later hW ((blk_cell h.q0 0).trans rfl))
theorem keep_c (g : Nat) (k : ByteArray) (q : Int) (w : World) :
    Calls Try.prog 17 #[.pointer (some ⟨g, 0, none⟩), .string k, .int .u64 q] w fun e w' => e = .returned (keptV w.heap.size) ∧ KeptAt w' w.heap.size g k q ∧ Below w.heap.size w w' := by
  refine (from_c (.pointer (some ⟨g, 0, none⟩)) k q w (some ⟨g, 0, none⟩)).mono ?_
  rintro e w' ⟨rfl, rfl⟩
  refine ⟨rfl, ⟨?_, ?_, ?_⟩, (((Below.refl _ _).alloc (Nat.le_refl _) _).alloc (by simp) _).alloc (by simp; omega) _⟩
  · exact blk_alloc (blk_alloc (heap_alloc_new _ _) _) _
  · exact blk_alloc (by simpa using heap_alloc_new (w.alloc (.cells #[.pointer (some ⟨g, 0, none⟩)] 43)) (.cells #[.string k] 9)) _
  · simpa using heap_alloc_new ((w.alloc (.cells #[.pointer (some ⟨g, 0, none⟩)] 43)).alloc (.cells #[.string k] 9)) (.cells #[.int .u64 q] 51)
set_option maxHeartbeats 6400000 in
set_option maxRecDepth 100000 in
theorem now5_c {w : World} {b g r : Nat} {S R : Nat → Prop} {draws : List Int} {L : List EH} (e : Ent) (h : PairIs w g r S R draws L) (hl : L.length < 2932031007319) (hk : KeptAt w b g e.1 e.2.1) :
    Calls Try.prog 19 #[.agg #[keptV b, .pointer (some ⟨g, 0, none⟩), .pointer (some ⟨r, 0, none⟩), .string e.1, .int .u64 e.2.1, .bool e.2.2.1, .string e.2.2.2]] w fun en w' => en = .returned (.bool true) ∧ Below w.heap.size w w' := by
  obtain ⟨fv, hfv⟩ : ∃ f, keptV b = f := ⟨_, rfl⟩
  obtain ⟨w2, hw2⟩ : ∃ Z, w.alloc (.cells #[fv, .pointer (some ⟨g, 0, none⟩), .pointer (some ⟨r, 0, none⟩), .string e.1, .int .u64 e.2.1, .bool e.2.2.1, .string e.2.2.2] 61) = Z := ⟨_, rfl⟩
  have hb2 : Below w.heap.size w w2 := by rw [← hw2]; exact (Below.refl _ _).alloc (Nat.le_refl _) _
  have q1 : w2.heap[w.heap.size]? = some (.cells #[fv, .pointer (some ⟨g, 0, none⟩), .pointer (some ⟨r, 0, none⟩), .string e.1, .int .u64 e.2.1, .bool e.2.2.1, .string e.2.2.2] 61 (0, 0)) := by rw [← hw2]; exact heap_alloc_new _ _
  have a0 : w2.cell? ⟨w.heap.size, 0, none⟩ = some fv := (blk_cell q1 0).trans rfl
  have hit := kept_it (hk.later hb2) (h.later hb2).sk
  rw [hfv] at hit ⊢
  have hql := notAhead_len e.1 e.2.1 L
  have HP := Lib.hid (h.later hb2)
  obtain ⟨Q, hQ⟩ : ∃ Q, notAhead e.1 e.2.1 (allE L) = Q := ⟨_, rfl⟩
  rw [hQ] at hit hql
  have HT := Lib.hid (taken_c fv (-1) _ Q w2 hit (Nat.le_refl _) (by omega))
  rw [show takeN (-1) Q = Q from takeN_all (.inl (by decide))] at HT
  have HQ := Lib.hid hQ
  have Q1 := Lib.hid q1
  have HB2 := Lib.hid hb2
  have HL := Lib.hid hl
  clear h hl hk hfv hb2 q1 hit hql hQ
  go_enter Try.func19, Try.ntmps19
  go_wp2_with fail
  refine HT.out.mono ?_
  rintro _ w3 ⟨v3, rfl, ho, hb3⟩
  clear HT hw2 a0
  obtain ⟨A3, c3, rfl⟩ := own_slice ho
  obtain ⟨_, _, ev, _, hs8, _⟩ := ho.slice (fun _ => rfl)
  injection ev with e1 e2 e3
  rw [← e1] at hs8
  have HS3 := Lib.hid hs8
  have HB3 := Lib.hid hb3
  have HFR := Lib.hid (pairFrom_c (HP.out.later hb3) HL.out e.1 e.2.1)
  rw [HQ.out] at HFR
  have a2 : w3.cell? ⟨w.heap.size, 2, none⟩ = some (.pointer (some ⟨r, 0, none⟩)) := (blk_cell (blk_below Q1.out hb3) 2).trans rfl
  have a3 : w3.cell? ⟨w.heap.size, 3, none⟩ = some (.string e.1) := (blk_cell (blk_below Q1.out hb3) 3).trans rfl
  have a4 : w3.cell? ⟨w.heap.size, 4, none⟩ = some (.int .u64 e.2.1) := (blk_cell (blk_below Q1.out hb3) 4).trans rfl
  clear ho hs8 hb3 e1 e2 e3
  go_wp2_with fail
  refine HFR.out.mono ?_
  rintro _ w4 ⟨v4, rfl, ho, hb4⟩
  obtain ⟨A4, c4, rfl⟩ := own_slice ho
  obtain ⟨_, _, ev, _, hs8, _⟩ := ho.slice (fun _ => rfl)
  injection ev with e1 e2 e3
  rw [← e1] at hs8
  have hse := sameEntries_c A3 c3 Q A4 c4 Q w4 (HS3.out.later hb4) hs8
  rw [decide_eq_true rfl] at hse
  have HSE := Lib.hid hse
  have HB4 := Lib.hid (HB2.out.trans ((HB3.out.trans (hb4.mono HB3.out.size)).mono HB2.out.size))
  clear ho hs8 hb4 hse e1 e2 e3 a2 a3 a4
  go_wp2_with fail
  refine HSE.out.mono ?_
  rintro _ w5 ⟨rfl, hb5⟩
  go_wp2
  go_ret
  exact ⟨rfl, HB4.out.trans (hb5.mono HB4.out.size)⟩
theorem place5_c (a n : Int) (ha : -9223372036854775808 ≤ a ∧ a ≤ 9223372036854775807) (hn : 0 < n ∧ n ≤ 9223372036854775807) (w : World) :
    Calls Try.prog 18 #[.int .i64 a, .int .i64 n] w fun e w' => ∃ p : Nat, e = .returned (.int .i64 (p : Int)) ∧ (p : Int) < n ∧ w = w' := by
  have hn0 : ¬ n = 0 := by omega
  have key : ∀ x : Int, 0 ≤ x → 0 ≤ x.tmod n ∧ x.tmod n < n := fun x hx => by
    rw [Int.tmod_eq_emod_of_nonneg hx]
    exact ⟨Int.emod_nonneg _ hn0, Int.emod_lt_of_pos _ hn.1⟩
  by_cases hneg : a < 0
  · have e1 : IntKind.i64.wrap (a + 1) = a + 1 := by rw [IntKind.wrap_i64]; omega
    have e2 : IntKind.i64.wrap (-(a + 1)) = -(a + 1) := by rw [IntKind.wrap_i64]; omega
    obtain ⟨k1, k2⟩ := key (-(a + 1)) (by omega)
    obtain ⟨p, hp⟩ : ∃ p : Nat, (-(a + 1)).tmod n = p := ⟨((-(a + 1)).tmod n).toNat, by omega⟩
    rw [hp] at k1 k2
    have HK := Lib.hid k2
    clear k1 k2 key
    go_enter Try.func18, Try.ntmps18
    go_wp2
    go_ret
    exact ⟨p, by first | rfl | simp [hp], HK.out, rfl⟩
  · obtain ⟨k1, k2⟩ := key a (by omega)
    obtain ⟨p, hp⟩ : ∃ p : Nat, a.tmod n = p := ⟨(a.tmod n).toNat, by omega⟩
    rw [hp] at k1 k2
    have HK := Lib.hid k2
    clear k1 k2 key
    go_enter Try.func18, Try.ntmps18
    go_wp2
    go_ret
    exact ⟨p, by first | rfl | simp [hp], HK.out, rfl⟩
end Go.Proofs.Ytjbbobhjomhnmaa.H
