/- SieveLeaves' walk. Conditions: sizes. (genvh.py) -/
import Derived.Test.YtdpijhpjicbecaaVG
namespace Go.Proofs.Ytdpijhpjicbecaa.H
open Go Go.RowKit Go.Deep Go.Shelf Go.Proofs Go.Proofs.YtdpijhpjicbecaaW.PrintWords
set_option linter.unusedVariables false
set_option linter.unusedSimpArgs false
attribute [local go_sem] Oper.semAt_some
theorem maxM_run (n m : Int) (h : (n ≤ 1 ∧ m = 1) ∨ (1 < n ∧ m = n)) (W : World) : (Builtin.max_ #[3, 3] 3 #[.int .i64 n, .int .i64 1]).run Try.prog W = .ok (.int .i64 m) W := by
  rcases h with ⟨h, rfl⟩ | ⟨h, rfl⟩
  · by_cases h2 : n = 1
    · subst h2; go_simp
    · have h3 : n < 1 := by omega
      have h4 : ¬ 1 < n := by omega
      go_simp
  · have h4 : ¬ m < 1 := by omega
    go_simp
    try omega
theorem minM_run (a b m : Int) (h : (a ≤ b ∧ m = a) ∨ (b < a ∧ m = b)) (W : World) : (Builtin.min_ #[3, 3] 3 #[.int .i64 a, .int .i64 b]).run Try.prog W = .ok (.int .i64 m) W := by
  rcases h with ⟨h, rfl⟩ | ⟨h, rfl⟩
  · by_cases h2 : m = b
    · subst h2; go_simp
    · have h3 : m < b := by omega
      have h4 : ¬ b < m := by omega
      go_simp
  · have h4 : ¬ a < m := by omega
    go_simp
theorem neI_run (x y : Operand) (a : Int) (W : World) : (do eqGuard .neq 3 x y (.int .i64 a) (.int .i64 a); binOp .neq 3 (.int .i64 a) (.int .i64 a) : Sem Value).run Try.prog W = .ok (.bool false) W := by
  go_simp
theorem slE_run (A : Option Addr) (n c k : Nat) (hk : k ≤ c) (W : World) : (Instr.sliceAt 27 (.slice A n c) none (some (.int .i64 (k : Int))) none).run Try.prog W = .ok (.slice A k c) W := by
  have h0 : (0 : Int) ≤ k := by omega
  have h1 : (k : Int) ≤ c := by omega
  go_simp
theorem run_sl {P : Program} {w : World} {a : Act} {o : Oper} {W : World} {t : TypeId} {x : Operand} {lo hi : Option Operand} {u r : Value} {l h : Option Value} (ho : o.op = .slice t x lo hi none) (hx : a.eval x = u) (hlo : lo.map a.eval = l) (hhi : hi.map a.eval = h) (hf : ∀ W, (Instr.sliceAt t u l h none).run P W = .ok r W) (hW : Below w.heap.size w W) :
    CalmRes P w r ((execOp a.eval o).run P W) := by
  subst hlo
  subst hhi
  simp only [execOp, ho, hx, Sem.run_bind, Sem.run_pure, Option.map_none, hf, Result.andThen_ok]
  exact ⟨rfl, hW⟩
theorem map_some {a : Act} {x : Operand} {v : Value} (h : a.eval x = v) : (some x).map a.eval = some v := congrArg some h
theorem own_lenV {α : Type} {enc : α → List Value} {e : TypeId} {w : World} {base : Nat} {A : Option Addr} {n c : Nat} {sz : Nat} {l : List α} (h : Own enc e sz w base (.slice A n c) l) (he : ∀ x, (enc x).length = sz) : n ≤ c := by
  obtain ⟨A1, c1, hv, hlc, _, _⟩ := h.slice he
  injection hv with h1 h2 h3
  omega
theorem run_ln {P : Program} {w W : World} {a : Act} {o : Oper} {x : Operand} {ts : Array TypeId} {u r : Value} (ho : o.op = .call { callee := .builtin .len, args := #[x], argTypes := ts }) (hx : a.eval x = u) (hf : ∀ W, (Builtin.len_ ts o.type #[u]).run P W = .ok r W) (hW : Below w.heap.size w W) :
    CalmRes P w r ((execOp a.eval o).run P W) := by
  unfold execOp
  simp only [ho, resolve, invoke, builtin, Sem.run_bind, Sem.run_pure, Result.andThen_ok, List.map_toArray, List.map_cons, List.map_nil, hx, hf]
  exact ⟨rfl, hW⟩
theorem yes_c (key : ByteArray) (w : World) : Calls Try.prog 45 #[.string key] w fun e w' => e = .returned (.bool true) ∧ Below w.heap.size w w' := by
  go_enter Try.func45, Try.ntmps45
  go_wp2
  go_ret
  exact ⟨rfl, Below.refl _ _⟩
def maxOne (n : Int) : Int := if 1 < n then n else 1
theorem maxOne_cases (n : Int) : (n ≤ 1 ∧ maxOne n = 1) ∨ (1 < n ∧ maxOne n = n) := by
  unfold maxOne
  split
  · exact .inr ⟨by omega, rfl⟩
  · exact .inl ⟨by omega, rfl⟩
set_option maxHeartbeats 12800000 in
set_option maxRecDepth 100000 in
theorem sieveLeaves_c (A : Option Addr) (c : Nat) (L : List HE) (b : Bw) (nn : Int) (w : World) (hs : Sl2 w A L) (hln : ∀ x ∈ L, x.2.2.length ≤ 140737488351232) (hb : b.at w) :
    Calls Try.prog 10 #[.slice A L.length c, .agg b.cells, .int .i64 nn] w fun e w' => e = .returned (.bool true) ∧ Below w.heap.size w w' := by
  obtain ⟨W0, hW0⟩ : ∃ Z, (w.alloc (.cells b.cells 60)).alloc (.cells #[.int .i64 nn] 3) = Z := ⟨_, rfl⟩
  have k1 : W0.heap[w.heap.size]? = some (.cells b.cells 60 (0, 0)) := by rw [← hW0]; exact blk_alloc (heap_alloc_new _ _) _
  have k2 : W0.heap[w.heap.size + 1]? = some (.cells #[.int .i64 nn] 3 (0, 0)) := by rw [← hW0]; simpa using heap_alloc_new (w.alloc (.cells b.cells 60)) (.cells #[.int .i64 nn] 3)
  have hb0 : Below w.heap.size w W0 := by rw [← hW0]; exact ((Below.refl _ _).alloc (Nat.le_refl _) _).alloc (by simp) _
  have hm := hs.1.1
  have HS := Lib.hid hs
  have HLW := Lib.hid hs.low
  have HBT := Lib.hid (show ∀ W, Below w.heap.size w W → b.at W from fun W h => ⟨hb.1.later h, hb.2.later h⟩)
  have HB0 := Lib.hid hb0
  have HK1 := Lib.hid k1
  have HK2 := Lib.hid k2
  have HSML := Lib.hid (fun (W : World) (h : Below w.heap.size w W) => small_c A c L W (hs.later h) hln)
  have HRIS := Lib.hid (fun (W : World) (h : Below w.heap.size w W) => rises_c A c L W (hs.later h) hln)
  have HREF := Lib.hid (fun (hl : L.length + totL (L.map (·.2.2)) ≤ 1000000) (W : World) (h : Below w.heap.size w W) => refKeep_c A c L b W (hs.later h) hl (HBT.out W h))
  have HSRC := Lib.hid (fun (hl : L.length < 1000000000) (W : World) (h : Below w.heap.size w W) => sources12_c A c L W (hs.later h) hl)
  have HHAS := Lib.hid (fun (key : ByteArray) (W : World) (h : Below w.heap.size w W) => has_c b key W (HBT.out W h))
  have HKN := Lib.hid (known12_c W0)
  obtain ⟨bf, hbf⟩ : ∃ f, b.has = f := ⟨_, rfl⟩
  rw [hbf] at HREF HHAS
  obtain ⟨bA, bc, ks, bB, bd, bh, nt⟩ := b
  have hmk : ks.length ≤ 9223372036854775807 := hb.1.1
  unfold Bw.cells at HREF HK1 HHAS hW0 ⊢
  dsimp only at HREF HK1 HHAS hW0 ⊢
  obtain ⟨n1, hn1⟩ : ∃ n, ks.length = n := ⟨_, rfl⟩
  obtain ⟨n2, hn2⟩ : ∃ n, bh.length = n := ⟨_, rfl⟩
  obtain ⟨n, hn⟩ : ∃ n, L.length = n := ⟨_, rfl⟩
  rw [hn1, hn2] at HREF HK1 HHAS hW0 ⊢
  rw [hn1] at hmk
  rw [hn] at HREF hm HSML HRIS HSRC ⊢
  have HN := Lib.hid hn
  clear hs hln hb k1 k2 hb0 hn1 hn2 hn hbf
  go_enter Try.func10, Try.ntmps10
  go_wp2_with fail
  try rw [hW0]
  refine HKN.out.mono ?_
  clear HKN hW0
  rintro _ W1 ⟨rfl, hb1⟩
  have HB1 := Lib.hid hb1
  clear hb1
  go_wp2_with fail
  refine (HSML.out W1 (HB0.out.trans (HB1.out.mono HB0.out.size))).mono ?_
  clear HSML
  rintro _ W2 ⟨rfl, hb2⟩
  have HB2 := Lib.hid (HB1.out.trans (hb2.mono HB1.out.size))
  have h1 := blk_below HK1.out HB2.out
  have d2 : W2.cell? ⟨w.heap.size, 0, none⟩ = some (.slice bA n1 bc) := (blk_cell h1 0).trans rfl
  have HBW2 := Lib.hid (HB0.out.trans (HB2.out.mono HB0.out.size))
  clear hb2 h1
  by_cases hsm : n + totL (L.map (·.2.2)) ≤ 4000
  · rw [decide_eq_true hsm]
    have HSM := Lib.hid hsm
    clear hsm
    by_cases hk4 : n1 ≤ 4000
    · have i2 : ¬ (4000 : Int) < n1 := by omega
      go_wp2_with fail
      refine (HRIS.out W2 HBW2.out).mono ?_
      clear HRIS
      rintro _ W3 ⟨r, rfl, hri, hb3⟩
      have HB3 := Lib.hid (HB2.out.trans (hb3.mono HB2.out.size))
      have HBW3 := Lib.hid (HB0.out.trans (HB3.out.mono HB0.out.size))
      have h1 := blk_below HK1.out HB3.out
      have h2 := blk_below HK2.out HB3.out
      have c2 : W3.cell? ⟨w.heap.size + 1, 0, none⟩ = some (.int .i64 nn) := (blk_cell h2 0).trans rfl
      have c0 : W3.cell? ⟨w.heap.size, 0, none⟩ = some (.slice bA n1 bc) := (blk_cell h1 0).trans rfl
      have c1 : W3.cell? ⟨w.heap.size, 1, none⟩ = some (.slice bB n2 bd) := (blk_cell h1 1).trans rfl
      have c3 : W3.cell? ⟨w.heap.size, 2, none⟩ = some (.bool nt) := (blk_cell h1 2).trans rfl
      clear hb3 d2 h1 h2
      cases r with
      | false =>
        go_wp2
        go_ret
        exact ⟨rfl, HBW3.out⟩
      | true =>
        by_cases hneg : nn < 0
        · go_wp2
          go_ret
          exact ⟨rfl, HBW3.out⟩
        · have HRL := Lib.hid (show RisenL (mergeL (L.map (·.2.2))) from mergeL_risen _ (fun a ha => by
            obtain ⟨x, hx, rfl⟩ := List.mem_map.1 ha
            exact rise_risen (hri rfl x hx)))
          clear hri
          go_wp2_with fail
          refine (HREF.out (by have := HSM.out; omega) W3 HBW3.out).mono ?_
          clear HREF
          rintro _ W4 ⟨v4, rfl, hown4, hb4⟩
          obtain ⟨Av, cv, rfl⟩ := own_slice hown4
          have hlk : (keepL bf (groupsL (mergeL (L.map (·.2.2))))).length ≤ 4000 := by
            have h1 : (keepL bf (groupsL (mergeL (L.map (·.2.2))))).length ≤ (groupsL (mergeL (L.map (·.2.2)))).length := List.length_filterMap_le _ _
            have h2 := groups_len (mergeL (L.map (·.2.2)))
            rw [mergeL_length] at h2
            have := HSM.out
            omega
          have HUP := Lib.hid (keep_up bf HRL.out)
          obtain ⟨kl, hkl⟩ : ∃ k, keepL bf (groupsL (mergeL (L.map (·.2.2)))) = k := ⟨_, rfl⟩
          rw [hkl] at hown4 hlk HUP ⊢
          have HKL := Lib.hid hkl
          obtain ⟨q, hq⟩ : ∃ q, kl.length = q := ⟨_, rfl⟩
          have hqc : q ≤ cv := by rw [← hq]; exact own_lenV hown4 (fun x => (okE x).1)
          have HQ := Lib.hid hq
          have HO4 := Lib.hid hown4
          have HB4 := Lib.hid (HB3.out.trans (hb4.mono HB3.out.size))
          rw [hq] at hlk ⊢
          clear hown4 hb4 hq hkl c0 c1 c2 c3
          go_upto_region 5 with fail
          obtain ⟨W5, hW5⟩ : ∃ Z, W4.alloc (.cells #[.slice Av q cv] 27) = Z := ⟨_, rfl⟩
          have r5 : W5.heap[W4.heap.size]? = some (.cells #[.slice Av q cv] 27 (0, 0)) := by rw [← hW5]; exact heap_alloc_new _ _
          have b5 : Below W4.heap.size W4 W5 := by rw [← hW5]; exact (Below.refl _ _).alloc (Nat.le_refl _) _
          obtain ⟨b8, hb8⟩ : ∃ z, W4.heap.size = z := ⟨_, rfl⟩
          rw [hb8] at r5
          rw [hW5, hb8]
          have HR8 := Lib.hid r5
          have HB5 := Lib.hid (HB4.out.trans (b5.mono HB4.out.size))
          have HBW5 := Lib.hid (HB0.out.trans (HB5.out.mono HB0.out.size))
          have HO5 := Lib.hid (HO4.out.below b5)
          have HL8 := Lib.hid (show b8 < W5.heap.size from blk_lt r5)
          have HOV := Lib.hid (show ∀ k, (Value.slice Av q cv).ownBlock = some k → k < W5.heap.size from fun k hk => Nat.lt_of_lt_of_le (HO4.out.block_lt (by rw [HQ.out]; exact hk)).2 b5.size)
          clear r5 b5 hW5 hb8 HO4
          go_wp2_with fail
          refine (HSRC.out (by have := HSM.out; omega) W5 HBW5.out).mono ?_
          clear HSRC
          rintro _ W6 ⟨v6, ps, rfl, hpl, hown, hsrc, hpo, hb6⟩
          obtain ⟨A9, c9, rfl⟩ := own_slice hown
          have hlen : (ps.map fv1).length = n := by rw [List.length_map, hpl]
          have hpn : ps.length = n := hpl
          rw [hlen] at hown hpo ⊢
          have HB6 := Lib.hid (HB5.out.trans (hb6.mono HB5.out.size))
          have HBW6 := Lib.hid (HB0.out.trans (HB6.out.mono HB0.out.size))
          have h1 := blk_below HK1.out HB6.out
          have c0 : W6.cell? ⟨w.heap.size, 0, none⟩ = some (.slice bA n1 bc) := (blk_cell h1 0).trans rfl
          have c1 : W6.cell? ⟨w.heap.size, 1, none⟩ = some (.slice bB n2 bd) := (blk_cell h1 1).trans rfl
          have c3 : W6.cell? ⟨w.heap.size, 2, none⟩ = some (.bool nt) := (blk_cell h1 2).trans rfl
          have hsz6 : w.heap.size ≤ W5.heap.size := HBW5.out.size
          have hkp := keepP_c (fun k => (Value.slice A9 n c9).ownBlock = some k) A9 c9 ps L (31, #[.agg #[.slice bA n1 bc, .slice bB n2 bd, .bool nt]], #[]) bf (fun _ => True) (fun W => Upd (fun k => w.heap.size ≤ k) w W) W6 (own_sl hown (fun x => (okF x).1))
            (fun h => by have := own_form hown; simpa [h] using this) (by rw [hpl, HN.out]) hsrc (by have := HSM.out; omega) (by have := HSM.out; omega)
            ⟨enters_of Try.func31 (by kernel_rfl) rfl, fun W W' h u => h.trans (u.mono fun k hk => hk.elim (fun h => h.elim) (fun h => Nat.le_trans HBW6.out.size h)), fun W hW hn key W' _ hb => HHAS.out key W' ((hW.bel (fun k hk => hk) (Nat.le_refl _)).trans (hb.mono hW.size))⟩
            (Upd.of_below HBW6.out) (fun _ _ _ _ => trivial) (fun k hk => (hown.block_lt hk).2)
            (fun W W' h u j p x hp hx => by
              obtain ⟨a1, a2, a3, a4⟩ := h j p x hp hx
              have hp2 := hpo p (List.mem_of_getElem? hp)
              refine ⟨a1, u.heap a2 (fun hx => hx.elim (fun h => hp2.2 h) (fun h => by omega)), a3.upd2 u (fun hl g o e hx => ?_), a4⟩
              rcases hx with hx | hx
              · have h3 := HLW.out x (List.mem_of_getElem? (by assumption)) hl g o e
                have h4 := (hown.block_lt hx).1
                omega
              · have := a4 hl g o e; omega)
            (fun W W' h u => h.trans (u.mono fun k hk => hk.elim (fun h => Nat.le_trans hsz6 (hown.block_lt h).1) (fun h => Nat.le_trans HBW6.out.size h)))
          rw [hpn, HKL.out] at hkp
          have HKP := Lib.hid hkp
          have HOWN := Lib.hid hown
          have HR86 := Lib.hid (blk_below HR8.out hb6)
          have HO6 := Lib.hid (HO5.out.below hb6)
          have HPN := Lib.hid hlen
          clear hkp hown hsrc hpo hb6 h1 hpl hlen hsz6 HO5 HR8
          go_wp2_with fail
          refine HKP.out.mono ?_
          clear HKP
          rintro _ W7 ⟨f, rfl, hb7, hheld⟩
          obtain ⟨W8, hW8⟩ : ∃ Z, W7.alloc (.cells #[valF f] 31) = Z := ⟨_, rfl⟩
          have r2 : W8.heap[W7.heap.size]? = some (.cells #[valF f] 31 (0, 0)) := by rw [← hW8]; exact heap_alloc_new _ _
          have hb2 : Below W7.heap.size W7 W8 := by rw [← hW8]; exact (Below.refl _ _).alloc (Nat.le_refl _) _
          obtain ⟨b10, hb10⟩ : ∃ z, W7.heap.size = z := ⟨_, rfl⟩
          have hb68 := hb7.trans (hb2.mono hb7.size)
          have HB8 := Lib.hid (HB6.out.trans (hb68.mono HB6.out.size))
          have HR88 := Lib.hid (blk_below HR86.out hb68)
          have HO8 := Lib.hid (HO6.out.below hb68)
          have HOWN8 := Lib.hid (HOWN.out.below hb68)
          have HH8 := Lib.hid (hheld.upd (Upd.of_below (S := fun _ => False) hb2) (fun k h => h.elim))
          have HOB := Lib.hid (show ∀ k, (Value.slice A9 n c9).ownBlock = some k → W5.heap.size ≤ k ∧ k < W6.heap.size from fun k hk => HOWN.out.block_lt hk)
          have HZ := Lib.hid (show W6.heap.size ≤ b10 ∧ b10 < W8.heap.size from ⟨by rw [← hb10]; exact hb7.size, by rw [← hb10]; exact blk_lt r2⟩)
          rw [hb10] at r2
          have HR10 := Lib.hid r2
          clear HR86 HO6 HOWN hb7 hheld r2 hb2 hb68 HBW6
          unfold valF at hW8
          unfold valF
          go_upto_region 7 with fail
          try rw [hb10]
          try rw [hW8]
          clear hW8 hb10 c0 c1 c3
          go_wp2_with fail
          go_loopw [11] (fun s11 wr => ∃ (i : Nat) (fs' : List FV), s11 = .int .i64 i ∧ i ≤ n ∧ fs'.length = n ∧ Own encF 31 1 wr W5.heap.size (.slice A9 n c9) fs' ∧ Upd (fun k => (Value.slice A9 n c9).ownBlock = some k) W8 wr) (fun s11 wr => n - (intOf s11).toNat)
          case atStart => exact ⟨0, ps.map fv1, rfl, by omega, HPN.out, HOWN8.out, Upd.refl _ _⟩
          case round =>
            obtain ⟨i, fs', rfl, hi, hfl, hoq, huq⟩ := hrel
            generalize wr = W9 at *
            have i0 : (0 : Int) ≤ i := by omega
            by_cases hlt : i < n
            · have i1 : (i : Int) < n := by omega
              obtain ⟨bq, hAq, hx9⟩ := own_some hoq (fun e => by rw [e] at hfl; simp at hfl; omega)
              clear hx9
              subst hAq
              have HSC := Lib.hid (source_c none 0 0 W9)
              have HUQ := Lib.hid huq
              have HOQ := Lib.hid hoq
              have HFL := Lib.hid hfl
              clear huq hoq hfl
              go_wp2_with fail
              refine HSC.out.mono ?_
              clear HSC
              rintro _ Wa ⟨rfl, hwa⟩
              have hba : Below W9.heap.size W9 Wa := by rw [hwa]; exact (Below.refl _ _).alloc (Nat.le_refl _) _
              have hoq := HOQ.out.below hba
              have hfl := HFL.out
              obtain ⟨y, hy⟩ := getElem?_of_lt (l := fs') (by rw [hfl]; exact hlt : i < fs'.length)
              obtain ⟨b6, o6, e6, _, hc6⟩ := (own_sl hoq (fun x => (okF x).1)).at hy
              injection e6 with e6
              injection e6 with e6 e7
              subst e6; subst e7
              have d0 : Wa.cell? ⟨bq, i, none⟩ = some (valF y) := by have := hc6 0 _ rfl; simpa using this
              have f0 : Wa.frozen? ⟨bq, i, none⟩ = false := by
                have h1 := hoq
                rw [← hfl] at h1
                exact World.ownsRow.frozenAt h1 i
              have hset := Own.set1 (f := valF) (fun _ => rfl) hoq hfl.symm i (fv1 W9.heap.size)
              have HSET := Lib.hid hset
              have HUN := Lib.hid ((HUQ.out.trans (Upd.of_below hba)).trans (show Upd (fun k => (Value.slice (some ⟨bq, 0, none⟩) n c9).ownBlock = some k) Wa (Wa.setCell ⟨bq, i, none⟩ (valF (fv1 W9.heap.size))) from Upd.setCell _ _ _ rfl))
              unfold valF at d0
              rw [show valF (fv1 W9.heap.size) = .func (.func 75) #[] #[.pointer (some ⟨W9.heap.size, 0, none⟩)] from rfl] at HSET HUN
              rw [show valF (fv1 W9.heap.size) = .func (.func 75) #[] #[.pointer (some ⟨W9.heap.size, 0, none⟩)] from rfl]
              clear hc6 hy hoq hset hfl hwa hba
              go_wp2_with fail
              go_roundw
              case rel => exact ⟨i + 1, _, by first | rfl | simp, by omega, by rw [List.length_set, HFL.out], HSET.out, HUN.out⟩
              case measure => simp [intOf]; omega
            · have e : n = i := by omega
              subst e
              clear hlt hi
              have HB9 := Lib.hid (show Below w.heap.size w W9 from (HB0.out.trans (HB8.out.mono HB0.out.size)).trans (huq.bel (fun k hk => Nat.le_trans HBW5.out.size (HOB.out k hk).1) (HB0.out.trans (HB8.out.mono HB0.out.size)).size))
              have hn8 : ∀ k, (Value.slice A9 n c9).ownBlock = some k → ¬ k = b8 ∧ ¬ k = b10 ∧ ¬ k = w.heap.size + 1 := fun k hk => by
                have h1 := HOB.out k hk
                have h2 := HL8.out
                have h3 := HZ.out
                have h4 := HB0.out.size
                have h5 := blk_lt HK2.out
                have h6 := HB5.out.size
                exact ⟨by omega, by omega, by omega⟩
              have HR89 := Lib.hid (huq.heap HR88.out (fun h => (hn8 _ h).1 rfl))
              have HR109 := Lib.hid (huq.heap HR10.out (fun h => (hn8 _ h).2.1 rfl))
              have HK29 := Lib.hid (huq.heap (blk_below HK2.out HB8.out) (fun h => (hn8 _ h).2.2 rfl))
              have HO9 := Lib.hid (HO8.out.upd huq (fun k hk h => by have h1 := HOB.out k h; have h2 := HOV.out k (by rw [HQ.out] at hk; exact hk); omega))
              have HH9 := Lib.hid ((HH8.out.upd huq (fun k hk => .inl hk)).held)
              go_upto_region 13 with fail
              obtain ⟨Wb, hWb⟩ : ∃ Z, (W9.alloc (.cells #[.slice none 0 0] 27)).alloc (.cells #[.bool true] 4) = Z := ⟨_, rfl⟩
              have s1 : Wb.heap[W9.heap.size]? = some (.cells #[.slice none 0 0] 27 (0, 0)) := by rw [← hWb]; exact blk_alloc (heap_alloc_new _ _) _
              have s2 : Wb.heap[W9.heap.size + 1]? = some (.cells #[.bool true] 4 (0, 0)) := by have := heap_alloc_new (W9.alloc (.cells #[.slice none 0 0] 27)) (.cells #[.bool true] 4); rw [World.size_alloc] at this; rw [← hWb]; exact this
              have hbb : Below W9.heap.size W9 Wb := by rw [← hWb]; exact ((Below.refl _ _).alloc (Nat.le_refl _) _).alloc (by simp) _
              have HBB := Lib.hid (HB9.out.trans (hbb.mono HB9.out.size))
              have HR8B := Lib.hid (blk_below HR89.out hbb)
              have HR10B := Lib.hid (blk_below HR109.out hbb)
              have HK2B := Lib.hid (blk_below HK29.out hbb)
              have HOB2 := Lib.hid (own_sl (HO9.out.below hbb) (fun x => (okE x).1))
              obtain ⟨nh, HD, hnh9, hfirm, hdw9, hiv⟩ := HH9.out
              have hlv : LeavAt W9.heap.size (W9.heap.size + 1) W9.heap.size [] (fun k => k = W9.heap.size + 1 ∨ k = W9.heap.size ∨ (Value.slice none 0 0).ownBlock = some k) Wb := ⟨s2, ⟨_, s1, Own.nil _ _ _ _ _, (fun k hk => by cases hk), fun _ => Iff.rfl⟩, by omega, by omega, by omega⟩
              have hlt9 : b8 < W9.heap.size ∧ b10 < W9.heap.size ∧ w.heap.size + 1 < W9.heap.size ∧ ∀ g o, Av = some ⟨g, o, none⟩ → kl ≠ [] → g < W9.heap.size := ⟨blk_lt HR89.out, blk_lt HR109.out, blk_lt HK29.out, fun g o e hl => by
                rcases (own_sl HO9.out (fun x => (okE x).1)).2 with h | ⟨b, o', hA, hlt, _⟩
                · exact absurd h hl
                · rw [hA] at e; injection e with e; injection e with e; omega⟩
              have c10 : Wb.cell? ⟨b10, 0, none⟩ = some (valF f) := (blk_cell HR10B.out 0).trans rfl
              have hdw0 := hfirm.later hdw9 (hbb)
              have hnh : nh ≤ Wb.heap.size := Nat.le_trans hnh9 hbb.size
              rw [hWb]
              obtain ⟨b12, hb12⟩ : ∃ z, W9.heap.size = z := ⟨_, rfl⟩
              rw [hb12] at hlv hlt9 hnh9 ⊢
              have HLV := Lib.hid hlv
              have HLT9 := Lib.hid hlt9
              have HMX := Lib.hid (maxOne_cases nn)
              obtain ⟨mx, hmx⟩ : ∃ m, maxOne nn = m := ⟨_, rfl⟩
              rw [hmx] at HMX
              clear hlv hlt9 s1 s2 hbb hWb hb12 hmx hn8 huq hoq hfl
              have hdw := hdw0
              obtain ⟨gf, fa, lb, hfe, hen, hit⟩ := hiv
              have hfe : f = (gf, fa, lb) := by
                obtain ⟨f1, f2, f3⟩ := f
                have : (Value.func (.func f1) f2 f3) = .func (.func gf) fa lb := hfe
                injection this with h1 h2 h3
                injection h1 with h1
                rw [h1, h2, h3]
              subst hfe
              rw [show valF (gf, fa, lb) = .func (.func gf) fa lb from rfl] at c10
              have HIT := Lib.hid hit
              have HFI := Lib.hid hfirm
              have HDW := Lib.hid hdw
              have HNH := Lib.hid hnh
              have HNL2 := Lib.hid (show ∀ k, b12 ≤ k → nh ≤ k from fun k hk => Nat.le_trans hnh9 hk)
              have HNL := Lib.hid (show ∀ k, (k = b12 + 1 ∨ k = b12 ∨ (Value.slice none 0 0).ownBlock = some k) → nh ≤ k from fun k hk => HNL2.out k (HLV.out.ge k hk))
              clear hit hfirm hdw hnh
              go_wp2_with fail
              go_at_fn gf
              have hcall := HIT.out Wb (.func 44) #[.pointer (some ⟨b12, 0, none⟩), .pointer (some ⟨b10, 0, none⟩), .pointer (some ⟨b8, 0, none⟩), .pointer (some ⟨b12 + 1, 0, none⟩), .pointer (some ⟨w.heap.size + 1, 0, none⟩)]
                (fun p T W => LeavAt b12 (b12 + 1) b12 p T W ∧ (p.length : Int) < mx) (fun p T W => LeavAt b12 (b12 + 1) b12 p T W ∧ (p.length : Int) = mx) _ (leav_foot _ _ _ _) (leav_foot _ _ _ _)
                (fun k hk => HNL.out k hk) ⟨HLV.out, by have := HMX.out; simp; omega⟩ HDW.out
                (fun p x T1 Wc hj him hg hu hp => by
                  obtain ⟨hj, hlim⟩ := hj
                  have hpl : p.length + 1 ≤ kl.length := by have := hp.length_le; simpa using this
                  have hge := hj.ge
                  have hsc : ∀ k, T1 k → b12 ≤ k := hge
                  have hlt9 := HLT9.out
                  have hub : Upd (fun k => b12 ≤ k) Wb Wc := hu.mono fun k hk => hk.elim (fun h => HLV.out.ge k h) (fun h => h.elim)
                  refine .inr ⟨_, rfl, enters_of Try.func44 (by kernel_rfl) rfl, (leav1_c b12 (b12 + 1) b12 b10 b8 (w.heap.size + 1) (gf, fa, lb) kl Av cv nn p x T1 Wc hj (by have := HQ.out; omega) (by have := HQ.out; omega)
                    (hub.heap HR10B.out (fun h => by omega)) (by rw [HQ.out]; exact hub.heap HR8B.out (fun h => by omega)) (hub.heap HK2B.out (fun h => by omega)) (HOB2.out.upd2 hub (fun hl g o e h => by have := hlt9.2.2.2 g o e hl; omega))
                    ⟨fun h => by have := hsc _ h; omega, fun h => by have := hsc _ h; omega, fun h => by have := hsc _ h; omega, fun hl g o e h => by have := hsc _ h; have := hlt9.2.2.2 g o e hl; omega⟩
                    (fun W hW => ⟨nh, HD, Nat.le_trans HNH.out (Nat.le_trans hu.size hW.size), HFI.out, HFI.out _ _ him (hW.mono fun k hk => HNL2.out k (hsc k hk)), gf, fa, lb, rfl, hen, HIT.out⟩)).mono ?_⟩
                  rintro e W2 ⟨rfl, T2, hg2, hu2, ht2⟩
                  refine ⟨T2, hg2, hu2, ?_⟩
                  have hmc := HMX.out
                  have hl1 : (p ++ [x]).length = p.length + 1 := by simp
                  by_cases hend : (p.length : Int) + 1 < nn
                  · rw [decide_eq_true hend]
                    exact .inl ⟨rfl, ht2, by rw [hl1]; push_cast; omega⟩
                  · rw [decide_eq_false hend]
                    exact .inr ⟨rfl, ht2, by rw [hl1]; push_cast; omega⟩)
              refine hcall.mono ?_
              clear hcall
              rintro e W10 ⟨⟨v10, rfl⟩, T10, hg10, hu10, hres⟩
              obtain ⟨pg, hlv, hpre, hpl⟩ : ∃ pg, LeavAt b12 (b12 + 1) b12 pg T10 W10 ∧ pg <+: kl ∧ (((q : Int) ≤ mx ∧ (pg.length : Int) = q) ∨ (mx < (q : Int) ∧ (pg.length : Int) = mx)) := by
                have hqq := HQ.out
                rcases hres with ⟨⟨h1, h2⟩, _⟩ | ⟨pre, hp, ⟨h1, h2⟩, _⟩
                · exact ⟨kl, h1, List.prefix_refl _, .inl ⟨by omega, by omega⟩⟩
                · have h3 := hp.length_le
                  refine ⟨pre, h1, hp, ?_⟩
                  by_cases h4 : (q : Int) ≤ mx
                  · exact .inl ⟨h4, by omega⟩
                  · exact .inr ⟨by omega, h2⟩
              have hub : Upd (fun k => b12 ≤ k) Wb W10 := hu10.mono fun k hk => hk.elim (fun h => HLV.out.ge k h) (fun h => h.elim)
              have hlt9 := HLT9.out
              have m8 := hub.heap HR8B.out (fun h => by omega)
              have m5 := hub.heap HK2B.out (fun h => by omega)
              obtain ⟨vg, mg, hog, _, _⟩ := hlv.o
              obtain ⟨Ag, cg, rfl⟩ := own_slice hog
              have hpt : kl.take pg.length = pg := (List.prefix_iff_eq_take.1 hpre).symm
              have hpq : pg.length ≤ q := by have := hpre.length_le; have := HQ.out; omega
              have hsk : Sl encE 4 W10 Av kl := HOB2.out.upd2 hub (fun hl g o e h => by have := hlt9.2.2.2 g o e hl; omega)
              have HSM2 := Lib.hid (show ∀ W, Below W10.heap.size W10 W → Calls Try.prog 34 #[.slice Ag pg.length cg, .slice Av pg.length cv] W (fun e w' => e = .returned (.bool true) ∧ Below W.heap.size W w') from fun W hW => by
                have := same12_c Ag cg pg Av cv pg W ((own_sl hog (fun x => (okE x).1)).later hW) (by have := (hsk.take_ pg.length).later hW; rwa [hpt] at this)
                rwa [decide_eq_true rfl] at this)
              have HM8 := Lib.hid m8
              have HM5 := Lib.hid m5
              have HSK := Lib.hid hsk
              have z8 : W10.cell? ⟨b8, 0, none⟩ = some (.slice Av q cv) := (blk_cell m8 0).trans rfl
              have z5 : W10.cell? ⟨w.heap.size + 1, 0, none⟩ = some (.int .i64 nn) := (blk_cell m5 0).trans rfl
              have z13 : W10.cell? ⟨b12 + 1, 0, none⟩ = some (.bool true) := (blk_cell hlv.w 0).trans rfl
              have z12 : W10.cell? ⟨b12, 0, none⟩ = some (.slice Ag pg.length cg) := (blk_cell mg 0).trans rfl
              have HB10 := Lib.hid (show Below w.heap.size w W10 from HBB.out.trans (hub.bel (fun k hk => by omega) HBB.out.size))
              obtain ⟨pl, hpl2⟩ : ∃ pl, pg.length = pl := ⟨_, rfl⟩
              rw [hpl2] at hpl z12 HSM2 hpq
              have HMN := Lib.hid hpl
              have hplc : pl ≤ cv := by omega
              clear hres hlv hpre hpl hub hlt9 m8 m5 hog mg hpt hsk hpl2 hu10 hg10 c10
              go_wp2_with fail
              refine wp_region_calmB 20 (by kernel_rfl) (by kernel_rfl) ?_
              simp only [List.take_succ_cons, List.take_zero, List.drop_succ_cons, List.drop_zero]
              refine chain0 ?_
              refine @chain _ _ _ _ _ _ _ _ 64 (.bool true) (by rfl) (by rfl) (by exact fun W2 hW => run_lw (by rfl) (by exact eval_base (by kernel_rfl) (by rfl)) (fun W hW => ldBo _ _ _ _ (cell_later hW z13)) hW) ?_
              refine @chain _ _ _ _ _ _ _ _ 65 (.bool false) (by rfl) (by rfl) (by exact fun W2 hW => run_uo (u := .bool true) (by rfl) (by exact eval_look (by kernel_rfl) (by kernel_rfl)) (fun W => by go_simp) hW) ?_
              refine @chain _ _ _ _ _ _ _ _ 66 (.bool false) (by rfl) (by rfl) (by exact fun W2 hW => run_mv (by rfl) (by exact eval_look (by kernel_rfl) (by kernel_rfl)) hW) ?_
              refine @chainG _ _ _ _ _ _ _ _ 67 (.slice Ag pl cg) (by kernel_rfl) (by rfl) (by exact fun W2 hW => run_lw (by rfl) (by exact eval_base (by kernel_rfl) (by rfl)) (fun W hW => ldSlR _ _ _ _ _ _ (cell_later hW z12)) hW) ?_
              refine @chainG _ _ _ _ _ _ _ _ 68 (.int .i64 pl) (by kernel_rfl) (by rfl) (by exact fun W2 hW => run_ln (u := .slice Ag pl cg) (by rfl) (by exact eval_look (by kernel_rfl) (by kernel_rfl)) (fun W => by go_simp) hW) ?_
              refine @chainG _ _ _ _ _ _ _ _ 69 (.slice Av q cv) (by kernel_rfl) (by rfl) (by exact fun W2 hW => run_lw (by rfl) (by exact eval_base (by kernel_rfl) (by rfl)) (fun W hW => ldSlR _ _ _ _ _ _ (cell_later hW z8)) hW) ?_
              refine @chainG _ _ _ _ _ _ _ _ 70 (.int .i64 q) (by kernel_rfl) (by rfl) (by exact fun W2 hW => run_ln (u := .slice Av q cv) (by rfl) (by exact eval_look (by kernel_rfl) (by kernel_rfl)) (fun W => by go_simp) hW) ?_
              refine @chainG _ _ _ _ _ _ _ _ 71 (.int .i64 nn) (by kernel_rfl) (by rfl) (by exact fun W2 hW => run_lw (by rfl) (by exact eval_base (by kernel_rfl) (by rfl)) (fun W hW => ldIR _ _ _ _ (cell_later hW z5)) hW) ?_
              refine @chainG _ _ _ _ _ _ _ _ 72 (.int .i64 mx) (by kernel_rfl) (by rfl) (by exact fun W2 hW => run_mx (u := .int .i64 nn) (v := .int .i64 1) (by rfl) (by exact eval_look (by kernel_rfl) (by kernel_rfl)) (by rfl) (fun W => maxM_run _ _ HMX.out W) hW) ?_
              refine @chainG _ _ _ _ _ _ _ _ 73 (.int .i64 (pl : Int)) (by kernel_rfl) (by rfl) (by exact fun W2 hW => run_mn (u := .int .i64 q) (v := .int .i64 mx) (by rfl) (by exact eval_look (by kernel_rfl) (by kernel_rfl)) (by exact eval_look (by kernel_rfl) (by kernel_rfl)) (fun W => minM_run _ _ _ HMN.out W) hW) ?_
              refine @chainG _ _ _ _ _ _ _ _ 74 (.bool false) (by kernel_rfl) (by rfl) (by exact fun W2 hW => run_bo (u := .int .i64 pl) (v := .int .i64 (pl : Int)) (by rfl) (by exact eval_look (by kernel_rfl) (by kernel_rfl)) (by exact eval_look (by kernel_rfl) (by kernel_rfl)) (fun W => neI_run _ _ _ W) hW) ?_
              refine @chain _ _ _ _ _ _ _ _ 75 (.bool false) (by rfl) (by rfl) (by exact fun W2 hW => run_pkF (by rfl) (by exact eval_look (by kernel_rfl) (by kernel_rfl)) (by exact eval_look (by kernel_rfl) (by kernel_rfl)) hW) ?_
              refine @chain _ _ _ _ _ _ _ _ 76 (.bool false) (by rfl) (by rfl) (by exact fun W2 hW => run_mv (by rfl) (by exact eval_look (by kernel_rfl) (by kernel_rfl)) hW) ?_
              refine @chainG _ _ _ _ _ _ _ _ 77 (.slice Ag pl cg) (by kernel_rfl) (by rfl) (by exact fun W2 hW => run_lw (by rfl) (by exact eval_base (by kernel_rfl) (by rfl)) (fun W hW => ldSlR _ _ _ _ _ _ (cell_later hW z12)) hW) ?_
              refine @chainG _ _ _ _ _ _ _ _ 78 (.slice Av q cv) (by kernel_rfl) (by rfl) (by exact fun W2 hW => run_lw (by rfl) (by exact eval_base (by kernel_rfl) (by rfl)) (fun W hW => ldSlR _ _ _ _ _ _ (cell_later hW z8)) hW) ?_
              refine @chainG _ _ _ _ _ _ _ _ 79 (.slice Ag pl cg) (by kernel_rfl) (by rfl) (by exact fun W2 hW => run_lw (by rfl) (by exact eval_base (by kernel_rfl) (by rfl)) (fun W hW => ldSlR _ _ _ _ _ _ (cell_later hW z12)) hW) ?_
              refine @chainG _ _ _ _ _ _ _ _ 80 (.int .i64 pl) (by kernel_rfl) (by rfl) (by exact fun W2 hW => run_ln (u := .slice Ag pl cg) (by rfl) (by exact eval_look (by kernel_rfl) (by kernel_rfl)) (fun W => by go_simp) hW) ?_
              refine @chainG _ _ _ _ _ _ _ _ 81 (.slice Av pl cv) (by kernel_rfl) (by rfl) (by exact fun W2 hW => run_sl (u := .slice Av q cv) (l := none) (h := some (.int .i64 pl)) (by rfl) (by exact eval_look (by kernel_rfl) (by kernel_rfl)) (by rfl) (map_some (by exact eval_look (by kernel_rfl) (by kernel_rfl))) (fun W => slE_run _ _ _ _ hplc W) hW) ?_
              refine @chainG _ _ _ _ _ _ _ _ 82 (.bool true) (by kernel_rfl) (by rfl) (by exact fun W2 hW => run_call (vs := #[.slice Ag pl cg, .slice Av pl cv]) (by rfl) (by kernel_rfl) (enters_of Try.func34 (by kernel_rfl) (by rfl)) (calm_b hW (HSM2.out W2 hW))) ?_
              refine @chainG _ _ _ _ _ _ _ _ 83 (.bool false) (by kernel_rfl) (by rfl) (by exact fun W2 hW => run_uo (u := .bool true) (by rfl) (by exact eval_look (by kernel_rfl) (by kernel_rfl)) (fun W => by go_simp) hW) ?_
              refine calm_nil (fun W2 hW2 => ?_)
              refine Eq.mpr (congrArg (fun a => wpList _ _ _ _ a W2) (show _ = (⟨#[Value.slice A n c, Value.agg #[Value.slice bA n1 bc, Value.slice bB n2 bd, Value.bool nt], Value.int IntKind.i64 nn, undef, Value.pointer (some ⟨w.heap.size, 0, none⟩), Value.pointer (some ⟨w.heap.size + 1, 0, none⟩), Value.bool false, Value.bool true, Value.pointer (some ⟨b8, 0, none⟩), Value.slice A9 n c9, Value.pointer (some ⟨b10, 0, none⟩), Value.int IntKind.i64 (n : Int), Value.pointer (some ⟨b12, 0, none⟩), Value.pointer (some ⟨b12 + 1, 0, none⟩), undef, undef, undef, undef, Value.bool true, Value.bool true, Value.bool false, Value.bool false, Value.slice A n c, Value.bool true, Value.bool false, Value.bool false, Value.bool false, Value.pointer (some ⟨w.heap.size, 0, none⟩), Value.slice bA n1 bc, Value.int IntKind.i64 (n1 : Int), Value.bool (decide (4000 < (n1 : Int))), Value.bool (decide (4000 < (n1 : Int))), Value.bool (decide (4000 < (n1 : Int))), Value.slice A n c, Value.bool true, Value.bool false, Value.bool (decide (4000 < (n1 : Int))), Value.bool (decide (4000 < (n1 : Int))), Value.int IntKind.i64 nn, Value.bool (decide (nn < 0)), Value.bool (decide (4000 < (n1 : Int)) || decide (nn < 0)), undef, Value.agg #[Value.slice bA n1 bc, Value.slice bB n2 bd, Value.bool nt], Value.slice A n c, Value.slice Av q cv, Value.slice A n c, Value.slice A9 n c9, Value.agg #[Value.slice bA n1 bc, Value.slice bB n2 bd, Value.bool nt], Value.func (Fn.func 31) #[Value.agg #[Value.slice bA n1 bc, Value.slice bB n2 bd, Value.bool nt]] #[], Value.slice A9 n c9, Value.func (Fn.func gf) fa lb, Value.int IntKind.i64 (n : Int), Value.slice A9 n c9, Value.int IntKind.i64 (n : Int), Value.bool false, u55, u56, u57, u58, u59, u60, Value.func (Fn.func gf) fa lb, Value.func (Fn.func 44) #[] #[Value.pointer (some ⟨b12, 0, none⟩), Value.pointer (some ⟨b10, 0, none⟩), Value.pointer (some ⟨b8, 0, none⟩), Value.pointer (some ⟨b12 + 1, 0, none⟩), Value.pointer (some ⟨w.heap.size + 1, 0, none⟩)], v10, Value.bool true, Value.bool false, Value.bool false, Value.slice Ag pl cg, Value.int IntKind.i64 (pl : Int), Value.slice Av q cv, Value.int IntKind.i64 (q : Int), Value.int IntKind.i64 nn, Value.int IntKind.i64 mx, Value.int IntKind.i64 (pl : Int), Value.bool false, Value.bool false, Value.bool false, Value.slice Ag pl cg, Value.slice Av q cv, Value.slice Ag pl cg, Value.int IntKind.i64 (pl : Int), Value.slice Av pl cv, Value.bool true, Value.bool false, undef, undef, undef, undef, undef, undef, undef, undef, undef, undef, undef, undef, undef, undef, undef, undef, undef, undef, undef, undef, undef, undef, undef, undef, undef, undef], []⟩ : Act) by kernel_rfl)) ?_
              have HW2 := Lib.hid hW2
              clear hW2
              have y8 := cell_later HW2.out z8
              clear z8 z5 z13 z12
              have HB2' := Lib.hid (HB10.out.trans (HW2.out.mono HB10.out.size))
              have HM82 := Lib.hid (blk_below HM8.out HW2.out)
              have HSK2 := Lib.hid (HSK.out.later HW2.out)
              go_wp2_with (at_builtin; refine wpList_app rfl (.const (.slice none 0 0)) (.tmp 85) rfl uSlE infoE rfl (by decide) (by decide) okE (.slice none 0 0) [] rfl (base := W2.heap.size) ?c1 Av cv kl (by rw [HQ.out]; rfl) ?c2 ?c3 ?c4 ?_)
              case c1 => exact Own.nil _ _ _ _ _
              case c2 => exact HSK2.out
              case c3 => have := HQ.out; simp; omega
              case c4 => omega
              intro v11 w11 ho11 hg11 _
              obtain ⟨A11, c11, rfl⟩ := own_slice ho11
              rw [HQ.out] at ho11 ⊢
              have hb11 : Below W2.heap.size W2 w11 := (Below.refl _ _).grown hg11 (Nat.le_refl _) (fun k hk => by cases hk)
              have HB11 := Lib.hid (HB2'.out.trans (hb11.mono HB2'.out.size))
              have HM811 := Lib.hid (blk_below HM82.out hb11)
              have HSK11 := Lib.hid (HSK2.out.later hb11)
              clear ho11 hg11 hb11 y8
              go_wp2_with fail
              obtain ⟨W12, hW12⟩ : ∃ Z, (w11.alloc (.cells #[.slice A11 q c11, .slice none 0 0] 27)).alloc (.cells #[.slice (some ⟨w11.heap.size, 0, none⟩) 2 2] 22) = Z := ⟨_, rfl⟩
              obtain ⟨W13, hW13⟩ : ∃ Z, W12.alloc (.cells #[.func (.func 46) #[] #[.pointer (some ⟨w11.heap.size + 1, 0, none⟩)], .func (.func 47) #[] #[.pointer (some ⟨w11.heap.size + 1, 0, none⟩)]] 31) = Z := ⟨_, rfl⟩
              have t1 : W12.heap[w11.heap.size]? = some (.cells #[.slice A11 q c11, .slice none 0 0] 27 (0, 0)) := by rw [← hW12]; exact blk_alloc (heap_alloc_new _ _) _
              have t2 : W12.heap[w11.heap.size + 1]? = some (.cells #[.slice (some ⟨w11.heap.size, 0, none⟩) 2 2] 22 (0, 0)) := by have := heap_alloc_new (w11.alloc (.cells #[.slice A11 q c11, .slice none 0 0] 27)) (.cells #[.slice (some ⟨w11.heap.size, 0, none⟩) 2 2] 22); rw [World.size_alloc] at this; rw [← hW12]; exact this
              have z12 : W12.heap.size = w11.heap.size + 1 + 1 := by rw [← hW12, World.size_alloc, World.size_alloc]
              have t3 : W13.heap[w11.heap.size + 1 + 1]? = some (.cells #[.func (.func 46) #[] #[.pointer (some ⟨w11.heap.size + 1, 0, none⟩)], .func (.func 47) #[] #[.pointer (some ⟨w11.heap.size + 1, 0, none⟩)]] 31 (0, 0)) := by rw [← z12, ← hW13]; exact heap_alloc_new _ _
              have b12' : Below w11.heap.size w11 W12 := by rw [← hW12]; exact ((Below.refl _ _).alloc (Nat.le_refl _) _).alloc (by simp) _
              have b13' : Below W12.heap.size W12 W13 := by rw [← hW13]; exact (Below.refl _ _).alloc (Nat.le_refl _) _
              have b1113 := b12'.trans (b13'.mono b12'.size)
              have HB13 := Lib.hid (HB11.out.trans (b1113.mono HB11.out.size))
              have HM813 := Lib.hid (blk_below HM811.out b1113)
              have HSK13 := Lib.hid (HSK11.out.later b1113)
              have HT1 := Lib.hid (blk_below t1 b13')
              have HT2 := Lib.hid (blk_below t2 b13')
              have HZ13 := Lib.hid (show w11.heap.size + 1 + 1 < W13.heap.size ∧ w.heap.size ≤ w11.heap.size ∧ b8 < w11.heap.size from ⟨blk_lt t3, HB11.out.size, blk_lt HM811.out⟩)
              have HKT := Lib.hid (keep_c (some ⟨w11.heap.size + 1 + 1, 0, none⟩) 2 [((46, #[], #[.pointer (some ⟨w11.heap.size + 1, 0, none⟩)]) : FV), (47, #[], #[.pointer (some ⟨w11.heap.size + 1, 0, none⟩)])] (45, #[], #[]) W13
                (Sl.of_block (fun x => (okF x).1) t3 (by rfl) (by simp)) (fun h => by cases h) (by simp))
              rw [show valF (45, #[], #[]) = .func (.func 45) #[] #[] from rfl] at HKT
              rw [hW12, hW13]
              obtain ⟨br, hbr⟩ : ∃ z, w11.heap.size = z := ⟨_, rfl⟩
              have HBRL := Lib.hid (show w11.heap.size = br from hbr)
              rw [hbr] at HKT HT1 HT2 HZ13 ⊢
              clear hW12 hW13 t1 t2 t3 z12 b12' b13' b1113 hbr
              refine HKT.out.mono ?_
              clear HKT
              rintro _ W14 ⟨t, rfl, hb14, HDt, hdt, hst, hszt, hitt⟩
              have p1 := blk_below HT1.out hb14
              have p2 := blk_below HT2.out hb14
              have HB14 := Lib.hid (HB13.out.trans (hb14.mono HB13.out.size))
              have HM814 := Lib.hid (blk_below HM813.out hb14)
              obtain ⟨W15, hW15⟩ : ∃ Z, W14.setCell ⟨br, 0, none⟩ (.slice none 0 0) = Z := ⟨_, rfl⟩
              have q1 : W15.heap[br]? = some (.cells #[.slice none 0 0, .slice none 0 0] 27 (0, 0)) := by rw [← hW15]; exact blk_set p1 0 _
              have u15 : Upd (fun k => k = br) W14 W15 := by rw [← hW15]; exact Upd.setCell _ _ _ rfl
              have q2 := u15.heap p2 (by omega)
              have m15 := u15.heap HM814.out (fun h => by have := HZ13.out.2.2; omega)
              obtain ⟨W16, hW16⟩ : ∃ Z, W15.setCell ⟨br, 1, none⟩ (.slice Av q cv) = Z := ⟨_, rfl⟩
              have q3 : W16.heap[br]? = some (.cells #[.slice none 0 0, .slice Av q cv] 27 (0, 0)) := by rw [← hW16]; exact blk_set q1 1 _
              have u16 : Upd (fun k => k = br) W15 W16 := by rw [← hW16]; exact Upd.setCell _ _ _ rfl
              have u1416 : Upd (fun k => k = br) W14 W16 := u15.trans u16
              have q4 := u16.heap q2 (by omega)
              have m16 := u16.heap m15 (fun h => by have := HZ13.out.2.2; omega)
              have a1 : W14.cell? ⟨br + 1, 0, none⟩ = some (.slice (some ⟨br, 0, none⟩) 2 2) := (blk_cell p2 0).trans rfl
              have a2 : W14.cell? ⟨br, 0, none⟩ = some (.slice A11 q c11) := (blk_cell p1 0).trans rfl
              have a3 : W14.frozen? ⟨br, 0, none⟩ = false := blk_frozen p1 0
              have a4 : W15.cell? ⟨br + 1, 0, none⟩ = some (.slice (some ⟨br, 0, none⟩) 2 2) := (blk_cell q2 0).trans rfl
              have a5 : W15.cell? ⟨br, 1, none⟩ = some (.slice none 0 0) := (blk_cell q1 1).trans rfl
              have a6 : W15.frozen? ⟨br, 1, none⟩ = false := blk_frozen q1 1
              have a7 : W15.cell? ⟨b8, 0, none⟩ = some (.slice Av q cv) := (blk_cell m15 0).trans rfl
              have a8 : W16.cell? ⟨b8, 0, none⟩ = some (.slice Av q cv) := (blk_cell m16 0).trans rfl
              have hvb : kl ≠ [] → ∀ g o, Av = some ⟨g, o, none⟩ → g < w11.heap.size := fun hl g o e => by
                rcases HSK11.out.2 with h | ⟨b, o', hA, hlt, _⟩
                · exact absurd h hl
                · rw [hA] at e; injection e with e; injection e with e; omega
              have hbrl := HBRL.out
              have HNOW := Lib.hid (show NowAt W13.heap.size (br + 1) br Av cv kl W16 from ⟨by have := HZ13.out.1; exact ⟨by omega, by omega⟩, q4, by rw [HQ.out]; exact q3, (HSK13.out.later hb14).upd2 u1416 (fun hl g o e h => by have := hvb hl g o e; omega), fun hl g o e => by have := hvb hl g o e; have := HZ13.out.1; omega⟩)
              have HDT16 := Lib.hid (hst _ _ _ hdt u1416 (fun k hk => .inl (by have := HZ13.out.1; omega)))
              have hsr : Srcs W13.heap.size noU (fun _ => NowAt W13.heap.size (br + 1) br Av cv kl) [((46, #[], #[.pointer (some ⟨br + 1, 0, none⟩)]) : FV), (47, #[], #[.pointer (some ⟨br + 1, 0, none⟩)])] [[], kl] := by
                refine ⟨rfl, fun k f l hf hl => ?_⟩
                match k with
                | 0 =>
                  injection hf with hf
                  injection hl with hl
                  subst hf; subst hl
                  refine ⟨_, _, _, rfl, enters_of Try.func46 (by kernel_rfl) rfl, fun W => ?_⟩
                  exact (now3_it W13.heap.size (br + 1) br Av cv kl W).mono (Nat.le_refl _) (fun _ h => h) (fun _ h => h) (fun _ _ => trivial) (fun _ h => h)
                | 1 =>
                  injection hf with hf
                  injection hl with hl
                  subst hf; subst hl
                  refine ⟨_, _, _, rfl, enters_of Try.func47 (by kernel_rfl) rfl, fun W => ?_⟩
                  exact (now4_it W13.heap.size (br + 1) br Av cv kl W).mono (Nat.le_refl _) (fun _ h => h) (fun _ h => h) (fun _ _ => trivial) (fun _ h => h)
                | k + 2 => cases hf
              have hiv := hitt noU (fun _ => NowAt W13.heap.size (br + 1) br Av cv kl) [[], kl] (fun _ => true) (fun _ => True) (fun _ => True) hsr (fun _ => nowAt_firm _ _ _ _ _ _) (fun k h => h.elim) (by have := HQ.out; simp [totL]; omega)
                ⟨enters_of Try.func45 (by kernel_rfl) rfl, fun _ _ _ _ => trivial, fun W _ _ key W' _ _ => yes_c key W'⟩ (fun _ _ _ _ => trivial)
              rw [merge_nil, keep_true HUP.out] at hiv
              have hszt' := hb14.size
              have HG := Lib.hid (gives_c (valF t) (q : Int) W14.heap.size noU _ _ kl W16 hiv ((((nowAt_firm _ _ _ _ _ _).mono hszt').and (hst.firm.and (fun _ _ _ _ => trivial)))) ((((nowAt_firm _ _ _ _ _ _).mono hszt').and (hst.firm.and (fun _ _ _ _ => trivial)))) ⟨HNOW.out, HDT16.out, trivial⟩ u1416.size (by have := HQ.out; omega) (by rw [HQ.out]; exact Int.le_refl _))
              have HB16 := Lib.hid (HB14.out.trans (u1416.bel (fun k hk => by have := HZ13.out.2.1; omega) HB14.out.size))
              have HM16 := Lib.hid m16
              have HSK16 := Lib.hid ((HSK13.out.later hb14).upd2 u1416 (fun hl g o e h => by have := hvb hl g o e; omega))
              clear p1 p2 q1 q2 q3 q4 m15 m16 u15 u16 u1416 hvb hbrl hsr hiv hszt' hst hitt hdt hszt hb14
              go_wp2_with fail
              try rw [hW15]
              try rw [hW16]
              clear hW15 hW16
              refine HG.out.mono ?_
              clear HG
              rintro _ W17 ⟨v17, rfl, hown17, hu17, _⟩
              obtain ⟨A17, c17, rfl⟩ := own_slice hown17
              have hb17 : Below W16.heap.size W16 W17 := hu17.bel (fun k h => h.elim) (Nat.le_refl _)
              have m17 := blk_below HM16.out hb17
              have a9 : W17.cell? ⟨b8, 0, none⟩ = some (.slice Av q cv) := (blk_cell m17 0).trans rfl
              have HSM17 := Lib.hid (same12_c A17 c17 kl Av cv kl W17 (own_sl hown17 (fun x => (okE x).1)) (HSK16.out.later hb17))
              rw [decide_eq_true rfl, HQ.out] at HSM17
              rw [HQ.out]
              have HB17 := Lib.hid (HB16.out.trans (hb17.mono HB16.out.size))
              clear hown17 hu17 hb17 m17
              go_wp2_with fail
              refine HSM17.out.mono ?_
              clear HSM17
              rintro _ W18 ⟨rfl, hb18⟩
              have HBE := Lib.hid (HB17.out.trans (hb18.mono HB17.out.size))
              clear hb18
              go_wp2
              go_ret
              exact ⟨rfl, HBE.out⟩
    · have i2 : (4000 : Int) < n1 := by omega
      go_wp2
      go_ret
      exact ⟨rfl, HBW2.out⟩
  · rw [decide_eq_false hsm]
    clear hsm
    go_wp2
    go_ret
    exact ⟨rfl, HBW2.out⟩
theorem sieveLeaves_w (A : Option Addr) (c : Nat) (l : List (List Ent)) (b : Bw) (nn : Int) (w : World) (hb : ∃ L : List HE, L.map (·.2.2) = l ∧ Sl2 w A L) (hln : ∀ x ∈ l, x.length ≤ 140737488351232) (hbw : b.at w) :
    Calls Try.prog 10 #[.slice A l.length c, .agg b.cells, .int .i64 nn] w fun e w' => e = .returned (.bool true) ∧ Below w.heap.size w w' := by
  obtain ⟨L, rfl, hL⟩ := hb
  rw [List.length_map]
  exact sieveLeaves_c A c L b nn w hL (fun h hh => hln h.2.2 (List.mem_map_of_mem hh)) hbw
end Go.Proofs.Ytdpijhpjicbecaa.H
