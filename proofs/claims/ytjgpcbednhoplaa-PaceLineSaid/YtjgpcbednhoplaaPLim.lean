/- pace: Limit, LimitSum. Conditions: the fields are ints. -/
import Derived.Test.YtjgpcbednhoplaaPCap
namespace Go.Proofs.Ytjgpcbednhoplaa.H
open Go.RowKit Go.Deep Go.Shelf Go.Proofs Go.Proofs.YtjgpcbednhoplaaW.PrintWords
set_option linter.unusedVariables false
set_option linter.unusedSimpArgs false
theorem wpList_load_rowG {P : Program} {ops : Array Oper} {rest : List Oper} {o : Oper} {a : Act} {w : World} {Q : Exit → Act → World → Prop} (hgd : Region.wanted o (yielded ops a.tmps) = true) (ty : TypeId) (x : Operand) (ho : o.op = .load ty x)
    (g : Nat) (hx : a.eval x = .pointer (some ⟨g, 0, none⟩)) (t : TypeId) (cs : Array Value) (fr : Nat × Nat) (d : TypeDesc) (hg : w.heap[g]? = some (.cells cs t fr))
    (hu : P.underlying ty = some d) (hd : (match d with | .struct _ | .array _ _ => true | _ => false) = true) (hi : (P.info? ty).map (·.size) = some cs.size)
    (h : wpList P ops Q rest (a.put o.dst (.agg cs)) w) : wpList P ops Q (o :: rest) a w := by
  simp only [wpList]
  rw [if_pos hgd]
  exact .inl (wp_load_row ty x ho g hx t cs fr d hg hu hd hi h)
/-- x times m, n times, each time held in an int. -/
def limIter (m : Int) : Nat → Int → Int
  | 0, x => x
  | n + 1, x => limIter m n (smul x m)
def limitL (c : Cfg) (lv : Int) : Int := if lv < 1 ∨ rightL c = false ∨ lv > c.Levels - 2 then 0 else limIter c.Mult (lv - 1).toNat c.Base
set_option maxHeartbeats 1600000 in
set_option maxRecDepth 100000 in
theorem Limit_c (c : Cfg) (hc : CfgOk c) (lv : Int) (hlv : I64 lv) (w : World) : Calls Try.prog 24 #[cfgV c, .int .i64 lv] w fun e w' => e = .returned (.int .i64 (limitL c lv)) ∧ Below w.heap.size w w' := by
  have HSP := Lib.hid (fun W => right_c c hc W)
  have HBX := Lib.hid (cfgBlk c w)
  have HBA := Lib.hid ((Below.refl w.heap.size w).alloc (Nat.le_refl _) (.cells (cfgC c) 23))
  have HSZ := Lib.hid (World.size_alloc w (.cells (cfgC c) 23))
  have k9 : I64 c.Base := hc _ (by simp [Cfg.l])
  have k10 : I64 c.Mult := hc _ (by simp [Cfg.l])
  have HB9 := Lib.hid k9
  have HB10 := Lib.hid k10
  clear hc k9 k10
  obtain ⟨l1, l2⟩ := hlv
  unfold cfgV at *
  go_enter Try.func24, Try.ntmps24
  by_cases h0 : lv < 1
  · have HR := Lib.hid (show limitL c lv = 0 by simp [limitL, h0])
    have HB2 := Lib.hid HBA.out.size
    go_wp2
    go_ret
    exact ⟨by rw [HR.out]; rfl, HBA.out⟩
  have h0' : decide (lv < 1) = false := by simpa using h0
  go_wp2_with (refine wpList_load_rowG (by simp only [h0']; kernel_rfl) 23 (.tmp 2) rfl _ rfl _ _ _ _ HBX.out Try.underlying23 rfl (iCfg c) ?_)
  generalize w.alloc (.cells (cfgC c) 23) = wa at *
  refine (HSP.out _).mono ?_
  rintro e w1 ⟨rfl, hb1⟩
  have HB1 := Lib.hid (HBA.out.trans (hb1.mono HBA.out.size))
  have HX1 := Lib.hid ((hb1.block w.heap.size (by rw [HSZ.out]; omega)).trans HBX.out)
  have HS1 := Lib.hid (show w.heap.size < w1.heap.size by have := hb1.size; rw [HSZ.out] at this; omega)
  clear hb1
  rcases hr : rightL c with _ | _
  · have HR := Lib.hid (show limitL c lv = 0 by simp [limitL, hr])
    go_wp2
    go_ret
    exact ⟨by rw [HR.out]; rfl, HB1.out⟩
  have c8 : w1.cell? ⟨w.heap.size, 8, none⟩ = some (.int .i64 c.Levels) := (blk_cell HX1.out 8).trans rfl
  obtain ⟨j1, j2⟩ := right_in hr (x := c.Levels) (lo := 3) (hi := 5) (by simp [spansL, spansM])
  by_cases h3 : lv > c.Levels - 2
  · have HR := Lib.hid (show limitL c lv = 0 by simp [limitL, h3])
    clear hr
    go_wp2
    go_ret
    exact ⟨by rw [HR.out]; rfl, HB1.out⟩
  have HR := Lib.hid (show limitL c lv = limIter c.Mult (lv - 1).toNat c.Base by unfold limitL; rw [if_neg (by rw [hr]; simp; omega)])
  have c9 : w1.cell? ⟨w.heap.size, 9, none⟩ = some (.int .i64 c.Base) := (blk_cell HX1.out 9).trans rfl
  obtain ⟨n, hn⟩ : ∃ n : Nat, (n : Int) = lv - 1 := ⟨(lv - 1).toNat, by omega⟩
  rw [show (lv - 1).toNat = n by omega] at HR
  have hn1 : 1 ≤ lv := by omega
  have hn3 : lv ≤ 3 := by omega
  have HN := Lib.hid hn
  have h3' : lv ≤ c.Levels - 2 := by omega
  clear hr h3 h0 h0' l1 l2 hn
  go_wp2
  go_loopw [5, 24] (fun s5 s24 wr => ∃ (k : Nat) (x : Int), s24 = .int .i64 k ∧ k ≤ n ∧ s5 = .int .i64 x ∧ I64 x ∧ limIter c.Mult (n - k) x = limIter c.Mult n c.Base ∧ wr = w1) (fun _ s24 _ => n - (intOf s24).toNat)
  case atStart => exact ⟨0, c.Base, rfl, by omega, rfl, HB9.out, rfl, rfl⟩
  case round =>
    obtain ⟨k, x, rfl, hk, rfl, hx, hL, rfl⟩ := hrel
    have HL := Lib.hid hL
    have HXX := Lib.hid hx
    clear hL hx
    by_cases hkn : k < n
    · have i1 : (k : Int) < lv - 1 := by have := HN.out; omega
      have i2 : (0 : Int) ≤ k := by omega
      have c10 : wr.cell? ⟨w.heap.size, 10, none⟩ = some (.int .i64 c.Mult) := (blk_cell HX1.out 10).trans rfl
      go_wp2_with fail
      refine (mulP_c _ _ HXX.out HB10.out _).mono ?_
      rintro e w2 ⟨rfl, rfl⟩
      go_wp2
      go_roundw
      case rel => exact ⟨k + 1, smul x c.Mult, by go_num, by omega, rfl, smul_I64 _ _, by rw [← HL.out, show n - k = (n - (k + 1)) + 1 by omega]; rfl, by trivial⟩
      case measure => simp [intOf]; omega
    · have hk' : k = n := by omega
      have i1 : ¬ (k : Int) < lv - 1 := by have := HN.out; omega
      have hk2 : n = k := hk'.symm
      subst hk2
      go_wp2_with fail
      refine (int_c _ _).mono ?_
      rintro e w2 ⟨rfl, rfl⟩
      go_wp2
      go_ret
      exact ⟨by rw [HR.out, ← HL.out, Nat.sub_self]; rfl, HB1.out⟩
theorem addX_c (a b : Int) (ha : I64 a) (hb : I64 b) (w : World) : Calls Try.prog 34 #[.int .i64 a, .int .i64 b] w fun e w' => e = .returned (.int .i64 (sadd a b)) ∧ w = w' := by
  have HA := Lib.hid (fun W => addP_c a b ha hb W)
  clear ha hb
  go_enter Try.func34, Try.ntmps34
  go_wp2_with fail
  refine (HA.out _).mono ?_
  rintro e w2 ⟨rfl, rfl⟩
  go_wp2
  go_ret
  exact ⟨rfl, rfl⟩
theorem mulX_c (a b : Int) (ha : I64 a) (hb : I64 b) (w : World) : Calls Try.prog 36 #[.int .i64 a, .int .i64 b] w fun e w' => e = .returned (.int .i64 (smul a b)) ∧ w = w' := by
  have HA := Lib.hid (fun W => mulP_c a b ha hb W)
  clear ha hb
  go_enter Try.func36, Try.ntmps36
  go_wp2_with fail
  refine (HA.out _).mono ?_
  rintro e w2 ⟨rfl, rfl⟩
  go_wp2
  go_ret
  exact ⟨rfl, rfl⟩
theorem limIter_I64 (m : Int) : ∀ (n : Nat) (x : Int), I64 x → I64 (limIter m n x)
  | 0, _, h => h
  | n + 1, x, h => limIter_I64 m n _ (smul_I64 _ _)
theorem limitL_I64 (c : Cfg) (hc : CfgOk c) (lv : Int) : I64 (limitL c lv) := by
  unfold limitL
  split
  · exact I64.lit (by omega) (by omega)
  · exact limIter_I64 _ _ _ (hc _ (by simp [Cfg.l]))
/-- The limits of n levels from k on, put to acc. -/
def limSumI (c : Cfg) : Nat → Nat → Int → Int
  | 0, _, acc => acc
  | n + 1, k, acc => limSumI c n (k + 1) (sadd acc (limitL c k))
def limitSumL (c : Cfg) : Int := if rightL c = true then limSumI c c.Levels.toNat 0 0 else 0
set_option maxHeartbeats 1600000 in
set_option maxRecDepth 100000 in
theorem LimitSum_c (c : Cfg) (hc : CfgOk c) (w : World) : Calls Try.prog 26 #[cfgV c] w fun e w' => e = .returned (.int .i64 (limitSumL c)) ∧ Below w.heap.size w w' := by
  have HSP := Lib.hid (fun W => right_c c hc W)
  have HLM := Lib.hid (fun (lv : Int) (h : I64 lv) W => Limit_c c hc lv h W)
  have HLI := Lib.hid (fun (lv : Int) => limitL_I64 c hc lv)
  have HBX := Lib.hid (cfgBlk c w)
  have HBA := Lib.hid ((Below.refl w.heap.size w).alloc (Nat.le_refl _) (.cells (cfgC c) 23))
  have HSZ := Lib.hid (World.size_alloc w (.cells (cfgC c) 23))
  clear hc
  unfold cfgV at *
  go_enter Try.func26, Try.ntmps26
  go_wp2_with (refine wpList_load_row rfl 23 (.tmp 1) rfl _ rfl _ _ _ _ HBX.out Try.underlying23 rfl (iCfg c) ?_)
  generalize w.alloc (.cells (cfgC c) 23) = wa at *
  refine (HSP.out _).mono ?_
  rintro e w1 ⟨rfl, hb1⟩
  have HB1 := Lib.hid (HBA.out.trans (hb1.mono HBA.out.size))
  have HX1 := Lib.hid ((hb1.block w.heap.size (by rw [HSZ.out]; omega)).trans HBX.out)
  have HS1 := Lib.hid (show w.heap.size < w1.heap.size by have := hb1.size; rw [HSZ.out] at this; omega)
  clear hb1
  rcases hr : rightL c with _ | _
  · have HR := Lib.hid (show limitSumL c = 0 by simp [limitSumL, hr])
    go_wp2
    go_ret
    exact ⟨by rw [HR.out]; rfl, HB1.out⟩
  have HR := Lib.hid (show limitSumL c = limSumI c c.Levels.toNat 0 0 by simp [limitSumL, hr])
  have c8 : w1.cell? ⟨w.heap.size, 8, none⟩ = some (.int .i64 c.Levels) := (blk_cell HX1.out 8).trans rfl
  obtain ⟨j1, j2⟩ := right_in hr (x := c.Levels) (lo := 3) (hi := 5) (by simp [spansL, spansM])
  obtain ⟨n, hn⟩ : ∃ n : Nat, c.Levels = n := ⟨c.Levels.toNat, by omega⟩
  rw [show c.Levels.toNat = n by omega] at HR
  have hn5 : n ≤ 5 := by omega
  generalize c.Levels = lv at *
  subst hn
  clear hr
  go_wp2
  go_loopw [3, 9] (fun s3 s9 wr => ∃ (k : Nat) (x : Int), s9 = .int .i64 k ∧ k ≤ n ∧ s3 = .int .i64 x ∧ I64 x ∧ limSumI c (n - k) k x = limSumI c n 0 0 ∧ Below w1.heap.size w1 wr) (fun _ s9 _ => n - (intOf s9).toNat)
  case atStart => exact ⟨0, 0, rfl, by omega, rfl, I64.lit (by omega) (by omega), rfl, Below.refl _ _⟩
  case round =>
    obtain ⟨k, x, rfl, hk, rfl, hx, hL, hB⟩ := hrel
    have HL := Lib.hid hL
    have HXX := Lib.hid hx
    have HB := Lib.hid hB
    have HXR := Lib.hid ((hB.block w.heap.size HS1.out).trans HX1.out)
    clear hL hx hB
    by_cases hkn : k < n
    · have i1 : (k : Int) < (n : Int) := by omega
      have i2 : (0 : Int) ≤ k := by omega
      have HK := Lib.hid (show I64 (k : Int) from I64.lit (by omega) (by omega))
      go_wp2_with (refine wpList_load_row rfl 23 (.tmp 1) rfl _ rfl _ _ _ _ HXR.out Try.underlying23 rfl (iCfg c) ?_)
      refine (HLM.out _ HK.out _).mono ?_
      rintro e w2 ⟨rfl, hb2⟩
      have HB2 := Lib.hid (HB.out.trans (hb2.mono HB.out.size))
      clear hb2
      go_wp2_with fail
      refine (addX_c _ _ HXX.out (HLI.out _) _).mono ?_
      rintro e w3 ⟨rfl, rfl⟩
      go_wp2
      go_roundw
      case rel => exact ⟨k + 1, sadd x (limitL c k), by go_num, by omega, rfl, sadd_I64 _ _, by rw [← HL.out, show n - k = (n - (k + 1)) + 1 by omega]; rfl, HB2.out⟩
      case measure => simp [intOf]; omega
    · have hk' : n = k := by omega
      subst hk'
      go_wp2
      go_ret
      exact ⟨by rw [HR.out, ← HL.out, Nat.sub_self]; rfl, HB1.out.trans (HB.out.mono HB1.out.size)⟩
end Go.Proofs.Ytjgpcbednhoplaa.H
