/- The formulas of chapter 15 in plain words, and their laws. Conditions: none but of sizes. -/
import Derived.Test.YtjgpcbednhoplaaPTwo
import Derived.Test.YtjgpcbednhoplaaChainS2
namespace Go.Proofs.Ytjgpcbednhoplaa.H
open Go.RowKit Go.Deep Go.Shelf Go.Proofs Go.Proofs.YtjgpcbednhoplaaW.PrintWords
set_option linter.unusedVariables false
set_option linter.unusedSimpArgs false
/-- An int that is not negative. -/
def NI (x : Int) : Prop := 0 ≤ x ∧ x ≤ 9223372036854775807
theorem NI.i64 {x : Int} (h : NI x) : I64 x := by unfold NI at h; exact I64.lit (by omega) (by omega)
theorem NI.lit {x : Int} (h1 : 0 ≤ x) (h2 : x ≤ 9223372036854775807) : NI x := ⟨h1, h2⟩
theorem sat_NI {x : Int} (h : 0 ≤ x) : NI (sat x) := by unfold NI sat; repeat' split <;> omega
theorem NI.sadd {a b : Int} (ha : NI a) (hb : NI b) : NI (sadd a b) := sat_NI (by unfold NI at ha hb; omega)
theorem NI.smul {a b : Int} (ha : NI a) (hb : NI b) : NI (smul a b) := sat_NI (Int.mul_nonneg ha.1 hb.1)
theorem NI.mni {a b : Int} (ha : NI a) (hb : NI b) : NI (mni a b) := by unfold H.mni; split <;> assumption
theorem div_bd {x y : Int} (hx : 0 ≤ x) (hy : 0 < y) : 0 ≤ x / y ∧ x / y ≤ x := by
  refine ⟨Int.ediv_nonneg hx (by omega), ?_⟩
  have h1 : x / y * y ≤ x := Int.ediv_mul_le x (by omega)
  have h2 : x / y * 1 ≤ x / y * y := Int.mul_le_mul_of_nonneg_left (by omega) (Int.ediv_nonneg hx (by omega))
  omega
theorem div_bd2 {x y : Int} (hx : 0 ≤ x) (hy : 2 ≤ y) : 0 ≤ x / y ∧ 2 * (x / y) ≤ x := by
  refine ⟨Int.ediv_nonneg hx (by omega), ?_⟩
  have h1 : x / y * y ≤ x := Int.ediv_mul_le x (by omega)
  have h2 : x / y * 2 ≤ x / y * y := Int.mul_le_mul_of_nonneg_left (by omega) (Int.ediv_nonneg hx (by omega))
  omega
theorem NI.div {x y : Int} (hx : NI x) (hy : 0 < y) : NI (x / y) := by
  have := div_bd hx.1 hy
  unfold NI at *
  omega
theorem quo_run (t : TypeId) (x y : Operand) (a b : Int) (ha : NI a) (hb : 0 < b) (W : World) : (do eqGuard .quo t x y (.int .i64 a) (.int .i64 b); binOp .quo t (.int .i64 a) (.int .i64 b) : Sem Value).run Try.prog W = .ok (.int .i64 (a / b)) W := by
  have h1 : ¬ b = 0 := by omega
  have h2 : IntKind.i64.wrap (a.tdiv b) = a / b := by
    rw [Int.tdiv_eq_ediv_of_nonneg ha.1]
    have := NI.div ha hb
    unfold NI at this
    rw [IntKind.wrap_i64]
    omega
  go_simp
  first | done | rw [if_neg h1, h2] | rw [h2] | simp [h1, h2]
theorem add_run (t : TypeId) (x y : Operand) (a b : Int) (h : NI (a + b)) (W : World) : (do eqGuard .add t x y (.int .i64 a) (.int .i64 b); binOp .add t (.int .i64 a) (.int .i64 b) : Sem Value).run Try.prog W = .ok (.int .i64 (a + b)) W := by
  have h2 : IntKind.i64.wrap (a + b) = a + b := by
    unfold NI at h
    rw [IntKind.wrap_i64]
    omega
  go_simp
  try rw [h2]
theorem sub_run (t : TypeId) (x y : Operand) (a b : Int) (h : NI (a - b)) (W : World) : (do eqGuard .sub t x y (.int .i64 a) (.int .i64 b); binOp .sub t (.int .i64 a) (.int .i64 b) : Sem Value).run Try.prog W = .ok (.int .i64 (a - b)) W := by
  have h2 : IntKind.i64.wrap (a - b) = a - b := by
    unfold NI at h
    rw [IntKind.wrap_i64]
    omega
  go_simp
  try rw [h2]
theorem mul_run (t : TypeId) (x y : Operand) (a b : Int) (h : NI (a * b)) (W : World) : (do eqGuard .mul t x y (.int .i64 a) (.int .i64 b); binOp .mul t (.int .i64 a) (.int .i64 b) : Sem Value).run Try.prog W = .ok (.int .i64 (a * b)) W := by
  have h2 : IntKind.i64.wrap (a * b) = a * b := by
    unfold NI at h
    rw [IntKind.wrap_i64]
    omega
  go_simp
  try rw [h2]
theorem abv_NI {x : Int} (h : I64 x) : NI (abv x) := by have := h.2; unfold abv NI; split <;> omega
theorem abv_of {x : Int} (h : NI x) : abv x = x := by unfold abv; rw [if_neg (by have := h.1; omega)]
theorem SumR.drew {w W : World} {s : List (Nat × List Int)} (h : SumR w s W) : SumR w s { W with drawn := W.drawn + 1 } := h.later (Below.refl _ _).drew
theorem SumR.none {w W : World} {s : List (Nat × List Int)} (h : SumR w s W) : SumR w [] W := ⟨h.1, fun p h => by cases h⟩
def AllI (l : List Int) : Prop := ∀ x ∈ l, I64 x
theorem allI_nil : AllI [] := fun _ h => by cases h
theorem allI_cons {x : Int} {l : List Int} (h : I64 x) (hl : AllI l) : AllI (x :: l) := fun y hy => by
  rcases List.mem_cons.1 hy with rfl | hy
  · exact h
  · exact hl y hy
/-! ### The formulas -/
def tfL (c : Cfg) (x : Int) : Int := sadd (smul 2 (sadd (x / c.MaxChunk) 2)) 16
def gL (c : Cfg) : Int := smul c.Compactors (sadd (c.MaxChunk / c.Rate) 3)
def tcL (c : Cfg) (x : Int) : Int := sadd (sadd (sadd (sadd (x / c.MaxChunk) 2) (smul (sadd (sadd (x / c.MaxChunk) (x / c.FileBytes)) 3) (gL c))) (smul 2 (sadd (x / c.FileBytes) 3))) 16
def fanL (c : Cfg) : Int := smul (sadd c.Fan 1) (fileCapR c)
def ddL (c : Cfg) (x : Int) : Int := mni (sadd (sadd x c.MaxDebt) (smul (c.Clients - 1) 17408)) (debtCapR c)
def yL (c : Cfg) (x : Int) : Int := sadd (limitSumL c) (ddL c x)
def t0L (c : Cfg) (y : Int) : Int := sadd (sadd (smul 2 (tcL c (fanL c))) (smul 2 (tcL c y))) 16
def qL (c : Cfg) : Int := sadd (sadd (c.MaxDebt / c.MemBytes) c.MaxImm) 2
def tdL (c : Cfg) (y : Int) : Int := smul (sadd ((smul c.Levels y) / 450) 2) (sadd (sadd (sadd (tcL c y) (tcL c (fanL c))) (tfL c (memCapL c))) 8)
def nL (c : Cfg) (y : Int) : Int := sadd (smul (sadd (qL c) 2) (sadd (t0L c y) 2)) (tdL c y)
def b1L (c : Cfg) (x : Int) : Int := smul c.Clients (sadd (sadd (sadd (sadd (nL c (yL c x)) (smul (sadd c.MaxImm 1) (sadd (sadd (t0L c (yL c x)) (tfL c (memCapL c))) 2))) (17408 / c.SlowRate)) (smul 18 c.Clients)) 24)
def allL (c : Cfg) (x : Int) : Int := sadd (sadd x c.MaxDebt) (smul c.Clients 17408)
def b2L (c : Cfg) (x : Int) : Int :=
  sadd (sadd (sadd (sadd (sadd (b1L c x) (smul (sadd c.MaxImm 2) (sadd (sadd (sadd (tfL c (memCapL c)) (tcL c (allL c x))) (tcL c (fanL c))) 8)))
    (smul (sadd ((smul c.Levels (allL c x)) / 450) 2) (sadd (sadd (tcL c (allL c x)) (tcL c (fanL c))) 2))) ((allL c x) / c.MaxChunk)) c.Levels) 40
def roomL (c : Cfg) (x y : Int) : Int :=
  sadd (sadd (sadd (sadd (sadd (smul 4 x) y) (smul 16 (sadd (limitSumL c) (debtCapR c)))) (smul (sadd c.MaxImm 4) (memCapL c))) (smul 2 c.MaxManifest)) 131072
section
variable {c : Cfg} (hr : rightL c = true)
include hr
theorem r_Clients : 1 ≤ c.Clients ∧ c.Clients ≤ 8 := right_in hr (by simp [spansL, spansM])
theorem r_Compactors : 1 ≤ c.Compactors ∧ c.Compactors ≤ 3 := right_in hr (by simp [spansL, spansM])
theorem r_MemBytes : 4096 ≤ c.MemBytes ∧ c.MemBytes ≤ 1048576 := right_in hr (by simp [spansL, spansM])
theorem r_MaxImm : 1 ≤ c.MaxImm ∧ c.MaxImm ≤ 4 := right_in hr (by simp [spansL, spansM])
theorem r_Levels : 3 ≤ c.Levels ∧ c.Levels ≤ 5 := right_in hr (by simp [spansL, spansM])
theorem r_FileBytes : 2048 ≤ c.FileBytes ∧ c.FileBytes ≤ 1048576 := right_in hr (by simp [spansL, spansM])
theorem r_Fan : 1 ≤ c.Fan ∧ c.Fan ≤ 16 := right_in hr (by simp [spansL, spansM])
theorem r_MaxChunk : 1088 ≤ c.MaxChunk ∧ c.MaxChunk ≤ 65536 := right_in hr (by simp [spansL, spansM])
theorem r_Rate : 1 ≤ c.Rate ∧ c.Rate ≤ 1073741824 := right_in hr (by simp [spansL, spansM])
theorem r_SlowRate : 1 ≤ c.SlowRate ∧ c.SlowRate ≤ 1073741824 := right_in hr (by simp [spansL, spansM])
theorem r_MaxDebt : 17408 ≤ c.MaxDebt ∧ c.MaxDebt ≤ 16777216 := right_in hr (by simp [spansL, spansM])
theorem r_MaxManifest : 4096 ≤ c.MaxManifest ∧ c.MaxManifest ≤ 1048576 := right_in hr (by simp [spansL, spansM])
theorem r_MaxGroup : 1088 ≤ c.MaxGroup ∧ c.MaxGroup ≤ 1048576 := right_in hr (by simp [spansL, spansM])
theorem r_L0Trigger : 1 ≤ c.L0Trigger ∧ c.L0Trigger ≤ 16 := right_in hr (by simp [spansL, spansM])
theorem r_Base : 4096 ≤ c.Base ∧ c.Base ≤ 16777216 := right_in hr (by simp [spansL, spansM])
theorem r_Mult : 2 ≤ c.Mult ∧ c.Mult ≤ 10 := right_in hr (by simp [spansL, spansM])
theorem memCapL_is : memCapL c = c.MemBytes - 1 + mxi c.MaxGroup 17408 := by
  have hM := r_MemBytes hr
  have hG := r_MaxGroup hr
  have hx : 1088 ≤ mxi c.MaxGroup 17408 ∧ mxi c.MaxGroup 17408 ≤ 1048576 := by unfold mxi; split <;> omega
  unfold memCapL
  rw [sadd_is (a := c.MemBytes) (by omega) (by omega), sadd_is (by omega) (by omega)]
  omega
theorem memCapL_NI : NI (memCapL c) := by
  have hM := r_MemBytes hr
  have hG := r_MaxGroup hr
  have hx : 1088 ≤ mxi c.MaxGroup 17408 ∧ mxi c.MaxGroup 17408 ≤ 1048576 := by unfold mxi; split <;> omega
  rw [memCapL_is hr]
  exact ⟨by omega, by omega⟩
theorem fileCapR_NI : NI (fileCapR c) := by
  have := r_FileBytes hr
  unfold fileCapR
  rw [if_pos hr]
  exact ⟨by omega, by omega⟩
theorem debtStop_pos : 0 ≤ c.DebtStop ∧ c.DebtStop ≤ 1073741824 := by
  have h := right_in hr (x := c.DebtStop) (lo := debtLeastL c) (hi := 1073741824) (by simp [spansL, spansM])
  have h1 : 0 ≤ debtLeastL c := by
    have h2 := memCapL_NI hr
    have h3 := r_L0Trigger hr
    have h4 := r_MaxImm hr
    unfold debtLeastL
    refine (NI.sadd (NI.smul (NI.sadd (NI.sadd ?_ ?_) ?_) h2) ?_).1 <;> exact ⟨by omega, by omega⟩
  omega
theorem debtCapR_NI : NI (debtCapR c) := by
  have h1 := r_MaxDebt hr
  have h2 := debtStop_pos hr
  unfold debtCapR
  rw [if_pos hr]
  exact ⟨by omega, by omega⟩
end
theorem limIter_NI {m : Int} (hm : NI m) : ∀ (n : Nat) (x : Int), NI x → NI (limIter m n x)
  | 0, _, h => h
  | n + 1, x, h => limIter_NI hm n _ (NI.smul h hm)
theorem limitL_NI (c : Cfg) (lv : Int) : NI (limitL c lv) := by
  unfold limitL
  split
  · exact ⟨by omega, by omega⟩
  · rename_i h
    have hr : rightL c = true := by
      rcases hq : rightL c with _ | _
      · exact absurd (.inr (.inl hq)) h
      · rfl
    have h1 := r_Base hr
    have h2 := r_Mult hr
    exact limIter_NI ⟨by omega, by omega⟩ _ _ ⟨by omega, by omega⟩
theorem limSumI_NI (c : Cfg) : ∀ (n k : Nat) (acc : Int), NI acc → NI (limSumI c n k acc)
  | 0, _, _, h => h
  | n + 1, k, acc, h => limSumI_NI c n (k + 1) _ (NI.sadd h (limitL_NI c k))
theorem limitSumL_NI (c : Cfg) : NI (limitSumL c) := by
  unfold limitSumL
  split
  · exact limSumI_NI c _ _ _ ⟨by omega, by omega⟩
  · exact ⟨by omega, by omega⟩
section
variable {c : Cfg} (hr : rightL c = true)
include hr
theorem tfL_NI {x : Int} (hx : NI x) : NI (tfL c x) := by
  have h1 := r_MaxChunk hr
  unfold tfL
  refine NI.sadd (NI.smul ?_ (NI.sadd (NI.div hx (by omega)) ?_)) ?_ <;> exact ⟨by omega, by omega⟩
theorem gL_NI : NI (gL c) := by
  have h1 := r_MaxChunk hr
  have h2 := r_Rate hr
  have h3 := r_Compactors hr
  unfold gL
  refine NI.smul ?_ (NI.sadd (NI.div ?_ (by omega)) ?_) <;> exact ⟨by omega, by omega⟩
theorem tcL_NI {x : Int} (hx : NI x) : NI (tcL c x) := by
  have h1 := r_MaxChunk hr
  have h2 := r_FileBytes hr
  have hg := gL_NI hr
  have hd := NI.div hx (y := c.MaxChunk) (by omega)
  have hf := NI.div hx (y := c.FileBytes) (by omega)
  unfold tcL
  refine NI.sadd (NI.sadd (NI.sadd (NI.sadd hd ?_) (NI.smul (NI.sadd (NI.sadd hd hf) ?_) hg)) (NI.smul ?_ (NI.sadd hf ?_))) ?_ <;> exact ⟨by omega, by omega⟩
theorem fanL_NI : NI (fanL c) := by
  have h1 := r_Fan hr
  unfold fanL
  refine NI.smul (NI.sadd ?_ ?_) (fileCapR_NI hr) <;> exact ⟨by omega, by omega⟩
theorem ddL_NI {x : Int} (hx : NI x) : NI (ddL c x) := by
  have h1 := r_MaxDebt hr
  have h2 := r_Clients hr
  unfold ddL
  refine NI.mni (NI.sadd (NI.sadd hx ?_) (NI.smul ?_ ?_)) (debtCapR_NI hr) <;> exact ⟨by omega, by omega⟩
theorem yL_NI {x : Int} (hx : NI x) : NI (yL c x) := NI.sadd (limitSumL_NI c) (ddL_NI hr hx)
theorem t0L_NI {y : Int} (hy : NI y) : NI (t0L c y) := by
  unfold t0L
  refine NI.sadd (NI.sadd (NI.smul ?_ (tcL_NI hr (fanL_NI hr))) (NI.smul ?_ (tcL_NI hr hy))) ?_ <;> exact ⟨by omega, by omega⟩
theorem qL_NI : NI (qL c) := by
  have h1 := r_MaxDebt hr
  have h2 := r_MemBytes hr
  have h3 := r_MaxImm hr
  unfold qL
  refine NI.sadd (NI.sadd (NI.div ?_ (by omega)) ?_) ?_ <;> exact ⟨by omega, by omega⟩
theorem tdL_NI {y : Int} (hy : NI y) : NI (tdL c y) := by
  have h1 := r_Levels hr
  unfold tdL
  refine NI.smul (NI.sadd (NI.div (NI.smul ?_ hy) (by omega)) ?_) (NI.sadd (NI.sadd (NI.sadd (tcL_NI hr hy) (tcL_NI hr (fanL_NI hr))) (tfL_NI hr (memCapL_NI hr))) ?_) <;> exact ⟨by omega, by omega⟩
theorem nL_NI {y : Int} (hy : NI y) : NI (nL c y) := by
  unfold nL
  refine NI.sadd (NI.smul (NI.sadd (qL_NI hr) ?_) (NI.sadd (t0L_NI hr hy) ?_)) (tdL_NI hr hy) <;> exact ⟨by omega, by omega⟩
theorem b1L_NI {x : Int} (hx : NI x) : NI (b1L c x) := by
  have h1 := r_Clients hr
  have h2 := r_MaxImm hr
  have h3 := r_SlowRate hr
  have hy := yL_NI hr hx
  unfold b1L
  refine NI.smul ?_ (NI.sadd (NI.sadd (NI.sadd (NI.sadd (nL_NI hr hy) (NI.smul (NI.sadd ?_ ?_) (NI.sadd (NI.sadd (t0L_NI hr hy) (tfL_NI hr (memCapL_NI hr))) ?_))) (NI.div ?_ (by omega))) (NI.smul ?_ ?_)) ?_) <;> exact ⟨by omega, by omega⟩
theorem allL_NI {x : Int} (hx : NI x) : NI (allL c x) := by
  have h1 := r_MaxDebt hr
  have h2 := r_Clients hr
  unfold allL
  refine NI.sadd (NI.sadd hx ?_) (NI.smul ?_ ?_) <;> exact ⟨by omega, by omega⟩
end
theorem sadd_assoc {a b c : Int} (ha : NI a) (hb : NI b) (hc : NI c) : sadd (sadd a b) c = sadd a (sadd b c) := by
  unfold NI at *
  unfold sadd sat
  repeat' split
  all_goals omega
/-! ### sum -/
set_option maxHeartbeats 1600000 in
theorem sum_c (A : Option Addr) (c : Nat) (l : List Int) (hI : AllI l) (w : World) (hs : Sl encI 1 w A l) : Calls Try.prog 73 #[.slice A l.length c] w fun e w' => e = .returned (.int .i64 (l.foldl sadd 0)) ∧ w = w' := by
  have hm := hs.1
  obtain ⟨n, hn⟩ : ∃ n, l.length = n := ⟨_, rfl⟩
  rw [hn] at hm ⊢
  have HN := Lib.hid hn
  have HS := Lib.hid hs
  have HI := Lib.hid hI
  clear hn hs hI
  go_enter Try.func73, Try.ntmps73
  go_wp2
  go_loopw [3, 4] (fun s3 s4 wr => ∃ k : Nat, s4 = .int .i64 k ∧ k ≤ n ∧ s3 = .int .i64 ((l.take k).foldl sadd 0) ∧ wr = w) (fun _ s4 _ => n - (intOf s4).toNat)
  case atStart => exact ⟨0, rfl, by omega, rfl, rfl⟩
  case round =>
    obtain ⟨k, rfl, hk, rfl, rfl⟩ := hrel
    have i1 : (0 : Int) ≤ k := by omega
    by_cases hlt : k < n
    · have i2 : (k : Int) < n := by omega
      obtain ⟨y, hy⟩ := getElem?_of_lt (l := l) (by have := HN.out; omega : k < l.length)
      obtain ⟨b2, o2, rfl, hb2, hc2⟩ := HS.out.at hy
      have a1 : wr.cell? ⟨b2, o2 + k, none⟩ = some (.int .i64 y) := by simpa using hc2 0 _ rfl
      have hY := HI.out y (List.mem_of_getElem? hy)
      have hX : I64 ((l.take k).foldl sadd 0) := by
        have : ∀ (l : List Int) (a : Int), I64 a → I64 (l.foldl sadd a) := by
          intro l
          induction l with
          | nil => exact fun a h => h
          | cons x l ih => exact fun a _ => ih _ (sadd_I64 _ _)
        exact this _ _ (I64.lit (by omega) (by omega))
      have HT := Lib.hid (show (l.take (k + 1)).foldl sadd 0 = sadd ((l.take k).foldl sadd 0) y by rw [List.take_add_one, hy]; simp)
      generalize (l.take k).foldl sadd 0 = acc at *
      clear hc2 hb2 hy
      go_wp2_with fail
      refine (addR_c _ _ hX hY _).mono ?_
      rintro e w' ⟨rfl, rfl⟩
      go_wp2
      go_roundw
      case rel => exact ⟨k + 1, by go_num, by omega, by rw [HT.out], by trivial⟩
      case measure => simp [intOf]; omega
    · have hk' : n = k := by omega
      subst hk'
      have HT := Lib.hid (show l.take n = l by rw [← HN.out, List.take_length])
      rw [HT.out]
      obtain ⟨acc, hacc⟩ : ∃ acc, l.foldl sadd 0 = acc := ⟨_, rfl⟩
      have HA := Lib.hid hacc
      rw [hacc]
      clear hacc
      go_wp2
      go_ret
      exact ⟨by rw [HA.out]; rfl, rfl⟩
theorem sum_at {w W : World} {s : List (Nat × List Int)} {g e : Nat} {x : Int} {l : List Int} (h : SumR w s W) (hm : (g, x :: l) ∈ s) (hI : AllI (x :: l)) : Calls Try.prog 73 #[.slice (some ⟨g, 0, none⟩) (x :: l).length e] W fun e' W' => e' = .returned (.int .i64 (l.foldl sadd x)) ∧ SumR w s W' := by
  refine (sum_c _ _ _ hI W (h.2 _ hm)).mono fun e' W' ⟨he, hw⟩ => ⟨?_, hw ▸ h⟩
  rw [he]
  have : sadd 0 x = x := by unfold sadd; rw [Int.zero_add, sat_in (hI x List.mem_cons_self)]
  simp [this]
end Go.Proofs.Ytjgpcbednhoplaa.H
