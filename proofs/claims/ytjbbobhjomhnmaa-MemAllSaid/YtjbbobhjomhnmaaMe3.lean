/- mem.Table.Add (printed by genme3.py). Conditions: sizes. -/
import Derived.Test.YtjbbobhjomhnmaaMeA
import Derived.Test.YtjbbobhjomhnmaaIk1
namespace Go.Proofs.Ytjbbobhjomhnmaa.H
open Go Go.RowKit Go.Deep Go.Shelf Go.Proofs Go.Proofs.YtjbbobhjomhnmaaW.PrintWords
set_option linter.unusedVariables false
set_option linter.unusedSimpArgs false
def mxU (a b : Int) : Int := if a < b then b else a
theorem maxU (ts : Array TypeId) (t : TypeId) (x y : Int) (W : World) : (Builtin.max_ ts t #[.int .u64 x, .int .u64 y]).run Try.prog W = .ok (.int .u64 (mxU x y)) W := by
  unfold mxU
  by_cases h : x < y
  · rw [if_pos h]
    go_simp
    first | done | simp [h]
  · rw [if_neg h]
    go_simp
    first | done | simp [h]
theorem run_mxU {P : Program} {w W : World} {a : Act} {o : Oper} {x y : Operand} {ts : Array TypeId} {u v r : Value} (ho : o.op = .call { callee := .builtin .max, args := #[x, y], argTypes := ts }) (hx : a.eval x = u) (hy : a.eval y = v) (hf : ∀ W, (Builtin.max_ ts o.type #[u, v]).run P W = .ok r W) (hW : Below w.heap.size w W) :
    CalmRes P w r ((execOp a.eval o).run P W) := by
  unfold execOp
  simp only [ho, resolve, invoke, builtin, Sem.run_bind, Sem.run_pure, Result.andThen_ok, List.map_toArray, List.map_cons, List.map_nil, hx, hy, hf]
  exact ⟨rfl, hW⟩
theorem addI_run (t : TypeId) (x y : Operand) (a b : Int) (h : -9223372036854775808 ≤ a + b ∧ a + b ≤ 9223372036854775807) (W : World) : (do eqGuard .add t x y (.int .i64 a) (.int .i64 b); binOp .add t (.int .i64 a) (.int .i64 b) : Sem Value).run Try.prog W = .ok (.int .i64 (a + b)) W := by
  have h2 : IntKind.i64.wrap (a + b) = a + b := by rw [IntKind.wrap_i64]; omega
  go_simp
theorem ldLp (b j g : Nat) (W : World) (h : W.cell? ⟨b, j, none⟩ = some (.pointer (some ⟨g, 0, none⟩))) : (Instr.loadAt 43 (.pointer (some ⟨b, j, none⟩))).run Try.prog W = .ok (.pointer (some ⟨g, 0, none⟩)) W := by
  go_simp
def wtE (e : Ent) : Int := wt e.1 e.2.2.1 e.2.2.2
def OkE (e : Ent) : Prop := e.1.size ≤ 140737488351232 ∧ e.2.2.2.size ≤ 140737488351232
def addS (draws : List Int) (m : MemV) (e : Ent) : MemV := if hasL m.L e = true then m else ⟨insL m.L (e, hgt draws m.L.length), m.wt + wtE e, mxU m.last e.2.1, m.fz⟩
def addF (draws : List Int) (m : MemV) (l : List Ent) : MemV := l.foldl (addS draws) m
theorem addF_take {draws : List Int} {m : MemV} {l : List Ent} {i : Nat} {e : Ent} (h : l[i]? = some e) : addF draws m (l.take (i + 1)) = addS draws (addF draws m (l.take i)) e := by
  unfold addF
  rw [List.take_add_one, h, List.foldl_append]
  rfl
theorem addS_L (draws : List Int) (m : MemV) (e : Ent) : (addS draws m e).L = putS draws m.L e := by
  unfold addS putS
  split <;> rfl
theorem addS_fz (draws : List Int) (m : MemV) (e : Ent) : (addS draws m e).fz = m.fz := by
  unfold addS
  split <;> rfl
theorem putS_len (draws : List Int) (L : List EH) (e : Ent) : (putS draws L e).length ≤ L.length + 1 := by
  unfold putS
  split
  · omega
  · rw [insL_len]; exact Nat.le_refl _
theorem addF_len (draws : List Int) (m : MemV) (l : List Ent) : ∀ k, (addF draws m (l.take k)).L.length ≤ m.L.length + k ∧ (addF draws m (l.take k)).fz = m.fz
  | 0 => by simp [addF]
  | k + 1 => by
    obtain ⟨h1, h2⟩ := addF_len draws m l k
    cases h : l[k]? with
    | none =>
      have : l.take (k + 1) = l.take k := by rw [List.take_add_one, h]; simp
      rw [this]
      exact ⟨by omega, h2⟩
    | some e =>
      rw [addF_take h, addS_L, addS_fz]
      have := putS_len draws (addF draws m (l.take k)).L e
      exact ⟨by omega, h2⟩
theorem wtE_bd {e : Ent} (h : OkE e) : 0 ≤ wtE e ∧ wtE e ≤ 422212465054144 := by
  unfold wtE wt
  obtain ⟨h1, h2⟩ := h
  split <;> omega
theorem addF_wt (draws : List Int) (m : MemV) (l : List Ent) (hok : ∀ e ∈ l, OkE e) : ∀ k, m.wt ≤ (addF draws m (l.take k)).wt ∧ (addF draws m (l.take k)).wt ≤ m.wt + 422212465054144 * k
  | 0 => by simp [addF]
  | k + 1 => by
    obtain ⟨h1, h2⟩ := addF_wt draws m l hok k
    cases h : l[k]? with
    | none =>
      have : l.take (k + 1) = l.take k := by rw [List.take_add_one, h]; simp
      rw [this]
      constructor <;> omega
    | some e =>
      rw [addF_take h]
      obtain ⟨q1, q2⟩ := wtE_bd (hok e (List.mem_of_getElem? h))
      unfold addS
      split
      · constructor <;> omega
      · refine ⟨show m.wt ≤ (addF draws m (l.take k)).wt + wtE e by omega, show (addF draws m (l.take k)).wt + wtE e ≤ _ by omega⟩
theorem weightE_c (e : Ent) (h : OkE e) (w : World) : Calls Try.prog 91 #[.agg (encE e).toArray] w fun en w' => en = .returned (.int .i64 (wtE e)) ∧ Below w.heap.size w w' := weight_c e.1 e.2.1 e.2.2.1 e.2.2.2 h.1 h.2 w
theorem ents_ok {f : Int} {l : List Wri} (h : ∀ x ∈ l, x.1.size ≤ 140737488351232 ∧ x.2.2.size ≤ 140737488351232) : ∀ e ∈ ents f l, OkE e := by
  intro e he
  obtain ⟨i, hi⟩ := List.getElem?_of_mem he
  unfold ents at hi
  rw [List.getElem?_mapIdx] at hi
  cases hx : l[i]? with
  | none => rw [hx] at hi; cases hi
  | some x =>
    rw [hx] at hi
    simp only [Option.map_some, Option.some.injEq] at hi
    subst hi
    obtain ⟨h1, h2⟩ := h x (List.mem_of_getElem? hx)
    unfold OkE ent
    refine ⟨h1, ?_⟩
    show ByteArray.size (if x.2.1 = true then _ else _) ≤ _
    split
    · exact Nat.zero_le _
    · exact h2
/-- What Add leaves and answers. -/
structure AddOk (w w' : World) (t g : Nat) (S : Nat → Prop) (draws : List Int) (m : MemV) : Prop where
  upd : Upd (fun k => S k ∨ k = t) w w'
  mem : ∃ S', Grow S S' w ∧ MemIs w' t g S' draws m
set_option maxHeartbeats 6400000 in
set_option maxRecDepth 100000 in
theorem add_c {t g : Nat} {S : Nat → Prop} {draws : List Int} {m : MemV} {w : World} (h : MemIs w t g S draws m) (f : Int) (A : Option Addr) (c : Nat) (l : List Wri) (hs : Sl encW 3 w A l) (hok : ∀ x ∈ l, x.1.size ≤ 140737488351232 ∧ x.2.2.size ≤ 140737488351232)
    (hl : m.L.length < 2932031000000) (hw : 0 ≤ m.wt ∧ m.wt < 4000000000000000000) :
    Calls Try.prog 35 #[.pointer (some ⟨t, 0, none⟩), .int .u64 f, .slice A l.length c] w fun e w' =>
      if m.fz = true then e = .returned (.int .i64 60) ∧ AddOk w w' t g S draws m
      else if chkB l = 0 then e = .returned (.int .i64 0) ∧ AddOk w w' t g S draws (addF draws m (ents f l))
      else e = .returned (.int .i64 (chkB l)) ∧ AddOk w w' t g S draws m := by
  have HCB := Lib.hid (checkbatch_c A c l w hs)
  have hn16 : chkB l = 0 → l.length ≤ 16 := fun h0 => by
    unfold chkB at h0
    split at h0
    · cases h0
    · omega
  have HN16 := Lib.hid hn16
  have HSL := Lib.hid hs
  have HM := Lib.hid h
  have HOK := Lib.hid hok
  obtain ⟨n, hn⟩ : ∃ n, l.length = n := ⟨_, rfl⟩
  obtain ⟨cb, hcb⟩ : ∃ c, chkB l = c := ⟨_, rfl⟩
  rw [hn, hcb] at HCB HN16
  have HLN := Lib.hid hn
  obtain ⟨⟨c0, c1, c2, c3⟩, _⟩ := h.cells
  rw [hn, hcb]
  clear h hs hok hn hcb hn16
  obtain ⟨fz, hfz⟩ : ∃ b, m.fz = b := ⟨_, rfl⟩
  rw [hfz] at c3 ⊢
  have HFZ := Lib.hid hfz
  clear hfz
  cases fz with
  | true =>
    simp only [if_true]
    go_enter Try.func35, Try.ntmps35
    go_wp2
    go_ret
    exact ⟨rfl, Upd.refl _ _, S, Grow.refl _ _, HM.out⟩
  | false =>
    simp only [Bool.false_eq_true, if_false]
    by_cases hcb0 : cb = 0
    · simp only [if_pos hcb0]
      subst hcb0
      have hn16 : n ≤ 16 := HN16.out rfl
      clear HN16
      go_enter Try.func35, Try.ntmps35
      go_wp2_with fail
      refine HCB.out.mono ?_
      rintro e w1 ⟨rfl, hb1⟩
      have HEN := Lib.hid (entries_c f A c l (by rw [HLN.out]; exact Nat.le_trans hn16 (by decide)) w1 (HSL.out.later hb1))
      rw [HLN.out] at HEN
      go_wp2_with fail
      refine HEN.out.mono ?_
      rintro e w2 ⟨v, rfl, hown, hb2⟩
      obtain ⟨A2, c2', hv, _, hse, _⟩ := hown.slice (fun _ => rfl)
      subst hv
      rw [ents_len, HLN.out]
      have hbw := hb1.trans (hb2.mono hb1.size)
      have HBW := Lib.hid hbw
      have HSE := Lib.hid hse
      have HAP := Lib.hid (show ∀ b o, A2 = some ⟨b, o, none⟩ → ¬ S b ∧ b ≠ t from fun b o hA => by
        subst hA
        have hbl := hown.block_lt (k := b) rfl
        have h1 := HM.out.list.lt
        have h2 := blk_lt HM.out.row
        exact ⟨fun hS => by have := h1 b hS; have := hb1.size; omega, by have := hb1.size; omega⟩)
      have HM2 := Lib.hid (HM.out.later hbw)
      have HEOK := Lib.hid (ents_ok (f := f) HOK.out)
      have HEL := Lib.hid (show (ents f l).length = n by rw [ents_len, HLN.out])
      obtain ⟨es, hes⟩ : ∃ es, ents f l = es := ⟨_, rfl⟩
      rw [hes] at HSE HEOK HEL
      have HES := Lib.hid hes
      clear hes hown hse hbw hb1 hb2 HEN HCB c0 c1 c2 c3
      go_wp2_with fail
      go_loopw [23] (fun s23 wr => ∃ (k : Nat) (S' : Nat → Prop), s23 = .int .i64 k ∧ k ≤ n ∧ MemIs wr t g S' draws (addF draws m (es.take k)) ∧ Grow S S' w ∧ Upd (fun j => S j ∨ j = t) w wr ∧ Sl encE 4 wr A2 es ∧ (∀ b o, A2 = some ⟨b, o, none⟩ → ¬ S' b ∧ b ≠ t)) (fun s23 wr => n - (intOf s23).toNat)
      case atStart => exact ⟨0, S, rfl, by omega, by simpa [addF] using HM2.out, Grow.refl _ _, Upd.of_below HBW.out, HSE.out, HAP.out⟩
      case round =>
        obtain ⟨k, S1, rfl, hk, hm1, hg1, hu1, hs1, hap1⟩ := hrel
        generalize wr = wq at *
        obtain ⟨st, hst⟩ : ∃ st, addF draws m (es.take k) = st := ⟨_, rfl⟩
        rw [hst] at hm1
        have HM1 := Lib.hid hm1
        have HG1 := Lib.hid hg1
        have HU1 := Lib.hid hu1
        have HS1 := Lib.hid hs1
        have HAP1 := Lib.hid hap1
        have HST := Lib.hid hst
        obtain ⟨len1, len2⟩ := addF_len draws m es k
        obtain ⟨wt1, wt2⟩ := addF_wt draws m es HEOK.out k
        rw [hst] at len1 len2 wt1 wt2
        clear hm1 hg1 hu1 hs1 hap1 hst
        by_cases hkn : k < n
        · obtain ⟨x, hx⟩ := getElem?_of_lt (l := es) (by rw [HEL.out]; exact hkn : k < es.length)
          have HX := Lib.hid hx
          have HXOK := Lib.hid (HEOK.out x (List.mem_of_getElem? hx))
          obtain ⟨be, oe, eA, elt, ec⟩ := HS1.out.at hx
          subst eA
          have e0 := ec 0 _ rfl
          have e1 := ec 1 _ rfl
          have e2 := ec 2 _ rfl
          have e3 := ec 3 _ rfl
          simp only [Nat.add_zero] at e0
          have i1 : (0 : Int) ≤ k := by omega
          have i2 : (k : Int) < n := by omega
          have HBE := Lib.hid elt
          clear hx ec elt
          obtain ⟨X, hX⟩ : ∃ Z, wq.alloc (.cells #[.string ⟨#[]⟩, .int .u64 0, .bool false, .string ⟨#[]⟩] 53) = Z := ⟨_, rfl⟩
          have rX : X.heap[wq.heap.size]? = some (.cells #[.string ⟨#[]⟩, .int .u64 0, .bool false, .string ⟨#[]⟩] 53 (0, 0)) := by rw [← hX]; exact heap_alloc_new _ _
          obtain ⟨⟨v0, v1, v2, v3⟩, u0, u1, u2, u3⟩ := cells4 rX
          obtain ⟨Xa, hXa⟩ : ∃ Z4, (((X.setCell ⟨wq.heap.size, 0, none⟩ (.string x.1)).setCell ⟨wq.heap.size, 1, none⟩ (.int .u64 x.2.1)).setCell ⟨wq.heap.size, 2, none⟩ (.bool x.2.2.1)).setCell ⟨wq.heap.size, 3, none⟩ (.string x.2.2.2) = Z4 := ⟨_, rfl⟩
          have qX : Xa.heap[wq.heap.size]? = some (.cells #[.string x.1, .int .u64 x.2.1, .bool x.2.2.1, .string x.2.2.2] 53 (0, 0)) := by rw [← hXa]; exact put4_heap rX
          have bX : Below wq.heap.size wq Xa := by
            rw [← hXa, ← hX]
            exact ((Below.refl _ _).alloc (Nat.le_refl _) _).trans ((put4_upd (S := fun k => k = wq.heap.size) _ _ _ _ _ rfl).bel (fun k hk => by omega) (by simp))
          have BX := Lib.hid bX
          have QX := Lib.hid qX
          clear bX qX rX
          have hmX := HM1.out.later BX.out
          obtain ⟨⟨t0, t1, t2, t3⟩, _⟩ := hmX.cells
          have HMX := Lib.hid hmX
          clear hmX
          go_wp2_with fail
          refine wp_region_calmB 5 (by kernel_rfl) (by kernel_rfl) ?_
          simp only [List.take_succ_cons, List.take_zero, List.drop_succ_cons, List.drop_zero]
          refine chain0 ?_
          refine @chain _ _ _ _ _ _ _ _ 27 (.pointer (some ⟨t, 0, none⟩)) (by rfl) (by rfl) (by exact fun W2 hW => run_mv (by rfl) (by exact eval_base (by kernel_rfl) (by rfl)) hW) ?_
          refine @chain _ _ _ _ _ _ _ _ 28 (.pointer (some ⟨t, 0, none⟩)) (by rfl) (by rfl) (by exact fun W2 hW => run_nc (by rfl) (by exact eval_look (by kernel_rfl) (by kernel_rfl)) hW) ?_
          refine @chain _ _ _ _ _ _ _ _ 29 (.pointer (some ⟨t, 0, none⟩)) (by rfl) (by rfl) (by exact fun W2 hW => run_fa (p := .pointer (some ⟨t, 0, none⟩)) (by rfl) (by exact eval_look (by kernel_rfl) (by kernel_rfl)) (fun W => by first | kernel_rfl | go_simp) hW) ?_
          refine @chain _ _ _ _ _ _ _ _ 30 (.pointer (some ⟨g, 0, none⟩)) (by rfl) (by rfl) (by exact fun W2 hW => run_lw (by rfl) (by exact eval_look (by kernel_rfl) (by kernel_rfl)) (fun W hW => ldLp _ _ _ _ (cell_later hW t0)) hW) ?_
          refine @chain _ _ _ _ _ _ _ _ 31 (.agg (encE x).toArray) (by rfl) (by rfl) (by exact fun W2 hW => run_lw (by rfl) (by exact eval_base (by kernel_rfl) (by rfl)) (fun W hW => ldEnt _ _ _ (fun i v hv => cell_later hW (boxEnt QX.out i v hv))) hW) ?_
          refine calm_nil (fun W2 hW2 => ?_)
          refine Eq.mpr (congrArg (fun a => wpList _ _ _ _ a W2) (show _ = (⟨#[Value.pointer (some ⟨t, 0, none⟩), Value.int IntKind.u64 f, Value.slice A n c, undef, undef, undef, Value.int IntKind.i64 0, Value.int IntKind.i64 0, undef, Value.pointer (some ⟨wq.heap.size, 0, none⟩), Value.pointer (some ⟨t, 0, none⟩), Value.pointer (some ⟨t, 0, none⟩), Value.pointer (some ⟨t, 3, none⟩), Value.bool false, Value.slice A n c, Value.int IntKind.i64 0, Value.int IntKind.i64 0, Value.bool false, undef, Value.int IntKind.u64 f, Value.slice A n c, Value.slice (some ⟨be, oe, none⟩) n c2', Value.int IntKind.i64 (n : Int), Value.int IntKind.i64 (k : Int), Value.bool true, Value.pointer (some ⟨be, oe + k * 4, none⟩), Value.agg #[Value.string x.fst, Value.int IntKind.u64 x.snd.fst, Value.bool x.snd.snd.fst, Value.string x.snd.snd.snd], Value.pointer (some ⟨t, 0, none⟩), Value.pointer (some ⟨t, 0, none⟩), Value.pointer (some ⟨t, 0, none⟩), Value.pointer (some ⟨g, 0, none⟩), Value.agg (encE x).toArray, u32, u33, u34, u35, u36, u37, u38, u39, u40, u41, u42, u43, u44, u45, u46, u47, u48, u49, u50, u51, u52], []⟩ : Act) by kernel_rfl)) ?_
          have HW2 := Lib.hid hW2
          clear hW2
          have HMW := Lib.hid (HMX.out.later HW2.out)
          have HPUT := Lib.hid (put_L g S1 draws st.L x W2 HMW.out.list (by omega))
          rw [← addS_L draws st x] at HPUT
          clear t0 t1 t2 t3 e0 e1 e2 e3
          go_wp2_with fail
          refine HPUT.out.mono ?_
          rintro e w3 ⟨rfl, hu3, S3, hg3, hs3⟩
          have hnt : ¬ S1 t := HMW.out.apart
          have hnq : ¬ S1 wq.heap.size := fun hh => Nat.lt_irrefl _ (HM1.out.list.lt _ hh)
          have HROW3 := Lib.hid (hu3.heap HMW.out.row hnt)
          have QX3 := Lib.hid (hu3.heap (blk_below QX.out HW2.out) hnq)
          have HS3 := Lib.hid hs3
          have hbq := BX.out.trans (HW2.out.mono BX.out.size)
          have hgq : Grow S1 S3 wq := fun j hj => by
            rcases hg3 j hj with h | h
            · exact .inl h
            · exact .inr (Nat.le_trans hbq.size h)
          have HG3 := Lib.hid (HG1.out.trans hgq HU1.out.size)
          have hu3' : Upd (fun j => S j ∨ j = t) w w3 := (HU1.out.trans (Upd.of_below hbq)).step hu3 (fun j hj => by
            rcases HG1.out j hj with h | h
            · exact .inl (.inl h)
            · exact .inr h)
          have HU3 := Lib.hid hu3'
          have HS13 := Lib.hid ((HS1.out.later hbq).upd hu3 (fun b o hA => (HAP1.out b o hA).1))
          have HAP3 := Lib.hid (show ∀ b o, some (⟨be, oe, none⟩ : Addr) = some ⟨b, o, none⟩ → ¬ S3 b ∧ b ≠ t from fun b o hA => by
            obtain ⟨h1, h2⟩ := HAP1.out b o hA
            refine ⟨fun h3 => ?_, h2⟩
            injection hA with hA
            injection hA with e1 e2
            subst e1
            rcases hgq _ h3 with h | h
            · exact h1 h
            · have := HBE.out; omega)
          have hnt3 : ¬ S3 t := hgq.not HM1.out.apart (blk_lt HM1.out.row)
          have HNT3 := Lib.hid hnt3
          have HADD := Lib.hid (addF_take (draws := draws) (m := m) HX.out)
          rw [HST.out] at HADD
          clear hnt hnq hgq hu3' hnt3 hu3 hg3 hs3 hbq
          cases hh : hasL st.L x with
          | true =>
            have HAS := Lib.hid (show addS draws st x = st by unfold addS; rw [if_pos hh])
            clear hh
            go_wp2_with fail
            go_roundw
            case rel => exact ⟨k + 1, S3, by first | rfl | simp, by omega, by rw [HADD.out, HAS.out]; exact ⟨HROW3.out, by rw [← HAS.out]; exact HS3.out, HNT3.out⟩, HG3.out, HU3.out, HS13.out, HAP3.out⟩
            case measure => simp [intOf]; omega
          | false =>
            have HAS := Lib.hid (show addS draws st x = ⟨insL st.L (x, hgt draws st.L.length), st.wt + wtE x, mxU st.last x.2.1, st.fz⟩ by unfold addS; rw [if_neg (by rw [hh]; decide)])
            obtain ⟨wx1, wx2⟩ := wtE_bd HXOK.out
            clear hh
            have t1 : w3.cell? ⟨t, 1, none⟩ = some (.int .i64 st.wt) := (blk_cell HROW3.out 1).trans rfl
            go_wp2_with fail
            refine wp_region_calmB 9 (by kernel_rfl) (by kernel_rfl) ?_
            simp only [List.take_succ_cons, List.take_zero, List.drop_succ_cons, List.drop_zero]
            refine chain0 ?_
            refine @chain _ _ _ _ _ _ _ _ 33 (.pointer (some ⟨t, 0, none⟩)) (by rfl) (by rfl) (by exact fun W2 hW => run_mv (by rfl) (by exact eval_base (by kernel_rfl) (by rfl)) hW) ?_
            refine @chain _ _ _ _ _ _ _ _ 34 (.pointer (some ⟨t, 0, none⟩)) (by rfl) (by rfl) (by exact fun W2 hW => run_nc (by rfl) (by exact eval_look (by kernel_rfl) (by kernel_rfl)) hW) ?_
            refine @chain _ _ _ _ _ _ _ _ 35 (.pointer (some ⟨t, 1, none⟩)) (by rfl) (by rfl) (by exact fun W2 hW => run_fa (p := .pointer (some ⟨t, 0, none⟩)) (by rfl) (by exact eval_look (by kernel_rfl) (by kernel_rfl)) (fun W => by first | kernel_rfl | go_simp) hW) ?_
            refine @chain _ _ _ _ _ _ _ _ 36 (.int .i64 st.wt) (by rfl) (by rfl) (by exact fun W2 hW => run_lw (by rfl) (by exact eval_look (by kernel_rfl) (by kernel_rfl)) (fun W hW => ldI _ _ _ _ (cell_later hW t1)) hW) ?_
            refine @chain _ _ _ _ _ _ _ _ 37 (.agg (encE x).toArray) (by rfl) (by rfl) (by exact fun W2 hW => run_lw (by rfl) (by exact eval_base (by kernel_rfl) (by rfl)) (fun W hW => ldEnt _ _ _ (fun i v hv => cell_later hW (boxEnt QX3.out i v hv))) hW) ?_
            refine @chain _ _ _ _ _ _ _ _ 38 (.int .i64 (wtE x)) (by rfl) (by rfl) (by exact fun W2 hW => run_call (vs := #[.agg (encE x).toArray]) (by rfl) (by kernel_rfl) (enters_of Try.func91 (by kernel_rfl) (by rfl)) (calm_b hW (weightE_c x HXOK.out W2))) ?_
            refine @chain _ _ _ _ _ _ _ _ 39 (.int .i64 (st.wt + wtE x)) (by rfl) (by rfl) (by exact fun W2 hW => run_bo (u := .int .i64 st.wt) (v := .int .i64 (wtE x)) (by rfl) (by exact eval_look (by kernel_rfl) (by kernel_rfl)) (by exact eval_look (by kernel_rfl) (by kernel_rfl)) (fun W => addI_run _ _ _ _ _ (by omega) W) hW) ?_
            refine @chain _ _ _ _ _ _ _ _ 40 (.pointer (some ⟨t, 0, none⟩)) (by rfl) (by rfl) (by exact fun W2 hW => run_nc (by rfl) (by exact eval_look (by kernel_rfl) (by kernel_rfl)) hW) ?_
            refine @chain _ _ _ _ _ _ _ _ 41 (.pointer (some ⟨t, 1, none⟩)) (by rfl) (by rfl) (by exact fun W2 hW => run_fa (p := .pointer (some ⟨t, 0, none⟩)) (by rfl) (by exact eval_look (by kernel_rfl) (by kernel_rfl)) (fun W => by first | kernel_rfl | go_simp) hW) ?_
            refine calm_nil (fun W3 hW3 => ?_)
            refine Eq.mpr (congrArg (fun a => wpList _ _ _ _ a W3) (show _ = (⟨#[Value.pointer (some ⟨t, 0, none⟩), Value.int IntKind.u64 f, Value.slice A n c, undef, undef, undef, Value.int IntKind.i64 0, Value.int IntKind.i64 0, undef, Value.pointer (some ⟨wq.heap.size, 0, none⟩), Value.pointer (some ⟨t, 0, none⟩), Value.pointer (some ⟨t, 0, none⟩), Value.pointer (some ⟨t, 3, none⟩), Value.bool false, Value.slice A n c, Value.int IntKind.i64 0, Value.int IntKind.i64 0, Value.bool false, undef, Value.int IntKind.u64 f, Value.slice A n c, Value.slice (some ⟨be, oe, none⟩) n c2', Value.int IntKind.i64 (n : Int), Value.int IntKind.i64 (k : Int), Value.bool true, Value.pointer (some ⟨be, oe + k * 4, none⟩), Value.agg #[Value.string x.fst, Value.int IntKind.u64 x.snd.fst, Value.bool x.snd.snd.fst, Value.string x.snd.snd.snd], Value.pointer (some ⟨t, 0, none⟩), Value.pointer (some ⟨t, 0, none⟩), Value.pointer (some ⟨t, 0, none⟩), Value.pointer (some ⟨g, 0, none⟩), Value.agg (encE x).toArray, Value.bool true, Value.pointer (some ⟨t, 0, none⟩), Value.pointer (some ⟨t, 0, none⟩), Value.pointer (some ⟨t, 1, none⟩), Value.int IntKind.i64 st.wt, Value.agg (encE x).toArray, Value.int IntKind.i64 (wtE x), Value.int IntKind.i64 (st.wt + wtE x), Value.pointer (some ⟨t, 0, none⟩), Value.pointer (some ⟨t, 1, none⟩), u42, u43, u44, u45, u46, u47, u48, u49, u50, u51, u52], []⟩ : Act) by kernel_rfl)) ?_
            have HW3 := Lib.hid hW3
            clear hW3
            have r3 := blk_below HROW3.out HW3.out
            have t1' : W3.cell? ⟨t, 1, none⟩ = some (.int .i64 st.wt) := (blk_cell r3 1).trans rfl
            have t1f : W3.frozen? ⟨t, 1, none⟩ = false := blk_frozen r3 1
            obtain ⟨W4, hW4⟩ : ∃ W, W3.setCell ⟨t, 1, none⟩ (.int .i64 (st.wt + wtE x)) = W := ⟨_, rfl⟩
            have HROW4 := Lib.hid (show W4.heap[t]? = some (.cells #[.pointer (some ⟨g, 0, none⟩), .int .i64 (st.wt + wtE x), .int .u64 st.last, .bool st.fz] 135 (0, 0)) by rw [← hW4]; exact blk_set r3 1 _)
            have hqt : wq.heap.size ≠ t := fun e => by have := blk_lt HM1.out.row; omega
            have QX4 := Lib.hid (show W4.heap[wq.heap.size]? = some (.cells #[.string x.1, .int .u64 x.2.1, .bool x.2.2.1, .string x.2.2.2] 53 (0, 0)) by rw [← hW4]; exact blk_far (blk_below QX3.out HW3.out) hqt _)
            have HU4 := Lib.hid (show Upd (fun j => j = t) W3 W4 by rw [← hW4]; exact Upd.setCell _ _ _ rfl)
            have t2 : W4.cell? ⟨t, 2, none⟩ = some (.int .u64 st.last) := (blk_cell HROW4.out 2).trans rfl
            clear r3 t1
            go_wp2_with fail
            refine wp_region_calmB 10 (by kernel_rfl) (by kernel_rfl) ?_
            simp only [List.take_succ_cons, List.take_zero, List.drop_succ_cons, List.drop_zero]
            refine chain0 ?_
            refine @chain _ _ _ _ _ _ _ _ 42 (.pointer (some ⟨t, 0, none⟩)) (by rfl) (by rfl) (by exact fun W2 hW => run_mv (by rfl) (by exact eval_base (by kernel_rfl) (by rfl)) hW) ?_
            refine @chain _ _ _ _ _ _ _ _ 43 (.pointer (some ⟨t, 0, none⟩)) (by rfl) (by rfl) (by exact fun W2 hW => run_mv (by rfl) (by exact eval_base (by kernel_rfl) (by rfl)) hW) ?_
            refine @chain _ _ _ _ _ _ _ _ 44 (.pointer (some ⟨t, 0, none⟩)) (by rfl) (by rfl) (by exact fun W2 hW => run_nc (by rfl) (by exact eval_look (by kernel_rfl) (by kernel_rfl)) hW) ?_
            refine @chain _ _ _ _ _ _ _ _ 45 (.pointer (some ⟨t, 2, none⟩)) (by rfl) (by rfl) (by exact fun W2 hW => run_fa (p := .pointer (some ⟨t, 0, none⟩)) (by rfl) (by exact eval_look (by kernel_rfl) (by kernel_rfl)) (fun W => by first | kernel_rfl | go_simp) hW) ?_
            refine @chain _ _ _ _ _ _ _ _ 46 (.int .u64 st.last) (by rfl) (by rfl) (by exact fun W2 hW => run_lw (by rfl) (by exact eval_look (by kernel_rfl) (by kernel_rfl)) (fun W hW => ldU _ _ _ _ (cell_later hW t2)) hW) ?_
            refine @chain _ _ _ _ _ _ _ _ 47 (.pointer (some ⟨wq.heap.size, 1, none⟩)) (by rfl) (by rfl) (by exact fun W2 hW => run_fa (p := .pointer (some ⟨wq.heap.size, 0, none⟩)) (by rfl) (by exact eval_base (by kernel_rfl) (by rfl)) (fun W => by first | kernel_rfl | go_simp) hW) ?_
            refine @chain _ _ _ _ _ _ _ _ 48 (.int .u64 x.2.1) (by rfl) (by rfl) (by exact fun W2 hW => run_lw (by rfl) (by exact eval_look (by kernel_rfl) (by kernel_rfl)) (fun W hW => ldU _ _ _ _ (cell_later hW (boxEnt QX4.out 1 _ rfl))) hW) ?_
            refine @chain _ _ _ _ _ _ _ _ 49 (.int .u64 (mxU st.last x.2.1)) (by rfl) (by rfl) (by exact fun W2 hW => run_mxU (u := .int .u64 st.last) (v := .int .u64 x.2.1) (by rfl) (by exact eval_look (by kernel_rfl) (by kernel_rfl)) (by exact eval_look (by kernel_rfl) (by kernel_rfl)) (fun W => maxU _ _ _ _ W) hW) ?_
            refine @chain _ _ _ _ _ _ _ _ 50 (.pointer (some ⟨t, 0, none⟩)) (by rfl) (by rfl) (by exact fun W2 hW => run_nc (by rfl) (by exact eval_look (by kernel_rfl) (by kernel_rfl)) hW) ?_
            refine @chain _ _ _ _ _ _ _ _ 51 (.pointer (some ⟨t, 2, none⟩)) (by rfl) (by rfl) (by exact fun W2 hW => run_fa (p := .pointer (some ⟨t, 0, none⟩)) (by rfl) (by exact eval_look (by kernel_rfl) (by kernel_rfl)) (fun W => by first | kernel_rfl | go_simp) hW) ?_
            refine calm_nil (fun W5 hW5 => ?_)
            refine Eq.mpr (congrArg (fun a => wpList _ _ _ _ a W5) (show _ = (⟨#[Value.pointer (some ⟨t, 0, none⟩), Value.int IntKind.u64 f, Value.slice A n c, undef, undef, undef, Value.int IntKind.i64 0, Value.int IntKind.i64 0, undef, Value.pointer (some ⟨wq.heap.size, 0, none⟩), Value.pointer (some ⟨t, 0, none⟩), Value.pointer (some ⟨t, 0, none⟩), Value.pointer (some ⟨t, 3, none⟩), Value.bool false, Value.slice A n c, Value.int IntKind.i64 0, Value.int IntKind.i64 0, Value.bool false, undef, Value.int IntKind.u64 f, Value.slice A n c, Value.slice (some ⟨be, oe, none⟩) n c2', Value.int IntKind.i64 (n : Int), Value.int IntKind.i64 (k : Int), Value.bool true, Value.pointer (some ⟨be, oe + k * 4, none⟩), Value.agg #[Value.string x.fst, Value.int IntKind.u64 x.snd.fst, Value.bool x.snd.snd.fst, Value.string x.snd.snd.snd], Value.pointer (some ⟨t, 0, none⟩), Value.pointer (some ⟨t, 0, none⟩), Value.pointer (some ⟨t, 0, none⟩), Value.pointer (some ⟨g, 0, none⟩), Value.agg (encE x).toArray, Value.bool true, Value.pointer (some ⟨t, 0, none⟩), Value.pointer (some ⟨t, 0, none⟩), Value.pointer (some ⟨t, 1, none⟩), Value.int IntKind.i64 st.wt, Value.agg (encE x).toArray, Value.int IntKind.i64 (wtE x), Value.int IntKind.i64 (st.wt + wtE x), Value.pointer (some ⟨t, 0, none⟩), Value.pointer (some ⟨t, 1, none⟩), Value.pointer (some ⟨t, 0, none⟩), Value.pointer (some ⟨t, 0, none⟩), Value.pointer (some ⟨t, 0, none⟩), Value.pointer (some ⟨t, 2, none⟩), Value.int IntKind.u64 st.last, Value.pointer (some ⟨wq.heap.size, 1, none⟩), Value.int IntKind.u64 x.snd.fst, Value.int IntKind.u64 (mxU st.last x.snd.fst), Value.pointer (some ⟨t, 0, none⟩), Value.pointer (some ⟨t, 2, none⟩), u52], []⟩ : Act) by kernel_rfl)) ?_
            have HW5 := Lib.hid hW5
            clear hW5
            have r5 := blk_below HROW4.out HW5.out
            have t2' : W5.cell? ⟨t, 2, none⟩ = some (.int .u64 st.last) := (blk_cell r5 2).trans rfl
            have t2f : W5.frozen? ⟨t, 2, none⟩ = false := blk_frozen r5 2
            have HR5 := Lib.hid r5
            clear r5 t1' t1f t2 hqt
            go_wp2_with fail
            go_roundw
            case measure => simp [intOf]; omega
            case rel =>
              have hU35 : Upd (fun j => j = t) w3 (W5.setCell ⟨t, 2, none⟩ (.int .u64 (mxU st.last x.2.1))) := (((Upd.of_below HW3.out).trans HU4.out).trans (Upd.of_below HW5.out)).trans (Upd.setCell _ _ _ rfl)
              refine ⟨k + 1, S3, by first | rfl | simp, by omega, ?_, HG3.out, HU3.out.step hU35 (fun j hj => .inl (.inr hj)), HS13.out.upd hU35 (fun b o hA => (HAP3.out b o hA).2), HAP3.out⟩
              rw [HADD.out]
              have hs6 := HS3.out.upd hU35 (fun j hj e => HNT3.out (by rw [← e]; exact hj))
              refine ⟨?_, hs6, HNT3.out⟩
              rw [HAS.out]
              exact blk_set HR5.out 2 _
        · have hkn2 : n = k := by omega
          subst hkn2
          have hend : st = addF draws m (ents f l) := by rw [← HST.out, HES.out, List.take_of_length_le (by rw [HEL.out]; exact Nat.le_refl _)]
          subst hend
          go_wp2
          go_ret
          exact ⟨rfl, HU1.out, S1, HG1.out, HM1.out⟩
    · simp only [if_neg hcb0]
      have hne : (cb == 0) = false := by simpa using hcb0
      go_enter Try.func35, Try.ntmps35
      go_wp2_with fail
      refine HCB.out.mono ?_
      rintro e w1 ⟨rfl, hb1⟩
      go_wp2
      go_ret
      exact ⟨rfl, Upd.of_below hb1, S, Grow.refl _ _, HM.out.later hb1⟩
end Go.Proofs.Ytjbbobhjomhnmaa.H
