/- Plain laws: what the memtable is behind the batches; Get against last. No conditions but sizes. | Plain laws: what From gives of each key. No conditions. | One batch more into a memtable; what right batches are. No conditions but sizes. | Counting distinct keys that are found: plain. No conditions. | Plain laws for MemSeen: what is read at a number does not change by a batch above it. No conditions but sizes. -/
import Derived.Test.YtjbbobhjomhnmaaMeB
import Derived.Test.YtjbbobhjomhnmaaMe5
import Derived.Test.YtjbbobhjomhnmaaSk19
import Derived.Test.YtjbbobhjomhnmaaSk21
import Derived.Test.YtjbbobhjomhnmaaMe12
namespace Go.Proofs.Ytjbbobhjomhnmaa.H
open Go Go.RowKit Go.Deep Go.Shelf Go.Proofs Go.Proofs.YtjbbobhjomhnmaaW.PrintWords
set_option linter.unusedVariables false
set_option linter.unusedSimpArgs false
theorem ents_append (f : Int) (p x : List Wri) : ents f (p ++ x) = ents f p ++ ents (f + (p.length : Int)) x := by
  unfold ents
  rw [List.mapIdx_append]
  congr 1
  apply List.ext_getElem?
  intro i
  simp only [List.getElem?_mapIdx]
  cases x[i]? with
  | none => rfl
  | some y =>
    simp only [Option.map_some]
    unfold ent
    rw [show f + ((i + p.length : Nat) : Int) = f + (p.length : Int) + (i : Int) by push_cast; omega]
theorem addF_append (draws : List Int) (m : MemV) (p x : List Ent) : addF draws m (p ++ x) = addF draws (addF draws m p) x := by
  unfold addF
  rw [List.foldl_append]
/-- The memtable behind the writes ws, numbered from f on. -/
def memF (draws : List Int) (f : Int) (ws : List Wri) : MemV := addF draws mem0 (ents f ws)
theorem memF_append (draws : List Int) (f : Int) (p x : List Wri) : memF draws f (p ++ x) = addF draws (memF draws f p) (ents (f + (p.length : Int)) x) := by
  unfold memF
  rw [ents_append, addF_append]
theorem memF_fz (draws : List Int) (f : Int) (ws : List Wri) : (memF draws f ws).fz = false := by
  have := (addF_len draws mem0 (ents f ws) (ents f ws).length).2
  rw [List.take_length] at this
  exact this
theorem memF_len (draws : List Int) (f : Int) (ws : List Wri) : (memF draws f ws).L.length ≤ ws.length := by
  have := (addF_len draws mem0 (ents f ws) (ents f ws).length).1
  rw [List.take_length, ents_len] at this
  have h0 : mem0.L.length = 0 := rfl
  unfold memF
  omega
theorem memF_wt (draws : List Int) (f : Int) (ws : List Wri) (hok : ∀ x ∈ ws, x.1.size ≤ 140737488351232 ∧ x.2.2.size ≤ 140737488351232) (hl : ws.length ≤ 9000) : 0 ≤ (memF draws f ws).wt ∧ (memF draws f ws).wt < 4000000000000000000 := by
  have := addF_wt draws mem0 (ents f ws) (ents_ok hok) (ents f ws).length
  rw [List.take_length, ents_len] at this
  have h0 : mem0.wt = 0 := rfl
  unfold memF
  omega
theorem foldl_addL (draws : List Int) : ∀ (r : List Ent) (m : MemV), (r.foldl (addS draws) m).L = r.foldl (putS draws) m.L
  | [], m => rfl
  | e :: r, m => by
    rw [List.foldl_cons, List.foldl_cons, foldl_addL draws r, addS_L]
theorem memF_L (draws : List Int) (f : Int) (ws : List Wri) : (memF draws f ws).L = pushF draws (ents f ws) := foldl_addL draws _ _
theorem ents_at {f : Int} {ws : List Wri} {i : Nat} {e : Ent} (h : (ents f ws)[i]? = some e) : ∃ x, ws[i]? = some x ∧ e = ent f i x := by
  unfold ents at h
  rw [List.getElem?_mapIdx] at h
  cases hx : ws[i]? with
  | none => rw [hx] at h; cases h
  | some x => rw [hx] at h; exact ⟨x, rfl, by simpa using h.symm⟩
theorem ent_seq {f : Int} {i : Nat} {x : Wri} (h0 : 0 ≤ f) (h1 : f + (i : Int) < 18446744073709551616) : (ent f i x).2.1 = f + (i : Int) := by
  show IntKind.u64.wrap (f + (i : Int)) = _
  rw [IntKind.wrap_u64]
  omega
theorem ents_unlike {f : Int} {ws : List Wri} (h0 : 0 ≤ f) (h1 : f + (ws.length : Int) ≤ 9223372036854775807) : Unlike (ents f ws) := by
  refine List.pairwise_iff_getElem.2 fun i j hi hj hij hs => ?_
  obtain ⟨x, hx, ex⟩ := ents_at (List.getElem?_eq_getElem hi)
  obtain ⟨y, hy, ey⟩ := ents_at (List.getElem?_eq_getElem hj)
  have hil := (List.getElem?_eq_some_iff.1 hx).1
  have hjl := (List.getElem?_eq_some_iff.1 hy).1
  have := hs.2
  rw [ex, ey, ent_seq h0 (by omega), ent_seq h0 (by omega)] at this
  omega
theorem memF_laid (draws : List Int) {f : Int} {ws : List Wri} (h0 : 0 ≤ f) (h1 : f + (ws.length : Int) ≤ 9223372036854775807) : Laid draws (ents f ws) (memF draws f ws).L := by
  rw [memF_L]
  exact push_laid draws (ents_unlike h0 h1)
/-! ### right batches may be put in -/
theorem extract_size (s : ByteArray) (n : Nat) : (s.extract 0 n).size ≤ n := by
  rw [ByteArray.size_extract]
  omega
theorem cutB_size (s : ByteArray) (n : Nat) : (cutB s n).size ≤ n := by
  unfold cutB
  split
  · exact extract_size _ _
  · omega
theorem cutB_pos {s : ByteArray} {n : Nat} (hs : s.size ≠ 0) (hn : n ≠ 0) : (cutB s n).size ≠ 0 := by
  unfold cutB
  split
  · rw [ByteArray.size_extract]; omega
  · exact hs
theorem keyR_size (k : ByteArray) : (keyR k).size ≠ 0 ∧ (keyR k).size ≤ 64 := by
  unfold keyR
  refine ⟨cutB_pos ?_ (by decide), cutB_size _ _⟩
  split
  · decide
  · assumption
theorem rightW_ok (x : Wri) : chkW (rightW x) = 0 ∧ (rightW x).1.size ≤ 64 ∧ (rightW x).2.2.size ≤ 512 ∧ ((rightW x).2.1 = true → (rightW x).2.2 = ⟨#[]⟩) := by
  obtain ⟨h1, h2⟩ := keyR_size x.1
  have h3 : (rightW x).2.2.size ≤ 512 := by
    show ByteArray.size (if x.2.1 = true then _ else _) ≤ 512
    split
    · exact Nat.zero_le _
    · exact cutB_size _ _
  refine ⟨?_, h2, h3, fun h => if_pos h⟩
  unfold chkW chk
  rw [if_neg (show ¬ (rightW x).1.size = 0 from h1), if_neg (show ¬ 64 < (rightW x).1.size by have : (rightW x).1.size ≤ 64 := h2; omega), if_pos rfl]
  split
  · rfl
  · rw [if_neg (by omega)]
theorem firstE_zero : ∀ {l : List Wri}, (∀ x ∈ l, chkW x = 0) → firstE l = 0
  | [], _ => rfl
  | x :: l, h => by
    unfold firstE
    rw [if_pos (h x (by simp))]
    exact firstE_zero fun y hy => h y (by simp [hy])
theorem chkB_right (l : List Wri) : chkB (rightL l) = 0 := by
  unfold chkB
  rw [if_neg (by unfold rightL; rw [List.length_map, List.length_take]; omega)]
  refine firstE_zero fun x hx => ?_
  obtain ⟨y, _, rfl⟩ := List.mem_map.1 hx
  exact (rightW_ok y).1
/-! ### Get against last -/
theorem getM_best {L : List EH} {m : List Ent} (hp : (allE L).Perm m) (hs : (allE L).Pairwise ltE) (k : ByteArray) (q : Int) : getM L k q = bestF k q m := by
  obtain ⟨h1, h2⟩ := best_seek (k := k) (q := q) hp hs
  have hb := best_ok k q m
  unfold getM
  cases hf : (bestF k q m).2 with
  | true =>
    obtain ⟨t, ht⟩ := h2 hf
    obtain ⟨_, h4, _⟩ := hb.yes hf
    unfold fits at h4
    simp only [Bool.and_eq_true, decide_eq_true_eq] at h4
    rw [ht]
    show (if (bestF k q m).1.1.toList = k.toList then ((bestF k q m).1, true) else (zeroE, false)) = _
    rw [if_pos h4.1, ← hf]
  | false =>
    have hz : bestF k q m = (zeroE, false) := Prod.ext (hb.no hf).1 hf
    rw [hz]
    cases hn : notAhead k q (allE L) with
    | nil => rfl
    | cons x t =>
      refine if_neg fun hk => ?_
      have := h1.2 ⟨x, t, hn, hk⟩
      rw [hf] at this
      cases this
/-- What Get must tell, out of what last tells. -/
def toE (s : LS) : Ent × Bool := if s.2.2 = true then ((s.1.1, s.2.1, s.1.2.1, if s.1.2.1 = true then ⟨#[]⟩ else s.1.2.2), true) else (zeroE, false)
theorem bestF_snoc (k : ByteArray) (q : Int) (p : List Ent) (e : Ent) : bestF k q (p ++ [e]) = bestS k q (bestF k q p) e := by
  unfold bestF
  rw [List.foldl_append]
  rfl
theorem snoc_ind {α : Type} {P : List α → Prop} (h0 : P []) (hs : ∀ p x, P p → P (p ++ [x])) (l : List α) : P l := by
  have : ∀ r : List α, P r.reverse := by
    intro r
    induction r with
    | nil => exact h0
    | cons x r ih => rw [List.reverse_cons]; exact hs _ _ ih
  have h := this l.reverse
  rwa [List.reverse_reverse] at h
theorem best_last (f : Int) (k : ByteArray) (q : Int) (hf : 0 ≤ f) : ∀ (p : List Wri), f + (p.length : Int) ≤ 9223372036854775807 → bestF k q (ents f p) = toE (lastF f k q p) ∧ ((lastF f k q p).2.2 = true → (lastF f k q p).2.1 < f + (p.length : Int)) := by
  refine snoc_ind ?_ ?_
  · intro _; exact ⟨rfl, fun h => by cases h⟩
  · intro p x ih h
    rw [List.length_append, List.length_singleton] at h
    obtain ⟨h1, h2⟩ := ih (by push_cast at h; omega)
    have hseq : (ent f p.length x).2.1 = f + (p.length : Int) := ent_seq hf (by push_cast at h; omega)
    have he : ents f (p ++ [x]) = ents f p ++ [ent f p.length x] := by
      have := ents_snoc f (p ++ [x]) p.length x (by simp)
      rw [List.take_of_length_le (by simp), List.take_left] at this
      exact this
    rw [he, bestF_snoc, h1, lastF_snoc]
    have hfit : fits k q (ent f p.length x) = true ↔ (x.1.toList = k.toList ∧ f + (p.length : Int) ≤ q) := by
      unfold fits
      rw [hseq]
      simp only [Bool.and_eq_true, decide_eq_true_eq]
      exact Iff.rfl
    unfold bestS lastS
    by_cases hc : x.1.toList = k.toList ∧ f + (p.length : Int) ≤ q
    · rw [if_pos hc]
      refine ⟨?_, fun _ => ?_⟩
      · have hb : (!(toE (lastF f k q p)).2 || decide ((toE (lastF f k q p)).1.2.1 < (ent f p.length x).2.1)) = true := by
          unfold toE
          cases hs : (lastF f k q p).2.2 with
          | false => rfl
          | true =>
            have := h2 hs
            simp only [if_true, Bool.not_true, Bool.false_or, decide_eq_true_eq]
            rw [hseq]
            exact this
        rw [if_pos (by rw [hfit.2 hc, hb]; rfl)]
        show (ent f p.length x, true) = _
        unfold toE ent
        have hw : IntKind.u64.wrap (f + (p.length : Int)) = f + (p.length : Int) := hseq
        simp only [if_true, hw]
      · rw [List.length_append, List.length_singleton]
        push_cast
        show f + (p.length : Int) < _
        omega
    · rw [if_neg hc]
      refine ⟨if_neg (fun hh => hc (hfit.1 ?_)), fun hs => ?_⟩
      · simp only [Bool.and_eq_true] at hh
        exact hh.1
      · have := h2 hs
        rw [List.length_append, List.length_singleton]
        push_cast
        omega
theorem get_last (draws : List Int) (f : Int) (ws : List Wri) (k : ByteArray) (q : Int) (hf : 0 ≤ f) (hl : f + (ws.length : Int) ≤ 9223372036854775807) : getM (memF draws f ws).L k q = toE (lastF f k q ws) := by
  have hL := memF_laid draws hf hl
  rw [getM_best hL.perm (List.pairwise_map.2 hL.order), (best_last f k q hf ws hl).1]
end Go.Proofs.Ytjbbobhjomhnmaa.H
namespace Go.Proofs.Ytjbbobhjomhnmaa.H
open Go Go.RowKit Go.Deep Go.Shelf Go.Proofs Go.Proofs.YtjbbobhjomhnmaaW.PrintWords
set_option linter.unusedVariables false
set_option linter.unusedSimpArgs false
theorem toList_inj {a b : ByteArray} (h : a.toList = b.toList) : a = b := by
  rw [ByteArray.toList_eq, ByteArray.toList_eq] at h
  exact ByteArray.ext (Array.toList_inj.1 h)
structure ThinOk (q : Int) (p out : List Ent) (gl : Option ByteArray) : Prop where
  mem : ∀ o ∈ out, o ∈ p ∧ o.2.1 ≤ q
  rise : out.Pairwise (fun x y => Op.bytesLess x.1.toList y.1.toList = true)
  cover : ∀ e ∈ p, e.2.1 ≤ q → ∃ o ∈ out, o.1.toList = e.1.toList ∧ e.2.1 ≤ o.2.1
  none : gl = none → out = []
  some : ∀ k, gl = some k → ∃ init o, out = init ++ [o] ∧ o.1 = k
theorem thin_ok (q : Int) : ∀ p : List Ent, p.Pairwise ltE → ThinOk q p (thin q p) (thinF q p).1 := by
  refine snoc_ind ?_ ?_
  · intro _
    exact ⟨by simp [thin, thinF], by simp [thin, thinF], by simp, fun _ => rfl, fun k h => by simp [thinF] at h⟩
  · intro p x ih hs
    rw [List.pairwise_append] at hs
    obtain ⟨hsp, _, hpx⟩ := hs
    have hlt : ∀ o ∈ p, ltE o x := fun o ho => hpx o ho x (by simp)
    have h := ih hsp
    by_cases hsk : skipB q (thinF q p).1 x = true
    · have e1 := thinF_skip hsk
      rw [show thin q (p ++ [x]) = thin q p by unfold thin; rw [e1], e1]
      refine ⟨fun o ho => ⟨List.mem_append_left _ (h.mem o ho).1, (h.mem o ho).2⟩, h.rise, fun e he hq => ?_, h.none, h.some⟩
      rcases List.mem_append.1 he with he | he
      · exact h.cover e he hq
      · rw [List.mem_singleton.1 he] at hq ⊢
        unfold skipB at hsk
        rw [Bool.or_eq_true, decide_eq_true_eq] at hsk
        rcases hsk with hsk | hsk
        · omega
        · cases hgl : (thinF q p).1 with
          | none => rw [hgl] at hsk; cases hsk
          | some k =>
            rw [hgl] at hsk
            simp only [decide_eq_true_eq] at hsk
            obtain ⟨init, o, ho, hk⟩ := h.some k hgl
            have hom : o ∈ thin q p := by rw [ho]; simp
            have hoe : o.1.toList = x.1.toList := by rw [hk, hsk]
            refine ⟨o, hom, hoe, ?_⟩
            rcases (ltE_iff _ _).1 (hlt o (h.mem o hom).1) with h1 | ⟨_, h1⟩
            · rw [hoe, less_irrefl] at h1; cases h1
            · omega
    · have hsk' : skipB q (thinF q p).1 x = false := by simpa using hsk
      have e1 := thinF_yield hsk'
      rw [show thin q (p ++ [x]) = thin q p ++ [x] by unfold thin; rw [e1]; rfl, e1]
      unfold skipB at hsk'
      rw [Bool.or_eq_false_iff, decide_eq_false_iff_not] at hsk'
      obtain ⟨hxq, hxk⟩ := hsk'
      have hxq : x.2.1 ≤ q := by omega
      refine ⟨fun o ho => ?_, ?_, fun e he hq => ?_, fun hh => (by cases hh), fun k hk => ⟨_, x, rfl, by simpa using hk⟩⟩
      · rcases List.mem_append.1 ho with ho | ho
        · exact ⟨List.mem_append_left _ (h.mem o ho).1, (h.mem o ho).2⟩
        · rw [List.mem_singleton.1 ho]
          exact ⟨by simp, hxq⟩
      · refine List.pairwise_append.2 ⟨h.rise, by simp, fun o ho y hy => ?_⟩
        rw [List.mem_singleton.1 hy]
        rcases (ltE_iff _ _).1 (hlt o (h.mem o ho).1) with h1 | ⟨h1, _⟩
        · exact h1
        · exfalso
          cases hgl : (thinF q p).1 with
          | none => rw [h.none hgl] at ho; cases ho
          | some k =>
            rw [hgl] at hxk
            simp only [decide_eq_false_iff_not] at hxk
            obtain ⟨init, z, hz, hk⟩ := h.some k hgl
            have hzm : z ∈ thin q p := by rw [hz]; simp
            have hzx : z.1.toList ≠ x.1.toList := fun e => hxk (by rw [← hk]; exact e.symm)
            have hzl : Op.bytesLess z.1.toList x.1.toList = true := by
              rcases (ltE_iff _ _).1 (hlt z (h.mem z hzm).1) with h2 | ⟨h2, _⟩
              · exact h2
              · exact absurd h2 hzx
            have hr := h.rise
            rw [hz] at hr ho
            rcases List.mem_append.1 ho with ho | ho
            · have h3 := (List.pairwise_append.1 hr).2.2 o ho z (by simp)
              have h4 : Op.bytesLess o.1.toList o.1.toList = true := by
                have := less_trans _ _ _ h3 hzl
                rw [← h1] at this
                exact this
              rw [less_irrefl] at h4
              cases h4
            · rw [List.mem_singleton.1 ho] at h1
              exact hzx h1
      · rcases List.mem_append.1 he with he | he
        · obtain ⟨o, ho, h1, h2⟩ := h.cover e he hq
          exact ⟨o, List.mem_append_left _ ho, h1, h2⟩
        · rw [List.mem_singleton.1 he]
          exact ⟨x, by simp, rfl, Int.le_refl _⟩
theorem thin_len (q : Int) : ∀ p : List Ent, (thin q p).length ≤ p.length := by
  refine snoc_ind (by simp [thin, thinF]) fun p x ih => ?_
  rw [List.length_append, List.length_singleton]
  by_cases hsk : skipB q (thinF q p).1 x = true
  · rw [show thin q (p ++ [x]) = thin q p by unfold thin; rw [thinF_skip hsk]]
    omega
  · rw [show thin q (p ++ [x]) = thin q p ++ [x] by unfold thin; rw [thinF_yield (by simpa using hsk)]; rfl, List.length_append, List.length_singleton]
    omega
/-- Where an entry stands against a place behind which nothing of its key is left out. -/
theorem behind {e : Ent} {key : ByteArray} (hq : e.2.1 ≤ 18446744073709551615) : ¬ ltE e (atE key 18446744073709551615) ↔ Op.bytesLess e.1.toList key.toList = false := by
  constructor
  · intro h
    cases hb : Op.bytesLess e.1.toList key.toList with
    | false => rfl
    | true => exact absurd ((ltE_iff _ _).2 (.inl hb)) h
  · intro h hl
    rcases (ltE_iff _ _).1 hl with h1 | ⟨_, h1⟩
    · simp only at h1
      rw [h] at h1
      cases h1
    · simp only at h1
      omega
/-- What From gives: each of its entries is what Get tells of its key; its keys rise from key on; no key is left out. -/
structure FromOk (L : List EH) (key : ByteArray) (q : Int) (fr : List Ent) : Prop where
  get : ∀ e ∈ fr, getM L e.1 q = (e, true)
  ge : ∀ e ∈ fr, Op.bytesLess e.1.toList key.toList = false
  rise : fr.Pairwise (fun x y => Op.bytesLess x.1.toList y.1.toList = true)
  mem : ∀ e ∈ fr, e ∈ allE L
  all : ∀ k, (getM L k q).2 = true → Op.bytesLess k.toList key.toList = false → ∃ e ∈ fr, e.1 = k
theorem from_ok {L : List EH} (hs : (allE L).Pairwise ltE) (hq : ∀ e ∈ allE L, e.2.1 ≤ 18446744073709551615) (key : ByteArray) (q : Int) : FromOk L key q (thin q (notAhead key 18446744073709551615 (allE L))) := by
  have ht := thin_ok q _ (notAhead_sorted (k := key) (q := 18446744073709551615) hs)
  have hmem : ∀ e ∈ thin q (notAhead key 18446744073709551615 (allE L)), e ∈ allE L ∧ Op.bytesLess e.1.toList key.toList = false ∧ e.2.1 ≤ q := fun e he => by
    obtain ⟨h1, h2⟩ := ht.mem e he
    obtain ⟨h3, h4⟩ := notAhead_mem h1
    exact ⟨h3, (behind (hq e h3)).1 h4, h2⟩
  have hin : ∀ e ∈ allE L, Op.bytesLess e.1.toList key.toList = false → e ∈ notAhead key 18446744073709551615 (allE L) := fun e he h =>
    List.mem_filter.2 ⟨he, by simpa using (behind (hq e he)).2 h⟩
  refine ⟨fun e he => ?_, fun e he => (hmem e he).2.1, ht.rise, fun e he => (hmem e he).1, fun k hk hge => ?_⟩
  · obtain ⟨h1, h2, h3⟩ := hmem e he
    rw [getM_best (List.Perm.refl _) hs]
    have hb := best_ok e.1 q (allE L)
    have hfit : fits e.1 q e = true := by unfold fits; simp [h3]
    cases hf : (bestF e.1 q (allE L)).2 with
    | false => have := (hb.no hf).2 e h1; rw [hfit] at this; cases this
    | true =>
      obtain ⟨b1, b2, b3⟩ := hb.yes hf
      obtain ⟨b, hbq⟩ : ∃ b, (bestF e.1 q (allE L)).1 = b := ⟨_, rfl⟩
      have hbe : bestF e.1 q (allE L) = (b, true) := Prod.ext hbq hf
      rw [hbq] at b1 b2 b3
      have b4 := b3 e h1 hfit
      unfold fits at b2
      simp only [Bool.and_eq_true, decide_eq_true_eq] at b2
      obtain ⟨o, ho, o1, o2⟩ := ht.cover b (hin b b1 (by rw [b2.1]; exact h2)) b2.2
      have hoe : o = e := by
        obtain ⟨i, hi, ei⟩ := List.getElem_of_mem ho
        obtain ⟨j, hj, ej⟩ := List.getElem_of_mem he
        have hoek : o.1.toList = e.1.toList := by rw [o1, b2.1]
        rcases Nat.lt_trichotomy i j with h | h | h
        · have := List.pairwise_iff_getElem.1 ht.rise i j hi hj h
          rw [ei, ej, hoek, less_irrefl] at this
          cases this
        · subst h
          rw [← ei, ej]
        · have := List.pairwise_iff_getElem.1 ht.rise j i hj hi h
          rw [ei, ej, hoek, less_irrefl] at this
          cases this
      rw [hoe] at o2
      have hsame : samE b e := ⟨b2.1, by omega⟩
      obtain ⟨i, hi, ei⟩ := List.getElem_of_mem b1
      obtain ⟨j, hj, ej⟩ := List.getElem_of_mem h1
      have hbe2 : b = e := by
        rcases Nat.lt_trichotomy i j with h | h | h
        · have := List.pairwise_iff_getElem.1 hs i j hi hj h
          rw [ei, ej] at this
          exact (samE_irrefl_lt this hsame).elim
        · subst h
          rw [← ei, ej]
        · have := List.pairwise_iff_getElem.1 hs j i hj hi h
          rw [ei, ej] at this
          exact (samE_irrefl_lt this (samE_symm hsame)).elim
      rw [hbe, hbe2]
  · rw [getM_best (List.Perm.refl _) hs] at hk
    obtain ⟨b1, b2, b3⟩ := (best_ok k q (allE L)).yes hk
    unfold fits at b2
    simp only [Bool.and_eq_true, decide_eq_true_eq] at b2
    obtain ⟨o, ho, o1, o2⟩ := ht.cover _ (hin _ b1 (by rw [b2.1]; exact hge)) b2.2
    exact ⟨o, ho, toList_inj (by rw [o1, b2.1])⟩
end Go.Proofs.Ytjbbobhjomhnmaa.H
namespace Go.Proofs.Ytjbbobhjomhnmaa.H
open Go Go.RowKit Go.Deep Go.Shelf Go.Proofs Go.Proofs.YtjbbobhjomhnmaaW.PrintWords
set_option linter.unusedVariables false
set_option linter.unusedSimpArgs false
/-- Batches that may be put in: what the law's batches makes. -/
structure Fit (B : List (List Wri)) : Prop where
  len : B.length ≤ 60
  each : ∀ x ∈ B, x.length ≤ 16 ∧ chkB x = 0 ∧ ∀ y ∈ x, y.1.size ≤ 64 ∧ y.2.2.size ≤ 512 ∧ (y.2.1 = true → y.2.2 = ⟨#[]⟩)
theorem right_fit (x : List Wri) : (rightL x).length ≤ 16 ∧ chkB (rightL x) = 0 ∧ ∀ y ∈ rightL x, y.1.size ≤ 64 ∧ y.2.2.size ≤ 512 ∧ (y.2.1 = true → y.2.2 = ⟨#[]⟩) := by
  refine ⟨by unfold rightL; rw [List.length_map, List.length_take]; omega, chkB_right x, fun y hy => ?_⟩
  obtain ⟨z, _, rfl⟩ := List.mem_map.1 hy
  exact (rightW_ok z).2
theorem batch_fit (l : List (List Wri)) : Fit (batchL l) := by
  refine ⟨by unfold batchL; rw [List.length_map, List.length_take]; omega, fun x hx => ?_⟩
  obtain ⟨z, _, rfl⟩ := List.mem_map.1 hx
  exact right_fit z
theorem tot_bound : ∀ {B : List (List Wri)}, (∀ x ∈ B, x.length ≤ 16) → tot B ≤ 16 * B.length
  | [], _ => by simp [tot]
  | x :: B, h => by
    have h1 := h x (by simp)
    have h2 := tot_bound (B := B) fun y hy => h y (by simp [hy])
    have h3 : tot (x :: B) = x.length + tot B := by simp [tot]
    rw [h3, List.length_cons]
    omega
theorem Fit.tot {B : List (List Wri)} (h : Fit B) : tot B ≤ 960 := by
  have := tot_bound (B := B) fun x hx => (h.each x hx).1
  have := h.len
  omega
theorem Fit.flat {B : List (List Wri)} (h : Fit B) : ∀ y ∈ B.flatten, y.1.size ≤ 64 ∧ y.2.2.size ≤ 512 ∧ (y.2.1 = true → y.2.2 = ⟨#[]⟩) := fun y hy => by
  obtain ⟨x, hx, hyx⟩ := List.mem_flatten.1 hy
  exact (h.each x hx).2.2 y hyx
theorem Fit.take {B : List (List Wri)} (h : Fit B) (k : Nat) : Fit (B.take k) := ⟨by rw [List.length_take]; have := h.len; omega, fun x hx => h.each x (List.mem_of_mem_take hx)⟩
theorem addB_c {t g : Nat} {S : Nat → Prop} {draws : List Int} {w : World} (f : Int) (p xl : List Wri) (h : MemIs w t g S draws (memF draws f p)) (A : Option Addr) (c : Nat) (hs : Sl encW 3 w A xl) (h0 : chkB xl = 0)
    (hok : ∀ x ∈ xl, x.1.size ≤ 64 ∧ x.2.2.size ≤ 512 ∧ (x.2.1 = true → x.2.2 = ⟨#[]⟩)) (hokp : ∀ x ∈ p, x.1.size ≤ 64 ∧ x.2.2.size ≤ 512 ∧ (x.2.1 = true → x.2.2 = ⟨#[]⟩)) (hl : p.length ≤ 2000) :
    Calls Try.prog 35 #[.pointer (some ⟨t, 0, none⟩), .int .u64 (f + (p.length : Int)), .slice A xl.length c] w fun e w' => e = .returned (.int .i64 0) ∧ AddOk w w' t g S draws (memF draws f (p ++ xl)) := by
  have ha := add_c h (f + (p.length : Int)) A c xl hs (fun x hx => by have := hok x hx; omega) (by have := memF_len draws f p; omega) (memF_wt draws f p (fun x hx => by have := hokp x hx; omega) (by omega))
  simp only [memF_fz, Bool.false_eq_true, if_false, h0, if_true, ← memF_append] at ha
  exact ha
theorem last_found (f : Int) (k : ByteArray) (q : Int) : ∀ p : List Wri, ((lastF f k q p).2.2 = true → (lastF f k q p).1.1 = k ∧ (lastF f k q p).1 ∈ p) ∧ ((lastF f k q p).2.2 = false → lastF f k q p = (zeroW, 0, false)) := by
  refine snoc_ind ⟨fun h => (by cases h), fun _ => rfl⟩ fun p x ih => ?_
  rw [lastF_snoc]
  unfold lastS
  by_cases hc : x.1.toList = k.toList ∧ f + (p.length : Int) ≤ q
  · rw [if_pos hc]
    exact ⟨fun _ => ⟨toList_inj hc.1, by simp⟩, fun h => (by cases h)⟩
  · rw [if_neg hc]
    exact ⟨fun h => ⟨(ih.1 h).1, List.mem_append_left _ (ih.1 h).2⟩, ih.2⟩
/-- What Get tells of a key, out of what last tells, for writes that may be. -/
theorem get_found (draws : List Int) (f : Int) {ws : List Wri} (k : ByteArray) (q : Int) (hf : 0 ≤ f) (hl : f + (ws.length : Int) ≤ 9223372036854775807) (hv : ∀ y ∈ ws, y.2.1 = true → y.2.2 = ⟨#[]⟩) :
    (∃ n d v, lastF f k q ws = ((k, d, v), n, true) ∧ getM (memF draws f ws).L k q = ((k, n, d, v), true)) ∨ (lastF f k q ws = (zeroW, 0, false) ∧ getM (memF draws f ws).L k q = (zeroE, false)) := by
  rw [get_last draws f ws k q hf hl]
  obtain ⟨h1, h2⟩ := last_found f k q ws
  obtain ⟨s, hs⟩ : ∃ s, lastF f k q ws = s := ⟨_, rfl⟩
  rw [hs] at h1 h2 ⊢
  obtain ⟨⟨a, d, v⟩, n, b⟩ := s
  cases b with
  | false =>
    have := h2 rfl
    rw [this]
    exact .inr ⟨rfl, rfl⟩
  | true =>
    obtain ⟨h3, h4⟩ := h1 rfl
    simp only at h3
    subst h3
    refine .inl ⟨n, d, v, rfl, ?_⟩
    unfold toE
    simp only [if_true]
    cases d with
    | false => rfl
    | true =>
      have := hv _ h4 rfl
      simp only at this
      rw [this]
      rfl
end Go.Proofs.Ytjbbobhjomhnmaa.H
namespace Go.Proofs.Ytjbbobhjomhnmaa.H
open Go Go.RowKit Go.Deep Go.Shelf Go.Proofs Go.Proofs.YtjbbobhjomhnmaaW.PrintWords
def good (L : List EH) (key : ByteArray) (q : Int) (k : ByteArray) : Bool := (getM L k q).2 && !(Op.bytesLess k.toList key.toList)
structure Cnt (g : ByteArray → Bool) (p : List ByteArray) (D : List ByteArray) : Prop where
  nodup : D.Nodup
  mem : ∀ k, k ∈ D ↔ k ∈ p ∧ g k = true
theorem Cnt.nil (g : ByteArray → Bool) : Cnt g [] [] := ⟨List.nodup_nil, fun k => by simp⟩
theorem Cnt.more {g : ByteArray → Bool} {p D : List ByteArray} {x : ByteArray} (h : Cnt g p D) (hg : g x = true) (hx : x ∉ p) : Cnt g (p ++ [x]) (x :: D) := by
  refine ⟨List.nodup_cons.2 ⟨fun hm => hx ((h.mem x).1 hm).1, h.nodup⟩, fun k => ?_⟩
  rw [List.mem_cons, h.mem, List.mem_append, List.mem_singleton]
  constructor
  · rintro (rfl | ⟨h1, h2⟩)
    · exact ⟨.inr rfl, hg⟩
    · exact ⟨.inl h1, h2⟩
  · rintro ⟨h1 | h1, h2⟩
    · exact .inr ⟨h1, h2⟩
    · exact .inl h1
theorem Cnt.same {g : ByteArray → Bool} {p D : List ByteArray} {x : ByteArray} (h : Cnt g p D) (hg : g x = false ∨ x ∈ p) : Cnt g (p ++ [x]) D := by
  refine ⟨h.nodup, fun k => ?_⟩
  rw [h.mem, List.mem_append, List.mem_singleton]
  constructor
  · rintro ⟨h1, h2⟩
    exact ⟨.inl h1, h2⟩
  · rintro ⟨h1 | rfl, h2⟩
    · exact ⟨h1, h2⟩
    · rcases hg with hg | hg
      · rw [hg] at h2; cases h2
      · exact ⟨hg, h2⟩
theorem nodup_fr {fr : List Ent} (h : fr.Pairwise (fun a b => Op.bytesLess a.1.toList b.1.toList = true)) : (fr.map (·.1)).Nodup := by
  rw [List.Nodup, List.pairwise_map]
  refine h.imp fun {a b} hab he => ?_
  rw [he, less_irrefl] at hab
  cases hab
theorem Cnt.fr {L : List EH} {key : ByteArray} {q : Int} {fr : List Ent} (hf : FromOk L key q fr) {ks D : List ByteArray} (hin : ∀ e ∈ fr, e.1 ∈ ks) (h : Cnt (good L key q) ks D) : D.length = fr.length := by
  have hp : D.Perm (fr.map (·.1)) := (List.perm_ext_iff_of_nodup h.nodup (nodup_fr hf.rise)).2 fun k => by
    rw [h.mem]
    constructor
    · rintro ⟨h1, h2⟩
      unfold good at h2
      simp only [Bool.and_eq_true, Bool.not_eq_true'] at h2
      obtain ⟨e, he, hek⟩ := hf.all k h2.1 h2.2
      exact List.mem_map.2 ⟨e, he, hek⟩
    · intro hk
      obtain ⟨e, he, rfl⟩ := List.mem_map.1 hk
      refine ⟨hin e he, ?_⟩
      unfold good
      rw [hf.get e he, hf.ge e he]
      rfl
  rw [hp.length_eq, List.length_map]
theorem mem_keys {BB : List (List Wri)} {key : ByteArray} {x : Wri} (h : x ∈ BB.flatten) : x.1 ∈ keysL BB key := by
  obtain ⟨b, hb, hx⟩ := List.mem_flatten.1 h
  exact List.mem_cons_of_mem _ (List.mem_flatMap.2 ⟨b, hb, List.mem_map_of_mem hx⟩)
end Go.Proofs.Ytjbbobhjomhnmaa.H
namespace Go.Proofs.Ytjbbobhjomhnmaa.H
open Go Go.RowKit Go.Deep Go.Shelf Go.Proofs Go.Proofs.YtjbbobhjomhnmaaW.PrintWords
set_option linter.unusedVariables false
set_option linter.unusedSimpArgs false
/-- Two sorted lists of the same members are the same. -/
theorem rise_ext : ∀ {a b : List Ent}, a.Pairwise (fun x y => Op.bytesLess x.1.toList y.1.toList = true) → b.Pairwise (fun x y => Op.bytesLess x.1.toList y.1.toList = true) → (∀ x, x ∈ a ↔ x ∈ b) → a = b
  | [], [], _, _, _ => rfl
  | [], y :: b, _, _, h => absurd ((h y).2 (by simp)) (by simp)
  | x :: a, [], _, _, h => absurd ((h x).1 (by simp)) (by simp)
  | x :: a, y :: b, ha, hb, h => by
    have irr : ∀ z : Ent, Op.bytesLess z.1.toList z.1.toList = true → False := fun z hz => by rw [less_irrefl] at hz; cases hz
    have ha1 := (List.pairwise_cons.1 ha)
    have hb1 := (List.pairwise_cons.1 hb)
    have hxy : x = y := by
      rcases List.mem_cons.1 ((h x).1 (by simp)) with e | hx
      · exact e
      · rcases List.mem_cons.1 ((h y).2 (by simp)) with e | hy
        · exact e.symm
        · have h1 := ha1.1 y hy
          have h2 := less_asymm _ _ (hb1.1 x hx)
          rw [h1] at h2
          cases h2
    subst hxy
    rw [rise_ext ha1.2 hb1.2 fun z => ⟨fun hz => ?_, fun hz => ?_⟩]
    · rcases List.mem_cons.1 ((h z).1 (List.mem_cons_of_mem _ hz)) with e | h2
      · subst e; exact (irr _ (ha1.1 _ hz)).elim
      · exact h2
    · rcases List.mem_cons.1 ((h z).2 (List.mem_cons_of_mem _ hz)) with e | h2
      · subst e; exact (irr _ (hb1.1 _ hz)).elim
      · exact h2
theorem FromOk.iff {L : List EH} {key : ByteArray} {q : Int} {fr : List Ent} (h : FromOk L key q fr) (e : Ent) : e ∈ fr ↔ getM L e.1 q = (e, true) ∧ Op.bytesLess e.1.toList key.toList = false := by
  refine ⟨fun he => ⟨h.get e he, h.ge e he⟩, fun ⟨h1, h2⟩ => ?_⟩
  obtain ⟨o, ho, hk⟩ := h.all e.1 (by rw [h1]) h2
  have h3 := h.get o ho
  rw [hk, h1] at h3
  injection h3 with h3 _
  rw [h3]
  exact ho
theorem from_same {L M : List EH} {key : ByteArray} {q : Int} {fr fs : List Ent} (h : FromOk L key q fr) (k : FromOk M key q fs) (hg : ∀ x, getM L x q = getM M x q) : fr = fs :=
  rise_ext h.rise k.rise fun e => by rw [h.iff, k.iff, hg]
theorem lastF_low (f : Int) (k : ByteArray) (q : Int) (ws : List Wri) : ∀ x : List Wri, q < f + (ws.length : Int) → lastF f k q (ws ++ x) = lastF f k q ws := by
  refine snoc_ind (fun _ => by rw [List.append_nil]) fun p y ih hq => ?_
  rw [← List.append_assoc, lastF_snoc]
  unfold lastS
  rw [if_neg (fun h => by have := h.2; rw [List.length_append] at this; push_cast at this; omega)]
  exact ih hq
/-- Of a key that the last writes hold, last tells one of these. -/
theorem lastF_high (f : Int) (k : ByteArray) (q : Int) (ws : List Wri) : ∀ x : List Wri, f + ((ws.length + x.length : Nat) : Int) ≤ q + 1 → ∀ y ∈ x, y.1 = k → (lastF f k q (ws ++ x)).2.2 = true ∧ f + (ws.length : Int) ≤ (lastF f k q (ws ++ x)).2.1 ∧ (lastF f k q (ws ++ x)).2.1 < f + ((ws.length + x.length : Nat) : Int) := by
  refine snoc_ind (fun _ y hy => by cases hy) fun p z ih hq y hy hk => ?_
  rw [List.length_append, List.length_singleton] at hq ⊢
  rw [← List.append_assoc, lastF_snoc]
  unfold lastS
  by_cases hc : z.1.toList = k.toList ∧ f + ((ws ++ p).length : Int) ≤ q
  · rw [if_pos hc, List.length_append]
    refine ⟨rfl, ?_, ?_⟩ <;> (push_cast; omega)
  · rw [if_neg hc]
    have hz : z.1 ≠ k := fun e => hc ⟨by rw [e], by rw [List.length_append]; push_cast at hq ⊢; omega⟩
    rcases List.mem_append.1 hy with hy | hy
    · obtain ⟨h1, h2, h3⟩ := ih (by push_cast at hq ⊢; omega) y hy hk
      exact ⟨h1, h2, by push_cast at h3 ⊢; omega⟩
    · rw [List.mem_singleton.1 hy] at hk
      exact (hz hk).elim
theorem get_low (draws : List Int) (f : Int) (ws x : List Wri) (q : Int) (hf : 0 ≤ f) (hl : f + ((ws.length + x.length : Nat) : Int) ≤ 9223372036854775807) (hq : q < f + (ws.length : Int)) (k : ByteArray) :
    getM (memF draws f (ws ++ x)).L k q = getM (memF draws f ws).L k q := by
  rw [get_last draws f _ k q hf (by rw [List.length_append]; exact hl), get_last draws f ws k q hf (by push_cast at hl; omega), lastF_low f k q ws x hq]
theorem get_high (draws : List Int) (f : Int) (ws x : List Wri) (q : Int) (hf : 0 ≤ f) (hl : f + ((ws.length + x.length : Nat) : Int) ≤ 9223372036854775807) (hq : f + ((ws.length + x.length : Nat) : Int) ≤ q + 1) {y : Wri} (hy : y ∈ x) :
    ∃ e, getM (memF draws f (ws ++ x)).L y.1 q = (e, true) ∧ f + (ws.length : Int) ≤ e.2.1 ∧ e.2.1 < f + ((ws.length + x.length : Nat) : Int) := by
  obtain ⟨h1, h2, h3⟩ := lastF_high f y.1 q ws x hq y hy rfl
  rw [get_last draws f _ y.1 q hf (by rw [List.length_append]; exact hl)]
  unfold toE
  rw [if_pos h1]
  exact ⟨_, rfl, h2, h3⟩
/-- From on a memtable of ws. -/
theorem memF_from (draws : List Int) {f : Int} {ws : List Wri} (hf : 0 ≤ f) (hl : f + (ws.length : Int) ≤ 9223372036854775807) (key : ByteArray) (q : Int) :
    FromOk (memF draws f ws).L key q (thin q (notAhead key 18446744073709551615 (allE (memF draws f ws).L))) := by
  have hlaid := memF_laid draws hf hl
  refine from_ok (List.pairwise_map.2 hlaid.order) (fun e he => ?_) key q
  obtain ⟨j, hj⟩ := List.getElem?_of_mem (hlaid.perm.subset he)
  obtain ⟨x, hx, rfl⟩ := ents_at hj
  have h1 := (List.getElem?_eq_some_iff.1 hx).1
  rw [ent_seq hf (by omega)]
  omega
theorem memF_fromlen (draws : List Int) {f : Int} {ws : List Wri} (hf : 0 ≤ f) (hl : f + (ws.length : Int) ≤ 9223372036854775807) (key : ByteArray) (q : Int) :
    (thin q (notAhead key 18446744073709551615 (allE (memF draws f ws).L))).length ≤ ws.length := by
  have hlaid := memF_laid draws hf hl
  have h1 := thin_len q (notAhead key 18446744073709551615 (allE (memF draws f ws).L))
  have h2 : (notAhead key 18446744073709551615 (allE (memF draws f ws).L)).length ≤ (allE (memF draws f ws).L).length := List.length_filter_le _ _
  have h3 := hlaid.perm.length_eq
  rw [ents_len] at h3
  omega
theorem from_low (draws : List Int) (f : Int) (ws x : List Wri) (q : Int) (key : ByteArray) (hf : 0 ≤ f) (hl : f + ((ws.length + x.length : Nat) : Int) ≤ 9223372036854775807) (hq : q < f + (ws.length : Int)) :
    thin q (notAhead key 18446744073709551615 (allE (memF draws f (ws ++ x)).L)) = thin q (notAhead key 18446744073709551615 (allE (memF draws f ws).L)) :=
  from_same (memF_from draws hf (by rw [List.length_append]; exact hl) key q) (memF_from draws hf (by push_cast at hl; omega) key q) (get_low draws f ws x q hf hl hq)
end Go.Proofs.Ytjbbobhjomhnmaa.H
