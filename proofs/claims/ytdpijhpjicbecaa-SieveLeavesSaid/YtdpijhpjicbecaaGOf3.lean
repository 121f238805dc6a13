/- slices.Clone of sources; merge.Of. Conditions: sizes. -/
import Derived.Test.YtdpijhpjicbecaaGOf1
namespace Go.Proofs.Ytdpijhpjicbecaa.H
open Go Go.RowKit Go.Deep Go.Shelf Go.Proofs Go.Proofs.YtdpijhpjicbecaaW.PrintWords
set_option linter.unusedVariables false
set_option linter.unusedSimpArgs false
attribute [local go_sem] Oper.semAt_some
/-- A function value: its function, what it has captured. -/
abbrev FV := Nat × Array Value × Array Value
def valF (f : FV) : Value := .func (.func f.1) f.2.1 f.2.2
def encF (f : FV) : List Value := [valF f]
theorem okF : EncOk encF 1 := fun x => ⟨rfl, by simp [encF, valF, Value.oneCell']⟩
theorem infoF : (Try.prog.info? 31).map (fun i => (i.zero, i.size, i.bytes)) = some (some Value.nilFunc, 1, 8) := by kernel_rfl
theorem uSlF : Try.prog.underlying 33 = some (.slice 31) := Try.underlying33
theorem sl_vals {w : World} {A : Option Addr} {l : List FV} (h : Sl encF 1 w A l) : Sl encV 1 w A (l.map valF) := by
  refine ⟨by simpa using h.1, ?_⟩
  rcases h.2 with rfl | ⟨b, o, hA, hlt, hc⟩
  · exact .inl rfl
  · refine .inr ⟨b, o, hA, hlt, fun i x hx j u hu => ?_⟩
    rw [List.getElem?_map] at hx
    cases hy : l[i]? with
    | none => rw [hy] at hx; cases hx
    | some y =>
      rw [hy] at hx
      injection hx with hx
      subst hx
      exact hc i y hy j u hu
theorem own_form {α : Type} {enc : α → List Value} {e : TypeId} {sz : Nat} {w : World} {base : Nat} {A : Option Addr} {n c : Nat} {l : List α} (h : Own enc e sz w base (.slice A n c) l) : (A = none ∧ c = 0) ∨ ∃ b o, A = some ⟨b, o, none⟩ := by
  rcases h.2 with ⟨hv, _⟩ | ⟨g, cap, cur, hv, _⟩
  · injection hv with h1 _ h3
    exact .inl ⟨h1, h3⟩
  · injection hv with h1 _ _
    exact .inr ⟨g, 0, h1⟩
theorem eqNil_no (b o n c : Nat) (W : World) : (binOp .eql 33 (.slice (some ⟨b, o, none⟩) n c) (.slice none 0 0)).run Try.prog W = .ok (.bool false) W := by kernel_rfl
theorem eqNil_yes (W : World) : (binOp .eql 33 (.slice none 0 0) (.slice none 0 0)).run Try.prog W = .ok (.bool true) W := by kernel_rfl
set_option maxRecDepth 100000 in
theorem clone_c (b o : Nat) (c : Nat) (fs : List FV) (w : World) (h : Sl encF 1 w (some ⟨b, o, none⟩) fs) (hl : fs.length < 1000000000) :
    Calls Try.prog 58 #[.slice (some ⟨b, o, none⟩) fs.length c] w fun e w' => ∃ v, e = .returned v ∧ Own encF 31 1 w' w.heap.size v fs ∧ Below w.heap.size w w' := by
  have H := Lib.hid h
  clear h
  go_enter Try.func58, Try.ntmps58
  have hq := eqNil_no b o fs.length c
  go_wp2_with (at_builtin; refine wpList_app rfl (.tmp 5) (.tmp 6) rfl uSlF infoF rfl (by decide) (by decide) okF (.slice (some ⟨w.heap.size, 0, none⟩) 0 0) [] rfl (base := w.heap.size) ?c1 (some ⟨b, o, none⟩) c fs rfl ?c2 ?c3 ?c4 ?_)
  case c1 => exact ⟨rfl, .inr ⟨_, 0, #[], rfl, Nat.le_refl _, heap_alloc_new _ _, Nat.le_refl _, by decide, rfl, rfl⟩⟩
  case c2 => exact H.out.later ((Below.refl _ _).alloc (Nat.le_refl _) _)
  case c3 => simp; omega
  case c4 => simp
  intro v1 w1 ho1 hg1 hat1
  have HO := Lib.hid ho1
  have HB := Lib.hid (((Below.refl w.heap.size w).alloc (Nat.le_refl _) (.cells #[] 31)).grown hg1 (by simp) (fun k hk => by simp [Value.ownBlock] at hk; omega))
  clear ho1 hg1 hat1
  go_wp2
  go_ret
  exact ⟨_, rfl, HO.out, HB.out⟩
set_option maxRecDepth 100000 in
theorem clone_nil_c (w : World) :
    Calls Try.prog 58 #[.slice none 0 0] w fun e w' => e = .returned (.slice none 0 0) ∧ w = w' := by
  have hq := eqNil_yes
  go_enter Try.func58, Try.ntmps58
  go_wp2
  go_ret
  exact ⟨rfl, rfl⟩
/-- Sources: each gives its list, from St k on to St (k + 1). -/
def Srcs (n₀ : Nat) (U : Nat → Prop) (St : Nat → World → Prop) (fs : List FV) (ls : List (List Ent)) : Prop :=
  fs.length = ls.length ∧ ∀ (k : Nat) (f : FV) (l : List Ent), fs[k]? = some f → ls[k]? = some l → IterUV Try.prog (valF f) encA n₀ U (St k) (fun _ => True) (St (k + 1)) l
/-- merge.Of: an iterator that holds a copy of the sources' row. -/
theorem of_c (n₀ : Nat) (U : Nat → Prop) (St : Nat → World → Prop) (A : Option Addr) (c : Nat) (fs : List FV) (ls : List (List Ent)) (w : World) (hs : Sl encF 1 w A fs) (hA : fs = [] → (A = none ∧ c = 0) ∨ ∃ b o, A = some ⟨b, o, none⟩) (hsrc : Srcs n₀ U St fs ls) (hn : n₀ ≤ w.heap.size)
    (hSt : ∀ k, Firm n₀ (St k)) (hU : ∀ k, U k → k < n₀) (htot : totL ls < 1000000000) (hln : ls.length < 1000000000) :
    Calls Try.prog 16 #[.slice A fs.length c] w fun e w' => ∃ f : FV, e = .returned (valF f) ∧ Below w.heap.size w w' ∧ ∃ HD : World → Prop, Firm w'.heap.size HD ∧ HD w' ∧ (∀ W W', HD W → Upd (fun k => U k ∨ w'.heap.size ≤ k) W W' → HD W') ∧
      IterUV Try.prog (valF f) encA w'.heap.size U (fun W => St 0 W ∧ HD W) (fun W => St ls.length W ∧ HD W) (fun W => St ls.length W ∧ HD W) (mergeL ls) := by
  have HSRC := Lib.hid hsrc
  have HST := Lib.hid hSt
  have HU := Lib.hid hU
  have HS := Lib.hid hs
  obtain ⟨W1, hW1⟩ : ∃ Z, w.alloc (.cells #[.slice A fs.length c] 33) = Z := ⟨_, rfl⟩
  have r1 : W1.heap[w.heap.size]? = some (.cells #[.slice A fs.length c] 33 (0, 0)) := by rw [← hW1]; exact heap_alloc_new _ _
  have hb1 : Below w.heap.size w W1 := by rw [← hW1]; exact (Below.refl _ _).alloc (Nat.le_refl _) _
  have HC := Lib.hid (show Calls Try.prog 58 #[.slice A fs.length c] W1 (fun e w' => ∃ v, e = .returned v ∧ Own encF 31 1 w' W1.heap.size v fs ∧ Below W1.heap.size W1 w') from by
    by_cases hf : (A = none ∧ c = 0) ∧ fs = []
    · obtain ⟨⟨rfl, rfl⟩, rfl⟩ := hf
      refine (clone_nil_c W1).mono ?_
      rintro e w' ⟨rfl, rfl⟩
      exact ⟨_, rfl, Own.nil _ _ _ _ _, Below.refl _ _⟩
    · obtain ⟨b, o, rfl⟩ : ∃ b o, A = some ⟨b, o, none⟩ := by
        rcases hs.2 with h | ⟨b, o, h, _⟩
        · rcases hA h with h2 | h2
          · exact absurd ⟨h2, h⟩ hf
          · exact h2
        · exact ⟨b, o, h⟩
      exact clone_c b o c fs W1 (hs.later hb1) (by rw [hsrc.1]; exact hln))
  have HR1 := Lib.hid r1
  have HB1 := Lib.hid hb1
  have c1 : W1.cell? ⟨w.heap.size, 0, none⟩ = some (.slice A fs.length c) := (blk_cell r1 0).trans rfl
  have HLEN := Lib.hid hsrc.1
  clear hsrc hSt hU hs hA r1 hb1
  go_enter Try.func16, Try.ntmps16
  go_wp2_with fail
  refine HC.out.mono ?_
  rintro _ w2 ⟨v, rfl, ho, hb2⟩
  obtain ⟨A2, c2, rfl⟩ := own_slice ho
  have hsz1 : w.heap.size < W1.heap.size := blk_lt HR1.out
  have r2 : w2.heap[w.heap.size]? = some (.cells #[.slice A fs.length c] 33 (0, 0)) := blk_below HR1.out hb2
  have f2 : w2.frozen? ⟨w.heap.size, 0, none⟩ = false := blk_frozen r2 0
  have d2 : w2.cell? ⟨w.heap.size, 0, none⟩ = some (.slice A fs.length c) := (blk_cell r2 0).trans rfl
  obtain ⟨W3, hW3⟩ : ∃ Z, w2.setCell ⟨w.heap.size, 0, none⟩ (.slice A2 fs.length c2) = Z := ⟨_, rfl⟩
  have r3 : W3.heap[w.heap.size]? = some (.cells #[.slice A2 fs.length c2] 33 (0, 0)) := by rw [← hW3]; exact blk_set r2 0 _
  have u3 : Upd (fun k => k = w.heap.size) w2 W3 := by rw [← hW3]; exact Upd.setCell _ _ _ rfl
  have hb3 : Below w.heap.size w W3 := (HB1.out.trans (hb2.mono (Nat.le_of_lt hsz1))).trans (u3.bel (fun k hk => by rw [hk]; exact Nat.le_refl _) (by have := hb2.size; omega))
  have hne : ∀ b o, A2 = some ⟨b, o, none⟩ → W1.heap.size ≤ b ∧ b < w2.heap.size := fun b o e => by
    subst e
    exact ho.block_lt rfl
  have hrow : Sl encV 1 W3 A2 (fs.map valF) := (sl_vals (own_sl ho (fun x => (okF x).1))).upd u3 (fun b o e h => by have := (hne b o e).1; omega)
  have HR3 := Lib.hid r3
  have HB3 := Lib.hid hb3
  have HROW := Lib.hid hrow
  have HNE := Lib.hid hne
  have HSZ := Lib.hid u3.size
  clear ho hb2 r2 r3 u3 hb3 hrow hne c1
  go_wp2
  go_ret
  have hsz3 := blk_lt HR3.out
  have hheld : ∀ W, Held W3.heap.size U w.heap.size A2 c2 (fs.map valF) W → Held W3.heap.size U w.heap.size A2 c2 (fs.map valF) W := fun W h => h
  refine ⟨(59, #[], #[.pointer (some ⟨w.heap.size, 0, none⟩)]), rfl, HB3.out, Held W3.heap.size U w.heap.size A2 c2 (fs.map valF), held_firm _ _ _ _ _ _, ?_, fun W W' h u => h.upd u (fun k hk => hk), ?_⟩
  · refine ⟨Nat.le_refl _, hsz3, fun h => by have := HU.out _ h; omega, by rw [List.length_map]; exact HR3.out, HROW.out, fun b o e => ?_⟩
    obtain ⟨h1, h2⟩ := HNE.out b o e
    refine ⟨Nat.lt_of_lt_of_le h2 HSZ.out, fun h => by have := HU.out _ h; omega⟩
  · refine ⟨_, _, _, rfl, enters_of Try.func59 (by kernel_rfl) rfl, fun W => ?_⟩
    refine of1_it W3.heap.size U St w.heap.size A2 c2 (fs.map valF) ls (by rw [List.length_map]; exact HLEN.out) (fun k f l hf hl => ?_) (fun k => (HST.out k).mono (Nat.le_trans hn HB3.out.size)) (fun k hk => Nat.lt_of_lt_of_le (HU.out k hk) (Nat.le_trans hn HB3.out.size)) htot hln W
    rw [List.getElem?_map] at hf
    cases hy : fs[k]? with
    | none => rw [hy] at hf; cases hf
    | some y =>
      rw [hy] at hf
      injection hf with hf
      subst hf
      exact (HSRC.out.2 k y l hy hl).mono (Nat.le_trans hn HB3.out.size) (fun k h => h) (fun W h => h) (fun W h => h) (fun W h => h)
end Go.Proofs.Ytdpijhpjicbecaa.H
