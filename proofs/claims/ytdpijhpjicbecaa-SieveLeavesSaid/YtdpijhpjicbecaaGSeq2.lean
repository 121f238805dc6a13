/- screelaw11's seqs, sources. Conditions: sizes. -/
import Derived.Test.YtdpijhpjicbecaaGSeq
import Derived.Test.YtdpijhpjicbecaaGRun
namespace Go.Proofs.Ytdpijhpjicbecaa.H
open Go Go.RowKit Go.Deep Go.Shelf Go.Proofs Go.Proofs.YtdpijhpjicbecaaW.PrintWords
set_option linter.unusedVariables false
set_option linter.unusedSimpArgs false
attribute [local go_sem] Oper.semAt_some
def encSr (s : Src) : List Value := [.pointer (some ⟨s.p, 0, none⟩)]
theorem okS' : EncOk encSr 1 := fun x => ⟨rfl, by simp [encSr, Value.oneCell']⟩
theorem infoS : (Try.prog.info? 40).map (fun i => (i.zero, i.size, i.bytes)) = some (some (.pointer none), 1, 8) := by kernel_rfl
theorem uSlS : Try.prog.underlying 24 = some (.slice 40) := Try.underlying24
/-- The source's method value. -/
def fvS (s : Src) : FV := (26, #[.pointer (some ⟨s.p, 0, none⟩)], #[])
/-- The sources' blocks, and their lists'. -/
def SX (X : List Src) (k : Nat) : Prop := ∃ s ∈ X, s.p = k ∨ (s.l ≠ [] ∧ ∃ o, s.A = some ⟨k, o, none⟩)
/-- Sources and lists, made so far. -/
structure SrcMade (w : World) (n : Nat) (v4 v5 : Value) (X : List Src) (L2 : List HE) : Prop where
  own4 : Own encSr 40 1 w n v4 X
  made5 : MadeE w n v5 L2
  src : SrcsE w.heap.size X (fun _ => (0, 0)) w
  low : ∀ s ∈ X, n ≤ s.p
  nod : NoDup X
  d4 : ∀ k, v4.ownBlock = some k → ¬ SX X k ∧ v5.ownBlock ≠ some k ∧ ∀ h ∈ L2, ∀ o, h.1 ≠ some ⟨k, o, none⟩
  d5 : ∀ k, v5.ownBlock = some k → ¬ SX X k
  d6 : ∀ h ∈ L2, ∀ k o, h.1 = some ⟨k, o, none⟩ → ¬ SX X k
theorem snoc_at {α : Type} {X : List α} {s t : α} {j : Nat} (h : (X ++ [s])[j]? = some t) : X[j]? = some t ∨ (j = X.length ∧ t = s) := by
  by_cases hj : j < X.length
  · rw [List.getElem?_append_left hj] at h
    exact .inl h
  · rw [List.getElem?_append_right (by omega)] at h
    cases hd : j - X.length with
    | zero => rw [hd] at h; simp at h; exact .inr ⟨by omega, h.symm⟩
    | succ n => rw [hd] at h; simp at h
theorem SX_snoc {X : List Src} {s : Src} {k : Nat} (h : SX (X ++ [s]) k) : SX X k ∨ s.p = k ∨ (s.l ≠ [] ∧ ∃ o, s.A = some ⟨k, o, none⟩) := by
  obtain ⟨t, ht, h⟩ := h
  rcases List.mem_append.1 ht with ht | ht
  · exact .inl ⟨t, ht, h⟩
  · rw [List.mem_singleton.1 ht] at h
    exact .inr h
theorem SrcMade.nil (w : World) (n : Nat) : SrcMade w n (.slice none 0 0) (.slice none 0 0) [] [] :=
  ⟨Own.nil _ _ _ _ _, MadeE.nil _ _, (fun k s h => by simp at h), (fun s h => by simp at h), (fun i j s t h => by simp at h), (fun k h => by simp [Value.ownBlock] at h), (fun k h => by simp [Value.ownBlock] at h), (fun h hh => by simp at hh)⟩
theorem SrcMade.lt {w : World} {n : Nat} {v4 v5 : Value} {X : List Src} {L2 : List HE} (h : SrcMade w n v4 v5 X L2) {k : Nat} (hk : SX X k) : k < w.heap.size := by
  obtain ⟨s, hs, hk⟩ := hk
  obtain ⟨j, hj⟩ := List.getElem?_of_mem hs
  obtain ⟨h1, h2, h3, h4⟩ := h.src j s hj
  rcases hk with rfl | ⟨hl, o, e⟩
  · exact h3
  · exact (h4 hl k o e).1
theorem SrcMade.later {w w' : World} {n : Nat} {v4 v5 : Value} {X : List Src} {L2 : List HE} (h : SrcMade w n v4 v5 X L2) (hb : Below w.heap.size w w') : SrcMade w' n v4 v5 X L2 :=
  ⟨h.own4.below hb, h.made5.later hb, (h.src.upd (Upd.of_below (S := fun _ => False) hb) (fun k h => h.elim)).mono hb.size, h.low, h.nod, h.d4, h.d5, h.d6⟩
theorem SrcMade.addS {w w1 w' : World} {n : Nat} {v4 v4' v5 : Value} {X : List Src} {L2 : List HE} (h : SrcMade w n v4 v5 X L2) (hb : Below w.heap.size w w1) (hn : n ≤ w.heap.size) (s : Src) (hs : w1.heap[s.p]? = some (.cells #[.slice s.A s.l.length s.c, .int .i64 0, .int .i64 0] 39 (0, 0)))
    (hsl : Sl encE 4 w1 s.A s.l) (hp : w.heap.size ≤ s.p) (hA : s.l ≠ [] → ∀ b o, s.A = some ⟨b, o, none⟩ → (w.heap.size ≤ b ∧ b < w1.heap.size ∧ b ≠ s.p) ∨ b < n) (ho : Own encSr 40 1 w' n v4' (X ++ [s])) (hg : w1.grownBy w' v4.ownBlock) (hat : v4'.ownBlock = v4.ownBlock ∨ v4'.ownBlock = some w1.heap.size) : SrcMade w' n v4' v5 (X ++ [s]) L2 := by
  have u : Upd (fun k => v4.ownBlock = some k) w1 w' := Upd.of_grown hg (fun k hk => hk)
  have h1 := h.later hb
  have hps := blk_lt hs
  have hl4 : ∀ k, v4.ownBlock = some k → n ≤ k ∧ k < w.heap.size := fun k hk => h.own4.block_lt hk
  have hl5 : ∀ k, v5.ownBlock = some k → n ≤ k ∧ k < w.heap.size := fun k hk => h.made5.own.block_lt hk
  have hbs := hb.size
  have hnew : ∀ k, (s.p = k ∨ (s.l ≠ [] ∧ ∃ o, s.A = some ⟨k, o, none⟩)) → (w.heap.size ≤ k ∧ k < w1.heap.size) ∨ k < n := fun k hk => by
    rcases hk with rfl | ⟨hl, o, e⟩
    · exact .inl ⟨hp, hps⟩
    · rcases hA hl k o e with h | h
      · exact .inl ⟨h.1, h.2.1⟩
      · exact .inr h
  have hv4 : ∀ k, v4'.ownBlock = some k → v4.ownBlock = some k ∨ k = w1.heap.size := fun k hk => by
    rcases hat with e | e
    · exact .inl (by rw [← e]; exact hk)
    · rw [e] at hk; injection hk with hk; exact .inr hk.symm
  refine ⟨ho, ?_, ?_, fun k hk => ?_, ?_, fun k hk => ⟨fun hx => ?_, fun h5 => ?_, fun x hx o e => ?_⟩, fun k hk hx => ?_, fun y hy k o e hx => ?_⟩
  · refine h1.made5.same (T := fun k => (v5.ownBlock = some k ∨ ∃ h ∈ L2, ∃ o, h.1 = some ⟨k, o, none⟩)) (u.same fun k hk => ⟨?_, fun e => ?_⟩) (fun k hk => hk)
    · rcases hk with hk | ⟨x, hx, o, e⟩
      · exact (h1.made5.own.block_lt hk).2
      · exact (h1.made5.far x hx k o e).2.1
    · rcases hk with hk | ⟨x, hx, o, e2⟩
      · exact (h.d4 k e).2.1 hk
      · exact (h.d4 k e).2.2 x hx o e2
  · intro j t hj
    have hin : ∀ b, InU (X ++ [s]) b → InU X b ∨ b = s.p := fun b hb => by
      obtain ⟨i, t2, h2, e⟩ := hb
      rcases snoc_at h2 with h2 | ⟨_, rfl⟩
      · exact .inl ⟨i, t2, h2, e⟩
      · exact .inr e.symm
    rcases snoc_at hj with hj | ⟨hj, rfl⟩
    · obtain ⟨a1, a2, a3, a4⟩ := h1.src j t hj
      have hm : SX X t.p := ⟨t, List.mem_of_getElem? hj, .inl rfl⟩
      refine ⟨u.heap a1 (fun e => (h.d4 _ e).1 hm), a2.upd2 u (fun hl b o e hx => (h.d4 b hx).1 ⟨t, List.mem_of_getElem? hj, .inr ⟨hl, o, e⟩⟩), Nat.lt_of_lt_of_le a3 u.size, fun hl b o e => ⟨Nat.lt_of_lt_of_le (a4 hl b o e).1 u.size, fun hx => ?_⟩⟩
      rcases hin b hx with hx | hx
      · exact (a4 hl b o e).2 hx
      · have := h.lt (k := b) ⟨t, List.mem_of_getElem? hj, .inr ⟨hl, o, e⟩⟩
        omega
    · refine ⟨u.heap hs (fun e => by have := hl4 _ e; omega), hsl.upd2 u (fun hl b o e hx => by have := hl4 _ hx; have := hA hl b o e; omega), Nat.lt_of_lt_of_le hps u.size, fun hl b o e => ⟨by have := hA hl b o e; have := u.size; omega, fun hx => ?_⟩⟩
      rcases hin b hx with ⟨i, t2, h2, e2⟩ | hx
      · have := h.lt (k := b) ⟨t2, List.mem_of_getElem? h2, .inl e2⟩
        have := h.low t2 (List.mem_of_getElem? h2)
        have := hA hl b o e
        omega
      · have := hA hl b o e
        omega
  · rcases List.mem_append.1 hk with hk | hk
    · exact h.low k hk
    · rw [List.mem_singleton.1 hk]; omega
  · intro i j a b hi hj e
    rcases snoc_at hi with m1 | ⟨m1, e1⟩ <;> rcases snoc_at hj with m2 | ⟨m2, e2⟩
    · exact h.nod i j a b m1 m2 e
    · have := h.lt (k := a.p) ⟨a, List.mem_of_getElem? m1, .inl rfl⟩
      rw [e2] at e
      omega
    · have := h.lt (k := b.p) ⟨b, List.mem_of_getElem? m2, .inl rfl⟩
      rw [e1] at e
      omega
    · omega
  · rcases SX_snoc hx with hx | hx
    · rcases hv4 k hk with e | e
      · exact (h.d4 k e).1 hx
      · have := h.lt hx; have := hb.size; omega
    · rcases hv4 k hk with e | e
      · have := hl4 k e; have := hnew k hx; omega
      · have := hnew k hx; omega
  · rcases hv4 k hk with e | e
    · exact (h.d4 k e).2.1 h5
    · have := hl5 k h5; have := hb.size; omega
  · rcases hv4 k hk with e2 | e2
    · exact (h.d4 k e2).2.2 x hx o e
    · have := (h.made5.far x hx k o e).2.1; have := hb.size; omega
  · rcases SX_snoc hx with hx | hx
    · exact h.d5 k hk hx
    · have := hl5 k hk; have := hnew k hx; omega
  · have hfar := h.made5.far y hy k o e
    rcases SX_snoc hx with hx | hx
    · exact h.d6 y hy k o e hx
    · have := hnew k hx; omega
theorem SrcMade.addL {w w1 w' : World} {n : Nat} {v4 v5 v5' : Value} {X : List Src} {L2 : List HE} (h : SrcMade w n v4 v5 X L2) (hb : Below w.heap.size w w1) (hn : n ≤ w.heap.size) (x : HE) (hsl : Sl encE 4 w1 x.1 x.2.2) (hA : ∀ b o, x.1 = some ⟨b, o, none⟩ → w.heap.size ≤ b ∧ b < w1.heap.size)
    (ho : Own encHE 27 1 w' n v5' (L2 ++ [x])) (hg : w1.grownBy w' v5.ownBlock) (hat : v5'.ownBlock = v5.ownBlock ∨ v5'.ownBlock = some w1.heap.size) : SrcMade w' n v4 v5' X (L2 ++ [x]) := by
  have u : Upd (fun k => v5.ownBlock = some k) w1 w' := Upd.of_grown hg (fun k hk => hk)
  have h1 := h.later hb
  have hl4 : ∀ k, v4.ownBlock = some k → k < w.heap.size := fun k hk => (h.own4.block_lt hk).2
  have hl5 : ∀ k, v5.ownBlock = some k → k < w.heap.size := fun k hk => (h.made5.own.block_lt hk).2
  have hv5 : ∀ k, v5'.ownBlock = some k → v5.ownBlock = some k ∨ k = w1.heap.size := fun k hk => by
    rcases hat with e | e
    · exact .inl (by rw [← e]; exact hk)
    · rw [e] at hk; injection hk with hk; exact .inr hk.symm
  refine ⟨h1.own4.upd u (fun k hk e => (h.d4 k hk).2.1 e), h1.made5.snoc hsl (fun b o e => ⟨by have := (hA b o e).1; omega, (hA b o e).2, fun e2 => by have := hl5 b e2; have := (hA b o e).1; omega⟩) ho hg (hat.imp id (fun e => ⟨_, e, Nat.le_refl _⟩)), ?_, h.low, h.nod, fun k hk => ⟨(h.d4 k hk).1, fun e => ?_, fun y hy o e => ?_⟩, fun k hk hx => ?_, fun y hy k o e hx => ?_⟩
  · intro j t hj
    obtain ⟨a1, a2, a3, a4⟩ := h1.src j t hj
    exact ⟨u.heap a1 (fun e => h.d5 _ e ⟨t, List.mem_of_getElem? hj, .inl rfl⟩), a2.upd2 u (fun hl b o e hx => h.d5 b hx ⟨t, List.mem_of_getElem? hj, .inr ⟨hl, o, e⟩⟩), Nat.lt_of_lt_of_le a3 u.size, fun hl b o e => ⟨Nat.lt_of_lt_of_le (a4 hl b o e).1 u.size, (a4 hl b o e).2⟩⟩
  · rcases hv5 k e with e | e
    · exact (h.d4 k hk).2.1 e
    · have := hl4 k hk; have := hb.size; omega
  · rcases List.mem_append.1 hy with hy | hy
    · exact (h.d4 k hk).2.2 y hy o e
    · rw [List.mem_singleton.1 hy] at e
      have := (hA k o e).1
      have := hl4 k hk
      omega
  · rcases hv5 k hk with e | e
    · exact h.d5 k e hx
    · have := h.lt hx; have := hb.size; omega
  · rcases List.mem_append.1 hy with hy | hy
    · exact h.d6 y hy k o e hx
    · rw [List.mem_singleton.1 hy] at e
      have := (hA k o e).1
      have := h.lt hx
      omega
set_option maxHeartbeats 1600000 in
set_option maxRecDepth 100000 in
theorem seqs_c (A : Option Addr) (c : Nat) (X : List Src) (w : World) (hs : Sl encSr 1 w A X) (hl : X.length < 1000000000) :
    Calls Try.prog 17 #[.slice A X.length c] w fun e w' => ∃ v, e = .returned v ∧ Own encF 31 1 w' w.heap.size v (X.map fvS) ∧ Below w.heap.size w w' := by
  have hm := hs.1
  have HS := Lib.hid hs
  clear hs
  obtain ⟨n, hn⟩ : ∃ n, X.length = n := ⟨_, rfl⟩
  rw [hn] at hm hl ⊢
  have HN := Lib.hid hn
  clear hn
  go_enter Try.func17, Try.ntmps17
  go_wp2_with fail
  go_loopw [3, 4] (fun s3 s4 wr => ∃ k : Nat, s4 = .int .i64 k ∧ k ≤ n ∧ Own encF 31 1 wr w.heap.size s3 ((X.take k).map fvS) ∧ Below w.heap.size w wr) (fun s3 s4 wr => n - (intOf s4).toNat)
  case atStart => exact ⟨0, rfl, by omega, Own.nil _ _ _ _ _, Below.refl _ _⟩
  case round =>
    obtain ⟨k, rfl, hk, ho, hb⟩ := hrel
    obtain ⟨A1, c1, rfl⟩ := own_slice ho
    have hll : ((X.take k).map fvS).length = k := by rw [List.length_map, List.length_take, HN.out]; omega
    rw [hll] at ho ⊢
    have HO := Lib.hid ho
    have HB := Lib.hid hb
    have HLL := Lib.hid hll
    clear ho hb hll
    generalize wr = W5 at *
    by_cases hlt : k < n
    · obtain ⟨x, hx⟩ := getElem?_of_lt (l := X) (by rw [HN.out]; exact hlt : k < X.length)
      obtain ⟨b2, o2, hB2, hb2, hc2⟩ := (HS.out.later HB.out).at hx
      subst hB2
      have y0 : W5.cell? ⟨b2, o2 + k, none⟩ = some (.pointer (some ⟨x.p, 0, none⟩)) := by simpa using hc2 0 _ rfl
      have HX := Lib.hid hx
      clear hc2 hx
      have i1 : (0 : Int) ≤ k := by omega
      have i2 : (k : Int) < n := by omega
      go_wp2_with (at_builtin; refine wpList_app rfl (.tmp 11) (.tmp 17) rfl uSlF infoF rfl (by decide) (by decide) okF (.slice A1 k c1) ((X.take k).map fvS) rfl (base := w.heap.size) ?c1 (some ⟨W5.heap.size, 0, none⟩) 1 [fvS x] rfl ?c2 ?c3 ?c4 ?_)
      case c1 => exact HO.out.below ((Below.refl _ _).alloc (Nat.le_refl _) _)
      case c2 => exact Sl.one okF W5 (fvS x) 31 rfl
      case c3 => have := HLL.out; simp only [this, List.length_cons, List.length_nil]; omega
      case c4 => have := HB.out.size; simp; omega
      intro v1 w1 ho1 hg1 hat1
      have HBN := Lib.hid ((HB.out.alloc HB.out.size (.cells #[.func (.func 26) #[.pointer (some ⟨x.p, 0, none⟩)] #[]] 31)).grown hg1 (by have := HB.out.size; simp; omega) (fun k hk => (HO.out.block_lt hk).1))
      have HON := Lib.hid (show Own encF 31 1 w1 w.heap.size v1 ((X.take (k + 1)).map fvS) from by rw [take_suc HX.out, List.map_append]; first | exact ho1 | (rw [List.map_take]; exact ho1))
      clear ho1 hg1 hat1
      go_wp2
      go_roundw
      case rel => exact ⟨k + 1, by first | rfl | simp, by omega, HON.out, HBN.out⟩
      case measure => simp [intOf]; omega
    · have hk2 : n = k := by omega
      subst hk2
      have HE := Lib.hid (show X.take n = X from List.take_of_length_le (by rw [HN.out]; exact Nat.le_refl _))
      rw [HE.out] at HO
      go_wp2
      go_ret
      exact ⟨_, rfl, HO.out, HB.out⟩
end Go.Proofs.Ytdpijhpjicbecaa.H
