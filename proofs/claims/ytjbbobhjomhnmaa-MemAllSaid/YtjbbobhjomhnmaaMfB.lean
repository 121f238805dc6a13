/- MemAll: both pairs and the iterators that were kept. No conditions but sizes. -/
import Derived.Test.YtjbbobhjomhnmaaMfA
namespace Go.Proofs.Ytjbbobhjomhnmaa.H
open Go Go.RowKit Go.Deep Go.Shelf Go.Proofs Go.Proofs.YtjbbobhjomhnmaaW.PrintWords
set_option linter.unusedVariables false
set_option linter.unusedSimpArgs false
/-- One side: a memtable of the program and the document's. -/
structure Sd where
  t : Nat
  g : Nat
  m : Nat
  r : Nat
  S : Nat → Prop
  R : Nat → Prop
  M : MemV
abbrev Bk (s : Sd) (k : Nat) : Prop := (s.S k ∨ k = s.t) ∨ (s.R k ∨ k = s.m)
abbrev PairS (w : World) (d : List Int) (s : Sd) : Prop := Pair6 w s.t s.g s.m s.r s.S s.R d s.M
structure AllIs6 (w0 W : World) (a b : Sd) (da db : List Int) (kv : Value) (ks : List KL6) (T0 : Nat → Prop) : Prop where
  pa : PairS W da a
  pb : PairS W db b
  far : ∀ k, Bk a k → ¬ Bk b k
  row : Own (encL6 a.t a.m b.t b.m) 112 9 W w0.heap.size kv ks
  kept : ∀ x ∈ ks, KeptAt6 W x.b x.wh (pick2 x.sec a.t b.t) (pick2 x.sec a.g b.g) x.o.key x.o.at_ ∧ x.wh = decide (x.o.kd = 10)
  kfar : ∀ x ∈ ks, ∀ k, (k = x.b ∨ k = x.b + 1 ∨ k = x.b + 1 + 1) → k < W.heap.size ∧ ¬ (Bk a k ∨ Bk b k) ∧ kv.ownBlock ≠ some k
  rfar : ∀ k, kv.ownBlock = some k → ¬ (Bk a k ∨ Bk b k)
  low : ∀ k, (Bk a k ∨ Bk b k) → T0 k ∨ w0.heap.size ≤ k
  upd : Upd T0 w0 W
section
variable {w0 W W' : World} {a b : Sd} {S' R' : Nat → Prop} {M' : MemV} {da db : List Int} {kv kv' : Value} {ks : List KL6} {T0 : Nat → Prop}
theorem AllIs6.lt (h : AllIs6 w0 W a b da db kv ks T0) : ∀ k, (Bk a k ∨ Bk b k) → k < W.heap.size := fun k hk => by
  rcases hk with hk | hk
  · exact h.pa.lt k hk
  · exact h.pb.lt k hk
theorem AllIs6.later (h : AllIs6 w0 W a b da db kv ks T0) (hb : Below W.heap.size W W') : AllIs6 w0 W' a b da db kv ks T0 :=
  ⟨h.pa.later hb, h.pb.later hb, h.far, h.row.below hb, fun x hx => ⟨(h.kept x hx).1.later hb, (h.kept x hx).2⟩, fun x hx k hk => ⟨Nat.lt_of_lt_of_le (h.kfar x hx k hk).1 hb.size, (h.kfar x hx k hk).2⟩, h.rfar, h.low, h.upd.trans (Upd.of_below hb)⟩
theorem Bk.grow {s : Sd} {S' R' : Nat → Prop} {M' : MemV} (hS : Grow s.S S' W) (hR : Grow s.R R' W) {k : Nat} (hk : Bk { s with S := S', R := R', M := M' } k) : Bk s k ∨ W.heap.size ≤ k := by
  rcases hk with (hk | hk) | (hk | hk)
  · exact (hS k hk).imp (fun h => .inl (.inl h)) id
  · exact .inl (.inl (.inr hk))
  · exact (hR k hk).imp (fun h => .inr (.inl h)) id
  · exact .inl (.inr (.inr hk))
/-- The first plays. -/
theorem AllIs6.playA (h : AllIs6 w0 W a b da db kv ks T0) (hu : Upd (Bk a) W W') (hS : Grow a.S S' W) (hR : Grow a.R R' W) (hp : PairS W' da { a with S := S', R := R', M := M' }) : AllIs6 w0 W' { a with S := S', R := R', M := M' } b da db kv ks T0 := by
  have gr : ∀ k, Bk { a with S := S', R := R', M := M' } k → Bk a k ∨ W.heap.size ≤ k := fun k hk => Bk.grow hS hR hk
  refine ⟨hp, h.pb.upd hu (fun k hk hn => h.far k hn hk), fun k hk hn => ?_, h.row.upd hu (fun k hk hn => h.rfar k hk (.inl hn)), fun x hx => ⟨(h.kept x hx).1.upd hu ⟨fun hn => (h.kfar x hx _ (.inl rfl)).2.1 (.inl hn), fun hn => (h.kfar x hx _ (.inr (.inl rfl))).2.1 (.inl hn), fun hn => (h.kfar x hx _ (.inr (.inr rfl))).2.1 (.inl hn)⟩, (h.kept x hx).2⟩, fun x hx k hk => ?_, fun k hk hn => ?_, fun k hk => ?_, h.upd.step hu (fun k hk => h.low k (.inl hk))⟩
  · rcases gr k hk with h1 | h1
    · exact h.far k h1 hn
    · have := h.lt k (.inr hn); omega
  · obtain ⟨k1, k2, k3⟩ := h.kfar x hx k hk
    refine ⟨Nat.lt_of_lt_of_le k1 hu.size, fun hn => ?_, k3⟩
    rcases hn with hn | hn
    · rcases gr k hn with h1 | h1
      · exact k2 (.inl h1)
      · omega
    · exact k2 (.inr hn)
  · rcases hn with hn | hn
    · rcases gr k hn with h1 | h1
      · exact h.rfar k hk (.inl h1)
      · have := (h.row.block_lt hk).2; omega
    · exact h.rfar k hk (.inr hn)
  · rcases hk with hk | hk
    · rcases gr k hk with h1 | h1
      · exact h.low k (.inl h1)
      · have := h.upd.size; exact .inr (by omega)
    · exact h.low k (.inr hk)
/-- The second plays. -/
theorem AllIs6.playB (h : AllIs6 w0 W a b da db kv ks T0) (hu : Upd (Bk b) W W') (hS : Grow b.S S' W) (hR : Grow b.R R' W) (hp : PairS W' db { b with S := S', R := R', M := M' }) : AllIs6 w0 W' a { b with S := S', R := R', M := M' } da db kv ks T0 := by
  have gr : ∀ k, Bk { b with S := S', R := R', M := M' } k → Bk b k ∨ W.heap.size ≤ k := fun k hk => Bk.grow hS hR hk
  refine ⟨h.pa.upd hu (fun k hk hn => h.far k hk hn), hp, fun k hk hn => ?_, h.row.upd hu (fun k hk hn => h.rfar k hk (.inr hn)), fun x hx => ⟨(h.kept x hx).1.upd hu ⟨fun hn => (h.kfar x hx _ (.inl rfl)).2.1 (.inr hn), fun hn => (h.kfar x hx _ (.inr (.inl rfl))).2.1 (.inr hn), fun hn => (h.kfar x hx _ (.inr (.inr rfl))).2.1 (.inr hn)⟩, (h.kept x hx).2⟩, fun x hx k hk => ?_, fun k hk hn => ?_, fun k hk => ?_, h.upd.step hu (fun k hk => h.low k (.inr hk))⟩
  · rcases gr k hn with h1 | h1
    · exact h.far k hk h1
    · have := h.lt k (.inl hk); omega
  · obtain ⟨k1, k2, k3⟩ := h.kfar x hx k hk
    refine ⟨Nat.lt_of_lt_of_le k1 hu.size, fun hn => ?_, k3⟩
    rcases hn with hn | hn
    · exact k2 (.inl hn)
    · rcases gr k hn with h1 | h1
      · exact k2 (.inr h1)
      · omega
  · rcases hn with hn | hn
    · exact h.rfar k hk (.inl hn)
    · rcases gr k hn with h1 | h1
      · exact h.rfar k hk (.inr h1)
      · have := (h.row.block_lt hk).2; omega
  · rcases hk with hk | hk
    · exact h.low k (.inl hk)
    · rcases gr k hk with h1 | h1
      · exact h.low k (.inr h1)
      · have := h.upd.size; exact .inr (by omega)
/-- One more is kept. -/
theorem AllIs6.keep (h : AllIs6 w0 W a b da db kv ks T0) (x : KL6) (hx : KeptAt6 W x.b x.wh (pick2 x.sec a.t b.t) (pick2 x.sec a.g b.g) x.o.key x.o.at_ ∧ x.wh = decide (x.o.kd = 10)) (hxf : ∀ k, (k = x.b ∨ k = x.b + 1 ∨ k = x.b + 1 + 1) → k < W.heap.size ∧ ¬ (Bk a k ∨ Bk b k) ∧ kv.ownBlock ≠ some k)
    (ho : Own (encL6 a.t a.m b.t b.m) 112 9 W' w0.heap.size kv' (ks ++ [x])) (hg : W.grownBy W' kv.ownBlock) (ha : kv'.ownBlock = kv.ownBlock ∨ ∃ k, kv'.ownBlock = some k ∧ W.heap.size ≤ k) : AllIs6 w0 W' a b da db kv' (ks ++ [x]) T0 := by
  have hu : Upd (fun k => kv.ownBlock = some k) W W' := Upd.of_grown hg (fun k e => e)
  have key : ∀ y ∈ ks ++ [x], (KeptAt6 W y.b y.wh (pick2 y.sec a.t b.t) (pick2 y.sec a.g b.g) y.o.key y.o.at_ ∧ y.wh = decide (y.o.kd = 10)) ∧ ∀ k, (k = y.b ∨ k = y.b + 1 ∨ k = y.b + 1 + 1) → k < W.heap.size ∧ ¬ (Bk a k ∨ Bk b k) ∧ kv.ownBlock ≠ some k := fun y hy => by
    rcases List.mem_append.1 hy with hy | hy
    · exact ⟨h.kept y hy, h.kfar y hy⟩
    · rw [List.mem_singleton.1 hy]; exact ⟨hx, hxf⟩
  refine ⟨h.pa.upd hu (fun k hk hn => h.rfar k hn (.inl hk)), h.pb.upd hu (fun k hk hn => h.rfar k hn (.inr hk)), h.far, ho, fun y hy => ⟨(key y hy).1.1.upd hu ⟨((key y hy).2 _ (.inl rfl)).2.2, ((key y hy).2 _ (.inr (.inl rfl))).2.2, ((key y hy).2 _ (.inr (.inr rfl))).2.2⟩, (key y hy).1.2⟩, fun y hy k hk => ?_, fun k hk hn => ?_, h.low, h.upd.step hu (fun k hk => .inr (h.row.block_lt hk).1)⟩
  · obtain ⟨k1, k2, k3⟩ := (key y hy).2 k hk
    refine ⟨Nat.lt_of_lt_of_le k1 hu.size, k2, fun e => ?_⟩
    rcases ha with ha | ⟨j, ha, hj⟩
    · rw [ha] at e; exact k3 e
    · rw [ha] at e
      injection e with e
      omega
  · rcases ha with ha | ⟨j, ha, hj⟩
    · rw [ha] at hk; exact h.rfar k hk hn
    · rw [ha] at hk
      injection hk with hk
      have := h.lt k hn
      omega
theorem plays_all (h : AllIs6 w0 W a b da db kv ks T0) (o : Op6) (hs : Sl encW 3 W o.A o.L) (hA : o.L ≠ [] → ∀ b' p, o.A = some ⟨b', p, none⟩ → ¬ (Bk a b' ∨ Bk b b')) (hok : ∀ x ∈ o.L, x.1.size ≤ 140737488351232 ∧ x.2.2.size ≤ 140737488351232) (hat : 0 ≤ o.at_ ∧ o.at_ ≤ 18446744073709551615)
    (la : a.M.L.length ≤ 50000) (lb : b.M.L.length ≤ 50000) (hL : o.L.length ≤ 50000) :
    Calls Try.prog 48 #[.agg #[.pointer (some ⟨pick2 o.sec a.t b.t, 0, none⟩), .pointer (some ⟨pick2 o.sec a.m b.m, 0, none⟩)], .agg (encO6 o).toArray] W fun en w' => en = .returned (.bool true) ∧ Upd (fun k => Bk a k ∨ Bk b k) W w' ∧
      ∃ S1 R1 M1 S2 R2 M2, AllIs6 w0 w' { a with S := S1, R := R1, M := M1 } { b with S := S2, R := R2, M := M2 } da db kv ks T0 ∧ M1.L.length ≤ a.M.L.length + o.L.length ∧ M2.L.length ≤ b.M.L.length + o.L.length := by
  cases hsec : o.sec with
  | false =>
    have hp := plays6_c h.pa o.kd o.sec o.at_ o.key o.A o.c o.L o.n hs (fun hne b' p e hn => hA hne b' p e (.inl hn)) hok hat la hL
    refine (show Calls Try.prog 48 #[.agg #[.pointer (some ⟨a.t, 0, none⟩), .pointer (some ⟨a.m, 0, none⟩)], .agg (encO6 o).toArray] W _ from hp).mono fun en w' ⟨he, hu, S', R', M', hg1, hg2, hp2, hlen⟩ => ⟨he, hu.mono (fun k hk => .inl hk), S', R', M', b.S, b.R, b.M, h.playA hu hg1 hg2 hp2, hlen, by omega⟩
  | true =>
    have hp := plays6_c h.pb o.kd o.sec o.at_ o.key o.A o.c o.L o.n hs (fun hne b' p e hn => hA hne b' p e (.inr hn)) hok hat lb hL
    refine (show Calls Try.prog 48 #[.agg #[.pointer (some ⟨b.t, 0, none⟩), .pointer (some ⟨b.m, 0, none⟩)], .agg (encO6 o).toArray] W _ from hp).mono fun en w' ⟨he, hu, S', R', M', hg1, hg2, hp2, hlen⟩ => ⟨he, hu.mono (fun k hk => .inr hk), a.S, a.R, a.M, S', R', M', h.playB hu hg1 hg2 hp2, by omega, hlen⟩
theorem keeps_all (h : AllIs6 w0 W a b da db kv ks T0) (o : Op6) (hks : ks.length ≤ 20000) :
    Calls Try.prog 49 #[.agg #[.pointer (some ⟨pick2 o.sec a.t b.t, 0, none⟩), .pointer (some ⟨pick2 o.sec a.m b.m, 0, none⟩)], .agg (encO6 o).toArray, kv] W fun e w' => ∃ v' ks', e = .returned v' ∧ AllIs6 w0 w' a b da db v' ks' T0 ∧ ks'.length ≤ ks.length + 1 ∧ Upd (fun k => kv.ownBlock = some k) W w' := by
  have fin : ∀ {t g m : Nat} (sec : Bool), t = pick2 sec a.t b.t → g = pick2 sec a.g b.g → m = pick2 sec a.m b.m → ∀ (e : Ending) (w' : World), (∃ v', e = .returned v' ∧ ((o.kd ≠ 9 ∧ o.kd ≠ 10 ∧ v' = kv ∧ Below W.heap.size W w') ∨
      ∃ b1 W1, Below W.heap.size W W1 ∧ W.heap.size ≤ b1 ∧ KeptAt6 W1 b1 (decide (o.kd = 10)) t g o.key o.at_ ∧ Own (encL6 a.t a.m b.t b.m) 112 9 w' w0.heap.size v' (ks ++ [⟨b1, decide (o.kd = 10), sec, o⟩]) ∧ W1.grownBy w' kv.ownBlock ∧ (v'.ownBlock = kv.ownBlock ∨ ∃ k, v'.ownBlock = some k ∧ W1.heap.size ≤ k))) →
      ∃ v' ks', e = .returned v' ∧ AllIs6 w0 w' a b da db v' ks' T0 ∧ ks'.length ≤ ks.length + 1 ∧ Upd (fun k => kv.ownBlock = some k) W w' := fun {t g m} sec ht hg hm e w' hh => by
    obtain ⟨v', he, ⟨_, _, rfl, hb⟩ | ⟨b1, W1, hb, hge, hka, ho, hgr, ha⟩⟩ := hh
    · exact ⟨v', ks, he, h.later hb, by omega, Upd.of_below hb⟩
    · have h1 := h.later hb
      refine ⟨v', _, he, h1.keep ⟨b1, decide (o.kd = 10), sec, o⟩ ⟨by rw [← ht, ← hg]; exact hka, rfl⟩ (fun k hk => ?_) ho hgr ha, by simp, (Upd.of_below hb).trans (Upd.of_grown hgr (fun k e => e))⟩
      have hlt := hka.lt
      have hge2 : W.heap.size ≤ k := by rcases hk with rfl | rfl | rfl <;> (try simp only) <;> omega
      refine ⟨by rcases hk with rfl | rfl | rfl <;> (try simp only) <;> omega, fun hn => ?_, fun hn => ?_⟩
      · have := h.lt k hn; omega
      · have := (h.row.block_lt hn).2; omega
  cases hsec : o.sec with
  | false => exact (keeps6_c h.pa o a.t a.m b.t b.m false ⟨rfl, rfl⟩ w0.heap.size kv ks h.row h.upd.size hks).mono fun e w' hh => fin false rfl rfl (m := a.m) rfl e w' hh
  | true => exact (keeps6_c h.pb o a.t a.m b.t b.m true ⟨rfl, rfl⟩ w0.heap.size kv ks h.row h.upd.size hks).mono fun e w' hh => fin true rfl rfl (m := b.m) rfl e w' hh
theorem now_all (h : AllIs6 w0 W a b da db kv ks T0) (ha : a.M.L.length ≤ 100000) (hb : b.M.L.length ≤ 100000) {x : KL6} (hx : x ∈ ks) :
    Calls Try.prog 51 #[.agg (lateV6 (keptV6 x.b x.wh) (pick2 x.sec a.t b.t) (pick2 x.sec a.m b.m) x.o)] W fun en w' => en = .returned (.bool true) ∧ Below W.heap.size W w' := by
  obtain ⟨hk, hw⟩ := h.kept x hx
  rw [hw] at hk ⊢
  cases hs : x.sec with
  | false =>
    rw [hs] at hk
    exact now6_c x.o h.pa ha hk
  | true =>
    rw [hs] at hk
    exact now6_c x.o h.pb hb hk
end
end Go.Proofs.Ytjbbobhjomhnmaa.H
