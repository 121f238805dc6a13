/- pace's bucket and the reference's beside one another; does (printed by gentwo.py). Conditions: fewer than 2^40 wait, nobody twice; the numbers are ints. -/
import Derived.Test.YtjgpcbednhoplaaPRBk
import Derived.Test.YtjgpcbednhoplaaPHolds
import Derived.Test.YtjgpcbednhoplaaChainS
namespace Go.Proofs.Ytjgpcbednhoplaa.H
open Go.RowKit Go.Deep Go.Shelf Go.Proofs Go.Proofs.YtjgpcbednhoplaaW.PrintWords
set_option linter.unusedVariables false
set_option linter.unusedSimpArgs false
/-- Both buckets, in blocks of their own, all of which B holds. -/
def TwoIs (w : World) (b rb : Nat) (B : Nat → Prop) (l : List Int) (t : Int) (l2 : List Int) (t2 r u : Int) : Prop :=
  ∃ S S2, BuckIs w b S l t r u ∧ RBIs w rb S2 l2 t2 r u ∧ (∀ k, S k → ¬ S2 k) ∧ (∀ k, S k → B k ∧ k < w.heap.size) ∧ (∀ k, S2 k → B k ∧ k < w.heap.size)
theorem TwoIs.mono {w : World} {b rb : Nat} {B B' : Nat → Prop} {l l2 : List Int} {t t2 r u : Int} (h : TwoIs w b rb B l t l2 t2 r u) (hB : ∀ k, k < w.heap.size → B k → B' k) : TwoIs w b rb B' l t l2 t2 r u := by
  obtain ⟨S, S2, h1, h2, hd, hS, hS2⟩ := h
  exact ⟨S, S2, h1, h2, hd, fun k h => ⟨hB k (hS k h).2 (hS k h).1, (hS k h).2⟩, fun k h => ⟨hB k (hS2 k h).2 (hS2 k h).1, (hS2 k h).2⟩⟩
theorem TwoIs.upd {w w' : World} {b rb : Nat} {B T : Nat → Prop} {l l2 : List Int} {t t2 r u : Int} (h : TwoIs w b rb B l t l2 t2 r u) (hu : Upd T w w') (hT : ∀ k, k < w.heap.size → B k → ¬ T k) : TwoIs w' b rb B l t l2 t2 r u := by
  obtain ⟨S, S2, h1, h2, hd, hS, hS2⟩ := h
  exact ⟨S, S2, h1.upd hu fun k h => hT k (hS k h).2 (hS k h).1, h2.upd hu fun k h => hT k (hS2 k h).2 (hS2 k h).1, hd, fun k h => ⟨(hS k h).1, Nat.lt_of_lt_of_le (hS k h).2 hu.size⟩, fun k h => ⟨(hS2 k h).1, Nat.lt_of_lt_of_le (hS2 k h).2 hu.size⟩⟩
theorem two_l {f : FuncId} {args : Array Value} {v : Value} {w : World} {b rb : Nat} {B : Nat → Prop} {l l' l2 : List Int} {t t' t2 r u : Int} (h : TwoIs w b rb B l t l2 t2 r u) (hB : ∀ k, w.heap.size ≤ k → B k)
    (op : ∀ S, BuckIs w b S l t r u → Calls Try.prog f args w fun e w' => e = .returned v ∧ BuckIs w' b (New S w) l' t' r u ∧ Upd S w w') : Calls Try.prog f args w fun e w' => e = .returned v ∧ TwoIs w' b rb B l' t' l2 t2 r u ∧ Upd B w w' := by
  obtain ⟨S, S2, h1, h2, hd, hS, hS2⟩ := h
  refine (op S h1).mono fun e w' ⟨he, hk, hu⟩ => ⟨he, ⟨_, S2, hk.tight', h2.upd hu fun k h2 h1 => hd k h1 h2, fun k hk hk2 => ?_, fun k hk => ?_, fun k hk => ⟨(hS2 k hk).1, Nat.lt_of_lt_of_le (hS2 k hk).2 hu.size⟩⟩, hu.mono fun k h => (hS k h).1⟩
  · rcases hk.1 with h | h
    · exact hd k h hk2
    · have := (hS2 k hk2).2
      omega
  · rcases hk.1 with h | h
    · exact ⟨(hS k h).1, hk.2⟩
    · exact ⟨hB k h, hk.2⟩
theorem two_r {f : FuncId} {args : Array Value} {v : Value} {w : World} {b rb : Nat} {B : Nat → Prop} {l l2 l2' : List Int} {t t2 t2' r u : Int} (h : TwoIs w b rb B l t l2 t2 r u) (hB : ∀ k, w.heap.size ≤ k → B k)
    (op : ∀ S, RBIs w rb S l2 t2 r u → Calls Try.prog f args w fun e w' => e = .returned v ∧ RBIs w' rb (New S w) l2' t2' r u ∧ Upd S w w') : Calls Try.prog f args w fun e w' => e = .returned v ∧ TwoIs w' b rb B l t l2' t2' r u ∧ Upd B w w' := by
  obtain ⟨S, S2, h1, h2, hd, hS, hS2⟩ := h
  refine (op S2 h2).mono fun e w' ⟨he, hk, hu⟩ => ⟨he, ⟨S, _, h1.upd hu fun k h1 h2 => hd k h1 h2, hk.tight, fun k hk hk2 => ?_, fun k hk => ⟨(hS k hk).1, Nat.lt_of_lt_of_le (hS k hk).2 hu.size⟩, fun k hk => ?_⟩, hu.mono fun k h => (hS2 k h).1⟩
  · rcases hk2.1 with h | h
    · exact hd k hk h
    · have := (hS k hk).2
      omega
  · rcases hk.1 with h | h
    · exact ⟨(hS2 k h).1, hk.2⟩
    · exact ⟨hB k h, hk.2⟩
section
variable {w : World} {b rb : Nat} {B : Nat → Prop} {l l2 : List Int} {t t2 r u : Int}
theorem tick_2 (h : TwoIs w b rb B l t l2 t2 r u) (hB : ∀ k, w.heap.size ≤ k → B k) (ht : I64 t) (hr : I64 r) : Calls Try.prog 20 #[.pointer (some ⟨b, 0, none⟩)] w fun e w' => e = .returned (.tuple #[]) ∧ TwoIs w' b rb B l (mni (sadd t r) u) l2 t2 r u ∧ Upd B w w' :=
  two_l h hB fun S hS => (tick_c b S l t r u w hS ht hr).mono fun e w' ⟨he, hk, hu⟩ => ⟨he, hk.mono fun k h => .inl h, hu⟩
theorem tickR_2 (h : TwoIs w b rb B l t l2 t2 r u) (hB : ∀ k, w.heap.size ≤ k → B k) (ht : I64 t2) (hr : I64 r) : Calls Try.prog 53 #[.pointer (some ⟨rb, 0, none⟩)] w fun e w' => e = .returned (.tuple #[]) ∧ TwoIs w' b rb B l t l2 (mni (sadd t2 r) u) r u ∧ Upd B w w' :=
  two_r h hB fun S hS => (tickR_c rb S l2 t2 r u w hS ht hr).mono fun e w' ⟨he, hk, hu⟩ => ⟨he, hk.mono fun k h => .inl h, hu⟩
theorem take_2 (x n : Int) (h : TwoIs w b rb B l t l2 t2 r u) (hB : ∀ k, w.heap.size ≤ k → B k) (ht : I64 t) (hn : I64 n) : Calls Try.prog 22 #[.pointer (some ⟨b, 0, none⟩), .int .i64 x, .int .i64 n] w fun e w' => e = .returned (.tuple #[]) ∧ TwoIs w' b rb B (l.erase x) (tookL t n) l2 t2 r u ∧ Upd B w w' :=
  two_l h hB fun S hS => (take_c b S l t r u x n w hS ht hn).mono fun e w' ⟨he, hk, hu⟩ => ⟨he, hk.mono fun k h => .inl h, hu⟩
theorem takeR_2 (x n : Int) (h : TwoIs w b rb B l t l2 t2 r u) (hB : ∀ k, w.heap.size ≤ k → B k) (hl : l2.length < 1099511627776) (hd : l2.Nodup) (ht : I64 t2) (hn : I64 n) : Calls Try.prog 55 #[.pointer (some ⟨rb, 0, none⟩), .int .i64 x, .int .i64 n] w fun e w' => e = .returned (.tuple #[]) ∧ TwoIs w' b rb B l t (l2.erase x) (tookL t2 n) r u ∧ Upd B w w' :=
  two_r h hB fun S hS => takeR_c rb S l2 t2 r u x n w hS hl hd ht hn
theorem leave_2 (x : Int) (h : TwoIs w b rb B l t l2 t2 r u) (hB : ∀ k, w.heap.size ≤ k → B k) : Calls Try.prog 23 #[.pointer (some ⟨b, 0, none⟩), .int .i64 x] w fun e w' => e = .returned (.tuple #[]) ∧ TwoIs w' b rb B (l.erase x) t l2 t2 r u ∧ Upd B w w' :=
  two_l h hB fun S hS => (bleave_c b S l t r u x w hS).mono fun e w' ⟨he, hk, hu⟩ => ⟨he, hk.mono fun k h => .inl h, hu⟩
theorem leaveR_2 (x : Int) (h : TwoIs w b rb B l t l2 t2 r u) (hB : ∀ k, w.heap.size ≤ k → B k) (hl : l2.length < 1099511627776) (hd : l2.Nodup) : Calls Try.prog 56 #[.pointer (some ⟨rb, 0, none⟩), .int .i64 x] w fun e w' => e = .returned (.tuple #[]) ∧ TwoIs w' b rb B l t (l2.erase x) t2 r u ∧ Upd B w w' :=
  two_r h hB fun S hS => leaveR_c rb S l2 t2 r u x w hS hl hd
theorem may_2 (x : Int) (h : TwoIs w b rb B l t l2 t2 r u) (hB : ∀ k, w.heap.size ≤ k → B k) (hl : l.length < 1099511627776) : Calls Try.prog 21 #[.pointer (some ⟨b, 0, none⟩), .int .i64 x] w fun e w' => e = .returned (.bool (mayL l t x)) ∧ TwoIs w' b rb B (if mayL l t x = true then l else joined l x) t l2 t2 r u ∧ Upd B w w' :=
  two_l h hB fun S hS => may_c b S l t r u x w hS hl
theorem mayR_2 (x : Int) (h : TwoIs w b rb B l t l2 t2 r u) (hB : ∀ k, w.heap.size ≤ k → B k) (hl : l2.length < 1099511627776) : Calls Try.prog 54 #[.pointer (some ⟨rb, 0, none⟩), .int .i64 x] w fun e w' => e = .returned (.bool (mayL l2 t2 x)) ∧ TwoIs w' b rb B l t (if mayL l2 t2 x = true then l2 else joined l2 x) t2 r u ∧ Upd B w w' :=
  two_r h hB fun S hS => mayR_c rb S l2 t2 r u x w hS hl
theorem tokens_2 (h : TwoIs w b rb B l t l2 t2 r u) : Calls Try.prog 17 #[.pointer (some ⟨b, 0, none⟩)] w fun e w' => e = .returned (.int .i64 t) ∧ w = w' := by
  obtain ⟨S, S2, h1, _⟩ := h
  exact tokens_c b S l t r u w h1
theorem TwoIs.n (h : TwoIs w b rb B l t l2 t2 r u) : w.cell? ⟨rb, 2, none⟩ = some (.int .i64 t2) := by
  obtain ⟨S, S2, _, ⟨v, hb, _⟩, _⟩ := h
  exact (blk_cell hb 2).trans rfl
/-- The reference's list, as it lies there. -/
theorem TwoIs.list (h : TwoIs w b rb B l t l2 t2 r u) : ∃ A c, w.cell? ⟨rb, 3, none⟩ = some (.slice A l2.length c) ∧ Sl encI 1 w A l2 ∧ rb < w.heap.size := by
  obtain ⟨S, S2, _, ⟨v, hb, ho, _⟩, _⟩ := h
  obtain ⟨A, c, rfl, hlc, hs, hne⟩ := ho.slice (fun x => (okI x).1)
  exact ⟨A, c, (blk_cell hb 3).trans rfl, hs, blk_lt hb⟩
theorem bline_2 (h : TwoIs w b rb B l t l2 t2 r u) (hl : l.length < 1099511627776) : Calls Try.prog 19 #[.pointer (some ⟨b, 0, none⟩)] w fun e w' => ∃ v, e = .returned v ∧ Own encI 3 1 w' w.heap.size v l ∧ Below w.heap.size w w' := by
  obtain ⟨S, S2, h1, _⟩ := h
  exact bline_c b S l t r u w h1 hl
end
theorem joined_nodup {l : List Int} (h : l.Nodup) (x : Int) : (joined l x).Nodup := by
  unfold joined
  split
  · exact h
  · rename_i hx
    rw [List.nodup_append]
    exact ⟨h, by simp, fun a ha b hb e => hx (by have : b = x := by simpa using hb
                                                 rw [← this, ← e]; exact ha)⟩
theorem mni_I64 {a b : Int} (ha : I64 a) (hb : I64 b) : I64 (mni a b) := by unfold mni; split <;> assumption
theorem took_I64 {t : Int} (n : Int) (ht : I64 t) : I64 (tookL t n) := by unfold tookL; split; exact sadd_I64 _ _; exact ht
/-- What does leaves. -/
def Did (w : World) (b rb base : Nat) (l : List Int) (r u : Int) (e : Ending) (w' : World) : Prop :=
  ∃ l' t', e = .returned (.bool true) ∧ TwoIs w' b rb (fun k => base ≤ k) l' t' l' t' r u ∧ l'.Nodup ∧ l'.length ≤ l.length + 1 ∧ I64 t' ∧ Upd (fun k => base ≤ k) w w'
def MayR (wa : World) (b rb : Nat) (B : Nat → Prop) (l l' : List Int) (t r u : Int) (s : Nat) (W : World) : Prop :=
  (match s with | 0 => TwoIs W b rb B l t l t r u | 1 => TwoIs W b rb B l' t l t r u | _ => TwoIs W b rb B l' t l' t r u) ∧ Upd B wa W
/-- What is read stays; behind Line: its answer. -/
def LineR (w : World) (l : List Int) (s : Option Value) (W : World) : Prop :=
  Below w.heap.size w W ∧ (match s with | none => True | some v => Own encI 3 1 W 0 v l)
def leO (a b : Option Value) : Prop := a = none ∨ a = b
theorem leO_refl (a : Option Value) : leO a a := .inr rfl
theorem leO_trans (a b c : Option Value) (h : leO a b) (h' : leO b c) : leO a c := by
  rcases h with rfl | rfl
  · exact .inl rfl
  · exact h'
theorem ldSl (A : Option Addr) (n c : Nat) (b j : Nat) (W : World) (h : W.cell? ⟨b, j, none⟩ = some (.slice A n c)) : (Instr.loadAt 40 (.pointer (some ⟨b, j, none⟩))).run Try.prog W = .ok (.slice A n c) W := by
  go_simp
/-- Line's answer against the reference's list. -/
theorem sameAt {wa W : World} {l : List Int} {A3 A4 : Option Addr} {c3 c4 : Nat} {s : Option Value} (h : LineR wa l s W) (hle : leO (some (.slice A4 l.length c4)) s) (hs3 : Sl encI 1 wa A3 l) :
    Calls Try.prog 18 #[.slice A4 l.length c4, .slice A3 l.length c3] W fun e W' => e = .returned (.bool true) ∧ LineR wa l s W' := by
  rcases hle with hle | hle
  · cases hle
  · subst hle
    obtain ⟨A, c, hv, _, hs, _⟩ := h.2.slice (fun x => (okI x).1)
    injection hv with h1 h2 h3
    subst h1
    refine (sameInts_c A4 c4 l A3 c3 l W hs (hs3.later h.1)).mono fun e W' ⟨he, n, hn⟩ => ?_
    subst hn
    refine ⟨by rw [he]; simp, below_drewN h.1 n, ?_⟩
    exact h.2
set_option maxHeartbeats 3200000 in
set_option maxRecDepth 100000 in
theorem does_c (b rb base : Nat) (l : List Int) (t r u kd who num : Int) (w : World) (h : TwoIs w b rb (fun k => base ≤ k) l t l t r u) (hbase : base ≤ w.heap.size) (hl : l.length < 1099511627776) (hd : l.Nodup) (ht : I64 t) (hr : I64 r) (hu : I64 u) (hn : I64 num) :
    Calls Try.prog 16 #[.pointer (some ⟨b, 0, none⟩), .pointer (some ⟨rb, 0, none⟩), .agg #[.int .i64 kd, .int .i64 who, .int .i64 num]] w (Did w b rb base l r u) := by
  have H1 := Lib.hid (show TwoIs (w.alloc (.cells #[.int .i64 kd, .int .i64 who, .int .i64 num] 38)) b rb (fun k => base ≤ k ∧ k ≠ w.heap.size) l t l t r u by
    obtain ⟨S, S2, h1, h2, hd, hS, hS2⟩ := h
    have hua := Upd.alloc (S := fun _ => False) w (.cells #[.int .i64 kd, .int .i64 who, .int .i64 num] 38)
    exact ⟨S, S2, h1.upd hua (fun _ _ h => h), h2.upd hua (fun _ _ h => h), hd, fun k hk => ⟨⟨(hS k hk).1, by have := (hS k hk).2; omega⟩, Nat.lt_of_lt_of_le (hS k hk).2 hua.size⟩, fun k hk => ⟨⟨(hS2 k hk).1, by have := (hS2 k hk).2; omega⟩, Nat.lt_of_lt_of_le (hS2 k hk).2 hua.size⟩⟩)
  have HX := Lib.hid (heap_alloc_new w (.cells #[.int .i64 kd, .int .i64 who, .int .i64 num] 38))
  have hsz := World.size_alloc w (.cells #[.int .i64 kd, .int .i64 who, .int .i64 num] 38)
  have HB := Lib.hid (show ∀ W : World, (w.alloc (.cells #[.int .i64 kd, .int .i64 who, .int .i64 num] 38)).heap.size ≤ W.heap.size → ∀ k, W.heap.size ≤ k → base ≤ k ∧ k ≠ w.heap.size from fun W hW k hk => ⟨by omega, by omega⟩)
  have HU := Lib.hid (Upd.alloc (S := fun k => base ≤ k) w (.cells #[.int .i64 kd, .int .i64 who, .int .i64 num] 38))
  clear hsz h
  have FIN := Lib.hid (show ∀ (W : World) (l' : List Int) (t' : Int), TwoIs W b rb (fun k => base ≤ k ∧ k ≠ w.heap.size) l' t' l' t' r u → Upd (fun k => base ≤ k ∧ k ≠ w.heap.size) (w.alloc (.cells #[.int .i64 kd, .int .i64 who, .int .i64 num] 38)) W → l'.Nodup → l'.length ≤ l.length + 1 → I64 t' → Did w b rb base l r u (.returned (.bool true)) W from
    fun W l' t' h1 h2 h3 h4 h5 => ⟨l', t', rfl, h1.mono fun k _ h => h.1, h3, h4, h5, HU.out.trans (h2.mono fun k h => h.1)⟩)
  clear HU
  go_enter Try.func16, Try.ntmps16
  by_cases k1 : kd = 1
  · subst k1
    have x0 : (w.alloc (.cells #[.int .i64 1, .int .i64 who, .int .i64 num] 38)).cell? ⟨w.heap.size, 0, none⟩ = some (.int .i64 1) := (blk_cell HX.out 0).trans rfl
    have x1 : (w.alloc (.cells #[.int .i64 1, .int .i64 who, .int .i64 num] 38)).cell? ⟨w.heap.size, 1, none⟩ = some (.int .i64 who) := (blk_cell HX.out 1).trans rfl
    have x2 : (w.alloc (.cells #[.int .i64 1, .int .i64 who, .int .i64 num] 38)).cell? ⟨w.heap.size, 2, none⟩ = some (.int .i64 num) := (blk_cell HX.out 2).trans rfl
    go_wp2_with fail
    generalize w.alloc (.cells #[.int .i64 1, .int .i64 who, .int .i64 num] 38) = wa at *
    refine (tick_2 H1.out (HB.out _ (Nat.le_refl _)) ht hr).mono ?_
    rintro e w2 ⟨rfl, h2, u2⟩
    have H2 := Lib.hid h2
    have U2 := Lib.hid u2
    clear h2 u2
    have HX2 := Lib.hid (U2.out.heap HX.out (fun h => h.2 rfl))
    have y1 : w2.cell? ⟨w.heap.size, 1, none⟩ = some (.int .i64 who) := (blk_cell HX2.out 1).trans rfl
    have y2 : w2.cell? ⟨w.heap.size, 2, none⟩ = some (.int .i64 num) := (blk_cell HX2.out 2).trans rfl
    go_wp2_with fail
    refine (tickR_2 H2.out (HB.out _ U2.out.size) ht hr).mono ?_
    rintro e w3 ⟨rfl, h3, u3⟩
    have H3 := Lib.hid h3
    have U3 := Lib.hid (U2.out.trans u3)
    clear h3 u3
    clear x0 x1 x2 y1 y2
    go_wp2
    go_ret
    exact FIN.out _ (l) (mni (sadd t r) u) H3.out U3.out hd (by omega) (mni_I64 (sadd_I64 _ _) hu)
  by_cases k2 : kd = 2
  · subst k2
    have x0 : (w.alloc (.cells #[.int .i64 2, .int .i64 who, .int .i64 num] 38)).cell? ⟨w.heap.size, 0, none⟩ = some (.int .i64 2) := (blk_cell HX.out 0).trans rfl
    have x1 : (w.alloc (.cells #[.int .i64 2, .int .i64 who, .int .i64 num] 38)).cell? ⟨w.heap.size, 1, none⟩ = some (.int .i64 who) := (blk_cell HX.out 1).trans rfl
    have x2 : (w.alloc (.cells #[.int .i64 2, .int .i64 who, .int .i64 num] 38)).cell? ⟨w.heap.size, 2, none⟩ = some (.int .i64 num) := (blk_cell HX.out 2).trans rfl
    have z := H1.out.n
    go_wp2_with fail
    generalize w.alloc (.cells #[.int .i64 2, .int .i64 who, .int .i64 num] 38) = wa at *
    go_quiet ((go_at_call 17; exact quiet_left (tokens_2 (H1.out.upd (Upd.drewN (S := fun _ => False) _ _) (fun _ _ _ h => h)))))
    go_wp2
    go_ret
    exact FIN.out _ l t (H1.out.upd (Upd.drewN (S := fun _ => False) _ _) (fun _ _ _ h => h)) (Upd.drewN _ _) hd (by omega) ht
  by_cases k3 : kd = 3
  · subst k3
    have x0 : (w.alloc (.cells #[.int .i64 3, .int .i64 who, .int .i64 num] 38)).cell? ⟨w.heap.size, 0, none⟩ = some (.int .i64 3) := (blk_cell HX.out 0).trans rfl
    have x1 : (w.alloc (.cells #[.int .i64 3, .int .i64 who, .int .i64 num] 38)).cell? ⟨w.heap.size, 1, none⟩ = some (.int .i64 who) := (blk_cell HX.out 1).trans rfl
    have x2 : (w.alloc (.cells #[.int .i64 3, .int .i64 who, .int .i64 num] 38)).cell? ⟨w.heap.size, 2, none⟩ = some (.int .i64 num) := (blk_cell HX.out 2).trans rfl
    go_wp2_with fail
    generalize w.alloc (.cells #[.int .i64 3, .int .i64 who, .int .i64 num] 38) = wa at *
    refine wp_region_step (MayR wa b rb (fun k => base ≤ k ∧ k ≠ w.heap.size) l (if mayL l t who = true then l else joined l who) t r u) (fun (a b : Nat) => a ≤ b) Nat.le_refl (fun _ _ _ => Nat.le_trans) 0 [0, 0, 0, 2, 0, 0, 0, 2, 0] [.pointer (some ⟨b, 0, none⟩), .pointer (some ⟨w.heap.size, 1, none⟩), .int .i64 who, undef, .pointer (some ⟨rb, 0, none⟩), .pointer (some ⟨w.heap.size, 1, none⟩), .int .i64 who, undef, .bool true] 9 (by kernel_rfl) (by kernel_rfl) ⟨H1.out.upd (Upd.drew (S := fun _ => False) _) (fun _ _ _ h => h), Upd.drew _⟩ ?_
    simp only [List.take_succ_cons, List.take_zero, List.drop_succ_cons, List.drop_zero]
    refine schain0 ?_
    refine @schain _ _ _ _ _ _ _ _ _ _ _ _ _ _ 26 (.pointer (some ⟨b, 0, none⟩)) (by rfl) (by rfl) (by kernel_rfl) (by rfl) (by exact fun s' W2 hW => srun_mv (by rfl) (by exact eval_base (by kernel_rfl) (by rfl)) hW) ?_
    refine @schain _ _ _ _ _ _ _ _ _ _ _ _ _ _ 27 (.pointer (some ⟨w.heap.size, 1, none⟩)) (by rfl) (by rfl) (by kernel_rfl) (by rfl) (by exact fun s' W2 hW => srun_fa (p := .pointer (some ⟨w.heap.size, 0, none⟩)) (by rfl) (by exact eval_base (by kernel_rfl) (by rfl)) (fun W => by first | kernel_rfl | go_simp) hW) ?_
    refine @schain _ _ _ _ _ _ _ _ _ _ _ _ _ _ 28 (.int .i64 who) (by rfl) (by rfl) (by kernel_rfl) (by rfl) (by exact fun s' W2 hW => srun_ld (by rfl) (by exact eval_look (by kernel_rfl) (by kernel_rfl)) (ldInt _ _ _ _ ((blk_cell (hW.2.heap HX.out (fun h => h.2 rfl)) 1).trans rfl)) hW) ?_
    refine @schainW _ _ _ _ _ _ _ _ _ _ _ _ _ _ 29 (.bool (mayL l t who)) (1) (by rfl) (by kernel_rfl) (by rfl) (by decide) (by exact fun W2 hW => srun_call (vs := #[.pointer (some ⟨b, 0, none⟩), .int .i64 who]) (by rfl) (by kernel_rfl) (enters_of Try.func21 (by kernel_rfl) (by rfl)) ((may_2 who hW.1 (HB.out _ hW.2.size) hl).mono fun e W' ⟨he, h1, h2⟩ => ⟨he, h1, hW.2.trans h2⟩)) ?_
    refine @schain _ _ _ _ _ _ _ _ _ _ _ _ _ _ 30 (.pointer (some ⟨rb, 0, none⟩)) (by rfl) (by rfl) (by kernel_rfl) (by rfl) (by exact fun s' W2 hW => srun_mv (by rfl) (by exact eval_base (by kernel_rfl) (by rfl)) hW) ?_
    refine @schain _ _ _ _ _ _ _ _ _ _ _ _ _ _ 31 (.pointer (some ⟨w.heap.size, 1, none⟩)) (by rfl) (by rfl) (by kernel_rfl) (by rfl) (by exact fun s' W2 hW => srun_fa (p := .pointer (some ⟨w.heap.size, 0, none⟩)) (by rfl) (by exact eval_base (by kernel_rfl) (by rfl)) (fun W => by first | kernel_rfl | go_simp) hW) ?_
    refine @schain _ _ _ _ _ _ _ _ _ _ _ _ _ _ 32 (.int .i64 who) (by rfl) (by rfl) (by kernel_rfl) (by rfl) (by exact fun s' W2 hW => srun_ld (by rfl) (by exact eval_look (by kernel_rfl) (by kernel_rfl)) (ldInt _ _ _ _ ((blk_cell (hW.2.heap HX.out (fun h => h.2 rfl)) 1).trans rfl)) hW) ?_
    refine @schainW _ _ _ _ _ _ _ _ _ _ _ _ _ _ 33 (.bool (mayL l t who)) (2) (by rfl) (by kernel_rfl) (by rfl) (by decide) (by exact fun W2 hW => srun_call (vs := #[.pointer (some ⟨rb, 0, none⟩), .int .i64 who]) (by rfl) (by kernel_rfl) (enters_of Try.func54 (by kernel_rfl) (by rfl)) ((mayR_2 who hW.1 (HB.out _ hW.2.size) hl).mono fun e W' ⟨he, h1, h2⟩ => ⟨he, h1, hW.2.trans h2⟩)) ?_
    refine @schain _ _ _ _ _ _ _ _ _ _ _ _ _ _ 34 (.bool true) (by rfl) (by rfl) (by kernel_rfl) (by rfl) (by exact fun s' W2 hW => srun_bo (u := .bool (mayL l t who)) (v := .bool (mayL l t who)) (by rfl) (by exact eval_look (by kernel_rfl) (by kernel_rfl)) (by exact eval_look (by kernel_rfl) (by kernel_rfl)) (fun W => by go_simp) hW) ?_
    refine snil (fun W2 hW2 => ?_)
    refine Eq.mpr (congrArg (fun a => wpList _ _ _ _ a W2) (show _ = (⟨#[.pointer (some ⟨b, 0, none⟩), .pointer (some ⟨rb, 0, none⟩), .agg #[.int .i64 3, .int .i64 who, .int .i64 num], undef, undef, .pointer (some ⟨w.heap.size, 0, none⟩), .bool false, .pointer (some ⟨w.heap.size, 0, none⟩), .int .i64 3, .bool false, .bool false, undef, undef, undef, undef, .bool false, .bool false, undef, undef, undef, undef, undef, undef, undef, .bool true, .bool true, .pointer (some ⟨b, 0, none⟩), .pointer (some ⟨w.heap.size, 1, none⟩), .int .i64 who, .bool (mayL l t who), .pointer (some ⟨rb, 0, none⟩), .pointer (some ⟨w.heap.size, 1, none⟩), .int .i64 who, .bool (mayL l t who), .bool true, undef, undef, undef, undef, undef, undef, undef, undef, undef, undef, undef, undef, undef, undef, undef, undef, undef, undef, undef, undef, undef, undef, undef, undef, undef, undef, undef, undef, undef, undef, undef, undef, undef], []⟩ : Act) by kernel_rfl)) ?_
    have HW := Lib.hid hW2
    clear hW2 x0 x1 x2
    go_wp2
    go_ret
    refine FIN.out _ (if mayL l t who = true then l else joined l who) t HW.out.1 HW.out.2 ?_ ?_ ht
    · split
      · exact hd
      · exact joined_nodup hd who
    · split
      · omega
      · exact joined_len l who
  by_cases k4 : kd = 4
  · subst k4
    have x0 : (w.alloc (.cells #[.int .i64 4, .int .i64 who, .int .i64 num] 38)).cell? ⟨w.heap.size, 0, none⟩ = some (.int .i64 4) := (blk_cell HX.out 0).trans rfl
    have x1 : (w.alloc (.cells #[.int .i64 4, .int .i64 who, .int .i64 num] 38)).cell? ⟨w.heap.size, 1, none⟩ = some (.int .i64 who) := (blk_cell HX.out 1).trans rfl
    have x2 : (w.alloc (.cells #[.int .i64 4, .int .i64 who, .int .i64 num] 38)).cell? ⟨w.heap.size, 2, none⟩ = some (.int .i64 num) := (blk_cell HX.out 2).trans rfl
    go_wp2_with fail
    generalize w.alloc (.cells #[.int .i64 4, .int .i64 who, .int .i64 num] 38) = wa at *
    refine (take_2 who num H1.out (HB.out _ (Nat.le_refl _)) ht hn).mono ?_
    rintro e w2 ⟨rfl, h2, u2⟩
    have H2 := Lib.hid h2
    have U2 := Lib.hid u2
    clear h2 u2
    have HX2 := Lib.hid (U2.out.heap HX.out (fun h => h.2 rfl))
    have y1 : w2.cell? ⟨w.heap.size, 1, none⟩ = some (.int .i64 who) := (blk_cell HX2.out 1).trans rfl
    have y2 : w2.cell? ⟨w.heap.size, 2, none⟩ = some (.int .i64 num) := (blk_cell HX2.out 2).trans rfl
    go_wp2_with fail
    refine (takeR_2 who num H2.out (HB.out _ U2.out.size) hl hd ht hn).mono ?_
    rintro e w3 ⟨rfl, h3, u3⟩
    have H3 := Lib.hid h3
    have U3 := Lib.hid (U2.out.trans u3)
    clear h3 u3
    clear x0 x1 x2 y1 y2
    go_wp2
    go_ret
    exact FIN.out _ (l.erase who) (tookL t num) H3.out U3.out (hd.erase who) (Nat.le_succ_of_le (erase_len l who)) (took_I64 num ht)
  by_cases k5 : kd = 5
  · subst k5
    have x0 : (w.alloc (.cells #[.int .i64 5, .int .i64 who, .int .i64 num] 38)).cell? ⟨w.heap.size, 0, none⟩ = some (.int .i64 5) := (blk_cell HX.out 0).trans rfl
    have x1 : (w.alloc (.cells #[.int .i64 5, .int .i64 who, .int .i64 num] 38)).cell? ⟨w.heap.size, 1, none⟩ = some (.int .i64 who) := (blk_cell HX.out 1).trans rfl
    have x2 : (w.alloc (.cells #[.int .i64 5, .int .i64 who, .int .i64 num] 38)).cell? ⟨w.heap.size, 2, none⟩ = some (.int .i64 num) := (blk_cell HX.out 2).trans rfl
    go_wp2_with fail
    generalize w.alloc (.cells #[.int .i64 5, .int .i64 who, .int .i64 num] 38) = wa at *
    refine (leave_2 who H1.out (HB.out _ (Nat.le_refl _))).mono ?_
    rintro e w2 ⟨rfl, h2, u2⟩
    have H2 := Lib.hid h2
    have U2 := Lib.hid u2
    clear h2 u2
    have HX2 := Lib.hid (U2.out.heap HX.out (fun h => h.2 rfl))
    have y1 : w2.cell? ⟨w.heap.size, 1, none⟩ = some (.int .i64 who) := (blk_cell HX2.out 1).trans rfl
    have y2 : w2.cell? ⟨w.heap.size, 2, none⟩ = some (.int .i64 num) := (blk_cell HX2.out 2).trans rfl
    go_wp2_with fail
    refine (leaveR_2 who H2.out (HB.out _ U2.out.size) hl hd).mono ?_
    rintro e w3 ⟨rfl, h3, u3⟩
    have H3 := Lib.hid h3
    have U3 := Lib.hid (U2.out.trans u3)
    clear h3 u3
    clear x0 x1 x2 y1 y2
    go_wp2
    go_ret
    exact FIN.out _ (l.erase who) (t) H3.out U3.out (hd.erase who) (Nat.le_succ_of_le (erase_len l who)) ht
  by_cases k6 : kd = 6
  · subst k6
    have x0 : (w.alloc (.cells #[.int .i64 6, .int .i64 who, .int .i64 num] 38)).cell? ⟨w.heap.size, 0, none⟩ = some (.int .i64 6) := (blk_cell HX.out 0).trans rfl
    have x1 : (w.alloc (.cells #[.int .i64 6, .int .i64 who, .int .i64 num] 38)).cell? ⟨w.heap.size, 1, none⟩ = some (.int .i64 who) := (blk_cell HX.out 1).trans rfl
    have x2 : (w.alloc (.cells #[.int .i64 6, .int .i64 who, .int .i64 num] 38)).cell? ⟨w.heap.size, 2, none⟩ = some (.int .i64 num) := (blk_cell HX.out 2).trans rfl
    go_wp2_with fail
    generalize w.alloc (.cells #[.int .i64 6, .int .i64 who, .int .i64 num] 38) = wa at *
    obtain ⟨A3, c3, z3, hs3, hrb⟩ := H1.out.list
    refine wp_region_step (LineR wa l) leO leO_refl leO_trans none [0, 2, 0, 0, 0, 0, 1] [.pointer (some ⟨b, 0, none⟩), undef, .pointer (some ⟨rb, 0, none⟩), .pointer (some ⟨rb, 0, none⟩), .pointer (some ⟨rb, 3, none⟩), .slice A3 l.length c3, undef] 7 (by kernel_rfl) (by kernel_rfl) ⟨(Below.refl _ _).drew, trivial⟩ ?_
    simp only [List.take_succ_cons, List.take_zero, List.drop_succ_cons, List.drop_zero]
    refine schain0 ?_
    refine @schain _ _ _ _ _ _ _ _ _ _ _ _ _ _ 61 (.pointer (some ⟨b, 0, none⟩)) (by rfl) (by rfl) (by kernel_rfl) (by rfl) (by exact fun s' W2 hW => srun_mv (by rfl) (by exact eval_base (by kernel_rfl) (by rfl)) hW) ?_
    refine @schainT _ _ _ _ _ _ _ _ _ _ _ _ _ _ 62 (fun v s' => s' = some v ∧ ∃ A c, v = .slice A l.length c) (by rfl) (by kernel_rfl) (by rfl) (⟨.slice none l.length l.length, _, rfl, none, l.length, rfl⟩) (fun _ _ _ => .inl rfl) (by exact fun W2 hW => srun_callT (vs := #[.pointer (some ⟨b, 0, none⟩)]) (by rfl) (by kernel_rfl) (enters_of Try.func19 (by kernel_rfl) (by rfl)) ((bline_2 (H1.out.upd (Upd.of_below (S := fun _ => False) hW.1) (fun _ _ _ h => h)) hl).mono fun e W' ⟨v, he, ho, hb⟩ => ⟨v, he, some v, ⟨rfl, by obtain ⟨A, c, rfl, _⟩ := ho.slice (fun x => (okI x).1); exact ⟨A, c, rfl⟩⟩, hW.1.trans (hb.mono hW.1.size), ho.weaken (Nat.zero_le _)⟩)) (fun x s' hx => ?_)
    obtain ⟨rfl, A4, c4, rfl⟩ := hx
    refine @schain _ _ _ _ _ _ _ _ _ _ _ _ _ _ 63 (.pointer (some ⟨rb, 0, none⟩)) (by rfl) (by rfl) (by kernel_rfl) (by rfl) (by exact fun s' W2 hW => srun_mv (by rfl) (by exact eval_base (by kernel_rfl) (by rfl)) hW) ?_
    refine @schain _ _ _ _ _ _ _ _ _ _ _ _ _ _ 64 (.pointer (some ⟨rb, 0, none⟩)) (by rfl) (by rfl) (by kernel_rfl) (by rfl) (by exact fun s' W2 hW => srun_nc (by rfl) (by exact eval_look (by kernel_rfl) (by kernel_rfl)) hW) ?_
    refine @schain _ _ _ _ _ _ _ _ _ _ _ _ _ _ 65 (.pointer (some ⟨rb, 3, none⟩)) (by rfl) (by rfl) (by kernel_rfl) (by rfl) (by exact fun s' W2 hW => srun_fa (p := .pointer (some ⟨rb, 0, none⟩)) (by rfl) (by exact eval_look (by kernel_rfl) (by kernel_rfl)) (fun W => by first | kernel_rfl | go_simp) hW) ?_
    refine @schain _ _ _ _ _ _ _ _ _ _ _ _ _ _ 66 (.slice A3 l.length c3) (by rfl) (by rfl) (by kernel_rfl) (by rfl) (by exact fun s' W2 hW => srun_ld (by rfl) (by exact eval_look (by kernel_rfl) (by kernel_rfl)) (ldSl _ _ _ _ _ _ ((hW.1.cell (p := ⟨rb, 3, none⟩) hrb).trans z3)) hW) ?_
    refine @schain1 _ _ _ _ _ _ _ _ _ _ _ _ _ _ 67 (.bool true) (by rfl) (by kernel_rfl) (by rfl) (by exact fun s' hs W2 hW => srun_call (vs := #[.slice A4 l.length c4, .slice A3 l.length c3]) (by rfl) (by kernel_rfl) (enters_of Try.func18 (by kernel_rfl) (by rfl)) (sameAt hW hs hs3)) ?_
    refine snil (fun W2 hW2 => ?_)
    refine Eq.mpr (congrArg (fun a => wpList _ _ _ _ a W2) (show _ = (⟨#[.pointer (some ⟨b, 0, none⟩), .pointer (some ⟨rb, 0, none⟩), .agg #[.int .i64 6, .int .i64 who, .int .i64 num], undef, undef, .pointer (some ⟨w.heap.size, 0, none⟩), .bool false, .pointer (some ⟨w.heap.size, 0, none⟩), .int .i64 6, .bool false, .bool false, undef, undef, undef, undef, .bool false, .bool false, undef, undef, undef, undef, undef, undef, undef, .bool false, .bool false, undef, undef, undef, undef, undef, undef, undef, undef, undef, .bool false, .bool false, undef, undef, undef, undef, undef, undef, undef, undef, undef, undef, undef, undef, .bool false, .bool false, undef, undef, undef, undef, undef, undef, undef, undef, .bool true, .bool true, .pointer (some ⟨b, 0, none⟩), .slice A4 l.length c4, .pointer (some ⟨rb, 0, none⟩), .pointer (some ⟨rb, 0, none⟩), .pointer (some ⟨rb, 3, none⟩), .slice A3 l.length c3, .bool true], []⟩ : Act) by kernel_rfl)) ?_
    have HW := Lib.hid hW2.1
    clear hW2 x0 x1 x2 z3
    go_wp2
    go_ret
    exact FIN.out _ l t (H1.out.upd (Upd.of_below (S := fun _ => False) HW.out) (fun _ _ _ h => h)) (Upd.of_below HW.out) hd (by omega) ht
  have e1 : (kd == 1) = false := by simpa using k1
  have e2 : (kd == 2) = false := by simpa using k2
  have e3 : (kd == 3) = false := by simpa using k3
  have e4 : (kd == 4) = false := by simpa using k4
  have e5 : (kd == 5) = false := by simpa using k5
  have e6 : (kd == 6) = false := by simpa using k6
  clear k1 k2 k3 k4 k5 k6
  have x0 : (w.alloc (.cells #[.int .i64 kd, .int .i64 who, .int .i64 num] 38)).cell? ⟨w.heap.size, 0, none⟩ = some (.int .i64 kd) := (blk_cell HX.out 0).trans rfl
  have x1 : (w.alloc (.cells #[.int .i64 kd, .int .i64 who, .int .i64 num] 38)).cell? ⟨w.heap.size, 1, none⟩ = some (.int .i64 who) := (blk_cell HX.out 1).trans rfl
  have x2 : (w.alloc (.cells #[.int .i64 kd, .int .i64 who, .int .i64 num] 38)).cell? ⟨w.heap.size, 2, none⟩ = some (.int .i64 num) := (blk_cell HX.out 2).trans rfl
  go_wp2
  go_ret
  exact FIN.out _ l t H1.out (Upd.refl _ _) hd (by omega) ht
end Go.Proofs.Ytjgpcbednhoplaa.H
