/- MemAll: its script as it comes in. Conditions: sizes. -/
import Derived.Test.YtjbbobhjomhnmaaMfC
namespace Go.Proofs.Ytjbbobhjomhnmaa.H
open Go Go.RowKit Go.Deep Go.Shelf Go.Proofs Go.Proofs.YtjbbobhjomhnmaaW.PrintWords
set_option linter.unusedVariables false
set_option linter.unusedSimpArgs false
abbrev OpI6 := Int × Bool × Int × ByteArray × List Wri × Int
abbrev kOp6 : Kd OpI6 := Kd.pair (Kd.int .i64) (Kd.pair Kd.bool (Kd.pair (Kd.int .u64) (Kd.pair Kd.string (Kd.pair (Kd.slice 89 kWrite) (Kd.int .i64)))))
def QW6 (xs : List Wri) : Prop := xs.length * Try.prog.bytesOf 89 ≤ 140737488351232 ∧ ∀ y ∈ xs, QWrite y
theorem rd_writes6 : Rd (Kd.slice 89 kWrite) Try.prog 87 QW6 := rd_writes
def QOp6 (x : OpI6) : Prop := (Lit.int .i64 x.1).wf = true ∧ True ∧ (Lit.int .u64 x.2.2.1).wf = true ∧ x.2.2.2.1.size ≤ 140737488351232 ∧ QW6 x.2.2.2.2.1 ∧ (Lit.int .i64 x.2.2.2.2.2).wf = true
set_option maxRecDepth 100000 in
theorem rd_op6 : Rd kOp6 Try.prog 108 QOp6 :=
  Rd.struct Try.underlying108 (by kernel_rfl) (.cons (Rd.int Try.underlying3) rfl (by kernel_rfl) (.cons (Rd.bool Try.underlying4) rfl (by kernel_rfl) (.cons (Rd.int Try.underlying51) rfl (by kernel_rfl) (.cons (Rd.string Try.underlying9) rfl (by kernel_rfl) (.cons rd_writes6 rfl (by kernel_rfl) (.one (Rd.int Try.underlying3) rfl (by kernel_rfl)))))))
theorem rd_ops6 : Rd (Kd.slice 108 kOp6) Try.prog 100 (fun xs => xs.length * Try.prog.bytesOf 108 ≤ 140737488351232 ∧ ∀ x ∈ xs, QOp6 x) := Rd.slice Try.underlying100 (by kernel_rfl) rd_op6
theorem form_op6 {w : World} {y : OpI6} {c : List Value} (h : kOp6.K w y c) : ∃ x : Op6, c = encO6 x ∧ (x.n = y.2.2.2.2.2 ∧ x.at_ = y.2.2.1 ∧ x.L = y.2.2.2.2.1 ∧ Sl encW 3 w x.A x.L) := by
  obtain ⟨c1, c2, rfl, h1, c3, c4, rfl, h2, c5, c6, rfl, h3, c7, c8, rfl, h4, c9, c10, rfl, h5, h6⟩ := h
  obtain ⟨A, c', rfl, _, h7⟩ := h5
  simp only [Kd.string, Kd.int, Kd.bool, Kd.scalar] at h1 h2 h3 h4 h6
  subst h1; subst h2; subst h3; subst h4; subst h6
  exact ⟨⟨y.1, y.2.1, y.2.2.1, y.2.2.2.1, A, c', y.2.2.2.2.1, y.2.2.2.2.2⟩, rfl, rfl, rfl, rfl, sl_writes h7⟩
theorem memAll_w (A : Option Addr) (c : Nat) (draws : List Int) (Ao : Option Addr) (co : Nat) (other : List Int) (B : Option Addr) (d : Nat) (l : List OpI6) (w : World) (ha : Sl encB 1 w A draws) (hal : draws.length ≤ 140737488351232) (hby : ∀ x ∈ draws, U8 x) (ho : Sl encB 1 w Ao other) (hol : other.length ≤ 140737488351232) (hoy : ∀ x ∈ other, U8 x)
    (hl : kOp6.C w B l.length l) (hq : ∀ x ∈ l, QOp6 x) :
    Calls Try.prog 10 #[.slice A draws.length c, .slice Ao other.length co, .slice B l.length d] w fun e w' => e = .returned (.bool true) ∧ Below w.heap.size w w' := by
  obtain ⟨L, hL, hs, hx⟩ := Sl.of_C2 (fun y c hk => form_op6 hk) rfl (fun _ => by simp [encO6]) hl
  have key : ∀ x ∈ L, ∃ y ∈ l, x.n = y.2.2.2.2.2 ∧ x.at_ = y.2.2.1 ∧ x.L = y.2.2.2.2.1 ∧ Sl encW 3 w x.A x.L := fun x hm => by
    obtain ⟨i, hi⟩ := List.getElem?_of_mem hm
    obtain ⟨y, hy, h1, h2, h3, h4⟩ := hx i x hi
    exact ⟨y, List.mem_of_getElem? hy, h1, h2, h3, h4⟩
  rw [← hL]
  refine memAll_c A c draws Ao co other B d L w ha hal hby ho hol hoy ⟨hs, fun o hm => ?_, fun o hm x hxm => ?_⟩ (fun o hm => ?_)
  · obtain ⟨y, _, _, _, _, h4⟩ := key o hm
    exact h4
  · obtain ⟨y, hy, _, _, h3, _⟩ := key o hm
    obtain ⟨_, _, _, _, ⟨_, h5⟩, _⟩ := hq y hy
    have := h5 x (by rw [← h3]; exact hxm)
    exact ⟨this.1, this.2.2⟩
  · obtain ⟨y, hy, h1, h2, _, _⟩ := key o hm
    obtain ⟨_, _, q3, _, _, q6⟩ := hq y hy
    rw [h1, h2]
    exact ⟨wf_i64 q6, wf_u64 q3⟩
end Go.Proofs.Ytjbbobhjomhnmaa.H
