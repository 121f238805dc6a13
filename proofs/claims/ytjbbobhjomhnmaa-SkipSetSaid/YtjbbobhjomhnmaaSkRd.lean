/- Bytes and entries that come in: how they read. No conditions. -/
import Derived.Test.YtjbbobhjomhnmaaSk2
namespace Go.Proofs.Ytjbbobhjomhnmaa.H
open Go.RowKit Go.Deep Go.Proofs.YtjbbobhjomhnmaaW.PrintWords
theorem rd_bytes : Rd (Kd.slice 5 (Kd.int .u8)) Try.prog 22 (fun xs => xs.length * Try.prog.bytesOf 5 ≤ 140737488351232 ∧ ∀ x ∈ xs, (Lit.int .u8 x).wf = true) := Rd.slice Try.underlying22 (by kernel_rfl) (Rd.int Try.underlying5)
theorem sl_bytes {w : World} {A : Option Addr} {l : List Int} (h : (Kd.int .u8).C w A l.length l) : Sl encB 1 w A l :=
  Sl.of_C (fun _ _ _ hk => by simpa [Kd.int, Kd.scalar, encB] using hk) rfl (fun _ => by simp [encB]) h
theorem bytes_ok {l : List Int} (h : l.length * Try.prog.bytesOf 5 ≤ 140737488351232 ∧ ∀ x ∈ l, (Lit.int .u8 x).wf = true) : l.length < 140737488351233 ∧ ∀ x ∈ l, U8 x := by
  rw [show Try.prog.bytesOf 5 = 1 by kernel_rfl] at h
  exact ⟨by omega, fun x hx => wf_u8 (h.2 x hx)⟩
abbrev kEntry : Kd Ent := Kd.pair Kd.string (Kd.pair (Kd.int .u64) (Kd.pair Kd.bool Kd.string))
def QEntry (e : Ent) : Prop := e.1.size ≤ 140737488351232 ∧ (Lit.int .u64 e.2.1).wf = true ∧ True ∧ e.2.2.2.size ≤ 140737488351232
set_option maxRecDepth 100000 in
theorem rd_entry : Rd kEntry Try.prog 53 QEntry :=
  Rd.struct Try.underlying53 (by kernel_rfl) (.cons (Rd.string Try.underlying9) rfl (by kernel_rfl) (.cons (Rd.int Try.underlying51) rfl (by kernel_rfl) (.cons (Rd.bool Try.underlying4) rfl (by kernel_rfl) (.one (Rd.string Try.underlying9) rfl (by kernel_rfl)))))
theorem form_entry {w : World} {y : Ent} {c : List Value} (h : kEntry.K w y c) : c = encE y := by
  obtain ⟨c1, c2, rfl, h1, c3, c4, rfl, h2, c5, c6, rfl, h3, h4⟩ := h
  simp only [Kd.string, Kd.int, Kd.bool, Kd.scalar] at h1 h2 h3 h4
  subst h1; subst h2; subst h3; subst h4
  rfl
theorem rd_entries : Rd (Kd.slice 53 kEntry) Try.prog 64 (fun xs => xs.length * Try.prog.bytesOf 53 ≤ 140737488351232 ∧ ∀ x ∈ xs, QEntry x) := Rd.slice Try.underlying64 (by kernel_rfl) rd_entry
theorem sl_entries {w : World} {A : Option Addr} {l : List Ent} (h : kEntry.C w A l.length l) : Sl encE 4 w A l := Sl.of_C (fun _ _ _ hk => form_entry hk) rfl (fun _ => by simp [encE]) h
theorem entries_ok {l : List Ent} (h : l.length * Try.prog.bytesOf 53 ≤ 140737488351232 ∧ ∀ x ∈ l, QEntry x) : l.length < 2932031007319 ∧ ∀ e ∈ l, e.2.1 ≤ 18446744073709551615 := by
  rw [show Try.prog.bytesOf 53 = 48 by kernel_rfl] at h
  exact ⟨by omega, fun e he => (wf_u64 (h.2 e he).2.1).2⟩
end Go.Proofs.Ytjbbobhjomhnmaa.H
