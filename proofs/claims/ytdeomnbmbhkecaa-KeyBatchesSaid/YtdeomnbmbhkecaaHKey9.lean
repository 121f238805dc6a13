/- The chapter's examples ('known'), walked. No conditions. -/
import Derived.Test.YtdeomnbmbhkecaaHKey8
namespace Go.Proofs.Ytdeomnbmbhkecaa.H
open Go.RowKit Go.Deep Go.Proofs.YtdeomnbmbhkecaaW.PrintWords
set_option linter.unusedVariables false
set_option linter.unusedSimpArgs false
theorem encE_len (x : Ent) : (encE x).length = 4 := rfl
theorem encW_len (x : Wri) : (encW x).length = 3 := rfl
def kl : List Wri := [(⟨#[97, 98]⟩, false, ⟨#[120, 121, 122]⟩), (⟨#[97, 98]⟩, true, ⟨#[113]⟩)]
theorem kl_ents : ents 7 kl = [(⟨#[97, 98]⟩, 7, false, ⟨#[120, 121, 122]⟩), (⟨#[97, 98]⟩, 8, true, ⟨#[]⟩)] := rfl
set_option maxHeartbeats 3200000 in
set_option maxRecDepth 100000 in
theorem known_c (w : World) : Calls Try.prog 33 #[] w fun e w' => e = .returned (.bool true) ∧ Below w.heap.size w w' := by
  go_enter Try.func33, Try.ntmps33
  go_wp2_with fail
  refine (entries_c 7 (some ⟨w.heap.size, 0, none⟩) 2 kl (by decide) _ ?_).mono ?_
  · exact Sl.of_block encW_len (heap_alloc_new _ _) rfl (by decide)
  rintro e w1 ⟨v, rfl, ho, hb⟩
  rw [kl_ents] at ho
  obtain ⟨A, c, rfl, hlc, hs, hne⟩ := ho.slice encE_len
  obtain ⟨g, rfl, hge, hgl⟩ := hne (by simp)
  have hl : Sl encW 3 w1 (some ⟨w.heap.size, 0, none⟩) kl := (Sl.of_block encW_len (heap_alloc_new _ _) rfl (by decide)).later hb
  have hB : Below w.heap.size w w1 := ((Below.refl _ _).alloc (Nat.le_refl _) _).trans (hb.mono (by simp))
  rcases hs.2 with h0 | ⟨b, o, he, hbl, hc⟩
  · simp at h0
  injection he with he
  injection he with he1 he2
  subst he1; subst he2
  have c0 : w1.cell? ⟨g, 0, none⟩ = some (.string ⟨#[97, 98]⟩) := hc 0 _ rfl 0 _ rfl
  have c1 : w1.cell? ⟨g, 1, none⟩ = some (.int .u64 7) := hc 0 _ rfl 1 _ rfl
  have c2 : w1.cell? ⟨g, 2, none⟩ = some (.bool false) := hc 0 _ rfl 2 _ rfl
  have c3 : w1.cell? ⟨g, 3, none⟩ = some (.string ⟨#[120, 121, 122]⟩) := hc 0 _ rfl 3 _ rfl
  have d0 : w1.cell? ⟨g, 4, none⟩ = some (.string ⟨#[97, 98]⟩) := hc 1 _ rfl 0 _ rfl
  have d1 : w1.cell? ⟨g, 5, none⟩ = some (.int .u64 8) := hc 1 _ rfl 1 _ rfl
  have d2 : w1.cell? ⟨g, 6, none⟩ = some (.bool true) := hc 1 _ rfl 2 _ rfl
  have d3 : w1.cell? ⟨g, 7, none⟩ = some (.string ⟨#[]⟩) := hc 1 _ rfl 3 _ rfl
  clear hc hs hne ho hlc
  have e1 : sumW kl = 907 := rfl
  have e2 : wt (⟨#[97, 98]⟩ : ByteArray) true ⟨#[]⟩ = 452 := rfl
  have e3 : cmpE (⟨#[97, 98]⟩ : ByteArray).toList (⟨#[97, 98]⟩ : ByteArray).toList 8 7 = -1 := by rw [cmpE_eq 8 7 (less_irrefl _) (less_irrefl _)]; rfl
  have e4 : chk (⟨#[]⟩ : ByteArray) = 10 := rfl
  have q27 : ∀ W : World, Sl encW 3 W (some ⟨w.heap.size, 0, none⟩) kl → Calls Try.prog 27 #[.slice (some ⟨w.heap.size, 0, none⟩) 2 2] W fun e w' => e = .returned (.int .i64 907) ∧ Below W.heap.size W w' := fun W h => by
    have := batchweight_c (some ⟨w.heap.size, 0, none⟩) 2 kl (by decide) (by intro x hx; simp only [kl, List.mem_cons, List.not_mem_nil, or_false] at hx; rcases hx with rfl | rfl <;> exact ⟨by decide, by decide⟩) W h
    rw [e1] at this
    exact this
  have q25 : ∀ W : World, Calls Try.prog 25 #[.agg #[.string ⟨#[97, 98]⟩, .int .u64 8, .bool true, .string ⟨#[]⟩]] W fun e w' => e = .returned (.int .i64 452) ∧ Below W.heap.size W w' := fun W => by
    have := weight_c ⟨#[97, 98]⟩ 8 true ⟨#[]⟩ (by decide) (by decide) W
    rw [e2] at this
    exact this
  have q31 : ∀ W : World, Calls Try.prog 31 #[.agg #[.string ⟨#[97, 98]⟩, .int .u64 8, .bool true, .string ⟨#[]⟩], .agg #[.string ⟨#[97, 98]⟩, .int .u64 7, .bool false, .string ⟨#[120, 121, 122]⟩]] W fun e w' => e = .returned (.int .i64 (-1)) ∧ Below W.heap.size W w' := fun W => by
    have := compare_c ⟨#[97, 98]⟩ 8 true ⟨#[]⟩ ⟨#[97, 98]⟩ 7 false ⟨#[120, 121, 122]⟩ W
    rw [e3] at this
    exact this
  have q17 : ∀ W : World, Calls Try.prog 17 #[.string ⟨#[]⟩] W fun e w' => e = .returned (.int .i64 10) ∧ W = w' := fun W => by
    have := check_c ⟨#[]⟩ W
    rw [e4] at this
    exact this
  clear e1 e2 e3 e4
  have Q27 := Lib.hid q27
  have Q25 := Lib.hid q25
  have Q31 := Lib.hid q31
  have Q17 := Lib.hid q17
  clear q27 q25 q31 q17
  have HL := Lib.hid hl
  have HB := Lib.hid hB
  have hge' : w.heap.size < g := by simp at hge; omega
  clear hl hB hb hge
  have i0 : (0 : Int) < ((2 : Nat) : Int) := by omega
  have i1 : (1 : Int) < ((2 : Nat) : Int) := by omega
  go_wp2_with fail
  go_region_held3 (fun w' => g < w'.heap.size ∧ Below w.heap.size w w' ∧ Sl encW 3 w' (some ⟨w.heap.size, 0, none⟩) kl ∧ w'.cell? ⟨g, 0, none⟩ = some (.string ⟨#[97, 98]⟩) ∧ w'.cell? ⟨g, 1, none⟩ = some (.int .u64 7) ∧ w'.cell? ⟨g, 2, none⟩ = some (.bool false) ∧ w'.cell? ⟨g, 3, none⟩ = some (.string ⟨#[120, 121, 122]⟩) ∧
      w'.cell? ⟨g, 4, none⟩ = some (.string ⟨#[97, 98]⟩) ∧ w'.cell? ⟨g, 5, none⟩ = some (.int .u64 8) ∧ w'.cell? ⟨g, 6, none⟩ = some (.bool true) ∧ w'.cell? ⟨g, 7, none⟩ = some (.string ⟨#[]⟩))
    (first | (exact ⟨hgl, HB.out.drew, HL.out.later ((Below.refl _ _).drew), c0, c1, c2, c3, d0, d1, d2, d3⟩) | assumption | (go_split_ands; refine ⟨by have := hb.size; omega, Below.trans (by assumption) (hb.mono (by omega)), Sl.later (by assumption) hb, ?_, ?_, ?_, ?_, ?_, ?_, ?_, ?_⟩ <;> (rw [hb.cell (by simp; omega)]; assumption)))
    (first | (go_at_call 27; refine (Q27.out _ ?_).mono ?_; (go_split_ands; assumption); rintro e w2 ⟨rfl, hb⟩) | (go_at_call 25; refine (Q25.out _).mono ?_; rintro e w2 ⟨rfl, hb⟩) | (go_at_call 31; refine (Q31.out _).mono ?_; rintro e w2 ⟨rfl, hb⟩) | (go_at_call 17; refine (Q17.out _).mono ?_; rintro e w2 ⟨rfl, rfl⟩) | (go_at_call 16; refine (num_c _ _).mono ?_; rintro e w2 ⟨rfl, rfl⟩))
  rename_i hH
  have hfin := hH.2.1
  clear hH
  go_wp2
  go_ret
  exact ⟨by simp, hfin⟩
end Go.Proofs.Ytdeomnbmbhkecaa.H
