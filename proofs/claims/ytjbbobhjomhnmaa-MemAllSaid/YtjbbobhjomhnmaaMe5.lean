/- mem.Table.From, All as values. No conditions. -/
import Derived.Test.YtjbbobhjomhnmaaMe4
import Derived.Test.YtjbbobhjomhnmaaMe3
import Derived.Test.YtjbbobhjomhnmaaMeA
namespace Go.Proofs.Ytjbbobhjomhnmaa.H
open Go Go.RowKit Go.Deep Go.Shelf Go.Proofs Go.Proofs.YtjbbobhjomhnmaaW.PrintWords
set_option linter.unusedVariables false
set_option linter.unusedSimpArgs false
set_option maxHeartbeats 1000000 in
theorem mfrom_c (p : Option Addr) (k : ByteArray) (q : Int) (w : World) : Calls Try.prog 44 #[.pointer p, .string k, .int .u64 q] w fun e w' =>
    e = .returned (.func (.func 93) #[] #[.pointer (some ⟨w.heap.size, 0, none⟩), .pointer (some ⟨w.heap.size + 1, 0, none⟩), .pointer (some ⟨w.heap.size + 1 + 1, 0, none⟩)]) ∧
      w' = ((w.alloc (.cells #[.pointer p] 81)).alloc (.cells #[.string k] 9)).alloc (.cells #[.int .u64 q] 51) := by
  go_enter Try.func44, Try.ntmps44
  go_wp2
  go_ret
  exact ⟨rfl, rfl⟩
theorem mfrom_v {t g : Nat} {S : Nat → Prop} {draws : List Int} {m : MemV} (k : ByteArray) (q : Int) {w : World} (h : MemIs w t g S draws m) :
    Calls Try.prog 44 #[.pointer (some ⟨t, 0, none⟩), .string k, .int .u64 q] w fun e w' => ∃ f, e = .returned f ∧ IterV Try.prog f encA w'.heap.size (thin q (notAhead k 18446744073709551615 (allE m.L))) w' ∧ Below w.heap.size w w' := by
  refine (mfrom_c (some ⟨t, 0, none⟩) k q w).mono ?_
  rintro e w' ⟨rfl, rfl⟩
  have hb : Below w.heap.size w (((w.alloc (.cells #[.pointer (some ⟨t, 0, none⟩)] 81)).alloc (.cells #[.string k] 9)).alloc (.cells #[.int .u64 q] 51)) := (((Below.refl _ _).alloc (Nat.le_refl _) _).alloc (by simp) _).alloc (by simp; omega) _
  refine ⟨_, rfl, ⟨_, _, rfl, enters_of Try.func93 (by kernel_rfl) rfl, fun W hW => ?_⟩, hb⟩
  refine mfrom1_it _ W t g S draws m k q hW (h.later hb) _ _ _ ?_ ?_ ?_
  · exact (blk_cell (blk_alloc (blk_alloc (heap_alloc_new _ _) _) _) 0).trans rfl
  · exact (blk_cell (blk_alloc (by simpa using heap_alloc_new (w.alloc (.cells #[.pointer (some ⟨t, 0, none⟩)] 81)) (.cells #[.string k] 9)) _) 0).trans rfl
  · exact (blk_cell (by simpa using heap_alloc_new ((w.alloc (.cells #[.pointer (some ⟨t, 0, none⟩)] 81)).alloc (.cells #[.string k] 9)) (.cells #[.int .u64 q] 51)) 0).trans rfl
set_option maxHeartbeats 1000000 in
theorem mall_v {t g : Nat} {S : Nat → Prop} {draws : List Int} {m : MemV} {w0 w : World} (h : MemIs w0 t g S draws m) (hb0 : Below w0.heap.size w0 w) :
    Calls Try.prog 37 #[.pointer (some ⟨t, 0, none⟩)] w fun e w' => ∃ f, e = .returned f ∧ IterV Try.prog f encA w0.heap.size (notAhead ⟨#[]⟩ 18446744073709551615 (allE m.L)) w' ∧ Below w.heap.size w w' := by
  have h2 := h.later hb0
  obtain ⟨⟨t0, t1, t2, t3⟩, _⟩ := h2.cells
  have HF := Lib.hid (from_L g S draws m.L ⟨#[]⟩ 18446744073709551615 w0 w h.list hb0)
  clear h h2 hb0
  go_enter Try.func37, Try.ntmps37
  go_wp2_with fail
  refine HF.out.mono ?_
  rintro e w' ⟨f, rfl, hit, hb⟩
  go_wp2
  go_ret
  exact ⟨f, rfl, hit, hb⟩
end Go.Proofs.Ytjbbobhjomhnmaa.H
