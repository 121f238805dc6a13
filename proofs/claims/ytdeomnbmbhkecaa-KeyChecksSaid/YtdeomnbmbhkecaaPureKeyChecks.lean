/- The law KeyChecks: the error that ikey.Check tells of a key is the document's, for every key. No conditions. -/
import Derived.Test.YtdeomnbmbhkecaaPKeyChecksx1
namespace Go.Proofs.Ytdeomnbmbhkecaa.Pure
open Go.RowKit Go.Proofs.Ytdeomnbmbhkecaa.PKeyChecks Go.Proofs.YtdeomnbmbhkecaaW.PrintWords Go.Proofs.YtdeomnbmbhkecaaW.PrintLast

/-- YOURS: ∀ (a0 : ByteArray), a0.size ≤ 140737488351232 → screelaw1_KeyChecks.f a0 = some true
What it reaches (each with k first where it has rounds; `.mono`: more rounds tell the same; `.l0`, ..: its loops, with `.mono_l`): screelaw1_num.f, ikey_Check.f, screeref1_Check.f, screelaw1_KeyChecks.f -/
theorem KeyChecks : screelaw1_KeyChecks.Pure := by
  intro a0 _
  unfold screelaw1_KeyChecks.f ikey_Check.f screelaw1_num.f screeref1_Check.f
  by_cases h : a0.toList = ([] : List UInt8)
  · have hs : (a0.size : Int) = 0 := by
      have : a0.toList.length = a0.size := by rw [ByteArray.toList_eq, Array.length_toList]; rfl
      rw [h] at this; simp at this; omega
    rw [if_pos h, if_pos hs]; rfl
  · have hs : ¬ (a0.size : Int) = 0 := by
      intro hs
      have : a0.toList.length = a0.size := by rw [ByteArray.toList_eq, Array.length_toList]; rfl
      exact h (List.eq_nil_of_length_eq_zero (by omega))
    rw [if_neg h, if_neg hs]
    by_cases h2 : (a0.size : Int) > 64
    · simp only [if_pos h2]; rfl
    · simp only [if_neg h2]; rfl

end Go.Proofs.Ytdeomnbmbhkecaa.Pure
