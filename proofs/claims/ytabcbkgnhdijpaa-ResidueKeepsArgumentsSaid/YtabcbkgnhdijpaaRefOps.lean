/-
  What the reference's operations on sets share.
-/
import Derived.Test.YtabcbkgnhdijpaaMarks
set_option linter.unusedVariables false
set_option linter.unusedSimpArgs false
namespace Go.Proofs.Ytabcbkgnhdijpaa
open Go.RowKit RP

theorem badI_zero {t : Int} {a b : List Sp} (h : badI t a b = 0) : validFrom t (-1) a = true ∧ validFrom t (-1) b = true := by
  unfold badI at h
  split at h
  · split at h
    · rename_i h1
      simp [validL] at h1
      exact ⟨h1.1.2, h1.2.2⟩
    · simp at h
  · simp at h

theorem badI_of {t : Int} {a b : List Sp} (hr : inRange t = true) (ha : validFrom t (-1) a = true) (hb : validFrom t (-1) b = true) : badI t a b = 0 := by
  simp [badI, hr, validL, ha, hb]

end Go.Proofs.Ytabcbkgnhdijpaa
