/-
  Contracts of Valid and ValidSpans: they answer whether a list of spans is valid, for arbitrary lists.
-/
import Derived.Test.YtlillkfelfoafaaKit
set_option linter.unusedVariables false
set_option linter.unusedSimpArgs false
namespace Go.Proofs.Ytlillkfelfoafaa
open Go.RowKit RP

/-- After k elements: whether all of them passed, and the last end. -/
theorem validFrom_split (t : Int) : ∀ (l r : List Sp) (p : Int), validFrom t p (l ++ r) = (validFrom t p l && validFrom t (lastTo p l) r)
  | [], _, _ => by simp [validFrom, lastTo]
  | s :: l, r, p => by simp [validFrom, lastTo, validFrom_split t l r, Bool.and_assoc]

theorem valid_step_no {t : Int} {l : List Sp} {k : Nat} (hk : k < l.length) {p : Int} (h : ¬ (lastTo p (l.take k) < l[k].1 ∧ l[k].1 < l[k].2 ∧ l[k].2 ≤ t)) : validFrom t p l = false := by
  rw [← List.take_append_drop k l, validFrom_split, List.drop_eq_getElem_cons hk]
  cases hh : validFrom t p (l.take k) with
  | false => rfl
  | true =>
    simp only [Bool.true_and]
    cases h2 : validFrom t (lastTo p (l.take k)) (l[k] :: l.drop (k + 1)) with
    | false => rfl
    | true =>
      obtain ⟨a, b, c, _⟩ := validFrom_cons.1 h2
      exact absurd ⟨a, b, c⟩ h

end Go.Proofs.Ytlillkfelfoafaa
