/-
  Contract of appendArc: the spans of an arc are appended to a row of the caller's own.
-/
import Derived.Test.YtjeocfkijbpinaaValid
import Derived.Test.YtjeocfkijbpinaaArc
set_option linter.unusedVariables false
set_option linter.unusedSimpArgs false
namespace Go.Proofs.Ytjeocfkijbpinaa
open Go.RowKit RP

theorem own_at {a b : Option Nat} {n : Nat} (h : a = b ∨ a = some (n + 1)) : ∀ g, a = some g → b = some g ∨ n ≤ g := fun g hg => by
  rcases h with h | h
  · exact .inl (by rw [← h, hg])
  · rw [h] at hg; injection hg with hg; exact .inr (by omega)

end Go.Proofs.Ytjeocfkijbpinaa
