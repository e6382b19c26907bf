/-
  What the walks of the laws on sets share.
-/
import Derived.Test.YtabcbkgnhdijpaaAwake
import Derived.Test.YtabcbkgnhdijpaaSet
set_option linter.unusedVariables false
set_option linter.unusedSimpArgs false
namespace Go.Proofs.Ytabcbkgnhdijpaa
open Go.RowKit RP

/-- A row of the call's own as an argument. -/
theorem Own.arg {w : World} {base : Nat} {v : Value} {l : List Sp} (h : OwnS w base v l) : ∃ A c, v = .slice A l.length c ∧ Lst encS 2 w w.heap.size A l ∧ l.length ≤ c ∧ c ≤ 9223372036854775807 := by
  rcases h.2 with ⟨rfl, h0⟩ | ⟨g, cap, cur, rfl, _, _, hn, hm, _⟩
  · have : l = [] := List.eq_nil_of_length_eq_zero h0
    subst this
    exact ⟨none, 0, rfl, Lst.nil, by simp, by omega⟩
  · exact ⟨_, _, rfl, h.lst encS_len, hn, by simp only [Go.maxLen] at hm; omega⟩

theorem belA (w : World) (o : Obj) : Below w.heap.size w (w.alloc o) := (Below.refl _ _).alloc (Nat.le_refl _) _

end Go.Proofs.Ytabcbkgnhdijpaa
