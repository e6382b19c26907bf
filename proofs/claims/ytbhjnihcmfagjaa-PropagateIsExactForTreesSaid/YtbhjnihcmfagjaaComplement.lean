/-
  Contract of Complement.
-/
import Derived.Test.YtbhjnihcmfagjaaUnion
import Derived.Test.YtbhjnihcmfagjaaRefSet
import Derived.Test.YtbhjnihcmfagjaaPlain
set_option linter.unusedVariables false
set_option linter.unusedSimpArgs false
namespace Go.Proofs.Ytbhjnihcmfagjaa
open Go.RowKit RP

def compI (t : Int) (a : List Sp) : List Sp := if badI t a [] = 0 then runs (compB a) t.toNat else []
theorem compI_nat (T : Nat) (a : List Sp) : compI T a = compL T a := by simp [compI, compL]

theorem comp_eq {T : Nat} {a : List Sp} (hv : validFrom T (-1) a = true) : gapsEnd T a = runs (compB a) T := by
  obtain ⟨h1, h2⟩ := gapsEnd_spec (t := T) (by omega) hv
  exact eq_runs h1 fun x hx => by rw [h2 x (by omega) (by omega)]; rfl

theorem gaps_yes {l : List Sp} {k : Nat} (hk : k < l.length) (h : (gaps (l.take k)).2 < l[k].1) : gaps (l.take (k + 1)) = ((gaps (l.take k)).1 ++ [((gaps (l.take k)).2, l[k].1)], l[k].2) := by
  rw [List.take_succ_eq_append_getElem hk, gaps_snoc]; simp [gapStep, h]
theorem gaps_no {l : List Sp} {k : Nat} (hk : k < l.length) (h : ¬ (gaps (l.take k)).2 < l[k].1) : gaps (l.take (k + 1)) = ((gaps (l.take k)).1, l[k].2) := by
  rw [List.take_succ_eq_append_getElem hk, gaps_snoc]; simp [gapStep, h]

end Go.Proofs.Ytbhjnihcmfagjaa
