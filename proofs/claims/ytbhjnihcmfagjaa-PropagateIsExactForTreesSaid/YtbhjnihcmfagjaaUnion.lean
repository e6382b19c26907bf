/-
  Contracts of Concat of two lists and of Union.
-/
import Derived.Test.YtbhjnihcmfagjaaCheck
import Derived.Test.YtbhjnihcmfagjaaRefSet
set_option linter.unusedVariables false
set_option linter.unusedSimpArgs false
namespace Go.Proofs.Ytbhjnihcmfagjaa
open Go.RowKit RP

def catN (a b : List Sp) : Nat → List Sp
  | 0 => []
  | 1 => a
  | _ => a ++ b

theorem valid_all {t : Int} : ∀ {l : List Sp} {p : Int}, validFrom t p l = true → -1 ≤ p → ∀ s ∈ l, 0 ≤ s.1 ∧ s.1 < s.2 ∧ s.2 ≤ t
  | [], _, _, _, s, hs => by simp at hs
  | u :: r, p, hv, hp, s, hs => by
    obtain ⟨h1, h2, h3, h4⟩ := validFrom_cons.1 hv
    rcases List.mem_cons.1 hs with rfl | hs
    · exact ⟨by omega, h2, h3⟩
    · exact valid_all h4 (by omega) s hs

theorem union_eq {T : Nat} {a b : List Sp} : runs (memN (a ++ b)) T = runs (unionB a b) T := runs_congr fun x _ => by simp [memN, unionB, RP.mem, List.any_append]

def unionI (t : Int) (a b : List Sp) : List Sp := if badI t a b = 0 then runs (unionB a b) t.toNat else []
theorem unionI_nat (T : Nat) (a b : List Sp) : unionI T a b = unionL T a b := by simp [unionI, unionL]

theorem badI_range {t : Int} {a b : List Sp} (h : badI t a b = 0) : 1 ≤ t ∧ t ≤ 7200 := by
  unfold badI at h
  split at h
  · rename_i h1; simpa [inRange] using h1
  · simp at h

end Go.Proofs.Ytbhjnihcmfagjaa
