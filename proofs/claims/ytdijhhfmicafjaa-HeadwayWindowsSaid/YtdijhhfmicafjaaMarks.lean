/-
  Contract of the reference's marks: for each residue, whether a valid set contains it.
-/
import Derived.Test.YtdijhhfmicafjaaRefMake
set_option linter.unusedVariables false
set_option linter.unusedSimpArgs false
namespace Go.Proofs.Ytdijhhfmicafjaa
open Go.RowKit RP

/-- The marks while a span is being marked. -/
def mk (r : List Sp) (f x : Int) (y : Nat) : Bool := mem r y || (decide (f ≤ (y : Int)) && decide ((y : Int) < x))
def memN (l : List Sp) (y : Nat) : Bool := mem l y

theorem mk_set {T : Nat} {r : List Sp} {f : Int} {X : Nat} (h : f ≤ X) : (bitsOf T (mk r f X)).set X true = bitsOf T (mk r f ((X : Int) + 1)) := by
  rw [bitsOf_set]
  refine bitsOf_congr fun y hy => ?_
  unfold mk
  by_cases e : y = X
  · subst e
    rw [if_pos rfl]
    symm
    simp
    right
    omega
  · rw [if_neg e]
    congr 2
    simp
    omega
theorem mk_first {T : Nat} (r : List Sp) (f : Int) : bitsOf T (mk r f f) = bitsOf T (memN r) :=
  bitsOf_congr fun y _ => by
    unfold mk memN
    have : (decide (f ≤ (y : Int)) && decide ((y : Int) < f)) = false := by simp
    rw [this, Bool.or_false]
theorem mk_last {T : Nat} (r : List Sp) (s : Sp) : bitsOf T (mk r s.1 s.2) = bitsOf T (memN (r ++ [s])) :=
  bitsOf_congr fun y _ => by simp [mk, memN, mem, List.any_append]

theorem valid_at {t p : Int} {l : List Sp} (hv : validFrom t p l = true) {k : Nat} (hk : k < l.length) (hp : -1 ≤ p) : 0 ≤ l[k].1 ∧ l[k].1 < l[k].2 ∧ l[k].2 ≤ t := by
  induction l generalizing p k with
  | nil => simp at hk
  | cons s r ih =>
    obtain ⟨h1, h2, h3, h4⟩ := validFrom_cons.1 hv
    cases k with
    | zero => simp only [List.getElem_cons_zero]; omega
    | succ k => simp only [List.getElem_cons_succ]; exact ih h4 (by simpa using hk) (by omega)

end Go.Proofs.Ytdijhhfmicafjaa
