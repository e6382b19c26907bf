/-
  Contract of the reference's Union.
-/
import Derived.Test.YtdijhhfmicafjaaRefOps
set_option linter.unusedVariables false
set_option linter.unusedSimpArgs false
namespace Go.Proofs.Ytdijhhfmicafjaa
open Go.RowKit RP

def unionB (a b : List Sp) (x : Nat) : Bool := memN a x || memN b x
def unionL (t : Nat) (a b : List Sp) : List Sp := if badI t a b = 0 then runs (unionB a b) t else []

def unionHalf (a b : List Sp) (k x : Nat) : Bool := if x < k then unionB a b x else memN a x
theorem unionHalf_zero (T : Nat) (a b : List Sp) : bitsOf T (memN a) = bitsOf T (unionHalf a b 0) := bitsOf_congr fun x _ => by simp [unionHalf]
theorem unionHalf_full (T : Nat) (a b : List Sp) : bitsOf T (unionHalf a b T) = bitsOf T (unionB a b) := bitsOf_congr fun x hx => by simp [unionHalf, hx]
theorem unionHalf_step (T : Nat) (a b : List Sp) (k : Nat) : (bitsOf T (unionHalf a b k)).set k (unionB a b k) = bitsOf T (unionHalf a b (k + 1)) := by
  rw [bitsOf_set]
  refine bitsOf_congr fun x _ => ?_
  unfold unionHalf
  by_cases e : x = k
  · subst e; simp
  · rw [if_neg e]
    by_cases h : x < k
    · rw [if_pos h, if_pos (by omega)]
    · rw [if_neg h, if_neg (by omega)]

end Go.Proofs.Ytdijhhfmicafjaa
