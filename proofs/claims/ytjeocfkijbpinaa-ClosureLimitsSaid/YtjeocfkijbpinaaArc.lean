/-
  Plain facts on arcs: the residues of from, .., from + n - 1, as spans and as marks.
-/
import Derived.Test.YtjeocfkijbpinaaSpan
set_option linter.unusedVariables false
set_option linter.unusedSimpArgs false
namespace RP

/-- The spans of the residues from, .., from + n - 1. -/
def arc (t f n : Int) : List Sp :=
  if n < 1 then [] else if t ≤ n then [(0, t)] else if f + n ≤ t then [(f, f + n)] else [(0, f + n - t), (f, t)]

theorem arc_length (t f n : Int) : (arc t f n).length ≤ 2 := by
  unfold arc
  split
  · simp
  · split
    · simp
    · split <;> simp

theorem subMod {t x f : Int} (h0 : 0 ≤ x) (h1 : x < t) (h2 : 0 ≤ f) (h3 : f < t) : (x - f) % t = if f ≤ x then x - f else x - f + t := by
  split
  · exact Int.emod_eq_of_lt (by omega) (by omega)
  · rw [← Int.add_emod_right]; exact Int.emod_eq_of_lt (by omega) (by omega)

theorem addMod {t x f : Int} (h0 : 0 ≤ x) (h1 : x < t) (h2 : 0 ≤ f) (h3 : f < t) : (x + f) % t = if x + f < t then x + f else x + f - t := by
  split
  · exact Int.emod_eq_of_lt (by omega) (by omega)
  · rw [show x + f = (x + f - t) + t by omega, Int.add_emod_right, show x + f - t + t - t = x + f - t by omega]; exact Int.emod_eq_of_lt (by omega) (by omega)

/-- The arc's marks. -/
def arcB (t f n : Int) (x : Nat) : Bool := decide (((x : Int) - f) % t < n)

theorem arc_valid {t f : Int} (n : Int) (h1 : 1 ≤ t) (h2 : 0 ≤ f) (h3 : f < t) : validFrom t (-1) (arc t f n) = true := by
  unfold arc
  split
  · rfl
  · split
    · simp [validFrom]; omega
    · split
      · simp [validFrom]; omega
      · simp [validFrom]; omega

theorem arc_mem {t f : Int} (n : Int) (h2 : 0 ≤ f) (h3 : f < t) (x : Int) (hx0 : 0 ≤ x) (hx : x < t) : mem (arc t f n) x = decide ((x - f) % t < n) := by
  rw [subMod hx0 hx h2 h3]
  apply mem_eq_of_iff
  unfold arc
  split
  · simp [mem]; split <;> omega
  · split
    · simp [mem]; split <;> omega
    · split
      · simp [mem]; split <;> omega
      · simp [mem]; split <;> omega

theorem arc_eq {t : Nat} {f : Int} (n : Int) (h1 : 1 ≤ t) (h2 : 0 ≤ f) (h3 : f < t) : arc t f n = runs (arcB t f n) t :=
  eq_runs (arc_valid n (by omega) h2 h3) fun x hx => arc_mem n h2 h3 x (by omega) (by omega)

/-- The marks of a predicate. -/
def bitsOf (t : Nat) (P : Nat → Bool) : List Bool := (List.range t).map P
theorem bitsOf_length (t : Nat) (P : Nat → Bool) : (bitsOf t P).length = t := by simp [bitsOf]
theorem bitsOf_get {t : Nat} {P : Nat → Bool} {i : Nat} (h : i < (bitsOf t P).length) : (bitsOf t P)[i] = P i := by simp [bitsOf]
theorem bitsOf_set (t : Nat) (P : Nat → Bool) (i : Nat) (b : Bool) : (bitsOf t P).set i b = bitsOf t fun x => if x = i then b else P x := by
  apply List.ext_getElem
  · simp [bitsOf]
  · intro j h1 h2
    rw [List.getElem_set]
    simp only [bitsOf, List.getElem_map, List.getElem_range]
    by_cases h : i = j
    · simp [h]
    · simp [h, Ne.symm h]
theorem bitsOf_congr {t : Nat} {P Q : Nat → Bool} (h : ∀ x, x < t → P x = Q x) : bitsOf t P = bitsOf t Q := by
  unfold bitsOf
  exact List.map_congr_left fun x hx => h x (by simpa using hx)
theorem bitsOf_false (t : Nat) : List.replicate t false = bitsOf t fun _ => false := by
  apply List.ext_getElem
  · simp [bitsOf]
  · intro j h1 h2; simp [bitsOf]

/-- One mark more of an arc. -/
theorem arcB_step {t : Nat} {f : Int} {k : Nat} (h2 : 0 ≤ f) (h3 : f < t) (hk : k < t) : (bitsOf t (arcB t f k)).set ((f + k) % t).toNat true = bitsOf t (arcB t f ((k : Int) + 1)) := by
  rw [bitsOf_set]
  refine bitsOf_congr fun x hx => ?_
  have a := addMod (t := t) (x := f) (f := k) h2 h3 (by omega) (by omega)
  have b := subMod (t := t) (x := x) (f := f) (by omega) (by omega) h2 h3
  rw [a]
  unfold arcB
  rw [b]
  by_cases c1 : f + k < t <;> by_cases c2 : f ≤ x <;> simp only [c1, c2, if_true, if_false] <;> (split <;> simp <;> omega)

theorem arcB_zero (t : Nat) (f : Int) (h : 1 ≤ t) : bitsOf t (arcB t f ((0 : Nat) : Int)) = bitsOf t fun _ => false :=
  bitsOf_congr fun x _ => by
    have := Int.emod_nonneg ((x : Int) - f) (show (t : Int) ≠ 0 by omega)
    simp [arcB]; omega

theorem arcB_full {t : Nat} {f n : Int} (h : 1 ≤ t) (hn : (t : Int) ≤ n) : bitsOf t (arcB t f n) = bitsOf t (arcB t f t) :=
  bitsOf_congr fun x _ => by
    have := Int.emod_lt_of_pos ((x : Int) - f) (show 0 < (t : Int) by omega)
    simp [arcB]; omega
theorem arcB_none {t : Nat} {f n : Int} (h : 1 ≤ t) (hn : n ≤ 0) : bitsOf t (arcB t f n) = bitsOf t (arcB t f ((0 : Nat) : Int)) :=
  bitsOf_congr fun x _ => by
    have := Int.emod_nonneg ((x : Int) - f) (show (t : Int) ≠ 0 by omega)
    simp [arcB]; omega

end RP
