/-
  Plain facts: the number of residues of a set, counted; it does not change by shifting or negating the residues.
-/
import Derived.Test.YtabcbkgnhdijpaaShiftP
set_option linter.unusedVariables false
set_option linter.unusedSimpArgs false
namespace RP

/-- How many x below k have the property. -/
def cntN (P : Nat → Bool) : Nat → Nat
  | 0 => 0
  | k + 1 => cntN P k + if P k then 1 else 0

theorem cntN_congr {P Q : Nat → Bool} : ∀ {k : Nat}, (∀ x, x < k → P x = Q x) → cntN P k = cntN Q k
  | 0, _ => rfl
  | k + 1, h => by
    have ih := cntN_congr (P := P) (Q := Q) (k := k) fun x hx => h x (by omega)
    simp only [cntN, h k (by omega), ih]

theorem cntN_le (P : Nat → Bool) : ∀ k, cntN P k ≤ k
  | 0 => Nat.le_refl _
  | k + 1 => by have := cntN_le P k; simp only [cntN]; split <;> omega

theorem cntN_not (P : Nat → Bool) : ∀ k, cntN P k + cntN (fun x => !P x) k = k
  | 0 => rfl
  | k + 1 => by
    have := cntN_not P k
    simp only [cntN]
    by_cases h : P k = true <;> simp [h] <;> omega

theorem cntN_add (P : Nat → Bool) (a : Nat) : ∀ b, cntN P (a + b) = cntN P a + cntN (fun x => P (a + x)) b
  | 0 => rfl
  | b + 1 => by
    have := cntN_add P a b
    rw [← Nat.add_assoc]
    simp only [cntN, this]
    omega

theorem cntN_rev (P : Nat → Bool) : ∀ k, cntN (fun x => P (k - 1 - x)) k = cntN P k
  | 0 => rfl
  | k + 1 => by
    have ih := cntN_rev P k
    have h := cntN_add (fun x => P (k + 1 - 1 - x)) 1 k
    rw [Nat.add_comm 1 k] at h
    rw [h]
    have e1 : cntN (fun x => P (k + 1 - 1 - x)) 1 = if P k then 1 else 0 := by simp [cntN]
    have e2 : cntN (fun x => P (k + 1 - 1 - (1 + x))) k = cntN P k := by
      rw [← ih]
      exact cntN_congr fun x _ => by rw [show k + 1 - 1 - (1 + x) = k - 1 - x by omega]
    rw [e1, e2]
    simp only [cntN]
    omega

theorem cntN_shift (P : Nat → Bool) {T d : Nat} (hd : d ≤ T) : cntN (fun x => P ((x + d) % T)) T = cntN P T := by
  have h := cntN_add (fun x => P ((x + d) % T)) (T - d) d
  rw [Nat.sub_add_cancel hd] at h
  have h' := cntN_add P d (T - d)
  rw [Nat.add_sub_cancel' hd] at h'
  rw [h, h']
  have e1 : cntN (fun x => P ((x + d) % T)) (T - d) = cntN (fun x => P (d + x)) (T - d) := cntN_congr fun x hx => by
    rw [Nat.mod_eq_of_lt (by omega), Nat.add_comm]
  have e2 : cntN (fun x => P ((T - d + x + d) % T)) d = cntN P d := cntN_congr fun x hx => by
    rw [show T - d + x + d = x + T by omega, Nat.add_mod_right, Nat.mod_eq_of_lt (by omega)]
  rw [e1, e2]
  omega

theorem emod_toNat {x : Int} {T : Nat} (h : 0 ≤ x) : (x % T).toNat = x.toNat % T := by
  obtain ⟨n, rfl⟩ := Int.eq_ofNat_of_zero_le h
  rw [← Int.natCast_emod, Int.toNat_natCast, Int.toNat_natCast]

/-- Shifting by any number. -/
theorem cntN_shiftI (P : Nat → Bool) {T : Nat} (hT : 1 ≤ T) (d : Int) : cntN (fun x => P (((x : Int) + d) % T).toNat) T = cntN P T := by
  have d0 := Int.emod_nonneg d (show (T : Int) ≠ 0 by omega)
  have d1 := Int.emod_lt_of_pos d (show 0 < (T : Int) by omega)
  rw [← cntN_shift P (T := T) (d := (d % T).toNat) (by omega)]
  refine cntN_congr fun x hx => ?_
  rw [← Int.add_emod_emod, emod_toNat (by omega)]
  congr 2
  omega

/-- Negating and shifting. -/
theorem cntN_negI (P : Nat → Bool) {T : Nat} (hT : 1 ≤ T) (c : Int) : cntN (fun x => P ((c - (x : Int)) % T).toNat) T = cntN P T := by
  rw [← cntN_rev, ← cntN_shiftI P hT (c + 1 - T)]
  refine cntN_congr fun x hx => ?_
  have e1 : ((T - 1 - x : Nat) : Int) = (T : Int) - 1 - x := by omega
  rw [e1, show c - ((T : Int) - 1 - x) = (x : Int) + (c + 1 - T) by omega]

theorem total_stepRun (out : List Sp) (x : Int) : total (stepRun out x) = total out + 1 := by
  rcases snoc_cases out with rfl | ⟨r, s, rfl⟩
  · simp [stepRun, total]; omega
  · simp only [stepRun, List.getLast?_append, List.getLast?_singleton, Option.some_or, List.dropLast_concat]
    split
    · rename_i h
      rw [total_append, total_append]
      simp [total]; omega
    · rw [total_append]
      simp [total]; omega

theorem total_runs (P : Nat → Bool) : ∀ k, total (runs P k) = cntN P k
  | 0 => rfl
  | k + 1 => by
    have ih := total_runs P k
    simp only [runs, cntN]
    split
    · rw [total_stepRun, ih]; omega
    · rw [ih]; omega

theorem total_valid {T : Nat} {l : List Sp} (hv : validFrom T (-1) l = true) : total l = cntN (fun x => mem l x) T := by
  have := eq_runs hv (P := fun x => mem l x) (fun x _ => rfl)
  have h2 := total_runs (fun x => mem l x) T
  rw [← this] at h2
  exact h2

theorem countL_valid {T : Nat} {l : List Sp} (h1 : 1 ≤ T) (h2 : T ≤ 7200) (hv : validFrom T (-1) l = true) : countL T l = cntN (fun x => mem l x) T := by
  have : validL T l = true := by simp [validL, inRange, hv]; omega
  rw [countL, this, if_pos rfl]
  exact total_valid hv

theorem mem_runs_nat (P : Nat → Bool) {T x : Nat} (h : x < T) : mem (runs P T) (x : Int) = P x := by
  rw [mem_runs]; simp [h]

/-- Pigeonhole: two properties that together hold more than k times hold together somewhere. -/
theorem cntN_both {P Q : Nat → Bool} : ∀ {k : Nat}, k < cntN P k + cntN Q k → ∃ x, x < k ∧ P x = true ∧ Q x = true
  | 0, h => by simp [cntN] at h
  | k + 1, h => by
    simp only [cntN] at h
    by_cases hp : P k = true ∧ Q k = true
    · exact ⟨k, by omega, hp.1, hp.2⟩
    · have : k < cntN P k + cntN Q k := by
        cases hP : P k <;> cases hQ : Q k <;> simp [hP, hQ] at h hp <;> omega
      obtain ⟨x, hx, q⟩ := cntN_both this
      exact ⟨x, by omega, q⟩

end RP
