/-
  What the operations on residue sets give on the canonical lists of sets.
-/
import Derived.Test.YtbhjnihcmfagjaaNeg
import Derived.Test.YtbhjnihcmfagjaaSum
import Derived.Test.YtbhjnihcmfagjaaSumP
import Derived.Test.YtbhjnihcmfagjaaIntersect
import Derived.Test.YtbhjnihcmfagjaaQ
set_option linter.unusedVariables false
set_option linter.unusedSimpArgs false
namespace Go.Proofs.Ytbhjnihcmfagjaa
open Go.RowKit RP

section
variable {T : Nat} (h1 : 1 ≤ T) (h2 : T ≤ 7200)
include h1 h2
theorem inRange_nat : inRange (T : Int) = true := by simp [inRange]; omega
theorem valid_runs (P : Nat → Bool) : validL T (runs P T) = true := by rw [validL, inRange_nat h1 h2, runs_valid]; rfl
theorem bad_runs (P Q : Nat → Bool) : badI T (runs P T) (runs Q T) = 0 := by rw [badI, inRange_nat h1 h2, valid_runs h1 h2, valid_runs h1 h2]; rfl
theorem inter_runs (P Q : Nat → Bool) : interI T (runs P T) (runs Q T) = runs (fun x => P x && Q x) T := by
  rw [interI, if_pos (bad_runs h1 h2 P Q)]
  rw [Int.toNat_natCast]
  exact runs_congr fun x hx => by
    unfold interB memN
    rw [mem_runs_nat _ hx, mem_runs_nat _ hx]
theorem count_runs (P : Nat → Bool) : countL T (runs P T) = cntN P T := by
  rw [countL, if_pos (valid_runs h1 h2 P), total_runs]
omit h1 h2 in
theorem runs_bounds (P : Nat → Bool) : ∀ s ∈ runs P T, 0 ≤ s.1 ∧ s.1 < s.2 ∧ s.2 ≤ (T : Int) := valid_all (runs_valid P T) (by omega)
omit h1 in
theorem runs_small (P : Nat → Bool) : SmallL (runs P T) := fun s hs => by have := runs_bounds P s hs; omega
theorem make_runs (f n : Int) : makeL T f n = runs (arcB T (f % T) n) T := by
  rw [makeL, if_pos (inRange_nat h1 h2), modI_emod (by omega)]
  exact arc_eq n h1 (Int.emod_nonneg _ (by omega)) (Int.emod_lt_of_pos _ (by omega))
theorem sum_runs (P Q : Nat → Bool) : sumI T (runs P T) (runs Q T) = runs (sumB T P Q) T := by
  rw [sumI, if_pos (bad_runs h1 h2 P Q)]
  rw [Int.toNat_natCast]
  exact runs_congr fun x hx => by
    refine mem_eq_of_iff ?_
    rw [marked_sum h1 (runs_bounds P) (runs_bounds Q), sumB_iff]
    constructor
    · rintro ⟨y, y0, y1, p, q⟩
      obtain ⟨a, rfl⟩ := Int.eq_ofNat_of_zero_le y0
      refine ⟨a, by omega, by rw [← p, mem_runs_nat _ (show a < T by omega)], ?_⟩
      rw [← res_val h1, mem_runs_nat _ (res_lt h1 _)] at q
      exact q
    · rintro ⟨a, ha, p, q⟩
      refine ⟨a, by omega, by omega, by rw [mem_runs_nat _ ha]; exact p, ?_⟩
      rw [← res_val h1, mem_runs_nat _ (res_lt h1 _)]
      exact q
end

/-- A list turned round. -/
def rvL (T : Nat) : List Sp → List Sp
  | [] => []
  | s :: r => rvL T r ++ [((T : Int) - s.2, (T : Int) - s.1)]
theorem rvL_eq (T : Nat) : ∀ l : List Sp, rvL T l = (l.map fun s => ((T : Int) - s.2, (T : Int) - s.1)).reverse
  | [] => rfl
  | s :: r => by rw [rvL, rvL_eq T r]; simp
theorem rvL_valid {T : Nat} : ∀ {l : List Sp} {p : Int}, validFrom T p l = true → -1 ≤ p → p ≤ T → validFrom T (-1) (rvL T l) = true ∧ lastTo (-1) (rvL T l) ≤ (T : Int) - p ∧ (l ≠ [] → lastTo (-1) (rvL T l) < (T : Int) - p)
  | [], p, _, hp0, hp => ⟨rfl, by simp [rvL, lastTo]; omega, fun h => absurd rfl h⟩
  | s :: r, p, h, hp0, hp => by
    obtain ⟨a, b, c, d⟩ := validFrom_cons.1 h
    obtain ⟨i1, i2, i3⟩ := rvL_valid d (by omega) c
    refine ⟨validFrom_snoc.2 ⟨i1, ?_, by omega, by omega⟩, by rw [rvL, lastTo_snoc]; dsimp only; omega, fun _ => by rw [rvL, lastTo_snoc]; dsimp only; omega⟩
    cases r with
    | nil => simp [rvL, lastTo]; omega
    | cons u r => exact i3 (by simp)
theorem mem_rvL {T : Nat} {y : Int} : ∀ {l : List Sp}, mem (rvL T l) y = mem l ((T : Int) - 1 - y)
  | [] => rfl
  | s :: r => by
    refine mem_eq_of_iff ?_
    rw [rvL, mem_append, mem_rvL (l := r), mem_cons, mem_cons, mem_nil]
    constructor
    · rintro (h | h | h)
      · exact .inr h
      · exact .inl (by dsimp only at h; omega)
      · cases h
    · rintro (h | h)
      · exact .inr (.inl (by dsimp only; omega))
      · exact .inl h
theorem revBS_all (T : Nat) (l : List Sp) (hs : SmallL l) : revBS T (upto (bsAt l hs) l.length) = rvL T l := by
  rw [rvL_eq]
  refine List.ext_getElem (by simp [revBS, upto]) fun k hk hk' => ?_
  simp [revBS, upto] at hk
  simp [revBS, upto, bsAt]
  have : l.length - 1 - k < l.length := by omega
  simp [this]
theorem neg_runs {T : Nat} (h1 : 1 ≤ T) (h2 : T ≤ 7200) (P : Nat → Bool) (hs : SmallL (runs P T)) : shiftI T (revBS T (upto (bsAt (runs P T) hs) (runs P T).length)) (1 % (T : Int)) = runs (negB T P) T := by
  rw [revBS_all]
  have hv := (rvL_valid (runs_valid P T) (by omega) (by omega)).1
  rw [shiftI, Int.toNat_natCast, if_pos (by simp [badI, validL, inRange_nat h1 h2, hv, validFrom])]
  exact runs_congr fun x hx => by
    unfold shiftB negB
    rw [sub_emod_emod, mem_rvL]
    have e : (T : Int) - 1 - ((x : Int) - 1) % T = (res T (-(x : Int)) : Int) := by
      rw [res_val h1]
      have a1 := Int.emod_nonneg ((x : Int) - 1) (show (T : Int) ≠ 0 by omega)
      have a2 := Int.emod_lt_of_pos ((x : Int) - 1) (show (0 : Int) < T by omega)
      have a3 := Int.emod_def ((x : Int) - 1) T
      rw [← Int.emod_eq_of_lt (a := (T : Int) - 1 - ((x : Int) - 1) % T) (b := (T : Int)) (by omega) (by omega), a3]
      generalize ((x : Int) - 1) / T = k
      rw [show (T : Int) - 1 - ((x : Int) - 1 - T * k) = -(x : Int) + T * (k + 1) by rw [Int.mul_add]; omega, Int.add_mul_emod_self_left]
    rw [e, mem_runs_nat _ (res_lt h1 _)]

end Go.Proofs.Ytbhjnihcmfagjaa
