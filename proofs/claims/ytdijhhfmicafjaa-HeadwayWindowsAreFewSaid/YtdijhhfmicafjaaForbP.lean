/-
  Plain facts on forbidden residues: the union of the arcs of all pairs.
-/
import Derived.Test.YtdijhhfmicafjaaOccP
import Derived.Test.YtdijhhfmicafjaaUnion
set_option linter.unusedVariables false
set_option linter.unusedSimpArgs false
namespace Go.Proofs.Ytdijhhfmicafjaa
open RP

def qFirst (q : Occ × Occ) : Int := q.1.2.1 - q.2.2.2 + 1
def qLen (q : Occ × Occ) : Int := q.1.2.2 - q.2.2.1 - 1 - qFirst q + 1
/-- Residue x is forbidden by a pair. -/
def hitB (T : Nat) (q : Occ × Occ) (x : Nat) : Bool := arcB T (modI (qFirst q) T) (qLen q) x
def forbB (T : Nat) (l : List (Occ × Occ)) (x : Nat) : Bool := l.any fun q => hitB T q x
def forbStep (T : Nat) (s : List Sp) (q : Occ × Occ) : List Sp := runs (unionB s (makeL T (qFirst q) (qLen q))) T

theorem memN_runs {P : Nat → Bool} {T x : Nat} (hx : x < T) : memN (runs P T) x = P x := by
  unfold memN
  rw [mem_runs]
  have h1 : decide ((0 : Int) ≤ (x : Int)) = true := by simp
  have h2 : decide ((x : Int) < (T : Int)) = true := by simp; omega
  rw [h1, h2]; simp

theorem forb_fold {T : Nat} (t1 : 1 ≤ T) (t2 : T ≤ 7200) (l : List (Occ × Occ)) : l.foldl (forbStep T) [] = runs (forbB T l) T := by
  refine snoc_ind (P := fun l => l.foldl (forbStep T) [] = runs (forbB T l) T) ?_ (fun l q ih => ?_) l
  · refine eq_runs rfl fun x _ => ?_
    simp [forbB, RP.mem]
  · rw [List.foldl_append, ih]
    refine runs_congr fun x hx => ?_
    rw [unionB, memN_runs hx, makeL_eq t1 t2, memN_runs hx]
    simp [forbB, hitB, List.any_append]

theorem forbStep_valid (T : Nat) (s : List Sp) (q : Occ × Occ) : validFrom T (-1) (forbStep T s q) = true := runs_valid _ _

/-- What a residue that is forbidden says. -/
theorem hit_iff {T : Nat} {q : Occ × Occ} {x : Nat} (t1 : 1 ≤ T) (hx : x < T) : hitB T q x = true ↔ ∃ k : Int, q.1.2.1 < q.2.2.2 + ((x : Int) + k * T) ∧ q.2.2.1 + ((x : Int) + k * T) < q.1.2.2 := by
  unfold hitB arcB modI
  rw [if_neg (by omega), decide_eq_true_eq]
  have e : ((x : Int) - qFirst q % T) % T = ((x : Int) - qFirst q) % T := by rw [Int.sub_emod, Int.emod_emod, ← Int.sub_emod]
  rw [e]
  have h0 := Int.emod_nonneg ((x : Int) - qFirst q) (show (T : Int) ≠ 0 by omega)
  have h1 := Int.emod_lt_of_pos ((x : Int) - qFirst q) (show (0 : Int) < T by omega)
  have h2 := Int.mul_ediv_add_emod ((x : Int) - qFirst q) T
  generalize ((x : Int) - qFirst q) % T = m at *
  generalize ((x : Int) - qFirst q) / T = d at *
  unfold qLen
  constructor
  · intro h
    refine ⟨-d, ?_, ?_⟩
    · rw [Int.neg_mul, Int.mul_comm d]; unfold qFirst at h h2; omega
    · rw [Int.neg_mul, Int.mul_comm d]; unfold qFirst at h h2; omega
  · rintro ⟨k, h3, h4⟩
    have h5 : 0 ≤ d + k := by
      rcases Int.lt_or_le (d + k) 0 with h6 | h6
      · have : (T : Int) * (d + k + 1) ≤ 0 := Int.mul_nonpos_of_nonneg_of_nonpos (by omega) (by omega)
        rw [Int.mul_add, Int.mul_add, Int.mul_one, Int.mul_comm (T : Int) k] at this
        unfold qFirst at h2
        omega
      · exact h6
    have h7 : 0 ≤ (T : Int) * (d + k) := Int.mul_nonneg (by omega) h5
    rw [Int.mul_add, Int.mul_comm (T : Int) k] at h7
    unfold qFirst at h2 ⊢
    omega

end Go.Proofs.Ytdijhhfmicafjaa
