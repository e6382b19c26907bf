/-
  Contract of the reference's spans: the set of the marked residues.
-/
import Derived.Test.YtdijhhfmicafjaaRefA
set_option linter.unusedVariables false
set_option linter.unusedSimpArgs false
namespace Go.Proofs.Ytdijhhfmicafjaa
open Go.RowKit RP

theorem Lst.bo {w : World} {B : Nat} {A : Option Addr} {l : List Bool} (h : Lst encB 1 w B A l) (i : Nat) (hi : i < l.length) :
    ∃ b off, A = some ⟨b, off, none⟩ ∧ b < B ∧ w.cell? ⟨b, off + i, none⟩ = some (.bool l[i]) := by
  obtain ⟨b, off, e, hb, hc⟩ := h (by intro h0; subst h0; simp at hi)
  have := hc i l[i] (List.getElem?_eq_getElem hi) 0 _ rfl
  rw [Nat.mul_one, Nat.add_zero] at this
  exact ⟨b, off, e, hb, this⟩

def bitAt (l : List Bool) (i : Nat) : Bool := l.getD i false
theorem bitAt_get {l : List Bool} {i : Nat} (h : i < l.length) : bitAt l i = l[i] := by simp [bitAt, h]

theorem runs_no {P : Nat → Bool} {k : Nat} (h : P k = false) : runs P (k + 1) = runs P k := by simp [runs, h]
theorem runs_first {P : Nat → Bool} {k : Nat} (h : P k = true) (h0 : runs P k = []) : runs P (k + 1) = [] ++ [((k : Int), (k : Int) + 1)] := by simp [runs, h, h0, stepRun]
theorem runs_far {P : Nat → Bool} {k : Nat} (h : P k = true) {r : List Sp} {s : Sp} (h0 : runs P k = r ++ [s]) (h1 : s.2 ≠ k) : runs P (k + 1) = (r ++ [s]) ++ [((k : Int), (k : Int) + 1)] := by simp [runs, h, h0, stepRun, h1]
theorem runs_near {P : Nat → Bool} {k : Nat} (h : P k = true) {r : List Sp} {s : Sp} (h0 : runs P k = r ++ [s]) (h1 : s.2 = k) : runs P (k + 1) = (r ++ [s]).set r.length (s.1, (k : Int) + 1) := by
  simp [runs, h, h0, stepRun, h1]
theorem runs_len (P : Nat → Bool) : ∀ k, (runs P k).length ≤ k
  | 0 => by simp [runs]
  | k + 1 => by
    have ih := runs_len P k
    simp only [runs]
    split
    · unfold stepRun
      split
      · split
        · simp; omega
        · simp; omega
      · simp
    · omega

end Go.Proofs.Ytdijhhfmicafjaa
