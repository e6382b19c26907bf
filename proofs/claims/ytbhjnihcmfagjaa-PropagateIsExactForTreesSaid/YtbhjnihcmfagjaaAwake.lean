/-
  Contract of awake of chapter 2: it returns true.
-/
import Derived.Test.YtbhjnihcmfagjaaBasics
set_option linter.unusedVariables false
set_option linter.unusedSimpArgs false
namespace Go.Proofs.Ytbhjnihcmfagjaa
open Go.RowKit RP

/-- Same at two rows of which one at least is the call's own. -/
theorem same_own (A B : Value) (l m : List Sp) (w : World) (b b' : Nat) (hl : OwnS w b A l) (hm : OwnS w b' B m) :
    Calls Try.prog 20 #[A, B] w fun e w' => e = .returned (.bool (decide (l = m))) ∧ Below w.heap.size w w' := by
  have h1 := hl.maxLen
  have h2 := hm.maxLen
  simp only [maxLen] at h1 h2
  obtain ⟨A', c, rfl⟩ := hl.form
  obtain ⟨B', d, rfl⟩ := hm.form
  exact same_any A' B' c d l m w (hl.lst encS_len) (hm.lst encS_len) (by omega) (by omega)

end Go.Proofs.Ytbhjnihcmfagjaa
