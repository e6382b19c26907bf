/-
  Plain: the greatest closed table of the example of chapter 13.
-/
import Derived.Test.YtbhjnihcmfagjaaSing
import Derived.Test.YtbhjnihcmfagjaaPlain
set_option linter.unusedVariables false
set_option linter.unusedSimpArgs false
namespace RP
def exL : List Acy := [⟨0, 0, 1, 2, 3, 0⟩, ⟨0, 1, 2, 4, 4, 0⟩, ⟨0, 0, 2, 7, 9, 0⟩]
def exT (i : Nat) : Int := if i = 0 then 0 else if i = 1 then 3 else 7
theorem exL_ok : netB 10 3 exL = true := by decide
section
variable {D : Tab} (h : Great 3 10 (initT 10 exL) D)
include h
theorem ex_sing : ∀ i j, i < 3 → j < 3 → D i j (res 10 (exT j - exT i)) = true :=
  sing_great (by omega) h (by have := (netB_iff.1 exL_ok).2; simpa using this) (by decide)
theorem ex_01 : ∀ x, x < 10 → D 0 1 x = true → x = 2 ∨ x = 3 := fun x hx q => by
  have := h.sub 0 1 (by omega) (by omega) x hx q
  clear q; revert this; revert x; decide
theorem ex_12 : ∀ x, x < 10 → D 1 2 x = true → x = 4 := fun x hx q => by
  have := h.sub 1 2 (by omega) (by omega) x hx q
  clear q; revert this; revert x; decide
theorem ex_21 : ∀ x, x < 10 → D 2 1 x = true → x = 6 := fun x hx q => by
  have := h.sub 2 1 (by omega) (by omega) x hx q
  clear q; revert this; revert x; decide
theorem ex_02' : ∀ x, x < 10 → D 0 2 x = true → x = 7 ∨ x = 8 ∨ x = 9 := fun x hx q => by
  have := h.sub 0 2 (by omega) (by omega) x hx q
  clear q; revert this; revert x; decide
theorem ex_02 : ∀ x, x < 10 → D 0 2 x = true → x = 7 := fun x hx q => by
  obtain ⟨a, ha, p, r⟩ := sumB_iff.1 (h.closed 0 1 2 (by omega) (by omega) (by omega) x hx q)
  have h1 := ex_01 h a ha p
  have h2 := ex_12 h _ (res_lt (by omega) _) r
  have h3 := ex_02' h x hx q
  have := res_val (T := 10) (by omega) ((x : Int) - a)
  omega
theorem ex_03 : ∀ x, x < 10 → D 0 1 x = true → x = 3 := fun x hx q => by
  obtain ⟨a, ha, p, r⟩ := sumB_iff.1 (h.closed 0 2 1 (by omega) (by omega) (by omega) x hx q)
  have h1 := ex_02 h a ha p
  have h2 := ex_21 h _ (res_lt (by omega) _) r
  have := res_val (T := 10) (by omega) ((x : Int) - a)
  omega
theorem ex_runs1 : runs (D 0 1) 10 = [(3, 4)] := by
  rw [runs_congr (Q := fun x => decide (x = 3)) (fun x hx => by
    cases q : D 0 1 x with
    | true => rw [ex_03 h x hx q]; rfl
    | false =>
      rw [eq_comm, decide_eq_false_iff_not]
      rintro rfl
      have := ex_sing h 0 1 (by omega) (by omega)
      rw [show res 10 (exT 1 - exT 0) = 3 by decide, q] at this
      cases this)]
  decide
theorem ex_runs2 : runs (D 0 2) 10 = [(7, 8)] := by
  rw [runs_congr (Q := fun x => decide (x = 7)) (fun x hx => by
    cases q : D 0 2 x with
    | true => rw [ex_02 h x hx q]; rfl
    | false =>
      rw [eq_comm, decide_eq_false_iff_not]
      rintro rfl
      have := ex_sing h 0 2 (by omega) (by omega)
      rw [show res 10 (exT 2 - exT 0) = 7 by decide, q] at this
      cases this)]
  decide
end
end RP
