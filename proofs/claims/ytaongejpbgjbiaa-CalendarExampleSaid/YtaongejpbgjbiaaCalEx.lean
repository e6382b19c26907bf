/-
  Plain facts for CalendarExample.
-/
import Derived.Test.YtaongejpbgjbiaaCalAw
set_option linter.unusedVariables false
set_option linter.unusedSimpArgs false
namespace RP
def yAc : List Acy := [⟨1, 0, 1, 90, 91, 0⟩]
def ySv : List Svc := [⟨0, 1, 0, 2100⟩]
def yPf (_ : Int) : PatP := ⟨0, [0], [90]⟩
theorem y_feas : feasB 2 2 yAc [0, 0] = true := by decide
theorem y_check : checkS (linesP xEv) 1 ySv [] = 0 := by decide
theorem y_pat : PatAt 2 [0, 0] xEv yAc 0 (yPf 0) := by
  refine ⟨1, fun _ => 0, fun _ => 1, fun _ => 0, fun _ => 90, ⟨by omega, by omega, ?_, ?_, by decide, ?_, ?_⟩, rfl⟩
  · intro r hr
    obtain rfl : r = 0 := by omega
    decide
  · intro r hr
    obtain rfl : r = 0 := by omega
    decide
  · intro r hr
    exact ⟨⟨1, 0, 1, 90, 91, 0⟩, rfl, by decide⟩
  · intro r hr
    omega
theorem y_ok : ∀ a ∈ ySv, SvcOk 2 yPf a := by
  intro a ha
  rw [List.mem_singleton.1 ha]
  exact ⟨by decide, by decide, by decide, by decide, by decide⟩
theorem y_cnt : cntS 2 ySv [] yPf 1 ySv = 1051 := by decide
theorem xx_check : checkS (linesP xEv) 3 xSv [⟨0, 2, false⟩] = 0 := by decide
theorem xx_cnt : cntS 600 xSv [⟨0, 2, false⟩] xPf 3 xSv = 3 := by decide
theorem xx_all : (allT 600 xSv [⟨0, 2, false⟩] xPf 3 xSv).length = 3 := by decide
end RP
