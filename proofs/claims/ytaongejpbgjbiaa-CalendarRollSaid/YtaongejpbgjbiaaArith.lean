/-
  Contracts of the small arithmetic functions: Mod of both packages, inRange, Pick, Period.
-/
import Derived.Test.YtaongejpbgjbiaaKit
set_option linter.unusedVariables false
set_option linter.unusedSimpArgs false
namespace Go.Proofs.Ytaongejpbgjbiaa
open Go.RowKit RP

/-- Mod. -/
def modI (a b : Int) : Int := if b < 1 then 0 else a % b

theorem tmod_neg (a b : Int) (hb : 1 ≤ b) (h : a.tmod b < 0) : a.tmod b + b = a % b := by
  have h1 := Int.emod_nonneg a (show b ≠ 0 by omega)
  have h2 := Int.emod_lt_of_pos a (show 0 < b by omega)
  have h3 : (b.natAbs : Int) = b := by omega
  rw [Int.tmod_eq_emod] at h ⊢
  split at h <;> rename_i hc
  · omega
  · rw [if_neg hc]; omega
theorem tmod_pos (a b : Int) (hb : 1 ≤ b) (h : 0 ≤ a.tmod b) : a.tmod b = a % b := by
  have h2 := Int.emod_lt_of_pos a (show 0 < b by omega)
  have h3 : (b.natAbs : Int) = b := by omega
  rw [Int.tmod_eq_emod] at h ⊢
  split at h <;> rename_i hc
  · rw [if_pos hc]; omega
  · omega

theorem modI_range (a b : Int) (h : 1 ≤ b) : 0 ≤ modI a b ∧ modI a b < b := by
  unfold modI
  rw [if_neg (by omega)]
  exact ⟨Int.emod_nonneg a (by omega), Int.emod_lt_of_pos a (by omega)⟩

set_option maxHeartbeats 400000 in
theorem mod_any (a b : Int) (w : World) (hb1 : -9223372036854775808 ≤ b) (hb2 : b ≤ 9223372036854775807) :
    Calls Try.prog 51 #[.int .i64 a, .int .i64 b] w fun e w' => e = .returned (.int .i64 (modI a b)) ∧ w = w' := by
  by_cases hb : b < 1
  · go_enter Try.func51, Try.ntmps51
    go_wp2
    go_ret
    exact ⟨ret_int (by simp [modI, hb]), rfl⟩
  · have h1 := Int.emod_nonneg a (show b ≠ 0 by omega)
    have h2 := Int.emod_lt_of_pos a (show 0 < b by omega)
    by_cases hr : a.tmod b < 0
    · have hlo : -b ≤ a.tmod b := by have := tmod_neg a b (by omega) hr; omega
      have H := Lib.hid (tmod_neg a b (by omega) hr)
      go_enter Try.func51, Try.ntmps51
      go_wp2
      go_ret
      exact ⟨ret_int (by rw [modI, if_neg (by omega)]; exact H.out), rfl⟩
    · have H := Lib.hid (tmod_pos a b (by omega) (by omega))
      go_enter Try.func51, Try.ntmps51
      go_wp2
      go_ret
      exact ⟨ret_int (by rw [modI, if_neg (by omega)]; exact H.out), rfl⟩

set_option maxHeartbeats 400000 in
theorem refMod_any (a b : Int) (w : World) (hb1 : -9223372036854775808 ≤ b) (hb2 : b ≤ 9223372036854775807) :
    Calls Try.prog 88 #[.int .i64 a, .int .i64 b] w fun e w' => e = .returned (.int .i64 (modI a b)) ∧ w = w' := by
  by_cases hb : b < 1
  · go_enter Try.func88, Try.ntmps88
    go_wp2
    go_ret
    exact ⟨ret_int (by simp [modI, hb]), rfl⟩
  · have h1 := Int.emod_nonneg a (show b ≠ 0 by omega)
    have h2 := Int.emod_lt_of_pos a (show 0 < b by omega)
    by_cases hr : a.tmod b < 0
    · have hlo : -b ≤ a.tmod b := by have := tmod_neg a b (by omega) hr; omega
      have H := Lib.hid (tmod_neg a b (by omega) hr)
      go_enter Try.func88, Try.ntmps88
      go_wp2
      go_ret
      exact ⟨ret_int (by rw [modI, if_neg (by omega)]; exact H.out), rfl⟩
    · have H := Lib.hid (tmod_pos a b (by omega) (by omega))
      go_enter Try.func88, Try.ntmps88
      go_wp2
      go_ret
      exact ⟨ret_int (by rw [modI, if_neg (by omega)]; exact H.out), rfl⟩

/-- The unsigned reading of an int. -/
def unsI (v : Int) : Int := IntKind.u64.wrap v
/-- Pick: for n from 1 on. -/
def pickI (v n : Int) : Int := unsI v % n

theorem pickI_range (v n : Int) (h : 1 ≤ n) : 0 ≤ pickI v n ∧ pickI v n < n :=
  ⟨Int.emod_nonneg _ (by omega), Int.emod_lt_of_pos _ (by omega)⟩

theorem unsI_nonneg (v : Int) : 0 ≤ unsI v := by
  unfold unsI
  rw [IntKind.wrap_u64]
  omega

set_option maxHeartbeats 400000 in
theorem pick_any (v n : Int) (w : World) (h1 : 1 ≤ n) (h2 : n ≤ 4294967296) :
    Calls Try.prog 12 #[.int .i64 v, .int .i64 n] w fun e w' => e = .returned (.int .i64 (pickI v n)) ∧ w = w' := by
  have hu : 0 ≤ IntKind.u64.wrap v := unsI_nonneg v
  have hr := pickI_range v n h1
  have H := Lib.hid (show pickI v n = IntKind.u64.wrap v % n from rfl)
  go_enter Try.func12, Try.ntmps12
  go_wp2
  go_ret
  refine ⟨ret_int ?_, rfl⟩
  rw [H.out]
  rw [H.out] at hr
  have e1 : (IntKind.u64.wrap v).tmod n = IntKind.u64.wrap v % n := Int.tmod_eq_emod_of_nonneg hu
  first | exact IntWalk.wrap64_in _ ⟨by omega, by omega⟩ | (rw [e1]; exact IntWalk.wrap64_in _ ⟨by omega, by omega⟩)

/-- Period. -/
def perI (v : Int) : Int := if pickI v 8 = 7 then 1 + pickI (v.tdiv 8) 600 else 1 + pickI (v.tdiv 8) 30

theorem perI_range (v : Int) : 1 ≤ perI v ∧ perI v ≤ 600 := by
  have h1 := pickI_range (v.tdiv 8) 600 (by omega)
  have h2 := pickI_range (v.tdiv 8) 30 (by omega)
  unfold perI
  split <;> omega

end Go.Proofs.Ytaongejpbgjbiaa
