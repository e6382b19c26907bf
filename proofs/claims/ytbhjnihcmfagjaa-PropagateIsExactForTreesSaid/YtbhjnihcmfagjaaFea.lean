/-
  Durations, feasible times: contracts of network.duration and of the reference's Lasts.
-/
import Derived.Test.YtbhjnihcmfagjaaGd
set_option linter.unusedVariables false
set_option linter.unusedSimpArgs false
namespace RP
/-- The duration of an activity beyond its lower bound, for a list of times. -/
def overI (T : Nat) (ts : List Int) (a : Acy) : Int := (ts.getD a.dst.toNat 0 - ts.getD a.src.toNat 0 - a.lo) % T
def feasB (T : Nat) (m : Nat) (l : List Acy) (ts : List Int) : Bool := goodB T m l ts && l.all fun a => decide (a.lo + overI T ts a ≤ a.hi)
theorem feas_iff {T m : Nat} {l : List Acy} {ts : List Int} : feasB T m l ts = true ↔ goodB T m l ts = true ∧ ∀ a ∈ l, a.lo + overI T ts a ≤ a.hi := by
  unfold feasB; rw [Bool.and_eq_true, List.all_eq_true]; simp
end RP
namespace Go.Proofs.Ytbhjnihcmfagjaa
open Go.RowKit RP

set_option maxRecDepth 100000 in
set_option maxHeartbeats 4000000 in
theorem refLasts_any (T m : Nat) (E : Option Addr) (cE : Nat) (A : Option Addr) (n cA : Nat) (B : Option Addr) (cB : Nat) (ts : List Int) (a : Acy) (w : World) (ht : Lst encI 1 w w.heap.size B ts) (h1 : 1 ≤ T) (h2 : T ≤ 7200) (hts : ∀ t ∈ ts, 0 ≤ t ∧ t < T) (hlen : ts.length = m) (ha : okA m T a) :
    Calls Try.prog 69 #[netV T E m cE A n cA, .slice B ts.length cB, .agg #[.int .i64 a.kind, .int .i64 a.src, .int .i64 a.dst, .int .i64 a.lo, .int .i64 a.hi, .int .i64 a.wt]] w fun e w' => e = .returned (.int .i64 (a.lo + overI T ts a)) ∧ Below w.heap.size w w' := by
  obtain ⟨q1, q2, q3, q4, q5, q6, q7, q8, q9, q10, q11⟩ := ha
  obtain ⟨ki, sr, ds, lo, hi, wt⟩ := a
  simp only at q1 q2 q3 q4 q5 q6 q7 q8 q9 q10 q11
  obtain ⟨sr, rfl⟩ := Int.eq_ofNat_of_zero_le q1
  obtain ⟨ds, rfl⟩ := Int.eq_ofNat_of_zero_le q3
  obtain ⟨b, off, rfl, hbb, x1⟩ := ht.it sr (by omega)
  obtain ⟨b', off', hq, _, x2⟩ := ht.it ds (by omega)
  injection hq with hq
  injection hq with hq1 hq2
  subst hq1 hq2
  have t1 := hts ts[sr] (List.getElem_mem _)
  have t2 := hts ts[ds] (List.getElem_mem _)
  have HOV := Lib.hid (show overI T ts ⟨ki, sr, ds, lo, hi, wt⟩ = (ts[ds] - ts[sr] - lo) % T by unfold overI; simp [show sr < ts.length by omega, show ds < ts.length by omega])
  have HB := Lib.hid (((belA w (.cells #[.int .i64 T, .slice E m cE, .slice A n cA] 25)).trans ((belA _ (.cells #[.int .i64 ki, .int .i64 sr, .int .i64 ds, .int .i64 lo, .int .i64 hi, .int .i64 wt] 30)).mono (by simp))))
  have i1 : (sr : Int) < (ts.length : Int) := by omega
  have i2 : (ds : Int) < (ts.length : Int) := by omega
  have HL := Lib.hid hlen
  clear hts ht
  rw [HOV.out]
  clear HOV
  generalize ts[sr] = u at *
  generalize ts[ds] = v at *
  clear hlen
  have hm := Int.emod_nonneg (v - u - lo) (show (T : Int) ≠ 0 by omega)
  have hm' := Int.emod_lt_of_pos (v - u - lo) (show (0 : Int) < T by omega)
  have hmod := fun W => refMod_any (v - u - lo) T W (by omega) (by omega)
  rw [modI, if_neg (by omega)] at hmod
  generalize (v - u - lo) % (T : Int) = r at *
  have s1 : IntKind.i64.wrap (v - u) = v - u := IntWalk.i64_in _ (by omega)
  have s2 : IntKind.i64.wrap (v - u - lo) = v - u - lo := IntWalk.i64_in _ (by omega)
  have s3 : IntKind.i64.wrap (lo + r) = lo + r := IntWalk.i64_in _ (by omega)
  go_enter Try.func69, Try.ntmps69
  go_wp2_with fail
  go_quiet ((go_at_call 44; exact quiet_left (hmod _)))
  go_wp2_with fail
  go_ret
  exact ⟨rfl, below_drewN HB.out _⟩

end Go.Proofs.Ytbhjnihcmfagjaa
