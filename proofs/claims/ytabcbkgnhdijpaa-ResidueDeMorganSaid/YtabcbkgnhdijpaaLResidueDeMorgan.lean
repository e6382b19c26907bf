/-
  The walk of ResidueDeMorgan: it returns true.
-/
import Derived.Test.YtabcbkgnhdijpaaLawKit
import Derived.Test.YtabcbkgnhdijpaaIntersect
import Derived.Test.YtabcbkgnhdijpaaCountP
import Derived.Test.YtabcbkgnhdijpaaQ
set_option linter.unusedVariables false
set_option linter.unusedSimpArgs false
namespace Go.Proofs.Ytabcbkgnhdijpaa
open Go.RowKit RP

theorem inRange_nat {T : Nat} (h1 : 1 ≤ T) (h2 : T ≤ 7200) : inRange (T : Int) = true := by simp [inRange]; omega
theorem memN_runs (P : Nat → Bool) {T x : Nat} (h : x < T) : memN (runs P T) x = P x := mem_runs_nat P h

theorem unionI_of {T : Nat} {a b : List Sp} (h1 : 1 ≤ T) (h2 : T ≤ 7200) (ha : validFrom T (-1) a = true) (hb : validFrom T (-1) b = true) : unionI T a b = runs (unionB a b) T := by
  simp [unionI, badI_of (inRange_nat h1 h2) ha hb]
theorem interI_of {T : Nat} {a b : List Sp} (h1 : 1 ≤ T) (h2 : T ≤ 7200) (ha : validFrom T (-1) a = true) (hb : validFrom T (-1) b = true) : interI T a b = runs (interB a b) T := by
  simp [interI, badI_of (inRange_nat h1 h2) ha hb]
theorem compI_of {T : Nat} {a : List Sp} (h1 : 1 ≤ T) (h2 : T ≤ 7200) (ha : validFrom T (-1) a = true) : compI T a = runs (compB a) T := by
  simp [compI, badI_of (inRange_nat h1 h2) ha (show validFrom T (-1) [] = true from rfl)]

theorem deMorgan1 {T : Nat} {a b : List Sp} (h1 : 1 ≤ T) (h2 : T ≤ 7200) (ha : validFrom T (-1) a = true) (hb : validFrom T (-1) b = true) :
    compI T (unionI T a b) = interI T (compI T a) (compI T b) := by
  rw [unionI_of h1 h2 ha hb, compI_of h1 h2 ha, compI_of h1 h2 hb, compI_of h1 h2 (runs_valid _ _), interI_of h1 h2 (runs_valid _ _) (runs_valid _ _)]
  refine runs_congr fun x hx => ?_
  simp only [compB, interB, memN_runs _ hx, unionB, Bool.not_or]
theorem deMorgan2 {T : Nat} {a : List Sp} (h1 : 1 ≤ T) (h2 : T ≤ 7200) (ha : validFrom T (-1) a = true) : compI T (compI T a) = a := by
  rw [compI_of h1 h2 ha, compI_of h1 h2 (runs_valid _ _)]
  refine (eq_runs ha fun x hx => ?_).symm
  show mem a x = !memN (runs (compB a) T) x
  rw [memN_runs _ hx]
  simp [compB, memN]
theorem deMorgan3 {T : Nat} {a : List Sp} (h1 : 1 ≤ T) (h2 : T ≤ 7200) (ha : validFrom T (-1) a = true) : countL T a + countL T (compI T a) = T := by
  rw [compI_of h1 h2 ha, countL_valid h1 h2 ha, countL_valid h1 h2 (runs_valid _ _)]
  have e : cntN (fun x => mem (runs (compB a) T) x) T = cntN (fun x => !mem a x) T := cntN_congr fun x hx => mem_runs_nat _ hx
  rw [e]
  have := cntN_not (fun x : Nat => mem a x) T
  omega
theorem compI_valid {T : Nat} {a : List Sp} : validFrom T (-1) (compI T a) = true := by
  unfold compI
  split
  · rw [Int.toNat_natCast]; exact runs_valid _ _
  · rfl
theorem unionI_valid {T : Nat} {a b : List Sp} : validFrom T (-1) (unionI T a b) = true := by rw [unionI_nat]; exact unionL_valid
theorem interI_valid {T : Nat} {a b : List Sp} : validFrom T (-1) (interI T a b) = true := by
  unfold interI
  split
  · rw [Int.toNat_natCast]; exact runs_valid _ _
  · rfl

set_option maxHeartbeats 4000000 in
theorem walkResidueDeMorgan (t : Int) (A1 : Option Addr) (c1 : Nat) (l : List Int) (A2 : Option Addr) (c2 : Nat) (m : List Int) (w : World) (ht : R64 t) (hl : ArgI w A1 c1 l) (hm : ArgI w A2 c2 m) :
    Calls Try.prog 11 #[.int .i64 t, .slice A1 l.length c1, .slice A2 m.length c2] w fun e w' => e = .returned (.bool true) ∧ Below w.heap.size w w' := by
  obtain ⟨t1, t2⟩ := ht
  have hp := perI_range t
  have hper := fun W => period_any t W t1 t2
  generalize perI t = p at *
  obtain ⟨hp1, hp2⟩ := hp
  obtain ⟨T, rfl⟩ := Int.eq_ofNat_of_zero_le (show 0 ≤ p by omega)
  have hset := set_any T A1 c1 l w hl (by omega) (by omega)
  go_enter Try.func11, Try.ntmps11
  go_wp2_with fail
  refine (hper _).mono ?_
  rintro e w' ⟨rfl, rfl⟩
  go_wp2_with fail
  refine hset.mono ?_
  rintro e w1 ⟨va, a, rfl, hoa, hva, hb1⟩
  have z1 := hb1.size
  go_wp2_with fail
  refine (set_any T A2 c2 m w1 (hm.below hb1) (by omega) (by omega)).mono ?_
  rintro e w2 ⟨vb, b, rfl, hob, hvb, hb2⟩
  have z2 := hb2.size
  have hb2' := hb1.trans (hb2.mono z1)
  replace hoa := hoa.below' hb2
  have HM1 := Lib.hid (deMorgan1 (T := T) (by omega) (by omega) hva hvb)
  have HM2 := Lib.hid (deMorgan2 (T := T) (by omega) (by omega) hva)
  have HM3 := Lib.hid (deMorgan3 (T := T) (by omega) (by omega) hva)
  have b3 := Lib.hid (badI_of (t := T) (inRange_nat (by omega) (by omega)) (compI_valid (T := T) (a := a)) (show validFrom T (-1) [] = true from rfl))
  clear hva hvb
  obtain ⟨A', c', rfl, ha, hac, hc'⟩ := hoa.arg
  obtain ⟨B', d', rfl, hb, hbc, hd'⟩ := hob.arg
  -- u
  go_wp2_with fail
  refine (union_any T A' B' c' d' a b w2 ha hb (by omega) (by omega)).mono ?_
  rintro e w3 ⟨v3, rfl, ho3, hb3⟩
  have z3 := hb3.size
  obtain ⟨A3, c3, rfl, h3, h3c, h3n⟩ := ho3.arg
  -- x
  go_wp2_with fail
  refine (complement_any T A3 c3 _ w3 h3 (by omega)).mono ?_
  rintro e w4 ⟨v4, rfl, ho4, hb4⟩
  have z4 := hb4.size
  have hb4' := hb3.trans (hb4.mono z3)
  clear h3 ho3
  generalize badI T (unionI T a b) [] = E1
  generalize badI T a b = E0
  rw [HM1.out] at ho4
  -- c
  go_wp2_with fail
  refine (complement_any T A' c' a w4 (ha.belowMore hb4' (by omega)) (by omega)).mono ?_
  rintro e w5 ⟨v5, rfl, ho5, hb5⟩
  have z5 := hb5.size
  have hb5' := hb4'.trans (hb5.mono (by omega))
  replace ho4 := ho4.below' hb5
  -- d
  go_wp2_with fail
  refine (complement_any T B' d' b w5 (hb.belowMore hb5' (by omega)) (by omega)).mono ?_
  rintro e w6 ⟨v6, rfl, ho6, hb6⟩
  have z6 := hb6.size
  have hb6' := hb5'.trans (hb6.mono (by omega))
  replace ho4 := ho4.below' hb6
  replace ho5 := ho5.below' hb6
  generalize badI T a [] = E2
  generalize badI T b [] = E3
  generalize compI T b = D at *
  obtain ⟨A5, c5, rfl, h5, h5c, h5n⟩ := ho5.arg
  obtain ⟨A6, c6, rfl, h6, h6c, h6n⟩ := ho6.arg
  -- y
  go_wp2_with fail
  refine (intersect_any T A5 A6 c5 c6 _ _ w6 h5 h6 h5c h6c h5n h6n).mono ?_
  rintro e w7 ⟨v7, rfl, ho7, hb7⟩
  have z7 := hb7.size
  have hb7' := hb6'.trans (hb7.mono (by omega))
  replace ho4 := ho4.below' hb7
  generalize badI T (compI T a) D = E4
  -- z
  go_wp2_with fail
  refine (complement_any T A5 c5 _ w7 (h5.belowMore hb7 z7) (by omega)).mono ?_
  rintro e w8 ⟨v8, rfl, ho8, hb8⟩
  have z8 := hb8.size
  have hb8' := hb7'.trans (hb8.mono (by omega))
  rw [b3.out]
  rw [HM2.out] at ho8
  replace ho4 := ho4.below' hb8
  replace ho7 := ho7.below' hb8
  have h5' := h5.belowMore (B' := w8.heap.size) (hb7.trans (hb8.mono z7)) (by omega)
  generalize compI T a = C at *
  generalize interI T C D = I at *
  go_wp2_with fail
  refine (awake2_any w8).mono ?_
  rintro e w9 ⟨rfl, hb9⟩
  have z9 := hb9.size
  have hb9' := hb8'.trans (hb9.mono (by omega))
  replace ho4 := ho4.below' hb9
  replace ho7 := ho7.below' hb9
  replace ho8 := ho8.below' hb9
  go_wp2_with fail
  refine (same_own v4 v7 I I w9 _ _ ho4 ho7).mono ?_
  rintro e w10 ⟨rfl, hb10⟩
  have z10 := hb10.size
  have hb10' := hb9'.trans (hb10.mono (by omega))
  rw [show decide (I = I) = true by simp]
  replace ho8 := ho8.below' hb10
  replace hoa := hoa.below (hb10'.mono (Nat.le_refl _)) (fun g hg => (World.ownsRow.lt hoa g hg).2)
  go_wp2_with fail
  refine (same_own v8 _ a a w10 _ _ ho8 hoa).mono ?_
  rintro e w11 ⟨rfl, hb11⟩
  have z11 := hb11.size
  have hb11' := hb10'.trans (hb11.mono (by omega))
  rw [show decide (a = a) = true by simp]
  have hbC := (hb9.trans (hb10.mono z9)).trans (hb11.mono (by omega))
  go_wp2_with fail
  refine (countPub_any T A' c' a w11 (ha.belowMore hb11' (by omega)) (by omega)).mono ?_
  rintro e w12 ⟨rfl, hb12⟩
  have z12 := hb12.size
  have hb12' := hb11'.trans (hb12.mono (by omega))
  have hbC' := hbC.trans (hb12.mono (by omega))
  go_wp2_with fail
  refine (countPub_any T A5 c5 C w12 (h5'.belowMore hbC' (by omega)) (by omega)).mono ?_
  rintro e w13 ⟨rfl, hb13⟩
  have hb13' := hb12'.trans (hb13.mono (by omega))
  have hsum := HM3.out
  have hc0 : 0 ≤ countL T a := by unfold countL; split; exact (total_bound (validL_parts (by assumption)).2.2.2 (by omega)).1; omega
  have hc1 : 0 ≤ countL T C := by unfold countL; split; exact (total_bound (validL_parts (by assumption)).2.2.2 (by omega)).1; omega
  generalize countL T a = N1 at *
  generalize countL T C = N2 at *
  have hbe : (N1 + N2 == (T : Int)) = true := by rw [beq_iff_eq]; exact hsum
  have hle : N1 + N2 ≤ 7200 := by omega
  clear hsum HM3
  go_wp2_with fail
  go_ret
  exact ⟨rfl, hb2'.trans (hb13'.mono (by omega))⟩

end Go.Proofs.Ytabcbkgnhdijpaa
