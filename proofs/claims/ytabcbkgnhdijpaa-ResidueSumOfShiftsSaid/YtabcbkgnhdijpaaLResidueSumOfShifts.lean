/-
  The walk of ResidueSumOfShifts: it returns true.
-/
import Derived.Test.YtabcbkgnhdijpaaLawKit
import Derived.Test.YtabcbkgnhdijpaaSum
set_option linter.unusedVariables false
set_option linter.unusedSimpArgs false
namespace Go.Proofs.Ytabcbkgnhdijpaa
open Go.RowKit RP

theorem inRangeN {T : Nat} (h1 : 1 ≤ T) (h2 : T ≤ 7200) : inRange (T : Int) = true := by simp [inRange]; omega
theorem badN {T : Nat} {a : List Sp} (h1 : 1 ≤ T) (h2 : T ≤ 7200) (ha : validFrom T (-1) a = true) : badI T a [] = 0 := badI_of (inRangeN h1 h2) ha (show validFrom T (-1) [] = true from rfl)

theorem shiftI_of {T : Nat} {a : List Sp} {d : Int} (h1 : 1 ≤ T) (h2 : T ≤ 7200) (ha : validFrom T (-1) a = true) : shiftI T a d = runs (shiftB T a d) T := by simp [shiftI, badN h1 h2 ha]
theorem one_of {T : Nat} {x : Int} (h1 : 1 ≤ T) (h2 : T ≤ 7200) (x0 : 0 ≤ x) (x1 : x < T) : makeL T x 1 = [(x, x + 1)] := by
  have e : x % (T : Int) = x := Int.emod_eq_of_lt x0 x1
  simp only [makeL, inRangeN h1 h2, if_true, modI, if_neg (show ¬ (T : Int) < 1 by omega), e, arc]
  by_cases h : (T : Int) ≤ 1
  · have : T = 1 := by omega
    subst this
    have : x = 0 := by omega
    subst this
    simp
  · simp [h]; omega
theorem one_valid {T : Nat} {x : Int} (x0 : 0 ≤ x) (x1 : x < T) : validFrom T (-1) [(x, x + 1)] = true := by simp [validFrom]; omega

theorem sum_one {T : Nat} {a : List Sp} {x : Int} (h1 : 1 ≤ T) (h2 : T ≤ 7200) (ha : validFrom T (-1) a = true) (x0 : 0 ≤ x) (x1 : x < T) : sumI T a (makeL T x 1) = shiftI T a (x % T) := by
  rw [one_of h1 h2 x0 x1, shiftI_of h1 h2 ha, Int.emod_eq_of_lt x0 x1]
  simp only [sumI, badI_of (inRangeN h1 h2) ha (one_valid x0 x1), if_true, Int.toNat_natCast]
  refine runs_congr fun z hz => ?_
  apply mem_eq_of_iff
  rw [marked_sum h1 (valid_all ha (by omega)) (valid_all (one_valid x0 x1) (by omega))]
  unfold shiftB
  constructor
  · rintro ⟨y, y0, y1, hy, hm⟩
    obtain ⟨s, hs, q1, q2⟩ := mem_iff.1 hm
    simp only [List.mem_singleton] at hs
    subst hs
    simp only at q1 q2
    have e : ((z : Int) - x) % T = y := by
      have hq : ((z : Int) - y) % T = x := by omega
      obtain ⟨q, hq'⟩ : ∃ q, (z : Int) - y = ((z : Int) - y) % T + T * q := ⟨((z : Int) - y) / T, by rw [Int.emod_add_mul_ediv]⟩
      rw [hq] at hq'
      rw [show (z : Int) - x = y + T * q by omega, Int.add_mul_emod_self_left]
      exact Int.emod_eq_of_lt y0 y1
    rw [e]; exact hy
  · intro hm
    refine ⟨((z : Int) - x) % T, Int.emod_nonneg _ (by omega), Int.emod_lt_of_pos _ (by omega), hm, ?_⟩
    have e : ((z : Int) - ((z : Int) - x) % T) % T = x := by
      rw [sub_emod_emod, show (z : Int) - ((z : Int) - x) = x by omega]
      exact Int.emod_eq_of_lt x0 x1
    rw [e]
    exact mem_iff.2 ⟨(x, x + 1), by simp, by simp, by simp; omega⟩

theorem shift_valid {T : Nat} {a : List Sp} {d : Int} : validFrom T (-1) (shiftI T a d) = true := by
  unfold shiftI
  split
  · rw [Int.toNat_natCast]; exact runs_valid _ _
  · rfl

theorem shift_shift {T : Nat} {a : List Sp} {x y : Int} (h1 : 1 ≤ T) (h2 : T ≤ 7200) (ha : validFrom T (-1) a = true) : shiftI T (shiftI T a (x % T)) (y % T) = shiftI T a ((x + y) % T) := by
  rw [shiftI_of h1 h2 (shift_valid), shiftI_of h1 h2 ha, shiftI_of h1 h2 ha]
  refine runs_congr fun z hz => ?_
  unfold shiftB
  have k0 := Int.emod_nonneg ((z : Int) - y % T) (show (T : Int) ≠ 0 by omega)
  have k1 := Int.emod_lt_of_pos ((z : Int) - y % T) (show 0 < (T : Int) by omega)
  obtain ⟨k, hk⟩ := Int.eq_ofNat_of_zero_le k0
  rw [hk, mem_runs_nat _ (by omega), ← hk]
  show mem a _ = mem a _
  congr 1
  rw [sub_emod_emod, sub_emod_emod, sub_emod_emod, Int.emod_sub_emod]
  congr 1
  omega

theorem shift_count {T : Nat} {a : List Sp} {d : Int} (h1 : 1 ≤ T) (h2 : T ≤ 7200) (ha : validFrom T (-1) a = true) : countL T (shiftI T a d) = countL T a := by
  rw [countL_valid h1 h2 shift_valid, countL_valid h1 h2 ha, shiftI_of h1 h2 ha]
  have e : cntN (fun x => mem (runs (shiftB T a d) T) x) T = cntN (shiftB T a d) T := cntN_congr fun x hx => mem_runs_nat _ hx
  rw [e]
  have := cntN_shiftI (fun x : Nat => mem a x) h1 (-d)
  rw [← this]
  refine congrArg _ (cntN_congr fun x hx => ?_)
  unfold shiftB
  have k0 := Int.emod_nonneg ((x : Int) + -d) (show (T : Int) ≠ 0 by omega)
  rw [Int.toNat_of_nonneg k0, Int.sub_eq_add_neg]

set_option maxHeartbeats 4000000 in
theorem walkResidueSumOfShifts (t : Int) (A1 : Option Addr) (c1 : Nat) (l : List Int) (x0 y0 : Int) (w : World) (ht : R64 t) (hl : ArgI w A1 c1 l) (hx : R64 x0) (hy : R64 y0) :
    Calls Try.prog 10 #[.int .i64 t, .slice A1 l.length c1, .int .i64 x0, .int .i64 y0] w fun e w' => e = .returned (.bool true) ∧ Below w.heap.size w w' := by
  obtain ⟨t1, t2⟩ := ht
  have hp := perI_range t
  have hper := fun W => period_any t W t1 t2
  generalize perI t = p at *
  obtain ⟨hp1, hp2⟩ := hp
  obtain ⟨T, rfl⟩ := Int.eq_ofNat_of_zero_le (show 0 ≤ p by omega)
  have hpx := fun W => pick_any x0 T W (by omega) (by omega)
  have hpy := fun W => pick_any y0 (5 * T) W (by omega) (by omega)
  have hrx := pickI_range x0 T (by omega)
  have hry := pickI_range y0 (5 * T) (by omega)
  generalize pickI x0 T = x at *
  generalize pickI y0 (5 * T) = y at *
  obtain ⟨x1, x2⟩ := hrx
  obtain ⟨y1, y2⟩ := hry
  go_enter Try.func10, Try.ntmps10
  go_wp2_with fail
  refine (hper _).mono ?_
  rintro e w' ⟨rfl, rfl⟩
  go_wp2_with fail
  refine (set_any T A1 c1 l w hl (by omega) (by omega)).mono ?_
  rintro e w1 ⟨va, a, rfl, hoa, hva, hb1⟩
  have z1 := hb1.size
  have hc1 : Below w.heap.size w w1 := Below.trans (Below.refl w.heap.size w) (hb1.mono (Below.size (Below.refl w.heap.size w)))
  go_wp2_with fail
  refine (hpx _).mono ?_
  rintro e w' ⟨rfl, rfl⟩
  go_wp2_with fail
  refine (hpy _).mono ?_
  rintro e w' ⟨rfl, rfl⟩
  have HM1 := Lib.hid (sum_one (T := T) (a := a) (x := x) (by omega) (by omega) hva x1 x2)
  have HM2 := Lib.hid (shift_shift (T := T) (a := a) (x := x) (y := y) (by omega) (by omega) hva)
  have HM3 := Lib.hid (shift_count (T := T) (a := a) (d := x % T) (by omega) (by omega) hva)
  have HB1 := Lib.hid (badI_of (inRangeN (T := T) (by omega) (by omega)) hva (show validFrom T (-1) (makeL T x 1) = true by rw [one_of (by omega) (by omega) x1 x2]; exact one_valid x1 x2))
  have HB2 := Lib.hid (badN (T := T) (by omega) (by omega) hva)
  clear hva
  go_wp2_with fail
  refine (make_any T x 1 w1 (by omega) (by omega) (by omega)).mono ?_
  rintro e w2 ⟨vo, rfl, hoo, hb2⟩
  have z2 := hb2.size
  have hc2 : Below w.heap.size w w2 := Below.trans hc1 (hb2.mono (Below.size hc1))
  replace hoa := hoa.below' hb2
  generalize rangeErr T = E0
  generalize makeL T x 1 = o at *
  obtain ⟨A', c', rfl, ha, hac, hc'⟩ := hoa.arg
  obtain ⟨B', d', rfl, hb, hbc, hd'⟩ := hoo.arg
  go_wp2_with fail
  refine (sum_any T A' B' c' d' a o w2 ha hb (by omega) (by omega)).mono ?_
  rintro e w3 ⟨vs, rfl, hos, hb3⟩
  have z3 := hb3.size
  have hc3 : Below w.heap.size w w3 := Below.trans hc2 (hb3.mono (Below.size hc2))
  replace hoa := hoa.below' hb3
  replace ha := ha.belowMore hb3 z3
  replace hb := hb.belowMore hb3 z3
  rw [HB1.out]
  rw [HM1.out] at hos
  go_wp2_with fail
  refine (shift_any T A' c' a x w3 ha (by omega) (by omega) (by omega)).mono ?_
  rintro e w4 ⟨vh, rfl, hoh, hb4⟩
  have z4 := hb4.size
  have hc4 : Below w.heap.size w w4 := Below.trans hc3 (hb4.mono (Below.size hc3))
  replace hoa := hoa.below' hb4
  replace ha := ha.belowMore hb4 z4
  replace hb := hb.belowMore hb4 z4
  replace hos := hos.below' hb4
  rw [HB2.out]
  obtain ⟨C', e', rfl, hh, hhc, hhe'⟩ := hoh.arg
  go_wp2_with fail
  refine (shift_any T C' e' _ y w4 hh (by omega) (by omega) (by omega)).mono ?_
  rintro e w5 ⟨vk, rfl, hok, hb5⟩
  have z5 := hb5.size
  have hc5 : Below w.heap.size w w5 := Below.trans hc4 (hb5.mono (Below.size hc4))
  replace hoa := hoa.below' hb5
  replace ha := ha.belowMore hb5 z5
  replace hb := hb.belowMore hb5 z5
  replace hos := hos.below' hb5
  replace hoh := hoh.below' hb5
  replace hh := hh.belowMore hb5 z5
  rw [HM2.out] at hok
  generalize badI T (shiftI T a (x % T)) [] = E1
  go_wp2_with fail
  refine (shift_any T A' c' a (x + y) w5 ha (by omega) (by omega) (by omega)).mono ?_
  rintro e w6 ⟨vq, rfl, hoq, hb6⟩
  have z6 := hb6.size
  have hc6 : Below w.heap.size w w6 := Below.trans hc5 (hb6.mono (Below.size hc5))
  replace hoa := hoa.below' hb6
  replace ha := ha.belowMore hb6 z6
  replace hb := hb.belowMore hb6 z6
  replace hos := hos.below' hb6
  replace hoh := hoh.below' hb6
  replace hh := hh.belowMore hb6 z6
  replace hok := hok.below' hb6
  rw [HB2.out]
  generalize shiftI T a (x % T) = H at *
  generalize shiftI T a ((x + y) % T) = Q at *
  go_wp2_with fail
  refine (awake2_any w6).mono ?_
  rintro e w7 ⟨rfl, hb7⟩
  have z7 := hb7.size
  have hc7 : Below w.heap.size w w7 := Below.trans hc6 (hb7.mono (Below.size hc6))
  replace hoa := hoa.below' hb7
  replace ha := ha.belowMore hb7 z7
  replace hb := hb.belowMore hb7 z7
  replace hos := hos.below' hb7
  replace hoh := hoh.below' hb7
  replace hh := hh.belowMore hb7 z7
  replace hok := hok.below' hb7
  replace hoq := hoq.below' hb7
  go_wp2_with fail
  refine (same_own vs _ H H w7 _ _ hos hoh).mono ?_
  rintro e w8 ⟨rfl, hb8⟩
  have z8 := hb8.size
  have hc8 : Below w.heap.size w w8 := Below.trans hc7 (hb8.mono (Below.size hc7))
  replace hoa := hoa.below' hb8
  replace ha := ha.belowMore hb8 z8
  replace hb := hb.belowMore hb8 z8
  replace hos := hos.below' hb8
  replace hoh := hoh.below' hb8
  replace hh := hh.belowMore hb8 z8
  replace hok := hok.below' hb8
  replace hoq := hoq.below' hb8
  rw [show decide (H = H) = true by simp]
  go_wp2_with fail
  refine (same_own vk vq Q Q w8 _ _ hok hoq).mono ?_
  rintro e w9 ⟨rfl, hb9⟩
  have z9 := hb9.size
  have hc9 : Below w.heap.size w w9 := Below.trans hc8 (hb9.mono (Below.size hc8))
  replace hoa := hoa.below' hb9
  replace ha := ha.belowMore hb9 z9
  replace hb := hb.belowMore hb9 z9
  replace hos := hos.below' hb9
  replace hoh := hoh.below' hb9
  replace hh := hh.belowMore hb9 z9
  replace hok := hok.below' hb9
  replace hoq := hoq.below' hb9
  rw [show decide (Q = Q) = true by simp]
  go_wp2_with fail
  refine (countPub_any T C' e' H w9 hh (by omega)).mono ?_
  rintro e w10 ⟨rfl, hb10⟩
  have z10 := hb10.size
  have hc10 : Below w.heap.size w w10 := Below.trans hc9 (hb10.mono (Below.size hc9))
  replace hoa := hoa.below' hb10
  replace ha := ha.belowMore hb10 z10
  replace hb := hb.belowMore hb10 z10
  replace hos := hos.below' hb10
  replace hoh := hoh.below' hb10
  replace hh := hh.belowMore hb10 z10
  replace hok := hok.below' hb10
  replace hoq := hoq.below' hb10
  go_wp2_with fail
  refine (countPub_any T A' c' a w10 ha (by omega)).mono ?_
  rintro e w11 ⟨rfl, hb11⟩
  have z11 := hb11.size
  have hc11 : Below w.heap.size w w11 := Below.trans hc10 (hb11.mono (Below.size hc10))
  replace hoa := hoa.below' hb11
  replace ha := ha.belowMore hb11 z11
  replace hb := hb.belowMore hb11 z11
  replace hos := hos.below' hb11
  replace hoh := hoh.below' hb11
  replace hh := hh.belowMore hb11 z11
  replace hok := hok.below' hb11
  replace hoq := hoq.below' hb11
  rw [HM3.out]
  generalize countL T a = N
  have hbe : (N == N) = true := by simp
  go_wp2_with fail
  go_ret
  exact ⟨rfl, hc11⟩

end Go.Proofs.Ytabcbkgnhdijpaa
