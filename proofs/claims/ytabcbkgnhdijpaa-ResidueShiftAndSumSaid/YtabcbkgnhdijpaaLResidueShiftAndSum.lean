/-
  The walk of ResidueShiftAndSum: it returns true.
-/
import Derived.Test.YtabcbkgnhdijpaaLawKit
import Derived.Test.YtabcbkgnhdijpaaSum
set_option linter.unusedVariables false
set_option linter.unusedSimpArgs false
namespace Go.Proofs.Ytabcbkgnhdijpaa
open Go.RowKit RP


set_option maxHeartbeats 4000000 in
theorem walkResidueShiftAndSum (t : Int) (A1 : Option Addr) (c1 : Nat) (l : List Int) (A2 : Option Addr) (c2 : Nat) (m : List Int) (by_ : Int) (A3 : Option Addr) (c3 : Nat) (s : List Sp) (raw : Bool) (w : World) (ht : R64 t) (hl : ArgI w A1 c1 l) (hm : ArgI w A2 c2 m) (hby : R64 by_) (hs : ArgS w A3 c3 s) :
    Calls Try.prog 7 #[.int .i64 t, .slice A1 l.length c1, .slice A2 m.length c2, .int .i64 by_, .slice A3 s.length c3, .bool raw] w fun e w' => e = .returned (.bool true) ∧ Below w.heap.size w w' := by
  obtain ⟨t1, t2⟩ := ht
  have hp := perI_range t
  have hper := fun W => period_any t W t1 t2
  generalize perI t = p at *
  obtain ⟨hp1, hp2⟩ := hp
  obtain ⟨T, rfl⟩ := Int.eq_ofNat_of_zero_le (show 0 ≤ p by omega)
  cases raw
  all_goals
    go_enter Try.func7, Try.ntmps7
    go_wp2_with fail
    refine (hper _).mono ?_
    rintro e w' ⟨rfl, rfl⟩
    go_wp2_with fail
    refine (set_any T A1 c1 l w hl (by omega) (by omega)).mono ?_
    rintro e w1 ⟨va, a, rfl, hoa, hva, hb1⟩
    have z1 := hb1.size
    have hc1 : Below w.heap.size w w1 := Below.trans (Below.refl w.heap.size w) (hb1.mono (Below.size (Below.refl w.heap.size w)))
    replace hm := hm.below hb1
    replace hs := hs.below hb1
    go_wp2_with fail
    refine (set_any T A2 c2 m w1 hm (by omega) (by omega)).mono ?_
    rintro e w2 ⟨vb, b, rfl, hob, hvb, hb2⟩
    have z2 := hb2.size
    have hc2 : Below w.heap.size w w2 := Below.trans hc1 (hb2.mono (Below.size hc1))
    replace hm := hm.below hb2
    replace hs := hs.below hb2
    replace hoa := hoa.below' hb2
    clear hva hvb
    obtain ⟨A', c', rfl, ha, hac, hc'⟩ := hoa.arg
    obtain ⟨B', d', rfl, hb, hbc, hd'⟩ := hob.arg
    clear hm hoa hob
  · clear hs
    go_wp2_with fail
    refine (shift_any T B' d' b by_ w2 hb (by omega) (by omega) (by omega)).mono ?_
    rintro e w3 ⟨v3, rfl, ho3, hb3⟩
    have z3 := hb3.size
    have hc3 : Below w.heap.size w w3 := Below.trans hc2 (hb3.mono (Below.size hc2))
    replace ha := ha.belowMore hb3 z3
    replace hb := hb.belowMore hb3 z3
    rw [shiftI_nat] at ho3
    go_wp2_with fail
    refine (refShift_any T B' d' b by_ w3 hb (by omega) (by omega) (by omega)).mono ?_
    rintro e w4 ⟨v4, rfl, ho4, hb4⟩
    have z4 := hb4.size
    have hc4 : Below w.heap.size w w4 := Below.trans hc3 (hb4.mono (Below.size hc3))
    replace ha := ha.belowMore hb4 z4
    replace hb := hb.belowMore hb4 z4
    replace ho3 := ho3.below' hb4
    generalize shiftL T b (by_ % T) = U at *
    generalize badI T b [] = E1
    go_wp2_with fail
    refine (sum_any T A' B' c' d' a b w4 ha hb (by omega) (by omega)).mono ?_
    rintro e w5 ⟨v5, rfl, ho5, hb5⟩
    have z5 := hb5.size
    have hc5 : Below w.heap.size w w5 := Below.trans hc4 (hb5.mono (Below.size hc4))
    replace ha := ha.belowMore hb5 z5
    replace hb := hb.belowMore hb5 z5
    replace ho3 := ho3.below' hb5
    replace ho4 := ho4.below' hb5
    rw [sumI_nat] at ho5
    go_wp2_with fail
    refine (refSum_any T A' B' c' d' a b w5 ha hb (by omega) (by omega) (by omega) (by omega)).mono ?_
    rintro e w6 ⟨v6, rfl, ho6, hb6⟩
    have z6 := hb6.size
    have hc6 : Below w.heap.size w w6 := Below.trans hc5 (hb6.mono (Below.size hc5))
    replace ha := ha.belowMore hb6 z6
    replace hb := hb.belowMore hb6 z6
    replace ho3 := ho3.below' hb6
    replace ho4 := ho4.below' hb6
    replace ho5 := ho5.below' hb6
    generalize sumL T a b = I at *
    generalize badI T a b = E2
    go_wp2_with fail
    refine (awake2_any w6).mono ?_
    rintro e w7 ⟨rfl, hb7⟩
    have z7 := hb7.size
    have hc7 : Below w.heap.size w w7 := Below.trans hc6 (hb7.mono (Below.size hc6))
    replace ha := ha.belowMore hb7 z7
    replace hb := hb.belowMore hb7 z7
    replace ho3 := ho3.below' hb7
    replace ho4 := ho4.below' hb7
    replace ho5 := ho5.below' hb7
    replace ho6 := ho6.below' hb7
    have d1 : (E1 == E1) = true := by simp
    have d2 : (E2 == E2) = true := by simp
    go_wp2_with fail
    refine (same_own v3 v4 U U w7 _ _ ho3 ho4).mono ?_
    rintro e w8 ⟨rfl, hb8⟩
    have z8 := hb8.size
    have hc8 : Below w.heap.size w w8 := Below.trans hc7 (hb8.mono (Below.size hc7))
    replace ha := ha.belowMore hb8 z8
    replace hb := hb.belowMore hb8 z8
    replace ho3 := ho3.below' hb8
    replace ho4 := ho4.below' hb8
    replace ho5 := ho5.below' hb8
    replace ho6 := ho6.below' hb8
    rw [show decide (U = U) = true by simp]
    go_wp2_with fail
    refine (same_own v5 v6 I I w8 _ _ ho5 ho6).mono ?_
    rintro e w9 ⟨rfl, hb9⟩
    have z9 := hb9.size
    have hc9 : Below w.heap.size w w9 := Below.trans hc8 (hb9.mono (Below.size hc8))
    replace ha := ha.belowMore hb9 z9
    replace hb := hb.belowMore hb9 z9
    replace ho3 := ho3.below' hb9
    replace ho4 := ho4.below' hb9
    replace ho5 := ho5.below' hb9
    replace ho6 := ho6.below' hb9
    rw [show decide (I = I) = true by simp]
    go_wp2_with fail
    go_ret
    exact ⟨rfl, hc9⟩
  · have hsl := hs.lst
    have hsc := hs.cap
    have hsn := hs.cap63
    clear hs
    go_wp2_with fail
    refine (shift_any T A3 c3 s by_ w2 hsl (by omega) (by omega) (by omega)).mono ?_
    rintro e w3 ⟨v3, rfl, ho3, hb3⟩
    have z3 := hb3.size
    have hc3 : Below w.heap.size w w3 := Below.trans hc2 (hb3.mono (Below.size hc2))
    replace ha := ha.belowMore hb3 z3
    replace hsl := hsl.belowMore hb3 z3
    rw [shiftI_nat] at ho3
    go_wp2_with fail
    refine (refShift_any T A3 c3 s by_ w3 hsl (by omega) (by omega) (by omega)).mono ?_
    rintro e w4 ⟨v4, rfl, ho4, hb4⟩
    have z4 := hb4.size
    have hc4 : Below w.heap.size w w4 := Below.trans hc3 (hb4.mono (Below.size hc3))
    replace ha := ha.belowMore hb4 z4
    replace hsl := hsl.belowMore hb4 z4
    replace ho3 := ho3.below' hb4
    generalize shiftL T s (by_ % T) = U at *
    generalize badI T s [] = E1
    go_wp2_with fail
    refine (sum_any T A' A3 c' c3 a s w4 ha hsl (by omega) (by omega)).mono ?_
    rintro e w5 ⟨v5, rfl, ho5, hb5⟩
    have z5 := hb5.size
    have hc5 : Below w.heap.size w w5 := Below.trans hc4 (hb5.mono (Below.size hc4))
    replace ha := ha.belowMore hb5 z5
    replace hsl := hsl.belowMore hb5 z5
    replace ho3 := ho3.below' hb5
    replace ho4 := ho4.below' hb5
    rw [sumI_nat] at ho5
    go_wp2_with fail
    refine (refSum_any T A' A3 c' c3 a s w5 ha hsl (by omega) (by omega) (by omega) (by omega)).mono ?_
    rintro e w6 ⟨v6, rfl, ho6, hb6⟩
    have z6 := hb6.size
    have hc6 : Below w.heap.size w w6 := Below.trans hc5 (hb6.mono (Below.size hc5))
    replace ha := ha.belowMore hb6 z6
    replace hsl := hsl.belowMore hb6 z6
    replace ho3 := ho3.below' hb6
    replace ho4 := ho4.below' hb6
    replace ho5 := ho5.below' hb6
    generalize sumL T a s = I at *
    generalize badI T a s = E2
    go_wp2_with fail
    refine (awake2_any w6).mono ?_
    rintro e w7 ⟨rfl, hb7⟩
    have z7 := hb7.size
    have hc7 : Below w.heap.size w w7 := Below.trans hc6 (hb7.mono (Below.size hc6))
    replace ha := ha.belowMore hb7 z7
    replace hsl := hsl.belowMore hb7 z7
    replace ho3 := ho3.below' hb7
    replace ho4 := ho4.below' hb7
    replace ho5 := ho5.below' hb7
    replace ho6 := ho6.below' hb7
    have d1 : (E1 == E1) = true := by simp
    have d2 : (E2 == E2) = true := by simp
    go_wp2_with fail
    refine (same_own v3 v4 U U w7 _ _ ho3 ho4).mono ?_
    rintro e w8 ⟨rfl, hb8⟩
    have z8 := hb8.size
    have hc8 : Below w.heap.size w w8 := Below.trans hc7 (hb8.mono (Below.size hc7))
    replace ha := ha.belowMore hb8 z8
    replace hsl := hsl.belowMore hb8 z8
    replace ho3 := ho3.below' hb8
    replace ho4 := ho4.below' hb8
    replace ho5 := ho5.below' hb8
    replace ho6 := ho6.below' hb8
    rw [show decide (U = U) = true by simp]
    go_wp2_with fail
    refine (same_own v5 v6 I I w8 _ _ ho5 ho6).mono ?_
    rintro e w9 ⟨rfl, hb9⟩
    have z9 := hb9.size
    have hc9 : Below w.heap.size w w9 := Below.trans hc8 (hb9.mono (Below.size hc8))
    replace ha := ha.belowMore hb9 z9
    replace hsl := hsl.belowMore hb9 z9
    replace ho3 := ho3.below' hb9
    replace ho4 := ho4.below' hb9
    replace ho5 := ho5.below' hb9
    replace ho6 := ho6.below' hb9
    rw [show decide (I = I) = true by simp]
    go_wp2_with fail
    go_ret
    exact ⟨rfl, hc9⟩

end Go.Proofs.Ytabcbkgnhdijpaa
