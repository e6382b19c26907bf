/-
  The walk of ResidueSetOperations: it returns true.
-/
import Derived.Test.YtabcbkgnhdijpaaLawKit
import Derived.Test.YtabcbkgnhdijpaaIntersect
set_option linter.unusedVariables false
set_option linter.unusedSimpArgs false
namespace Go.Proofs.Ytabcbkgnhdijpaa
open Go.RowKit RP



set_option maxHeartbeats 4000000 in
theorem walkResidueSetOperations (t : Int) (A1 : Option Addr) (c1 : Nat) (l : List Int) (A2 : Option Addr) (c2 : Nat) (m : List Int) (A3 : Option Addr) (c3 : Nat) (s : List Sp) (raw : Bool) (w : World) (ht : R64 t) (hl : ArgI w A1 c1 l) (hm : ArgI w A2 c2 m) (hs : ArgS w A3 c3 s) :
    Calls Try.prog 8 #[.int .i64 t, .slice A1 l.length c1, .slice A2 m.length c2, .slice A3 s.length c3, .bool raw] w fun e w' => e = .returned (.bool true) ∧ Below w.heap.size w w' := by
  obtain ⟨t1, t2⟩ := ht
  have hp := perI_range t
  have hper := fun W => period_any t W t1 t2
  generalize perI t = p at *
  obtain ⟨hp1, hp2⟩ := hp
  obtain ⟨T, rfl⟩ := Int.eq_ofNat_of_zero_le (show 0 ≤ p by omega)
  have hset := set_any T A1 c1 l w hl (by omega) (by omega)
  cases raw
  all_goals
    go_enter Try.func8, Try.ntmps8
    go_wp2_with fail
    refine (hper _).mono ?_
    rintro e w' ⟨rfl, rfl⟩
    go_wp2_with fail
    refine hset.mono ?_
    rintro e w1 ⟨va, a, rfl, hoa, hva, hb1⟩
    clear hva
    have z1 := hb1.size
    go_wp2_with fail
    refine (set_any T A2 c2 m w1 (hm.below hb1) (by omega) (by omega)).mono ?_
    rintro e w2 ⟨vb, b, rfl, hob, hvb, hb2⟩
    clear hvb
    have z2 := hb2.size
    have hb2' := hb1.trans (hb2.mono z1)
    replace hoa := hoa.below' hb2
    obtain ⟨A', c', rfl, ha, hac, hc'⟩ := hoa.arg
    obtain ⟨B', d', rfl, hb, hbc, hd'⟩ := hob.arg
  · go_wp2_with fail
    refine (union_any T A' B' c' d' a b w2 ha hb (by omega) (by omega)).mono ?_
    rintro e w3 ⟨v3, rfl, ho3, hb3⟩
    have z3 := hb3.size
    go_wp2_with fail
    refine (refUnion_any T A' B' c' d' a b w3 (ha.belowMore hb3 z3) ((hb).belowMore hb3 z3) (by omega) (by omega) (by omega) (by omega)).mono ?_
    rintro e w4 ⟨v4, rfl, ho4, hb4⟩
    have z4 := hb4.size
    have hb4' := hb3.trans (hb4.mono z3)
    rw [unionI_nat] at ho3
    replace ho3 := ho3.below' hb4
    generalize unionL T a b = U at *
    go_wp2_with fail
    refine (intersect_any T A' B' c' d' a b w4 (ha.belowMore hb4' (by omega)) ((hb).belowMore hb4' (by omega)) hac hbc (by omega) hd').mono ?_
    rintro e w5 ⟨v5, rfl, ho5, hb5⟩
    have z5 := hb5.size
    have hb5' := hb4'.trans (hb5.mono (by omega))
    replace ho3 := ho3.below' hb5
    replace ho4 := ho4.below' hb5
    go_wp2_with fail
    refine (refIntersect_any T A' B' c' d' a b w5 (ha.belowMore hb5' (by omega)) ((hb).belowMore hb5' (by omega)) (by omega) (by omega) (by omega) (by omega)).mono ?_
    rintro e w6 ⟨v6, rfl, ho6, hb6⟩
    have z6 := hb6.size
    have hb6' := hb5'.trans (hb6.mono (by omega))
    replace ho3 := ho3.below' hb6
    replace ho4 := ho4.below' hb6
    replace ho5 := ho5.below' hb6
    rw [interI_nat] at ho5
    generalize interL T a b = I at *
    go_wp2_with fail
    refine (complement_any T B' d' b w6 ((hb).belowMore hb6' (by omega)) (by omega)).mono ?_
    rintro e w7 ⟨v7, rfl, ho7, hb7⟩
    have z7 := hb7.size
    have hb7' := hb6'.trans (hb7.mono (by omega))
    replace ho3 := ho3.below' hb7
    replace ho4 := ho4.below' hb7
    replace ho5 := ho5.below' hb7
    replace ho6 := ho6.below' hb7
    go_wp2_with fail
    refine (refComplement_any T B' d' b w7 ((hb).belowMore hb7' (by omega)) (by omega) (by omega) (by omega)).mono ?_
    rintro e w8 ⟨v8, rfl, ho8, hb8⟩
    have z8 := hb8.size
    have hb8' := hb7'.trans (hb8.mono (by omega))
    replace ho3 := ho3.below' hb8
    replace ho4 := ho4.below' hb8
    replace ho5 := ho5.below' hb8
    replace ho6 := ho6.below' hb8
    replace ho7 := ho7.below' hb8
    rw [compI_nat] at ho7
    generalize compL T b = C at *
    generalize badI T a b = E1
    generalize badI T b [] = E2
    go_wp2_with fail
    refine (awake2_any w8).mono ?_
    rintro e w9 ⟨rfl, hb9⟩
    have z9 := hb9.size
    have hb9' := hb8'.trans (hb9.mono (by omega))
    replace ho3 := ho3.below' hb9
    replace ho4 := ho4.below' hb9
    replace ho5 := ho5.below' hb9
    replace ho6 := ho6.below' hb9
    replace ho7 := ho7.below' hb9
    replace ho8 := ho8.below' hb9
    go_wp2_with fail
    refine (same_own v3 v4 U U w9 _ _ ho3 ho4).mono ?_
    rintro e w10 ⟨rfl, hb10⟩
    have z10 := hb10.size
    have hb10' := hb9'.trans (hb10.mono (by omega))
    rw [show decide (U = U) = true by simp]
    have d1 : (E1 == E1) = true := by simp
    have d2 : (E2 == E2) = true := by simp
    replace ho5 := ho5.below' hb10
    replace ho6 := ho6.below' hb10
    replace ho7 := ho7.below' hb10
    replace ho8 := ho8.below' hb10
    go_wp2_with fail
    refine (same_own v5 v6 I I w10 _ _ ho5 ho6).mono ?_
    rintro e w11 ⟨rfl, hb11⟩
    have z11 := hb11.size
    have hb11' := hb10'.trans (hb11.mono (by omega))
    rw [show decide (I = I) = true by simp]
    replace ho7 := ho7.below' hb11
    replace ho8 := ho8.below' hb11
    go_wp2_with fail
    refine (same_own v7 v8 C C w11 _ _ ho7 ho8).mono ?_
    rintro e w12 ⟨rfl, hb12⟩
    have hb12' := hb11'.trans (hb12.mono (by omega))
    rw [show decide (C = C) = true by simp]
    go_wp2_with fail
    go_ret
    exact ⟨rfl, hb2'.trans (hb12'.mono (by omega))⟩
  · have hs2 := hs.below hb2'
    have hsl := hs2.lst
    have hsc := hs2.cap
    have hsn := hs2.cap63
    go_wp2_with fail
    refine (union_any T A' A3 c' c3 a s w2 ha hsl (by omega) (by omega)).mono ?_
    rintro e w3 ⟨v3, rfl, ho3, hb3⟩
    have z3 := hb3.size
    go_wp2_with fail
    refine (refUnion_any T A' A3 c' c3 a s w3 (ha.belowMore hb3 z3) ((hsl).belowMore hb3 z3) (by omega) (by omega) (by omega) (by omega)).mono ?_
    rintro e w4 ⟨v4, rfl, ho4, hb4⟩
    have z4 := hb4.size
    have hb4' := hb3.trans (hb4.mono z3)
    rw [unionI_nat] at ho3
    replace ho3 := ho3.below' hb4
    generalize unionL T a s = U at *
    go_wp2_with fail
    refine (intersect_any T A' A3 c' c3 a s w4 (ha.belowMore hb4' (by omega)) ((hsl).belowMore hb4' (by omega)) hac hsc (by omega) hsn).mono ?_
    rintro e w5 ⟨v5, rfl, ho5, hb5⟩
    have z5 := hb5.size
    have hb5' := hb4'.trans (hb5.mono (by omega))
    replace ho3 := ho3.below' hb5
    replace ho4 := ho4.below' hb5
    go_wp2_with fail
    refine (refIntersect_any T A' A3 c' c3 a s w5 (ha.belowMore hb5' (by omega)) ((hsl).belowMore hb5' (by omega)) (by omega) (by omega) (by omega) (by omega)).mono ?_
    rintro e w6 ⟨v6, rfl, ho6, hb6⟩
    have z6 := hb6.size
    have hb6' := hb5'.trans (hb6.mono (by omega))
    replace ho3 := ho3.below' hb6
    replace ho4 := ho4.below' hb6
    replace ho5 := ho5.below' hb6
    rw [interI_nat] at ho5
    generalize interL T a s = I at *
    go_wp2_with fail
    refine (complement_any T A3 c3 s w6 ((hsl).belowMore hb6' (by omega)) (by omega)).mono ?_
    rintro e w7 ⟨v7, rfl, ho7, hb7⟩
    have z7 := hb7.size
    have hb7' := hb6'.trans (hb7.mono (by omega))
    replace ho3 := ho3.below' hb7
    replace ho4 := ho4.below' hb7
    replace ho5 := ho5.below' hb7
    replace ho6 := ho6.below' hb7
    go_wp2_with fail
    refine (refComplement_any T A3 c3 s w7 ((hsl).belowMore hb7' (by omega)) (by omega) (by omega) (by omega)).mono ?_
    rintro e w8 ⟨v8, rfl, ho8, hb8⟩
    have z8 := hb8.size
    have hb8' := hb7'.trans (hb8.mono (by omega))
    replace ho3 := ho3.below' hb8
    replace ho4 := ho4.below' hb8
    replace ho5 := ho5.below' hb8
    replace ho6 := ho6.below' hb8
    replace ho7 := ho7.below' hb8
    rw [compI_nat] at ho7
    generalize compL T s = C at *
    generalize badI T a s = E1
    generalize badI T s [] = E2
    go_wp2_with fail
    refine (awake2_any w8).mono ?_
    rintro e w9 ⟨rfl, hb9⟩
    have z9 := hb9.size
    have hb9' := hb8'.trans (hb9.mono (by omega))
    replace ho3 := ho3.below' hb9
    replace ho4 := ho4.below' hb9
    replace ho5 := ho5.below' hb9
    replace ho6 := ho6.below' hb9
    replace ho7 := ho7.below' hb9
    replace ho8 := ho8.below' hb9
    go_wp2_with fail
    refine (same_own v3 v4 U U w9 _ _ ho3 ho4).mono ?_
    rintro e w10 ⟨rfl, hb10⟩
    have z10 := hb10.size
    have hb10' := hb9'.trans (hb10.mono (by omega))
    rw [show decide (U = U) = true by simp]
    have d1 : (E1 == E1) = true := by simp
    have d2 : (E2 == E2) = true := by simp
    replace ho5 := ho5.below' hb10
    replace ho6 := ho6.below' hb10
    replace ho7 := ho7.below' hb10
    replace ho8 := ho8.below' hb10
    go_wp2_with fail
    refine (same_own v5 v6 I I w10 _ _ ho5 ho6).mono ?_
    rintro e w11 ⟨rfl, hb11⟩
    have z11 := hb11.size
    have hb11' := hb10'.trans (hb11.mono (by omega))
    rw [show decide (I = I) = true by simp]
    replace ho7 := ho7.below' hb11
    replace ho8 := ho8.below' hb11
    go_wp2_with fail
    refine (same_own v7 v8 C C w11 _ _ ho7 ho8).mono ?_
    rintro e w12 ⟨rfl, hb12⟩
    have hb12' := hb11'.trans (hb12.mono (by omega))
    rw [show decide (C = C) = true by simp]
    go_wp2_with fail
    go_ret
    exact ⟨rfl, hb2'.trans (hb12'.mono (by omega))⟩

end Go.Proofs.Ytabcbkgnhdijpaa
