/-
  The walk of ResidueRejects: it returns true.
-/
import Derived.Test.YtabcbkgnhdijpaaLawKit
import Derived.Test.YtabcbkgnhdijpaaIntersect
import Derived.Test.YtabcbkgnhdijpaaSum
set_option linter.unusedVariables false
set_option linter.unusedSimpArgs false
namespace Go.Proofs.Ytabcbkgnhdijpaa
open Go.RowKit RP

theorem badI_out {t : Int} (h : inRange t = false) (a b : List Sp) : badI t a b = 4 := by simp [badI, h]
theorem badI_left {t : Int} (h : inRange t = true) (s : List Sp) : badI t s [] = if validL t s then 0 else 1 := by
  have h0 : validL t [] = true := by simp [validL, h, validFrom]
  simp [badI, h, h0]
theorem badI_right {t : Int} (h : inRange t = true) (s : List Sp) : badI t [] s = if validL t s then 0 else 1 := by
  have h0 : validL t [] = true := by simp [validL, h, validFrom]
  simp [badI, h, h0]


set_option maxHeartbeats 4000000 in
theorem walkResidueRejects (t : Int) (A1 : Option Addr) (c1 : Nat) (s : List Sp) (w : World) (ht : R64 t) (hs : ArgS w A1 c1 s) :
    Calls Try.prog 13 #[.int .i64 t, .slice A1 s.length c1] w fun e w' => e = .returned (.bool true) ∧ Below w.heap.size w w' := by
  obtain ⟨t1, t2⟩ := ht
  have hsl := hs.lst
  have hsc := hs.cap
  have hsn := hs.cap63
  clear hs
  by_cases hr : 1 ≤ t ∧ t ≤ 7200
  · obtain ⟨r1, r2⟩ := hr
    have hi : inRange t = true := by simp [inRange]; omega
    cases hv : validL t s with
    | true =>
      have hE1 : badI t s [] = 0 := by rw [badI_left hi, hv]; rfl
      have hE2 : badI t [] s = 0 := by rw [badI_right hi, hv]; rfl
      go_enter Try.func13, Try.ntmps13
      go_wp2_with fail
      refine (union_any t A1 none c1 0 s [] w hsl Lst.nil (by omega) (by simp)).mono ?_
      rintro e w1 ⟨v1, rfl, _, hb1⟩
      have z1 := hb1.size
      have hc1 : Below w.heap.size w w1 := Below.trans (Below.refl w.heap.size w) (hb1.mono (Below.size (Below.refl w.heap.size w)))
      replace hsl := hsl.belowMore hb1 z1
      go_wp2_with fail
      refine (intersect_any t none A1 0 c1 [] s w1 Lst.nil hsl (by simp) hsc (by simp) hsn).mono ?_
      rintro e w2 ⟨v2, rfl, _, hb2⟩
      have z2 := hb2.size
      have hc2 : Below w.heap.size w w2 := Below.trans hc1 (hb2.mono (Below.size hc1))
      replace hsl := hsl.belowMore hb2 z2
      go_wp2_with fail
      refine (complement_any t A1 c1 s w2 hsl (by omega)).mono ?_
      rintro e w3 ⟨v3, rfl, _, hb3⟩
      have z3 := hb3.size
      have hc3 : Below w.heap.size w w3 := Below.trans hc2 (hb3.mono (Below.size hc2))
      replace hsl := hsl.belowMore hb3 z3
      go_wp2_with fail
      refine (shift_any t A1 c1 s 1 w3 hsl (by omega) (by omega) (by omega)).mono ?_
      rintro e w4 ⟨v4, rfl, _, hb4⟩
      have z4 := hb4.size
      have hc4 : Below w.heap.size w w4 := Below.trans hc3 (hb4.mono (Below.size hc3))
      replace hsl := hsl.belowMore hb4 z4
      go_wp2_with fail
      refine (sum_any t A1 none c1 0 s [] w4 hsl Lst.nil (by omega) (by simp)).mono ?_
      rintro e w5 ⟨v5, rfl, _, hb5⟩
      have z5 := hb5.size
      have hc5 : Below w.heap.size w w5 := Below.trans hc4 (hb5.mono (Below.size hc4))
      replace hsl := hsl.belowMore hb5 z5
      rw [hE1]
      go_wp2_with fail
      refine (validSpans_any t A1 c1 s w5 hsl (by omega)).mono ?_
      rintro e w6 ⟨rfl, hb6⟩
      have z6 := hb6.size
      have hc6 : Below w.heap.size w w6 := Below.trans hc5 (hb6.mono (Below.size hc5))
      replace hsl := hsl.belowMore hb6 z6
      rw [hv]
      go_wp2_with fail
      refine (awake2_any w6).mono ?_
      rintro e w7 ⟨rfl, hb7⟩
      have z7 := hb7.size
      have hc7 : Below w.heap.size w w7 := Below.trans hc6 (hb7.mono (Below.size hc6))
      replace hsl := hsl.belowMore hb7 z7
      go_wp2_with fail
      go_ret
      exact ⟨rfl, hc7⟩
    | false =>
      have hE1 : badI t s [] = 1 := by rw [badI_left hi, hv]; rfl
      have hE2 : badI t [] s = 1 := by rw [badI_right hi, hv]; rfl
      go_enter Try.func13, Try.ntmps13
      go_wp2_with fail
      refine (union_any t A1 none c1 0 s [] w hsl Lst.nil (by omega) (by simp)).mono ?_
      rintro e w1 ⟨v1, rfl, _, hb1⟩
      have z1 := hb1.size
      have hc1 : Below w.heap.size w w1 := Below.trans (Below.refl w.heap.size w) (hb1.mono (Below.size (Below.refl w.heap.size w)))
      replace hsl := hsl.belowMore hb1 z1
      go_wp2_with fail
      refine (intersect_any t none A1 0 c1 [] s w1 Lst.nil hsl (by simp) hsc (by simp) hsn).mono ?_
      rintro e w2 ⟨v2, rfl, _, hb2⟩
      have z2 := hb2.size
      have hc2 : Below w.heap.size w w2 := Below.trans hc1 (hb2.mono (Below.size hc1))
      replace hsl := hsl.belowMore hb2 z2
      go_wp2_with fail
      refine (complement_any t A1 c1 s w2 hsl (by omega)).mono ?_
      rintro e w3 ⟨v3, rfl, _, hb3⟩
      have z3 := hb3.size
      have hc3 : Below w.heap.size w w3 := Below.trans hc2 (hb3.mono (Below.size hc2))
      replace hsl := hsl.belowMore hb3 z3
      go_wp2_with fail
      refine (shift_any t A1 c1 s 1 w3 hsl (by omega) (by omega) (by omega)).mono ?_
      rintro e w4 ⟨v4, rfl, _, hb4⟩
      have z4 := hb4.size
      have hc4 : Below w.heap.size w w4 := Below.trans hc3 (hb4.mono (Below.size hc3))
      replace hsl := hsl.belowMore hb4 z4
      go_wp2_with fail
      refine (sum_any t A1 none c1 0 s [] w4 hsl Lst.nil (by omega) (by simp)).mono ?_
      rintro e w5 ⟨v5, rfl, _, hb5⟩
      have z5 := hb5.size
      have hc5 : Below w.heap.size w w5 := Below.trans hc4 (hb5.mono (Below.size hc4))
      replace hsl := hsl.belowMore hb5 z5
      rw [hE1]
      go_wp2_with fail
      refine (validSpans_any t A1 c1 s w5 hsl (by omega)).mono ?_
      rintro e w6 ⟨rfl, hb6⟩
      have z6 := hb6.size
      have hc6 : Below w.heap.size w w6 := Below.trans hc5 (hb6.mono (Below.size hc5))
      replace hsl := hsl.belowMore hb6 z6
      rw [hv]
      go_wp2_with fail
      refine (awake2_any w6).mono ?_
      rintro e w7 ⟨rfl, hb7⟩
      have z7 := hb7.size
      have hc7 : Below w.heap.size w w7 := Below.trans hc6 (hb7.mono (Below.size hc6))
      replace hsl := hsl.belowMore hb7 z7
      go_wp2_with fail
      go_ret
      exact ⟨rfl, hc7⟩
  · have hi : inRange t = false := by simp [inRange]; omega
    have hE1 : badI t s [] = 4 := badI_out hi _ _
    have hE2 : badI t [] s = 4 := badI_out hi _ _
    by_cases r1 : t < 1
    · go_enter Try.func13, Try.ntmps13
      go_wp2_with fail
      refine (union_any t A1 none c1 0 s [] w hsl Lst.nil (by omega) (by simp)).mono ?_
      rintro e w1 ⟨v1, rfl, _, hb1⟩
      have z1 := hb1.size
      have hc1 : Below w.heap.size w w1 := Below.trans (Below.refl w.heap.size w) (hb1.mono (Below.size (Below.refl w.heap.size w)))
      replace hsl := hsl.belowMore hb1 z1
      go_wp2_with fail
      refine (intersect_any t none A1 0 c1 [] s w1 Lst.nil hsl (by simp) hsc (by simp) hsn).mono ?_
      rintro e w2 ⟨v2, rfl, _, hb2⟩
      have z2 := hb2.size
      have hc2 : Below w.heap.size w w2 := Below.trans hc1 (hb2.mono (Below.size hc1))
      replace hsl := hsl.belowMore hb2 z2
      go_wp2_with fail
      refine (complement_any t A1 c1 s w2 hsl (by omega)).mono ?_
      rintro e w3 ⟨v3, rfl, _, hb3⟩
      have z3 := hb3.size
      have hc3 : Below w.heap.size w w3 := Below.trans hc2 (hb3.mono (Below.size hc2))
      replace hsl := hsl.belowMore hb3 z3
      go_wp2_with fail
      refine (shift_any t A1 c1 s 1 w3 hsl (by omega) (by omega) (by omega)).mono ?_
      rintro e w4 ⟨v4, rfl, _, hb4⟩
      have z4 := hb4.size
      have hc4 : Below w.heap.size w w4 := Below.trans hc3 (hb4.mono (Below.size hc3))
      replace hsl := hsl.belowMore hb4 z4
      go_wp2_with fail
      refine (sum_any t A1 none c1 0 s [] w4 hsl Lst.nil (by omega) (by simp)).mono ?_
      rintro e w5 ⟨v5, rfl, _, hb5⟩
      have z5 := hb5.size
      have hc5 : Below w.heap.size w w5 := Below.trans hc4 (hb5.mono (Below.size hc4))
      replace hsl := hsl.belowMore hb5 z5
      rw [hE1]
      go_wp2_with fail
      refine (awake2_any w5).mono ?_
      rintro e w6 ⟨rfl, hb6⟩
      have z6 := hb6.size
      have hc6 : Below w.heap.size w w6 := Below.trans hc5 (hb6.mono (Below.size hc5))
      replace hsl := hsl.belowMore hb6 z6
      go_wp2_with fail
      go_ret
      exact ⟨rfl, hc6⟩
    · have r2 : 7200 < t := by omega
      go_enter Try.func13, Try.ntmps13
      go_wp2_with fail
      refine (union_any t A1 none c1 0 s [] w hsl Lst.nil (by omega) (by simp)).mono ?_
      rintro e w1 ⟨v1, rfl, _, hb1⟩
      have z1 := hb1.size
      have hc1 : Below w.heap.size w w1 := Below.trans (Below.refl w.heap.size w) (hb1.mono (Below.size (Below.refl w.heap.size w)))
      replace hsl := hsl.belowMore hb1 z1
      go_wp2_with fail
      refine (intersect_any t none A1 0 c1 [] s w1 Lst.nil hsl (by simp) hsc (by simp) hsn).mono ?_
      rintro e w2 ⟨v2, rfl, _, hb2⟩
      have z2 := hb2.size
      have hc2 : Below w.heap.size w w2 := Below.trans hc1 (hb2.mono (Below.size hc1))
      replace hsl := hsl.belowMore hb2 z2
      go_wp2_with fail
      refine (complement_any t A1 c1 s w2 hsl (by omega)).mono ?_
      rintro e w3 ⟨v3, rfl, _, hb3⟩
      have z3 := hb3.size
      have hc3 : Below w.heap.size w w3 := Below.trans hc2 (hb3.mono (Below.size hc2))
      replace hsl := hsl.belowMore hb3 z3
      go_wp2_with fail
      refine (shift_any t A1 c1 s 1 w3 hsl (by omega) (by omega) (by omega)).mono ?_
      rintro e w4 ⟨v4, rfl, _, hb4⟩
      have z4 := hb4.size
      have hc4 : Below w.heap.size w w4 := Below.trans hc3 (hb4.mono (Below.size hc3))
      replace hsl := hsl.belowMore hb4 z4
      go_wp2_with fail
      refine (sum_any t A1 none c1 0 s [] w4 hsl Lst.nil (by omega) (by simp)).mono ?_
      rintro e w5 ⟨v5, rfl, _, hb5⟩
      have z5 := hb5.size
      have hc5 : Below w.heap.size w w5 := Below.trans hc4 (hb5.mono (Below.size hc4))
      replace hsl := hsl.belowMore hb5 z5
      rw [hE1]
      go_wp2_with fail
      refine (awake2_any w5).mono ?_
      rintro e w6 ⟨rfl, hb6⟩
      have z6 := hb6.size
      have hc6 : Below w.heap.size w w6 := Below.trans hc5 (hb6.mono (Below.size hc5))
      replace hsl := hsl.belowMore hb6 z6
      go_wp2_with fail
      go_ret
      exact ⟨rfl, hc6⟩

end Go.Proofs.Ytabcbkgnhdijpaa
