/-
  The walk of ResidueExamples: it returns true.
-/
import Derived.Test.YtabcbkgnhdijpaaLawKit
import Derived.Test.YtabcbkgnhdijpaaSum
set_option linter.unusedVariables false
set_option linter.unusedSimpArgs false
namespace Go.Proofs.Ytabcbkgnhdijpaa
open Go.RowKit RP

theorem lit1 (w : World) (f e : Int) : OwnS (w.alloc (.cells #[.int .i64 f, .int .i64 e] 31)) w.heap.size (.slice (some ⟨w.heap.size, 0, none⟩) 1 1) [(f, e)] :=
  Own.lit w _ _ _ [(f, e)] 1 rfl encS_len rfl (Nat.le_refl _) (by simp [maxLen])
theorem lit2 (w : World) (f e f' e' : Int) : OwnS (w.alloc (.cells #[.int .i64 f, .int .i64 e, .int .i64 f', .int .i64 e'] 31)) w.heap.size (.slice (some ⟨w.heap.size, 0, none⟩) 2 2) [(f, e), (f', e')] :=
  Own.lit w _ _ _ [(f, e), (f', e')] 2 rfl encS_len rfl (Nat.le_refl _) (by simp [maxLen])

theorem next_example : NextSpec 10 [(0, 2), (8, 10)] 3 5 true := by
  unfold NextSpec
  rw [if_pos (by decide)]
  refine .inl ⟨rfl, by omega, by omega, by decide, fun k h1 h2 => ?_⟩
  have : k = 0 ∨ k = 1 ∨ k = 2 ∨ k = 3 ∨ k = 4 := by omega
  rcases this with rfl | rfl | rfl | rfl | rfl <;> decide

theorem lstOf {w : World} {b g n : Nat} {l : List Sp} (h : OwnS w b (.slice (some ⟨g, 0, none⟩) n n) l) : Lst encS 2 w w.heap.size (some ⟨g, 0, none⟩) l := h.lst encS_len

set_option maxHeartbeats 4000000 in
theorem walkResidueExamples (w : World) : Calls Try.prog 12 #[] w fun e w' => e = .returned (.bool true) ∧ Below w.heap.size w w' := by
  have e1 : makeL 10 8 4 = [(0, 2), (8, 10)] := by decide
  have e2 : rangeErr 10 = 0 := by decide
  have hmk := make_any 10 8 4 w (by omega) (by omega) (by omega)
  rw [e1, e2] at hmk
  have e3 : compI 10 [(0, 2), (8, 10)] = [(2, 8)] := by decide
  have e4 : badI 10 [(0, 2), (8, 10)] [] = 0 := by decide
  have e5 : shiftI 10 [(8, 10)] (3 % 10) = [(1, 3)] := by decide
  have e6 : badI 10 [(8, 10)] [] = 0 := by decide
  have e7 : sumI 10 [(0, 2)] [(5, 7)] = [(5, 8)] := by decide
  have e8 : badI 10 [(0, 2)] [(5, 7)] = 0 := by decide
  clear e1 e2
  go_enter Try.func12, Try.ntmps12
  go_wp2_with fail
  refine (hmk).mono ?_
  rintro e w1 ⟨v1, rfl, ho1, hb1⟩
  have z1 := hb1.size
  have hc1 : Below w.heap.size w w1 := Below.trans (Below.refl w.heap.size w) (hb1.mono (Below.size (Below.refl w.heap.size w)))
  obtain ⟨A1, c1, rfl, h1, h1c, h1n⟩ := ho1.arg
  go_wp2_with fail
  refine (complement_any 10 A1 c1 [(0, 2), (8, 10)] w1 h1 (by simp)).mono ?_
  rintro e w2 ⟨v2, rfl, ho2, hb2⟩
  have z2 := hb2.size
  have hc2 : Below w.heap.size w w2 := Below.trans hc1 (hb2.mono (Below.size hc1))
  replace ho1 := ho1.below' hb2
  replace h1 := h1.belowMore hb2 z2
  rw [e3] at ho2
  rw [e4]
  clear hmk e3 e4
  have q1 := lit1 w2 8 10
  have hb3 := belA w2 (.cells #[.int .i64 8, .int .i64 10] 31)
  have z3 := hb3.size
  have hc3 : Below w.heap.size w (w2.alloc (.cells #[.int .i64 8, .int .i64 10] 31)) := Below.trans hc2 (hb3.mono (Below.size hc2))
  replace ho1 := ho1.below' hb3
  replace h1 := h1.belowMore hb3 z3
  replace ho2 := ho2.below' hb3
  have hs := shift_any 10 _ 1 [(8, 10)] 3 (w2.alloc (.cells #[.int .i64 8, .int .i64 10] 31)) (lstOf q1) (by simp) (by omega) (by omega)
  rw [e5, e6] at hs
  go_wp2_with fail
  refine (hs).mono ?_
  rintro e w4 ⟨v3, rfl, ho3, hb4⟩
  have z4 := hb4.size
  have hc4 : Below w.heap.size w w4 := Below.trans hc3 (hb4.mono (Below.size hc3))
  replace ho1 := ho1.below' hb4
  replace h1 := h1.belowMore hb4 z4
  replace ho2 := ho2.below' hb4
  clear hs q1 e5 e6
  have q1 := lit1 w4 0 2
  have hb5 := belA w4 (.cells #[.int .i64 0, .int .i64 2] 31)
  have z5 := hb5.size
  have hc5 : Below w.heap.size w (w4.alloc (.cells #[.int .i64 0, .int .i64 2] 31)) := Below.trans hc4 (hb5.mono (Below.size hc4))
  replace ho1 := ho1.below' hb5
  replace h1 := h1.belowMore hb5 z5
  replace ho2 := ho2.below' hb5
  replace ho3 := ho3.below' hb5
  have q2 := lit1 (w4.alloc (.cells #[.int .i64 0, .int .i64 2] 31)) 5 7
  rw [show (w4.alloc (.cells #[.int .i64 0, .int .i64 2] 31)).heap.size = w4.heap.size + 1 by simp] at q2
  have hb6 := belA (w4.alloc (.cells #[.int .i64 0, .int .i64 2] 31)) (.cells #[.int .i64 5, .int .i64 7] 31)
  have z6 := hb6.size
  have hc6 : Below w.heap.size w ((w4.alloc (.cells #[.int .i64 0, .int .i64 2] 31)).alloc (.cells #[.int .i64 5, .int .i64 7] 31)) := Below.trans hc5 (hb6.mono (Below.size hc5))
  replace ho1 := ho1.below' hb6
  replace h1 := h1.belowMore hb6 z6
  replace ho2 := ho2.below' hb6
  replace ho3 := ho3.below' hb6
  replace q1 := q1.below' hb6
  have hs := sum_any 10 _ _ 1 1 [(0, 2)] [(5, 7)] ((w4.alloc (.cells #[.int .i64 0, .int .i64 2] 31)).alloc (.cells #[.int .i64 5, .int .i64 7] 31)) (lstOf q1) (lstOf q2) (by simp) (by simp)
  rw [e7, e8] at hs
  go_wp2_with fail
  refine (hs).mono ?_
  rintro e w7 ⟨v4, rfl, ho4, hb7⟩
  have z7 := hb7.size
  have hc7 : Below w.heap.size w w7 := Below.trans hc6 (hb7.mono (Below.size hc6))
  replace ho1 := ho1.below' hb7
  replace h1 := h1.belowMore hb7 z7
  replace ho2 := ho2.below' hb7
  replace ho3 := ho3.below' hb7
  replace q1 := q1.below' hb7
  clear hs q1 q2 e7 e8
  go_wp2_with fail
  refine (nextPub_any 10 A1 c1 [(0, 2), (8, 10)] 3 w7 h1 (by simp) (by omega) (by omega)).mono ?_
  rintro e w8 ⟨d, ok, rfl, hsp, hb8⟩
  have z8 := hb8.size
  have hc8 : Below w.heap.size w w8 := Below.trans hc7 (hb8.mono (Below.size hc7))
  replace ho1 := ho1.below' hb8
  replace h1 := h1.belowMore hb8 z8
  replace ho2 := ho2.below' hb8
  replace ho3 := ho3.below' hb8
  replace ho4 := ho4.below' hb8
  obtain ⟨rfl, rfl⟩ := next_unique hsp next_example
  clear hsp
  have q := lit2 w8 0 2 8 10
  have hb9 := belA w8 (.cells #[.int .i64 0, .int .i64 2, .int .i64 8, .int .i64 10] 31)
  have z9 := hb9.size
  have hc9 : Below w.heap.size w (w8.alloc (.cells #[.int .i64 0, .int .i64 2, .int .i64 8, .int .i64 10] 31)) := Below.trans hc8 (hb9.mono (Below.size hc8))
  replace ho1 := ho1.below' hb9
  replace ho2 := ho2.below' hb9
  replace ho3 := ho3.below' hb9
  replace ho4 := ho4.below' hb9
  have hs := same_own _ _ [(0, 2), (8, 10)] [(0, 2), (8, 10)] (w8.alloc (.cells #[.int .i64 0, .int .i64 2, .int .i64 8, .int .i64 10] 31)) _ _ ho1 q
  rw [show decide (([(0, 2), (8, 10)] : List Sp) = [(0, 2), (8, 10)]) = true by simp] at hs
  go_wp2_with fail
  refine (hs).mono ?_
  rintro e w10 ⟨rfl, hb10⟩
  have z10 := hb10.size
  have hc10 : Below w.heap.size w w10 := Below.trans hc9 (hb10.mono (Below.size hc9))
  replace ho1 := ho1.below' hb10
  replace ho2 := ho2.below' hb10
  replace ho3 := ho3.below' hb10
  replace ho4 := ho4.below' hb10
  clear hs q
  have q := lit1 w10 2 8
  have hb11 := belA w10 (.cells #[.int .i64 2, .int .i64 8] 31)
  have z11 := hb11.size
  have hc11 : Below w.heap.size w (w10.alloc (.cells #[.int .i64 2, .int .i64 8] 31)) := Below.trans hc10 (hb11.mono (Below.size hc10))
  replace ho1 := ho1.below' hb11
  replace ho2 := ho2.below' hb11
  replace ho3 := ho3.below' hb11
  replace ho4 := ho4.below' hb11
  have hs := same_own v2 _ [(2, 8)] [(2, 8)] (w10.alloc (.cells #[.int .i64 2, .int .i64 8] 31)) _ _ ho2 q
  rw [show decide (([(2, 8)] : List Sp) = [(2, 8)]) = true by simp] at hs
  go_wp2_with fail
  refine (hs).mono ?_
  rintro e w12 ⟨rfl, hb12⟩
  have z12 := hb12.size
  have hc12 : Below w.heap.size w w12 := Below.trans hc11 (hb12.mono (Below.size hc11))
  replace ho1 := ho1.below' hb12
  replace ho2 := ho2.below' hb12
  replace ho3 := ho3.below' hb12
  replace ho4 := ho4.below' hb12
  clear hs q
  have q := lit1 w12 1 3
  have hb13 := belA w12 (.cells #[.int .i64 1, .int .i64 3] 31)
  have z13 := hb13.size
  have hc13 : Below w.heap.size w (w12.alloc (.cells #[.int .i64 1, .int .i64 3] 31)) := Below.trans hc12 (hb13.mono (Below.size hc12))
  replace ho1 := ho1.below' hb13
  replace ho2 := ho2.below' hb13
  replace ho3 := ho3.below' hb13
  replace ho4 := ho4.below' hb13
  have hs := same_own v3 _ [(1, 3)] [(1, 3)] (w12.alloc (.cells #[.int .i64 1, .int .i64 3] 31)) _ _ ho3 q
  rw [show decide (([(1, 3)] : List Sp) = [(1, 3)]) = true by simp] at hs
  go_wp2_with fail
  refine (hs).mono ?_
  rintro e w14 ⟨rfl, hb14⟩
  have z14 := hb14.size
  have hc14 : Below w.heap.size w w14 := Below.trans hc13 (hb14.mono (Below.size hc13))
  replace ho1 := ho1.below' hb14
  replace ho2 := ho2.below' hb14
  replace ho3 := ho3.below' hb14
  replace ho4 := ho4.below' hb14
  clear hs q
  have q := lit1 w14 5 8
  have hb15 := belA w14 (.cells #[.int .i64 5, .int .i64 8] 31)
  have z15 := hb15.size
  have hc15 : Below w.heap.size w (w14.alloc (.cells #[.int .i64 5, .int .i64 8] 31)) := Below.trans hc14 (hb15.mono (Below.size hc14))
  replace ho1 := ho1.below' hb15
  replace ho2 := ho2.below' hb15
  replace ho3 := ho3.below' hb15
  replace ho4 := ho4.below' hb15
  have hs := same_own v4 _ [(5, 8)] [(5, 8)] (w14.alloc (.cells #[.int .i64 5, .int .i64 8] 31)) _ _ ho4 q
  rw [show decide (([(5, 8)] : List Sp) = [(5, 8)]) = true by simp] at hs
  go_wp2_with fail
  refine (hs).mono ?_
  rintro e w16 ⟨rfl, hb16⟩
  have z16 := hb16.size
  have hc16 : Below w.heap.size w w16 := Below.trans hc15 (hb16.mono (Below.size hc15))
  replace ho1 := ho1.below' hb16
  replace ho2 := ho2.below' hb16
  replace ho3 := ho3.below' hb16
  replace ho4 := ho4.below' hb16
  clear hs q
  go_wp2_with fail
  go_ret
  exact ⟨rfl, hc16⟩

end Go.Proofs.Ytabcbkgnhdijpaa
