/-
  The walk of HeadwayExamples: it returns true.
-/
import Derived.Test.YtdijhhfmicafjaaSameW
import Derived.Test.YtdijhhfmicafjaaAwake
set_option linter.unusedVariables false
set_option linter.unusedSimpArgs false
namespace Go.Proofs.Ytdijhhfmicafjaa
open Go.RowKit RP

theorem belA (w : World) (o : Obj) : Below w.heap.size w (w.alloc o) := (Below.refl _ _).alloc (Nat.le_refl _) _
theorem litO (w : World) (r f e : Int) : OwnO (w.alloc (.cells #[.int .i64 r, .int .i64 f, .int .i64 e] 41)) w.heap.size (.slice (some ⟨w.heap.size, 0, none⟩) 1 1) [(r, f, e)] :=
  Own.lit w _ _ _ [(r, f, e)] 1 rfl encO_len rfl (Nat.le_refl _) (by simp [maxLen])
theorem litS2 (w : World) (f e f' e' : Int) : OwnS (w.alloc (.cells #[.int .i64 f, .int .i64 e, .int .i64 f', .int .i64 e'] 47)) w.heap.size (.slice (some ⟨w.heap.size, 0, none⟩) 2 2) [(f, e), (f', e')] :=
  Own.lit w _ _ _ [(f, e), (f', e')] 2 rfl encS_len rfl (Nat.le_refl _) (by simp [maxLen])
theorem litW1 (w : World) (f e : Int) : OwnW (w.alloc (.cells #[.int .i64 f, .int .i64 e] 50)) w.heap.size (.slice (some ⟨w.heap.size, 0, none⟩) 1 1) [(f, e)] :=
  Own.lit w _ _ _ [(f, e)] 1 rfl encS_len rfl (Nat.le_refl _) (by simp [maxLen])

set_option maxHeartbeats 4000000 in
theorem walkHeadwayExamples (w : World) : Calls Try.prog 7 #[] w fun e w' => e = .returned (.bool true) ∧ Below w.heap.size w w' := by
  have e1 : leastL [(1, 0, 5)] [(1, -2, 3)] = (7, true) := by decide
  have e2 : forbErr 20 [(1, 0, 5)] [(1, -2, 3)] = 0 := by decide
  have e3 : forbL 20 [(1, 0, 5)] [(1, -2, 3)] = [(0, 7), (18, 20)] := by decide
  have e4 : winErr 20 [(1, 0, 5)] [(1, -2, 3)] = 0 := by decide
  have e5 : winR 20 [(1, 0, 5)] [(1, -2, 3)] = [(27, 37)] := by decide
  go_enter Try.func7, Try.ntmps7
  have qa := litO w 1 0 5
  have hb1 := belA w (.cells #[.int .i64 1, .int .i64 0, .int .i64 5] 41)
  have z1 := hb1.size
  have hc1 : Below w.heap.size w (w.alloc (.cells #[.int .i64 1, .int .i64 0, .int .i64 5] 41)) := Below.trans (Below.refl w.heap.size w) (hb1.mono (Below.size (Below.refl w.heap.size w)))
  have qb := litO (w.alloc (.cells #[.int .i64 1, .int .i64 0, .int .i64 5] 41)) 1 (-2) 3
  rw [show (w.alloc (.cells #[.int .i64 1, .int .i64 0, .int .i64 5] 41)).heap.size = w.heap.size + 1 by simp] at qb
  have hb2 := belA (w.alloc (.cells #[.int .i64 1, .int .i64 0, .int .i64 5] 41)) (.cells #[.int .i64 1, .int .i64 (-2), .int .i64 3] 41)
  have z2 := hb2.size
  have hc2 : Below w.heap.size w ((w.alloc (.cells #[.int .i64 1, .int .i64 0, .int .i64 5] 41)).alloc (.cells #[.int .i64 1, .int .i64 (-2), .int .i64 3] 41)) := Below.trans hc1 (hb2.mono (Below.size hc1))
  replace qa := qa.below' hb2
  have ha := qa.lst encO_len
  have hb := qb.lst encO_len
  clear qa qb
  have hs := least_any _ _ 1 1 [(1, 0, 5)] [(1, -2, 3)] ((w.alloc (.cells #[.int .i64 1, .int .i64 0, .int .i64 5] 41)).alloc (.cells #[.int .i64 1, .int .i64 (-2), .int .i64 3] 41)) ha hb (by simp) (by omega) (by simp) (by omega)
  rw [e1] at hs
  go_wp2_with fail
  refine (hs).mono ?_
  rintro e w3 ⟨rfl, hb3⟩
  have z3 := hb3.size
  have hc3 : Below w.heap.size w w3 := Below.trans hc2 (hb3.mono (Below.size hc2))
  replace ha := ha.belowMore hb3 z3
  replace hb := hb.belowMore hb3 z3
  clear hs e1
  have hs := forbidden_any 20 _ _ 1 1 [(1, 0, 5)] [(1, -2, 3)] w3 ha hb (by simp) (by omega) (by simp) (by omega)
  rw [e2, e3] at hs
  go_wp2_with fail
  refine (hs).mono ?_
  rintro e w4 ⟨vf, rfl, hof, hb4⟩
  have z4 := hb4.size
  have hc4 : Below w.heap.size w w4 := Below.trans hc3 (hb4.mono (Below.size hc3))
  replace ha := ha.belowMore hb4 z4
  replace hb := hb.belowMore hb4 z4
  clear hs e2 e3
  have hs := windows_any 20 _ _ 1 1 [(1, 0, 5)] [(1, -2, 3)] w4 ha hb (by simp) (by omega) (by simp) (by omega)
  rw [e4, e5] at hs
  go_wp2_with fail
  refine (hs).mono ?_
  rintro e w5 ⟨vw, rfl, how, hb5⟩
  have z5 := hb5.size
  have hc5 : Below w.heap.size w w5 := Below.trans hc4 (hb5.mono (Below.size hc4))
  replace ha := ha.belowMore hb5 z5
  replace hb := hb.belowMore hb5 z5
  replace hof := hof.below' hb5
  clear hs e4 e5
  clear ha hb
  have q := litS2 w5 0 7 18 20
  have hb6 := belA w5 (.cells #[.int .i64 0, .int .i64 7, .int .i64 18, .int .i64 20] 47)
  have z6 := hb6.size
  have hc6 : Below w.heap.size w (w5.alloc (.cells #[.int .i64 0, .int .i64 7, .int .i64 18, .int .i64 20] 47)) := Below.trans hc5 (hb6.mono (Below.size hc5))
  replace hof := hof.below' hb6
  replace how := how.below' hb6
  have hs := same_own vf _ [(0, 7), (18, 20)] [(0, 7), (18, 20)] (w5.alloc (.cells #[.int .i64 0, .int .i64 7, .int .i64 18, .int .i64 20] 47)) _ _ hof q
  rw [show decide (([(0, 7), (18, 20)] : List Sp) = [(0, 7), (18, 20)]) = true by simp] at hs
  go_wp2_with fail
  refine (hs).mono ?_
  rintro e w7 ⟨rfl, hb7⟩
  have z7 := hb7.size
  have hc7 : Below w.heap.size w w7 := Below.trans hc6 (hb7.mono (Below.size hc6))
  replace hof := hof.below' hb7
  replace how := how.below' hb7
  clear hs q
  have q := litW1 w7 27 37
  have hb8 := belA w7 (.cells #[.int .i64 27, .int .i64 37] 50)
  have z8 := hb8.size
  have hc8 : Below w.heap.size w (w7.alloc (.cells #[.int .i64 27, .int .i64 37] 50)) := Below.trans hc7 (hb8.mono (Below.size hc7))
  replace hof := hof.below' hb8
  replace how := how.below' hb8
  have hs := sameW_own vw _ [(27, 37)] [(27, 37)] (w7.alloc (.cells #[.int .i64 27, .int .i64 37] 50)) _ _ how q
  rw [show decide (([(27, 37)] : List Sp) = [(27, 37)]) = true by simp] at hs
  go_wp2_with fail
  refine (hs).mono ?_
  rintro e w9 ⟨rfl, hb9⟩
  have z9 := hb9.size
  have hc9 : Below w.heap.size w w9 := Below.trans hc8 (hb9.mono (Below.size hc8))
  replace hof := hof.below' hb9
  replace how := how.below' hb9
  clear hs q
  go_wp2_with fail
  go_ret
  exact ⟨rfl, hc9⟩

end Go.Proofs.Ytdijhhfmicafjaa
