/-
  Contract of agrees of chapter 9: it returns true.
-/
import Derived.Test.YtdijhhfmicafjaaRef9E
import Derived.Test.YtdijhhfmicafjaaSameW
import Derived.Test.YtdijhhfmicafjaaAwake
set_option linter.unusedVariables false
set_option linter.unusedSimpArgs false
namespace Go.Proofs.Ytdijhhfmicafjaa
open Go.RowKit RP

set_option maxHeartbeats 8000000 in
set_option maxRecDepth 100000 in
theorem agrees9_any (t : Int) (A B : Option Addr) (c d : Nat) (a b : List Occ) (w : World) (ha : Lst encO 3 w w.heap.size A a) (hb : Lst encO 3 w w.heap.size B b) (hac : a.length ≤ c) (hcm : c ≤ 9223372036854775807) (hbc : b.length ≤ d) (hdm : d ≤ 9223372036854775807) :
    Calls Try.prog 24 #[.int .i64 t, .slice A a.length c, .slice B b.length d] w fun e w' => e = .returned (.bool true) ∧ Below w.heap.size w w' := by
  go_enter Try.func24, Try.ntmps24
  go_wp2_with fail
  refine (least_any A B c d a b w ha hb hac hcm hbc hdm).mono ?_
  rintro e w1 ⟨rfl, hb1⟩
  have z1 := hb1.size
  have hc1 : Below w.heap.size w w1 := Below.trans (Below.refl w.heap.size w) (hb1.mono (Below.size (Below.refl w.heap.size w)))
  replace ha := ha.belowMore hb1 z1
  replace hb := hb.belowMore hb1 z1
  go_wp2_with fail
  refine (refLeast_any A B c d a b w1 ha hb (by omega) (by omega)).mono ?_
  rintro e w2 ⟨rfl, hb2⟩
  have z2 := hb2.size
  have hc2 : Below w.heap.size w w2 := Below.trans hc1 (hb2.mono (Below.size hc1))
  replace ha := ha.belowMore hb2 z2
  replace hb := hb.belowMore hb2 z2
  generalize leastL a b = s
  obtain ⟨h, ok⟩ := s
  simp only
  have d1 : (h == h) = true := by simp
  have d2 : (ok == ok) = true := by simp
  go_wp2_with fail
  refine (forbidden_any t A B c d a b w2 ha hb hac hcm hbc hdm).mono ?_
  rintro e w3 ⟨vf, rfl, hof, hb3⟩
  have z3 := hb3.size
  have hc3 : Below w.heap.size w w3 := Below.trans hc2 (hb3.mono (Below.size hc2))
  replace ha := ha.belowMore hb3 z3
  replace hb := hb.belowMore hb3 z3
  go_wp2_with fail
  refine (refForbidden_any t A B c d a b w3 ha hb (by omega) (by omega)).mono ?_
  rintro e w4 ⟨vg, rfl, hog, hb4⟩
  have z4 := hb4.size
  have hc4 : Below w.heap.size w w4 := Below.trans hc3 (hb4.mono (Below.size hc3))
  replace ha := ha.belowMore hb4 z4
  replace hb := hb.belowMore hb4 z4
  replace hof := hof.below' hb4
  generalize forbErr t a b = E1
  have d3 : (E1 == E1) = true := by simp
  go_wp2_with fail
  refine (windows_any t A B c d a b w4 ha hb hac hcm hbc hdm).mono ?_
  rintro e w5 ⟨vw, rfl, how, hb5⟩
  have z5 := hb5.size
  have hc5 : Below w.heap.size w w5 := Below.trans hc4 (hb5.mono (Below.size hc4))
  replace ha := ha.belowMore hb5 z5
  replace hb := hb.belowMore hb5 z5
  replace hof := hof.below' hb5
  replace hog := hog.below' hb5
  go_wp2_with fail
  refine (refWindows_any t A B c d a b w5 ha hb (by omega) (by omega)).mono ?_
  rintro e w6 ⟨vx, rfl, hox, hb6⟩
  have z6 := hb6.size
  have hc6 : Below w.heap.size w w6 := Below.trans hc5 (hb6.mono (Below.size hc5))
  replace ha := ha.belowMore hb6 z6
  replace hb := hb.belowMore hb6 z6
  replace hof := hof.below' hb6
  replace hog := hog.below' hb6
  replace how := how.below' hb6
  generalize winErr t a b = E2
  have d4 : (E2 == E2) = true := by simp
  go_wp2_with fail
  refine (hvalid_any A c a w6 ha (by omega)).mono ?_
  rintro e w7 ⟨rfl, hb7⟩
  have z7 := hb7.size
  have hc7 : Below w.heap.size w w7 := Below.trans hc6 (hb7.mono (Below.size hc6))
  replace ha := ha.belowMore hb7 z7
  replace hb := hb.belowMore hb7 z7
  replace hof := hof.below' hb7
  replace hog := hog.below' hb7
  replace how := how.below' hb7
  replace hox := hox.below' hb7
  go_wp2_with fail
  refine (validList_any A c a w7 ha (by omega)).mono ?_
  rintro e w8 ⟨rfl, hb8⟩
  have z8 := hb8.size
  have hc8 : Below w.heap.size w w8 := Below.trans hc7 (hb8.mono (Below.size hc7))
  replace ha := ha.belowMore hb8 z8
  replace hb := hb.belowMore hb8 z8
  replace hof := hof.below' hb8
  replace hog := hog.below' hb8
  replace how := how.below' hb8
  replace hox := hox.below' hb8
  generalize validO (-1) a = V
  have d5 : (V == V) = true := by simp
  have hs := same_own vf vg (forbL t a b) (forbL t a b) w8 _ _ hof hog
  rw [show decide (forbL t a b = forbL t a b) = true by simp] at hs
  go_wp2_with fail
  refine (hs).mono ?_
  rintro e w9 ⟨rfl, hb9⟩
  have z9 := hb9.size
  have hc9 : Below w.heap.size w w9 := Below.trans hc8 (hb9.mono (Below.size hc8))
  replace ha := ha.belowMore hb9 z9
  replace hb := hb.belowMore hb9 z9
  replace hof := hof.below' hb9
  replace hog := hog.below' hb9
  replace how := how.below' hb9
  replace hox := hox.below' hb9
  clear hs
  have hs := sameW_own vw vx (winR t a b) (winR t a b) w9 _ _ how hox
  rw [show decide (winR t a b = winR t a b) = true by simp] at hs
  go_wp2_with fail
  refine (hs).mono ?_
  rintro e w10 ⟨rfl, hb10⟩
  have z10 := hb10.size
  have hc10 : Below w.heap.size w w10 := Below.trans hc9 (hb10.mono (Below.size hc9))
  replace ha := ha.belowMore hb10 z10
  replace hb := hb.belowMore hb10 z10
  replace how := how.below' hb10
  replace hox := hox.below' hb10
  clear hs
  go_wp2_with fail
  refine (alone_any t A c a w10 ha (by omega)).mono ?_
  rintro e w11 ⟨rfl, hb11⟩
  have z11 := hb11.size
  have hc11 : Below w.heap.size w w11 := Below.trans hc10 (hb11.mono (Below.size hc10))
  replace ha := ha.belowMore hb11 z11
  replace hb := hb.belowMore hb11 z11
  go_wp2_with fail
  refine (refAlone_any t A c a w11 ha (by omega)).mono ?_
  rintro e w12 ⟨rfl, hb12⟩
  have z12 := hb12.size
  have hc12 : Below w.heap.size w w12 := Below.trans hc11 (hb12.mono (Below.size hc11))
  replace ha := ha.belowMore hb12 z12
  replace hb := hb.belowMore hb12 z12
  generalize aloneL t a = Q
  have d6 : (Q == Q) = true := by simp
  go_wp2_with fail
  go_ret
  exact ⟨rfl, hc12⟩

end Go.Proofs.Ytdijhhfmicafjaa
