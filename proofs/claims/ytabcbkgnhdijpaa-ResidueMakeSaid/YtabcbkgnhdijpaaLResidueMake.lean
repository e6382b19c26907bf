/-
  The walk of ResidueMake: it returns true for all integers t, from, n.
-/
import Derived.Test.YtabcbkgnhdijpaaAwake
import Derived.Test.YtabcbkgnhdijpaaLift
set_option linter.unusedVariables false
set_option linter.unusedSimpArgs false
namespace Go.Proofs.Ytabcbkgnhdijpaa
open Go.RowKit RP

set_option maxHeartbeats 2000000 in
theorem walkResidueMake (t f n : Int) (w : World) (ht : R64 t) (hf : R64 f) (hn : R64 n) :
    Calls Try.prog 3 #[.int .i64 t, .int .i64 f, .int .i64 n] w fun e w' => e = .returned (.bool true) ∧ Below w.heap.size w w' := by
  obtain ⟨t1, t2⟩ := ht
  obtain ⟨f1, f2⟩ := hf
  obtain ⟨n1, n2⟩ := hn
  have hp := perI_range t
  have hk := pickI_range n (2 * perI t) (by omega)
  have hper := fun W => period_any t W t1 t2
  generalize perI t = p at *
  obtain ⟨hp1, hp2⟩ := hp
  have hpick := fun W => pick_any n (2 * p) W (by omega) (by omega)
  generalize pickI n (2 * p) = q at *
  obtain ⟨hk1, hk2⟩ := hk
  have hm1 := fun W => make_any t f n W t1 t2 n2
  have hm2 := fun W => refMake_any t f n W t1 t2 n2
  have hm3 := fun W => make_any p f q W (by omega) (by omega) (by omega)
  have hm4 := fun W => refMake_any p f q W (by omega) (by omega) (by omega)
  generalize makeL t f n = L1 at *
  generalize makeL p f q = L2 at *
  generalize rangeErr t = E1 at *
  generalize rangeErr p = E2 at *
  go_enter Try.func3, Try.ntmps3
  go_wp2_with fail
  refine (hm1 _).mono ?_
  rintro e w1 ⟨v1, rfl, ho1, hb1⟩
  go_wp2_with fail
  refine (hm2 _).mono ?_
  rintro e w2 ⟨v2, rfl, ho2, hb2⟩
  go_wp2_with fail
  refine (hper _).mono ?_
  rintro e w' ⟨rfl, rfl⟩
  go_wp2_with fail
  refine (hpick _).mono ?_
  rintro e w' ⟨rfl, rfl⟩
  go_wp2_with fail
  refine (hm3 _).mono ?_
  rintro e w3 ⟨v3, rfl, ho3, hb3⟩
  go_wp2_with fail
  refine (hpick _).mono ?_
  rintro e w' ⟨rfl, rfl⟩
  go_wp2_with fail
  refine (hm4 _).mono ?_
  rintro e w4 ⟨v4, rfl, ho4, hb4⟩
  go_wp2_with fail
  refine (awake2_any _).mono ?_
  rintro e w5 ⟨rfl, hb5⟩
  go_wp2_with fail
  refine (same_own v1 v2 L1 L1 w5 _ _ ((((ho1.below' hb2).below' hb3).below' hb4).below' hb5) (((ho2.below' hb3).below' hb4).below' hb5)).mono ?_
  rintro e w6 ⟨rfl, hb6⟩
  have d1 : decide (L1 = L1) = true := by simp
  rw [d1]
  go_wp2_with fail
  refine (same_own v3 v4 L2 L2 w6 _ _ (((ho3.below' hb4).below' hb5).below' hb6) ((ho4.below' hb5).below' hb6)).mono ?_
  rintro e w7 ⟨rfl, hb7⟩
  have d2 : decide (L2 = L2) = true := by simp
  rw [d2]
  go_wp2_with fail
  go_ret
  have s1 := hb1.size
  have s2 := hb2.size
  have s3 := hb3.size
  have s4 := hb4.size
  have s5 := hb5.size
  have s6 := hb6.size
  exact ⟨rfl, hb1.trans ((hb2.mono (by omega)).trans ((hb3.mono (by omega)).trans ((hb4.mono (by omega)).trans ((hb5.mono (by omega)).trans ((hb6.mono (by omega)).trans (hb7.mono (by omega)))))))⟩

end Go.Proofs.Ytabcbkgnhdijpaa
