/-
  Walk of DivertPlan.
-/
import Derived.Test.YtlillkfelfoafaaDivPl
set_option linter.unusedVariables false
set_option linter.unusedSimpArgs false
namespace Go.Proofs.Ytlillkfelfoafaa
open Go.RowKit Go.Shelf RP

set_option maxRecDepth 100000 in
set_option maxHeartbeats 8000000 in
theorem walkDivertPlan (A1 : Option Addr) (c1 : Nat) (l1 : List Int) (A2 : Option Addr) (c2 : Nat) (l2 : List Int) (A3 : Option Addr) (c3 : Nat) (l3 : List Int) (most budget : Int) (w : World)
    (h1 : ArgI w A1 c1 l1) (h2 : ArgI w A2 c2 l2) (h3 : ArgI w A3 c3 l3) (hx : R64 most) (hy : R64 budget) :
    Calls Try.prog 6 #[.slice A1 l1.length c1, .slice A2 l2.length c2, .slice A3 l3.length c3, .int .i64 most, .int .i64 budget] w fun e w' => e = .returned (.bool true) ∧ Below w.heap.size w w' := by
  have s0 := pickI_range most 60 (by omega)
  have t0 := pickI_range budget 300 (by omega)
  have hps := fun W => pick_any most 60 W (by omega) (by omega)
  have hpt := fun W => pick_any budget 300 W (by omega) (by omega)
  generalize pickI most 60 = mo at *
  generalize pickI budget 300 = bu at *
  obtain ⟨bb, hbb⟩ : ∃ z, z = 1 + bu := ⟨_, rfl⟩
  go_enter Try.func6, Try.ntmps6
  go_wp2_with fail
  refine (jobs_any A1 c1 l1 w h1).mono ?_
  rintro e w1 ⟨JA, jc, L, rfl, hown, hjo, hmj, hb1⟩
  go_wp2_with fail
  refine (closures_any A2 c2 l2 w1 (h2.below hb1)).mono ?_
  rintro e w2 ⟨v2, cl, rfl, hcl, hmc, hb2⟩
  obtain ⟨CA, cc, rfl⟩ := hcl.form
  have hb12 := hb1.trans (hb2.mono hb1.size)
  go_wp2_with fail
  refine (oneways_any A3 c3 l3 w2 (h3.below hb12)).mono ?_
  rintro e w3 ⟨v3, ow, rfl, how, hmw, hb3⟩
  obtain ⟨WA, wc, rfl⟩ := how.form
  have HM := Lib.hid (mds_of hown hjo hmj hb1 hcl hmc hb2 how hmw hb3)
  clear hown hjo hmj hb1 hcl hmc hb2 how hmw hb3 hb12 h1 h2 h3
  go_upto_region 3 with (go_at_call 23; first | (with_reducible refine (hps _).mono ?_; rintro _ _ ⟨rfl, rfl⟩) | (with_reducible refine (hpt _).mono ?_; rintro _ _ ⟨rfl, rfl⟩))
  rw [← hbb]
  clear hbb
  go_wp2_with fail
  refine (HM.out.plan jc cc wc mo bb).mono ?_
  rintro e w4 ⟨ch, pn, err, KA, kc, rfl, hpi, hko, hb4⟩
  have HM4 := Lib.hid (HM.out.more hb4)
  have HK4 := Lib.hid (Own.lst encK_len hko)
  have HP4 := Lib.hid hpi
  clear hpi hko hb4
  go_wp2_with fail
  refine (HM4.out.rplan jc cc wc mo bb).mono ?_
  rintro e w5 ⟨ch', pn', err', KB, kd, rfl, hpi, hko, hb5⟩
  obtain ⟨rfl, rfl, rfl⟩ := hpi.unique HP4.out
  have HM5 := Lib.hid (HM4.out.more hb5)
  have HKA := Lib.hid (HK4.out.belowMore hb5 hb5.size)
  have HKB := Lib.hid (Own.lst encK_len hko)
  have hml : ch'.length ≤ 9223372036854775807 := by have := hko.maxLen; unfold maxLen at this; omega
  clear hpi hko hb5
  go_wp2_with fail
  refine (awake26_any w5).mono ?_
  rintro e w6 ⟨rfl, hb6⟩
  have hsm : Calls Try.prog 27 #[.slice KA ch'.length kc, .slice KB ch'.length kd] w6 fun e w' => e = .returned (.bool true) ∧ Below w6.heap.size w6 w' := (sameK_any KA KB kc kd ch' ch' w6 (HKA.out.belowMore hb6 hb6.size) (HKB.out.belowMore hb6 hb6.size) hml hml).mono fun _ _ ⟨h1, h2⟩ => ⟨by rw [h1, decide_eq_true rfl], h2⟩
  have HB6 := Lib.hid (HM5.out.bel.trans (hb6.mono HM5.out.bel.size))
  clear hb6
  go_wp2_with fail
  refine hsm.mono ?_
  rintro e w7 ⟨rfl, hb7⟩
  have HB7 := Lib.hid (HB6.out.trans (hb7.mono HB6.out.size))
  clear hb7
  go_wp2_with fail
  go_ret
  exact ⟨ret_bool (by simp), HB7.out⟩
end Go.Proofs.Ytlillkfelfoafaa
