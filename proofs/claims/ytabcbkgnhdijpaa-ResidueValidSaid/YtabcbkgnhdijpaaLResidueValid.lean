/-
  The walk of ResidueValid: it returns true for every integer and all lists.
-/
import Derived.Test.YtabcbkgnhdijpaaAwake
import Derived.Test.YtabcbkgnhdijpaaSet
set_option linter.unusedVariables false
set_option linter.unusedSimpArgs false
namespace Go.Proofs.Ytabcbkgnhdijpaa
open Go.RowKit RP

set_option maxHeartbeats 2000000 in
theorem walkResidueValid (t : Int) (A1 : Option Addr) (c1 : Nat) (s : List Sp) (A2 : Option Addr) (c2 : Nat) (l : List Int) (w : World) (ht : R64 t) (hs : ArgS w A1 s) (hl : ArgI w A2 l) :
    Calls Try.prog 4 #[.int .i64 t, .slice A1 s.length c1, .slice A2 l.length c2] w fun e w' => e = .returned (.bool true) ∧ Below w.heap.size w w' := by
  obtain ⟨t1, t2⟩ := ht
  have hp := perI_range t
  have hper := fun W => period_any t W t1 t2
  generalize perI t = p at *
  obtain ⟨hp1, hp2⟩ := hp
  obtain ⟨T, rfl⟩ := Int.eq_ofNat_of_zero_le (show 0 ≤ p by omega)
  go_enter Try.func4, Try.ntmps4
  go_wp2_with fail
  refine (hper _).mono ?_
  rintro e w' ⟨rfl, rfl⟩
  go_wp2_with fail
  refine (awake2_any _).mono ?_
  rintro e w1 ⟨rfl, hb1⟩
  have z1 := hb1.size
  go_wp2_with fail
  refine (valid_any t A1 c1 s w1 (hs.lst.belowMore hb1 z1) hs.len).mono ?_
  rintro e w2 ⟨rfl, hb2⟩
  have z2 := hb2.size
  have hb2' := hb1.trans (hb2.mono z1)
  go_wp2_with fail
  refine (validSpans_any t A1 c1 s w2 (hs.lst.belowMore hb2' (by omega)) hs.len).mono ?_
  rintro e w3 ⟨rfl, hb3⟩
  have z3 := hb3.size
  have hb3' := hb2'.trans (hb3.mono (by omega))
  generalize validL t s = V1
  have d1 : (V1 == V1) = true := by simp
  go_wp2_with fail
  refine (set_any T A2 c2 l w3 ⟨hl.lst.belowMore hb3' (by omega), hl.len, hl.rng⟩ (by omega) (by omega)).mono ?_
  rintro e w4 ⟨v, q, rfl, ho, hv, hb4⟩
  have z4 := hb4.size
  have hb4' := hb3'.trans (hb4.mono (by omega))
  obtain ⟨A3, c3, rfl⟩ := ho.form
  have m := ho.maxLen
  simp only [maxLen] at m
  have hval := valid_any T A3 c3 q w4 (ho.lst encS_len) (by omega)
  have e1 : validL T q = true := by simp [validL, inRange, hv]; omega
  rw [e1] at hval
  clear e1 hv
  go_wp2_with fail
  refine hval.mono ?_
  rintro e w5 ⟨rfl, hb5⟩
  have z5 := hb5.size
  have hb5' := hb4'.trans (hb5.mono (by omega))
  go_wp2_with fail
  refine (valid_any T A1 c1 s w5 (hs.lst.belowMore hb5' (by omega)) hs.len).mono ?_
  rintro e w6 ⟨rfl, hb6⟩
  have z6 := hb6.size
  have hb6' := hb5'.trans (hb6.mono (by omega))
  go_wp2_with fail
  refine (validSpans_any T A1 c1 s w6 (hs.lst.belowMore hb6' (by omega)) hs.len).mono ?_
  rintro e w7 ⟨rfl, hb7⟩
  have hb7' := hb6'.trans (hb7.mono (by omega))
  generalize validL T s = V2
  have d2 : (V2 == V2) = true := by simp
  go_wp2_with fail
  go_ret
  exact ⟨rfl, hb7'⟩

end Go.Proofs.Ytabcbkgnhdijpaa
