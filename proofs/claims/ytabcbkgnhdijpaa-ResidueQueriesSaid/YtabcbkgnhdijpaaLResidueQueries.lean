/-
  The walk of ResidueQueries: it returns true.
-/
import Derived.Test.YtabcbkgnhdijpaaAwake
import Derived.Test.YtabcbkgnhdijpaaSet
import Derived.Test.YtabcbkgnhdijpaaQ
set_option linter.unusedVariables false
set_option linter.unusedSimpArgs false
namespace Go.Proofs.Ytabcbkgnhdijpaa
open Go.RowKit RP


set_option maxHeartbeats 2000000 in
theorem walkResidueQueries (t : Int) (A1 : Option Addr) (c1 : Nat) (l : List Int) (x : Int) (A3 : Option Addr) (c3 : Nat) (s : List Sp) (raw : Bool) (w : World) (ht : R64 t) (hl : ArgI w A1 l) (hx : R64 x) (hs : ArgS w A3 s) :
    Calls Try.prog 6 #[.int .i64 t, .slice A1 l.length c1, .int .i64 x, .slice A3 s.length c3, .bool raw] w fun e w' => e = .returned (.bool true) ∧ Below w.heap.size w w' := by
  obtain ⟨t1, t2⟩ := ht
  have hp := perI_range t
  have hper := fun W => period_any t W t1 t2
  generalize perI t = p at *
  obtain ⟨hp1, hp2⟩ := hp
  obtain ⟨T, rfl⟩ := Int.eq_ofNat_of_zero_le (show 0 ≤ p by omega)
  have hset := set_any T A1 c1 l w hl (by omega) (by omega)
  cases raw with
  | false =>
    go_enter Try.func6, Try.ntmps6
    go_wp2_with fail
    refine (hper _).mono ?_
    rintro e w' ⟨rfl, rfl⟩
    go_wp2_with fail
    refine hset.mono ?_
    rintro e w1 ⟨v, q, rfl, ho, hv, hb1⟩
    clear hv
    obtain ⟨A2, c2, rfl⟩ := ho.form
    have z1 := hb1.size
    have m := ho.maxLen
    simp only [maxLen] at m
    have hq := ho.lst encS_len
    go_wp2_with fail
    refine (nextPub_any T A2 c2 q x w1 hq m (by omega) (by omega)).mono ?_
    rintro e w2 ⟨d, ok, rfl, hs1, hb2⟩
    have z2 := hb2.size
    go_wp2_with fail
    refine (refNext_any T A2 c2 q x w2 ((hq).belowMore hb2 z2) m (by omega) (by omega)).mono ?_
    rintro e w3 ⟨d', ok', rfl, hs2, hb3⟩
    have z3 := hb3.size
    obtain ⟨rfl, rfl⟩ := next_unique hs1 hs2
    clear hs1 hs2
    have hb3' := hb2.trans (hb3.mono z2)
    go_wp2_with fail
    refine (awake2_any w3).mono ?_
    rintro e w4 ⟨rfl, hb4⟩
    have z4 := hb4.size
    have hb4' := hb3'.trans (hb4.mono (by omega))
    go_wp2_with fail
    refine (hasPub_any T A2 c2 q x w4 ((hq).belowMore hb4' (by omega)) m (by omega) (by omega)).mono ?_
    rintro e w5 ⟨rfl, hb5⟩
    have z5 := hb5.size
    have hb5' := hb4'.trans (hb5.mono (by omega))
    go_wp2_with fail
    refine (refHas_any T A2 c2 q x w5 ((hq).belowMore hb5' (by omega)) m (by omega) (by omega)).mono ?_
    rintro e w6 ⟨rfl, hb6⟩
    have z6 := hb6.size
    have hb6' := hb5'.trans (hb6.mono (by omega))
    generalize hasL T q x = H1
    have d1 : (H1 == H1) = true := by simp
    go_wp2_with fail
    refine (countPub_any T A2 c2 q w6 ((hq).belowMore hb6' (by omega)) m).mono ?_
    rintro e w7 ⟨rfl, hb7⟩
    have z7 := hb7.size
    have hb7' := hb6'.trans (hb7.mono (by omega))
    go_wp2_with fail
    refine (refCount_any T A2 c2 q w7 ((hq).belowMore hb7' (by omega)) m).mono ?_
    rintro e w8 ⟨rfl, hb8⟩
    have z8 := hb8.size
    have hb8' := hb7'.trans (hb8.mono (by omega))
    generalize countL T q = H2
    have d2 : (H2 == H2) = true := by simp
    have d3 : (d == d) = true := by simp
    have d4 : (ok == ok) = true := by simp
    go_wp2_with fail
    go_ret
    exact ⟨rfl, hb1.trans (hb8'.mono (by omega))⟩
  | true =>
    go_enter Try.func6, Try.ntmps6
    go_wp2_with fail
    refine (hper _).mono ?_
    rintro e w' ⟨rfl, rfl⟩
    go_wp2_with fail
    refine hset.mono ?_
    rintro e w1 ⟨v, q, rfl, ho, hv, hb1⟩
    clear hv
    have z1 := hb1.size
    have hq := hs.lst.belowMore hb1 z1
    go_wp2_with fail
    refine (nextPub_any T A3 c3 s x w1 hq hs.len (by omega) (by omega)).mono ?_
    rintro e w2 ⟨d, ok, rfl, hs1, hb2⟩
    have z2 := hb2.size
    go_wp2_with fail
    refine (refNext_any T A3 c3 s x w2 ((hq).belowMore hb2 z2) hs.len (by omega) (by omega)).mono ?_
    rintro e w3 ⟨d', ok', rfl, hs2, hb3⟩
    have z3 := hb3.size
    obtain ⟨rfl, rfl⟩ := next_unique hs1 hs2
    clear hs1 hs2
    have hb3' := hb2.trans (hb3.mono z2)
    go_wp2_with fail
    refine (awake2_any w3).mono ?_
    rintro e w4 ⟨rfl, hb4⟩
    have z4 := hb4.size
    have hb4' := hb3'.trans (hb4.mono (by omega))
    go_wp2_with fail
    refine (hasPub_any T A3 c3 s x w4 ((hq).belowMore hb4' (by omega)) hs.len (by omega) (by omega)).mono ?_
    rintro e w5 ⟨rfl, hb5⟩
    have z5 := hb5.size
    have hb5' := hb4'.trans (hb5.mono (by omega))
    go_wp2_with fail
    refine (refHas_any T A3 c3 s x w5 ((hq).belowMore hb5' (by omega)) hs.len (by omega) (by omega)).mono ?_
    rintro e w6 ⟨rfl, hb6⟩
    have z6 := hb6.size
    have hb6' := hb5'.trans (hb6.mono (by omega))
    generalize hasL T s x = H1
    have d1 : (H1 == H1) = true := by simp
    go_wp2_with fail
    refine (countPub_any T A3 c3 s w6 ((hq).belowMore hb6' (by omega)) hs.len).mono ?_
    rintro e w7 ⟨rfl, hb7⟩
    have z7 := hb7.size
    have hb7' := hb6'.trans (hb7.mono (by omega))
    go_wp2_with fail
    refine (refCount_any T A3 c3 s w7 ((hq).belowMore hb7' (by omega)) hs.len).mono ?_
    rintro e w8 ⟨rfl, hb8⟩
    have z8 := hb8.size
    have hb8' := hb7'.trans (hb8.mono (by omega))
    generalize countL T s = H2
    have d2 : (H2 == H2) = true := by simp
    have d3 : (d == d) = true := by simp
    have d4 : (ok == ok) = true := by simp
    go_wp2_with fail
    go_ret
    exact ⟨rfl, hb1.trans (hb8'.mono (by omega))⟩

end Go.Proofs.Ytabcbkgnhdijpaa
