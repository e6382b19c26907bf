/-
  The walk of HeadwayExchange: it returns true.
-/
import Derived.Test.YtdijhhfmicafjaaHeadP
import Derived.Test.YtdijhhfmicafjaaQ
set_option linter.unusedVariables false
set_option linter.unusedSimpArgs false
namespace Go.Proofs.Ytdijhhfmicafjaa
open Go.RowKit RP

set_option maxHeartbeats 4000000 in
set_option maxRecDepth 100000 in
theorem walkHeadwayExchange (t : Int) (A1 : Option Addr) (c1 : Nat) (l : List Int) (A2 : Option Addr) (c2 : Nat) (m : List Int) (d : Int) (w : World) (ht : R64 t) (hl : ArgI w A1 c1 l) (hm : ArgI w A2 c2 m) (hd : R64 d) :
    Calls Try.prog 6 #[.int .i64 t, .slice A1 l.length c1, .slice A2 m.length c2, .int .i64 d] w fun e w' => e = .returned (.bool true) ∧ Below w.heap.size w w' := by
  have hp := pickI_range t 90 (by omega)
  have hpick := fun W => pick_any t 90 W (by omega) (by omega)
  generalize pickI t 90 = p at *
  obtain ⟨p1, p2⟩ := hp
  obtain ⟨T, hT⟩ : ∃ T : Nat, 1 + p = (T : Int) := ⟨(1 + p).toNat, by omega⟩
  have t1 : 1 ≤ T := by omega
  have t2 : T ≤ 90 := by omega
  go_enter Try.func6, Try.ntmps6
  go_wp2_with fail
  refine (hpick _).mono ?_
  rintro e w' ⟨rfl, rfl⟩
  clear hpick
  go_wp2_with fail
  refine (occupations_any A1 c1 l w hl).mono ?_
  rintro e w1 ⟨va, a, rfl, hoa, hma, hb1⟩
  have z1 := hb1.size
  have hc1 : Below w.heap.size w w1 := Below.trans (Below.refl w.heap.size w) (hb1.mono (Below.size (Below.refl w.heap.size w)))
  replace hm := hm.below hb1
  go_wp2_with fail
  refine (occupations_any A2 c2 m w1 hm).mono ?_
  rintro e w2 ⟨vb, b, rfl, hob, hmb, hb2⟩
  have z2 := hb2.size
  have hc2 : Below w.heap.size w w2 := Below.trans hc1 (hb2.mono (Below.size hc1))
  replace hoa := hoa.below' hb2
  obtain ⟨A', c', rfl, ha, hac, hc'⟩ := hoa.cut encO_len
  obtain ⟨B', d', rfl, hb, hbc, hd'⟩ := hob.cut encO_len
  have HE := Lib.hid (forbErr_ok (T := T) t1 (by omega) hma.1 hmb.1)
  have HL := Lib.hid (forbL_ok (T := T) t1 (by omega) hma.1 hmb.1)
  have HE' := Lib.hid (forbErr_ok (T := T) t1 (by omega) hmb.1 hma.1)
  have HL' := Lib.hid (forbL_ok (T := T) t1 (by omega) hmb.1 hma.1)
  have HC := Lib.hid (fun x => forb_comm (T := T) (x := x) hma.1 hmb.1 t1)
  have HN := Lib.hid (forb_count (T := T) hma.1 hmb.1 t1)
  clear hma hmb hm
  clear hoa hob
  go_wp2_with fail
  clear hT
  go_wp2_with fail
  refine (forbidden_any T A' B' c' d' a b w2 ha hb hac hc' hbc hd').mono ?_
  rintro e w3 ⟨vf, rfl, hof, hb3⟩
  have z3 := hb3.size
  have hc3 : Below w.heap.size w w3 := Below.trans hc2 (hb3.mono (Below.size hc2))
  replace ha := ha.belowMore hb3 z3
  replace hb := hb.belowMore hb3 z3
  rw [HE.out]
  rw [HL.out] at hof
  go_wp2_with fail
  refine (forbidden_any T B' A' d' c' b a w3 hb ha hbc hd' hac hc').mono ?_
  rintro e w4 ⟨vg, rfl, hog, hb4⟩
  have z4 := hb4.size
  have hc4 : Below w.heap.size w w4 := Below.trans hc3 (hb4.mono (Below.size hc3))
  replace ha := ha.belowMore hb4 z4
  replace hb := hb.belowMore hb4 z4
  replace hof := hof.below' hb4
  rw [HE'.out]
  rw [HL'.out] at hog
  have hdp := pickI_range d T (by omega)
  have hpick := fun W => pick_any d T W (by omega) (by omega)
  generalize pickI d T = D at *
  obtain ⟨d1, d2⟩ := hdp
  go_wp2_with fail
  refine (hpick _).mono ?_
  rintro e w' ⟨rfl, rfl⟩
  clear hpick
  obtain ⟨Af, cf, rfl⟩ := hof.form
  obtain ⟨Ag, cg, rfl⟩ := hog.form
  have mf := hof.maxLen
  have mg := hog.maxLen
  simp only [maxLen] at mf mg
  go_wp2_with fail
  refine (awake9_any w4).mono ?_
  rintro e w5 ⟨rfl, hb5⟩
  have z5 := hb5.size
  have hc5 : Below w.heap.size w w5 := Below.trans hc4 (hb5.mono (Below.size hc4))
  replace hof := hof.below' hb5
  replace hog := hog.below' hb5
  have hh := refHas_any T Af cf _ D w5 (hof.lst encS_len) (by omega) (by omega) (by omega)
  rw [has_runs t1 (by omega), HC.out] at hh
  generalize hfr : forbB T (pairsO b a) (-D % T).toNat = fr at hh
  have HFR := Lib.hid hfr
  clear hfr
  have hn1 := fun W h => refCount_any T Af cf (runs (forbB T (pairsO a b)) T) W h (by omega)
  have hn2 := fun W h => refCount_any T Ag cg (runs (forbB T (pairsO b a)) T) W h (by omega)
  rw [count_runs t1 (by omega), HN.out] at hn1
  rw [count_runs t1 (by omega)] at hn2
  have HN1 := Lib.hid hn1
  have HN2 := Lib.hid hn2
  clear hn1 hn2
  generalize cntN (forbB T (pairsO b a)) T = N at *
  have dN : ((N : Int) == (N : Int)) = true := by simp
  go_wp2_with fail
  refine (hh).mono ?_
  rintro e w6 ⟨rfl, hb6⟩
  have z6 := hb6.size
  have hc6 : Below w.heap.size w w6 := Below.trans hc5 (hb6.mono (Below.size hc5))
  replace hof := hof.below' hb6
  replace hog := hog.below' hb6
  clear hh
  have hh := refHas_any T Ag cg _ (-D) w6 (hog.lst encS_len) (by omega) (by omega) (by omega)
  rw [has_runs t1 (by omega), HFR.out] at hh
  cases fr
  · go_wp2_with fail
    refine (hh).mono ?_
    rintro e w7 ⟨rfl, hb7⟩
    have z7 := hb7.size
    have hc7 : Below w.heap.size w w7 := Below.trans hc6 (hb7.mono (Below.size hc6))
    replace hof := hof.below' hb7
    replace hog := hog.below' hb7
    clear hh
    go_wp2_with fail
    refine (HN1.out w7 (hof.lst encS_len)).mono ?_
    rintro e w8 ⟨rfl, hb8⟩
    have z8 := hb8.size
    have hc8 : Below w.heap.size w w8 := Below.trans hc7 (hb8.mono (Below.size hc7))
    replace hof := hof.below' hb8
    replace hog := hog.below' hb8
    go_wp2_with fail
    refine (HN2.out w8 (hog.lst encS_len)).mono ?_
    rintro e w9 ⟨rfl, hb9⟩
    have z9 := hb9.size
    have hc9 : Below w.heap.size w w9 := Below.trans hc8 (hb9.mono (Below.size hc8))
    replace hof := hof.below' hb9
    replace hog := hog.below' hb9
    go_wp2_with fail
    go_ret
    exact ⟨rfl, hc9⟩
  · go_wp2_with fail
    refine (hh).mono ?_
    rintro e w7 ⟨rfl, hb7⟩
    have z7 := hb7.size
    have hc7 : Below w.heap.size w w7 := Below.trans hc6 (hb7.mono (Below.size hc6))
    replace hof := hof.below' hb7
    replace hog := hog.below' hb7
    clear hh
    go_wp2_with fail
    refine (HN1.out w7 (hof.lst encS_len)).mono ?_
    rintro e w8 ⟨rfl, hb8⟩
    have z8 := hb8.size
    have hc8 : Below w.heap.size w w8 := Below.trans hc7 (hb8.mono (Below.size hc7))
    replace hof := hof.below' hb8
    replace hog := hog.below' hb8
    go_wp2_with fail
    refine (HN2.out w8 (hog.lst encS_len)).mono ?_
    rintro e w9 ⟨rfl, hb9⟩
    have z9 := hb9.size
    have hc9 : Below w.heap.size w w9 := Below.trans hc8 (hb9.mono (Below.size hc8))
    replace hof := hof.below' hb9
    replace hog := hog.below' hb9
    go_wp2_with fail
    go_ret
    exact ⟨rfl, hc9⟩

end Go.Proofs.Ytdijhhfmicafjaa
