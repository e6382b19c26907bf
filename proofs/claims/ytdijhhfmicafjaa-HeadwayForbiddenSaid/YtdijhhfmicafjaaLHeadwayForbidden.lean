/-
  The walk of HeadwayForbidden: it returns true.
-/
import Derived.Test.YtdijhhfmicafjaaHeadP
import Derived.Test.YtdijhhfmicafjaaQ
set_option linter.unusedVariables false
set_option linter.unusedSimpArgs false
namespace Go.Proofs.Ytdijhhfmicafjaa
open Go.RowKit RP

theorem mul_near {k T B : Int} (h1 : 1 ≤ T) (h2 : T ≤ 90) (h3 : -B ≤ k) (h4 : k ≤ B) : -(90 * B) ≤ k * T ∧ k * T ≤ 90 * B := by
  have hB : 0 ≤ B := by omega
  have a1 : B * T ≤ B * 90 := Int.mul_le_mul_of_nonneg_left h2 hB
  have a2 : k * T ≤ B * T := Int.mul_le_mul_of_nonneg_right h4 (by omega)
  have a3 : -B * T ≤ k * T := Int.mul_le_mul_of_nonneg_right h3 (by omega)
  rw [Int.neg_mul] at a3
  omega

theorem tdiv_neg200 (T : Int) (h : 1 ≤ T) : (-200 : Int).tdiv T = -(200 / T) := by
  rw [Int.neg_tdiv, Int.tdiv_eq_ediv_of_nonneg (by omega)]

set_option maxHeartbeats 4000000 in
set_option maxRecDepth 100000 in
theorem walkHeadwayForbidden (t : Int) (A1 : Option Addr) (c1 : Nat) (l : List Int) (A2 : Option Addr) (c2 : Nat) (m : List Int) (d : Int) (w : World) (ht : R64 t) (hl : ArgI w A1 c1 l) (hm : ArgI w A2 c2 m) (hd : R64 d) :
    Calls Try.prog 5 #[.int .i64 t, .slice A1 l.length c1, .slice A2 m.length c2, .int .i64 d] w fun e w' => e = .returned (.bool true) ∧ Below w.heap.size w w' := by
  have hp := pickI_range t 90 (by omega)
  have hpick := fun W => pick_any t 90 W (by omega) (by omega)
  generalize pickI t 90 = p at *
  obtain ⟨p1, p2⟩ := hp
  obtain ⟨T, hT⟩ : ∃ T : Nat, 1 + p = (T : Int) := ⟨(1 + p).toNat, by omega⟩
  have t1 : 1 ≤ T := by omega
  have t2 : T ≤ 90 := by omega
  have hq1 : 0 ≤ 200 / (T : Int) := Int.ediv_nonneg (by omega) (by omega)
  have hq2 : 200 / (T : Int) ≤ 200 := Int.ediv_le_self _ (by omega)
  have H14 : wrap64 (wrap64 (-Int.tdiv 200 T) - 1) = -(200 / (T : Int)) - 1 := by
    rw [Int.tdiv_eq_ediv_of_nonneg (by omega), IntWalk.wrap64_in (-(200 / (T : Int))) ⟨by omega, by omega⟩, IntWalk.wrap64_in _ ⟨by omega, by omega⟩]
  replace H14 := Lib.hid H14
  go_enter Try.func5, Try.ntmps5
  go_wp2_with fail
  refine (hpick _).mono ?_
  rintro e w' ⟨rfl, rfl⟩
  clear hpick
  go_wp2_with fail
  refine (occupations_any A1 c1 l w hl).mono ?_
  rintro e w1 ⟨va, a, rfl, hoa, hma, hb1⟩
  have z1 := hb1.size
  have hc1 : Below w.heap.size w w1 := Below.trans (Below.refl w.heap.size w) (hb1.mono (Below.size (Below.refl w.heap.size w)))
  replace hm := hm.below hb1
  go_wp2_with fail
  refine (occupations_any A2 c2 m w1 hm).mono ?_
  rintro e w2 ⟨vb, b, rfl, hob, hmb, hb2⟩
  have z2 := hb2.size
  have hc2 : Below w.heap.size w w2 := Below.trans hc1 (hb2.mono (Below.size hc1))
  replace hoa := hoa.below' hb2
  obtain ⟨A', c', rfl, ha, hac, hc'⟩ := hoa.cut encO_len
  obtain ⟨B', d', rfl, hb, hbc, hd'⟩ := hob.cut encO_len
  have na := Lib.hid (NearO.of_valid hma.1)
  have nb := Lib.hid (NearO.of_valid hmb.1)
  have HE := Lib.hid (forbErr_ok (T := T) t1 (by omega) hma.1 hmb.1)
  have HL := Lib.hid (forbL_ok (T := T) t1 (by omega) hma.1 hmb.1)
  have HA := Lib.hid hma
  have HB := Lib.hid hmb
  clear hma hmb hm
  clear hoa hob
  go_wp2_with fail
  clear hT
  go_wp2_with fail
  refine (forbidden_any T A' B' c' d' a b w2 ha hb hac hc' hbc hd').mono ?_
  rintro e w3 ⟨vf, rfl, hof, hb3⟩
  have z3 := hb3.size
  have hc3 : Below w.heap.size w w3 := Below.trans hc2 (hb3.mono (Below.size hc2))
  replace ha := ha.belowMore hb3 z3
  replace hb := hb.belowMore hb3 z3
  rw [HE.out]
  rw [HL.out] at hof
  have hdp := pickI_range d T (by omega)
  have hpick := fun W => pick_any d T W (by omega) (by omega)
  generalize pickI d T = D at *
  obtain ⟨d1, d2⟩ := hdp
  obtain ⟨D, rfl⟩ := Int.eq_ofNat_of_zero_le d1
  go_wp2_with fail
  refine (hpick _).mono ?_
  rintro e w' ⟨rfl, rfl⟩
  clear hpick
  go_wp2_with fail
  rw [H14.out]
  clear H14
  go_loopg [13, 14] (2 * (200 / (T : Int)) + 3).toNat (fun g s13 s14 wr => ∃ k : Nat, (k : Int) ≤ 2 * (200 / (T : Int)) + 3 ∧ g = (2 * (200 / (T : Int)) + 3).toNat - k ∧ s14 = .int .i64 (-(200 / (T : Int)) - 1 + k) ∧ s13 = .bool (wantN a b T D (-(200 / (T : Int)) - 1) k) ∧ Below w3.heap.size w3 wr)
  case atStart => exact ⟨0, by omega, rfl, by simp, rfl, Below.refl _ _⟩
  case round =>
    obtain ⟨k, hk, hg, rfl, rfl, hbw⟩ := hrel
    have hz := hbw.size
    by_cases hle : (k : Int) ≤ 2 * (200 / (T : Int)) + 2
    · have HS := Lib.hid (show wantN a b T D (-(200 / (T : Int)) - 1) (k + 1) = (wantN a b T D (-(200 / (T : Int)) - 1) k || togB a b (D + (-(200 / (T : Int)) - 1 + k) * T)) from rfl)
      have hmb := mul_near (k := -(200 / (T : Int)) - 1 + k) (T := T) (B := 1000) (by omega) (by omega) (by omega) (by omega)
      cases hf : wantN a b T D (-(200 / (T : Int)) - 1) k with
      | true =>
        rw [hf] at HS
        go_wp2_with fail
        go_roundg ((2 * (200 / (T : Int)) + 3).toNat - (k + 1))
        case measure => omega
        case rel => exact ⟨k + 1, by omega, rfl, by go_num, by rw [HS.out]; rfl, hbw⟩
      | false =>
        rw [hf] at HS
        have htg := together_any A' B' c' d' a b (D + (-(200 / (T : Int)) - 1 + k) * T) wr (ha.belowMore hbw hz) (hb.belowMore hbw hz) (by omega) (by omega) na.out nb.out (by omega) (by omega)
        generalize togB a b (D + (-(200 / (T : Int)) - 1 + k) * T) = tg at *
        cases tg
        all_goals
          go_wp2_with (go_at_call 15; refine htg.mono ?_; rintro e w4 ⟨rfl, hb4⟩)
          go_roundg ((2 * (200 / (T : Int)) + 3).toNat - (k + 1))
          case measure => omega
          case rel => exact ⟨k + 1, by omega, rfl, by go_num, by rw [HS.out]; rfl, hbw.trans (hb4.mono hz)⟩
    · have HS := Lib.hid (forb_want (x := D) HA.out HB.out t1 (by omega) rfl (n := k) (by omega))
      have hc0 := hc3.trans (hbw.mono hc3.size)
      have hof' := hof.below' hbw
      generalize wantN a b T D (-(200 / (T : Int)) - 1) k = fr at *
      obtain ⟨Af, cf, rfl⟩ := hof'.form
      go_wp2_with fail
      refine (awake9_any wr).mono ?_
      rintro e w1 ⟨rfl, hb1⟩
      have z1 := hb1.size
      have hc1 : Below wr.heap.size wr w1 := Below.trans (Below.refl wr.heap.size wr) (hb1.mono (Below.size (Below.refl wr.heap.size wr)))
      replace hof' := hof'.below' hb1
      have mf := hof'.maxLen
      simp only [maxLen] at mf
      have hh := refHas_any T Af cf _ D w1 (hof'.lst encS_len) (by omega) (by omega) (by omega)
      rw [has_runs t1 (by omega), show ((D : Int) % (T : Int)).toNat = D by rw [emod_toNat (by omega), Int.toNat_natCast, Nat.mod_eq_of_lt (by omega)], HS.out] at hh
      cases fr
      all_goals
        go_wp2_with (go_at_call 19; refine hh.mono ?_; rintro e w5 ⟨rfl, hb5⟩)
        go_ret
        exact ⟨rfl, (hc0.trans (hb1.mono (by have := hc0.size; omega))).trans (hb5.mono (by have := hc0.size; omega))⟩

end Go.Proofs.Ytdijhhfmicafjaa
