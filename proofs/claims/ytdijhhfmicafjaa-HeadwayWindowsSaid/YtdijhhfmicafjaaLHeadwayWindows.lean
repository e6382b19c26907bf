/-
  The walk of HeadwayWindows: it returns true.
-/
import Derived.Test.YtdijhhfmicafjaaWinQ
import Derived.Test.YtdijhhfmicafjaaRef9D
set_option linter.unusedVariables false
set_option linter.unusedSimpArgs false
namespace Go.Proofs.Ytdijhhfmicafjaa
open Go.RowKit RP

/-- What the windows of made lists are, by the count of the forbidden residues. -/
theorem win_cases {T : Nat} {a b : List Occ} (t1 : 1 ≤ T) (t2 : T ≤ 7200) (ha : validO (-1) a = true) (hb : validO (-1) b = true) :
    (countL T (forbL T a b) = T ∧ winErr T a b = 13 ∧ winR T a b = []) ∨
    (countL T (forbL T a b) ≠ T ∧ winErr T a b = 0 ∧ winR T a b = (wrapL T (runs (forbB T (pairsO a b)) T)).map (win1 T) ∧ total (runs (forbB T (pairsO a b)) T) < T) := by
  have hE := forbErr_ok t1 t2 ha hb
  have hL := forbL_ok t1 t2 ha hb
  by_cases h : countL T (forbL T a b) = T
  · have e : winErr T a b = 13 := by rw [winErr, if_pos hE, if_pos h]
    exact .inl ⟨h, e, by rw [winR, e]; simp⟩
  · have e : winErr T a b = 0 := by rw [winErr, if_pos hE, if_neg h]
    refine .inr ⟨h, e, by rw [winR, e, if_pos rfl, winL, hL]; rfl, ?_⟩
    rw [hL, count_runs t1 t2] at h
    rw [total_runs]
    have := cntN_le (forbB T (pairsO a b)) T
    omega

set_option maxHeartbeats 8000000 in
set_option maxRecDepth 100000 in
theorem walkHeadwayWindows (t : Int) (A1 : Option Addr) (c1 : Nat) (l : List Int) (A2 : Option Addr) (c2 : Nat) (m : List Int) (d : Int) (w : World) (ht : R64 t) (hl : ArgI w A1 c1 l) (hm : ArgI w A2 c2 m) (hd : R64 d) :
    Calls Try.prog 10 #[.int .i64 t, .slice A1 l.length c1, .slice A2 m.length c2, .int .i64 d] w fun e w' => e = .returned (.bool true) ∧ Below w.heap.size w w' := by
  have hp := pickI_range t 90 (by omega)
  have hpick := fun W => pick_any t 90 W (by omega) (by omega)
  generalize pickI t 90 = p at *
  obtain ⟨p1, p2⟩ := hp
  obtain ⟨T, hT⟩ : ∃ T : Nat, 1 + p = (T : Int) := ⟨(1 + p).toNat, by omega⟩
  have t1 : 1 ≤ T := by omega
  have t2 : T ≤ 90 := by omega
  go_enter Try.func10, Try.ntmps10
  go_wp2_with fail
  refine (hpick _).mono ?_
  rintro e w' ⟨rfl, rfl⟩
  clear hpick
  go_wp2_with fail
  refine (occupations_any A1 c1 l w hl).mono ?_
  rintro e w1 ⟨va, a, rfl, hoa, hma, hb1⟩
  have z1 := hb1.size
  have hc1 : Below w.heap.size w w1 := Below.trans (Below.refl w.heap.size w) (hb1.mono (Below.size (Below.refl w.heap.size w)))
  replace hm := hm.below hb1
  go_wp2_with fail
  refine (occupations_any A2 c2 m w1 hm).mono ?_
  rintro e w2 ⟨vb, b, rfl, hob, hmb, hb2⟩
  have z2 := hb2.size
  have hc2 : Below w.heap.size w w2 := Below.trans hc1 (hb2.mono (Below.size hc1))
  replace hoa := hoa.below' hb2
  obtain ⟨A', c', rfl, ha, hac, hc'⟩ := hoa.cut encO_len
  obtain ⟨B', d', rfl, hb, hbc, hd'⟩ := hob.cut encO_len
  have HCS := Lib.hid (win_cases (T := T) t1 (by omega) hma.1 hmb.1)
  have HL := Lib.hid (forbL_ok (T := T) t1 (by omega) hma.1 hmb.1)
  clear hma hmb hm
  clear hoa hob
  go_wp2_with fail
  clear hT
  go_wp2_with fail
  refine (refForbidden_any T A' B' c' d' a b w2 ha hb (by omega) (by omega)).mono ?_
  rintro e w3 ⟨vf, rfl, hof, hb3⟩
  have z3 := hb3.size
  have hc3 : Below w.heap.size w w3 := Below.trans hc2 (hb3.mono (Below.size hc2))
  replace ha := ha.belowMore hb3 z3
  replace hb := hb.belowMore hb3 z3
  rw [HL.out] at hof HCS
  generalize forbErr T a b = E1
  go_wp2_with fail
  refine (windows_any T A' B' c' d' a b w3 ha hb hac hc' hbc hd').mono ?_
  rintro e w4 ⟨vw, rfl, how, hb4⟩
  have z4 := hb4.size
  have hc4 : Below w.heap.size w w4 := Below.trans hc3 (hb4.mono (Below.size hc3))
  replace ha := ha.belowMore hb4 z4
  replace hb := hb.belowMore hb4 z4
  replace hof := hof.below' hb4
  clear ha hb
  obtain ⟨Af, cf, rfl⟩ := hof.form
  have mf := hof.maxLen
  simp only [maxLen] at mf
  have hcn := refCount_any T Af cf (runs (forbB T (pairsO a b)) T) w4 (hof.lst encS_len) (by omega)
  rcases HCS.out with ⟨q1, q2, q3⟩ | ⟨q1, q2, q3, q4⟩
  · rw [q1] at hcn
    rw [q3] at how
    rw [q2]
    have dT : ((T : Int) == (T : Int)) = true := by simp
    clear q1 q2 q3 HCS
    obtain ⟨Aw, cw, rfl⟩ := how.form
    go_wp2_with fail
    refine (hcn).mono ?_
    rintro e w5 ⟨rfl, hb5⟩
    have z5 := hb5.size
    have hc5 : Below w.heap.size w w5 := Below.trans hc4 (hb5.mono (Below.size hc4))
    replace hof := hof.below' hb5
    replace how := how.below' hb5
    go_wp2_with fail
    refine (awake9_any w5).mono ?_
    rintro e w6 ⟨rfl, hb6⟩
    have z6 := hb6.size
    have hc6 : Below w.heap.size w w6 := Below.trans hc5 (hb6.mono (Below.size hc5))
    replace hof := hof.below' hb6
    replace how := how.below' hb6
    go_wp2_with fail
    go_ret
    exact ⟨rfl, hc6⟩
  · have dT : (countL T (runs (forbB T (pairsO a b)) T) == (T : Int)) = false := by simp [q1]
    rw [q3] at how
    rw [q2]
    have hv := runs_valid (forbB T (pairsO a b)) T
    have HALL := Lib.hid (fun x x0 x1 => win_all hv q4 (d := x) x0 x1)
    have HBD := Lib.hid (win_bounds hv q4)
    have hwl := how.maxLen
    simp only [maxLen] at hwl
    clear q1 q2 q3 HCS q4 hv
    generalize countL T (runs (forbB T (pairsO a b)) T) = C at *
    go_wp2_with fail
    refine (hcn).mono ?_
    rintro e w5 ⟨rfl, hb5⟩
    have z5 := hb5.size
    have hc5 : Below w.heap.size w w5 := Below.trans hc4 (hb5.mono (Below.size hc4))
    replace hof := hof.below' hb5
    replace how := how.below' hb5
    clear hcn
    have hdp := pickI_range d T (by omega)
    have hpick := fun W => pick_any d T W (by omega) (by omega)
    generalize pickI d T = D at *
    obtain ⟨d1, d2⟩ := hdp
    obtain ⟨D, rfl⟩ := Int.eq_ofNat_of_zero_le d1
    have HA := Lib.hid (HALL.out D d1 d2)
    clear HALL
    generalize (wrapL T (runs (forbB T (pairsO a b)) T)).map (win1 T) = L at *
    obtain ⟨Aw, cw, rfl⟩ := how.form
    have hwlst := how.lst encS_len
    go_wp2_with fail
    refine (hpick _).mono ?_
    rintro e w' ⟨rfl, rfl⟩
    clear hpick
    go_wp2_with fail
    go_loopg [15, 16, 58] L.length (fun g s15 s16 s58 wr => ∃ k : Nat, k ≤ L.length ∧ g = L.length - k ∧ s58 = .int .i64 k ∧ s15 = .bool ((L.take k).all (inWin T D)) ∧ Below w5.heap.size w5 wr)
    case atStart => exact ⟨0, by omega, by omega, rfl, rfl, Below.refl _ _⟩
    case round =>
      obtain ⟨k, hk, hg, rfl, rfl, hbw⟩ := hrel
      have hz := hbw.size
      by_cases hlt : k < L.length
      · obtain ⟨bq, oq, rfl, hbqw, b0, b1⟩ := (hwlst.below hbw).sp k hlt
        obtain ⟨v1, v2, v3, v4⟩ := HBD.out L[k] (List.getElem_mem hlt)
        have HS := Lib.hid (show (L.take (k + 1)).all (inWin T D) = ((L.take k).all (inWin T D) && inWin T D L[k]) by rw [take_snoc L k hlt, List.all_append]; simp)
        generalize L[k] = x at *
        obtain ⟨lo, hi⟩ := x
        simp only at v1 v2 v3 v4 b0 b1
        have i1 : (0 : Int) ≤ (k : Int) := by omega
        have i2 : (k : Int) < (L.length : Int) := by omega
        have e1 : decide (hi < lo) = false := by simp; omega
        have e2 : decide ((T : Int) ≤ hi - lo) = false := by simp; omega
        have s1 : IntKind.i64.wrap (hi - lo) = hi - lo := IntWalk.i64_in _ (by omega)
        go_wp2_with fail
        go_quiet (fail)
        clear s1
        have hbq := below_drewN hbw nq
        replace b0 : (wr.drewN nq).cell? ⟨bq, oq + k * 2, none⟩ = some (.int .i64 lo) := b0
        replace b1 : (wr.drewN nq).cell? ⟨bq, oq + k * 2 + 1, none⟩ = some (.int .i64 hi) := b1
        generalize wr.drewN nq = W at *
        generalize (L.take k).all (inWin T D) = acc at *
        cases acc with
        | false =>
          go_wp2_with fail
          go_quiet (fail)
          go_wp2_with fail
          go_roundg (L.length - (k + 1))
          case measure => omega
          case rel => exact ⟨k + 1, by omega, rfl, by go_num, by rw [HS.out]; rfl, below_drewN hbq _⟩
        | true =>
          have m0 := Int.emod_nonneg ((D : Int) - lo) (show (T : Int) ≠ 0 by omega)
          have m1 := Int.emod_lt_of_pos ((D : Int) - lo) (show (0 : Int) < T by omega)
          have hmod := fun Wm => refMod_any ((D : Int) - lo) T Wm (by omega) (by omega)
          rw [modI, if_neg (by omega)] at hmod
          have HI := Lib.hid (show inWin T D (lo, hi) = decide (lo + ((D : Int) - lo) % T ≤ hi) from rfl)
          generalize ((D : Int) - lo) % (T : Int) = r at *
          have s1 : IntKind.i64.wrap ((D : Int) - lo) = (D : Int) - lo := IntWalk.i64_in _ (by omega)
          have s2 : IntKind.i64.wrap (lo + r) = lo + r := IntWalk.i64_in _ (by omega)
          generalize hq : decide (lo + r ≤ hi) = q at *
          go_wp2_with fail
          go_quiet ((go_at_call 26; exact quiet_left (hmod _)))
          clear s1 s2
          go_wp2_with fail
          go_roundg (L.length - (k + 1))
          case measure => omega
          case rel => exact ⟨k + 1, by omega, rfl, by go_num, by rw [HS.out, HI.out]; simp, below_drewN hbq _⟩
      · rw [List.take_of_length_le (show L.length ≤ k by omega), HA.out]
        have hof' := hof.below' hbw
        have hh := fun W h => refHas_any T Af cf (runs (forbB T (pairsO a b)) T) D W h (by omega) (by omega) (by omega)
        rw [has_runs t1 (by omega), show ((D : Int) % (T : Int)).toNat = D by rw [emod_toNat (by omega), Int.toNat_natCast, Nat.mod_eq_of_lt (by omega)]] at hh
        rw [mem_runs_nat _ (by omega)]
        generalize forbB T (pairsO a b) D = fr at *
        have HH := Lib.hid hh
        clear hh
        have hc0 := (hc5).trans (hbw.mono (by omega))
        go_wp2_with fail
        refine (awake9_any wr).mono ?_
        rintro e w1 ⟨rfl, hb1⟩
        have z1 := hb1.size
        have hc1 : Below wr.heap.size wr w1 := Below.trans (Below.refl wr.heap.size wr) (hb1.mono (Below.size (Below.refl wr.heap.size wr)))
        replace hof' := hof'.below' hb1
        have hh := HH.out w1 (hof'.lst encS_len)
        cases fr
        all_goals
          go_wp2_with (go_at_call 19; refine hh.mono ?_; rintro e w5 ⟨rfl, hb5⟩)
          go_ret
          exact ⟨rfl, (hc0.trans (hb1.mono (by have := hc0.size; omega))).trans (hb5.mono (by have := hc0.size; omega))⟩

end Go.Proofs.Ytdijhhfmicafjaa
