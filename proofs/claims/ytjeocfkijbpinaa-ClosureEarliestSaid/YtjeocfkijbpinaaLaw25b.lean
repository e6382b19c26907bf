/-
  The walks of ClosureMade, ClosureEarliest and ClosureMerge: they return true.
-/
import Derived.Test.YtjeocfkijbpinaaLaw25
set_option linter.unusedVariables false
set_option linter.unusedSimpArgs false
namespace Go.Proofs.Ytjeocfkijbpinaa
open Go.RowKit RP

set_option maxHeartbeats 4000000 in
set_option maxRecDepth 100000 in
theorem walkClosureMade (A : Option Addr) (c : Nat) (l : List Int) (B : Option Addr) (d : Nat) (m : List Int) (at_ most : Int) (w : World) (hl : ArgI w A c l) (hm : ArgI w B d m) (hat : R64 at_) (hmo : R64 most) :
    Calls Try.prog 10 #[.slice A l.length c, .slice B m.length d, .int .i64 at_, .int .i64 most] w fun e w' => e = .returned (.bool true) ∧ Below w.heap.size w w' := by
  have hp := pickI_range at_ 90 (by omega)
  have hpick := fun W => pick_any at_ 90 W (by omega) (by omega)
  have hpick2 := fun W => pick_any most 80 W (by omega) (by omega)
  generalize pickI at_ 90 = x at *
  generalize pickI most 80 = mm at *
  obtain ⟨p1, p2⟩ := hp
  have HP := Lib.hid hpick
  have HP2 := Lib.hid hpick2
  clear hpick hpick2
  go_enter Try.func10, Try.ntmps10
  go_wp2_with fail
  refine (closures_any A c l w hl).mono ?_
  rintro e w1 ⟨vc, o, rfl, hoc, hmc, hb1⟩
  have z1 := hb1.size
  have hc1 : Below w.heap.size w w1 := Below.trans (Below.refl w.heap.size w) (hb1.mono (Below.size (Below.refl w.heap.size w)))
  replace hm := hm.below hb1
  go_wp2_with fail
  refine (occupations_any B d m w1 hm).mono ?_
  rintro e w2 ⟨vo, oc, rfl, hoo, hmo', hb2⟩
  have z2 := hb2.size
  have hc2 : Below w.heap.size w w2 := Below.trans hc1 (hb2.mono (Below.size hc1))
  replace hoc := hoc.below' hb2
  obtain ⟨A1, c1, rfl, hol, _, _⟩ := hoc.cut encO_len
  obtain ⟨B1, d1, rfl, hoL, _, _⟩ := hoo.cut encO_len
  have HMC := Lib.hid hmc
  have hlen := hmc.1
  have hlen2 := hmo'.2.1
  have HRO := Lib.hid (hmo'.rng (by omega))
  have HCK := Lib.hid hmc.check
  clear hoc hmc hoo hmo' hm hl
  have hS := hc2
  have zS := Below.size hS
  clear hc1 hc2 hb1 hb2
  go_wp2_with fail
  refine (HP.out _).mono ?_
  rintro e w' ⟨rfl, rfl⟩
  go_wp2_with fail
  go_loopg [12] 6 (fun g s12 wr => ∃ r : Nat, r ≤ 6 ∧ g = 6 - r ∧ s12 = .int .i64 r ∧ Below w2.heap.size w2 wr)
  case atStart => exact ⟨0, by omega, rfl, rfl, Below.refl _ _⟩
  case round =>
    obtain ⟨r, hr, hg, rfl, hb⟩ := hrel
    have HG := Lib.hid hg
    clear hg
    have hz := hb.size
    by_cases hlt : r < 6
    · have hrd : decide ((r : Int) < 6) = true := by simp; omega
      have hla := hol.belowMore hb hz
      have h1 := open_any A1 c1 o r (x - 5) wr hla (by omega)
      go_wp2_with fail
      refine (h1).mono ?_
      rintro e w1 ⟨rfl, hb1⟩
      have z1 := hb1.size
      have hc1 : Below wr.heap.size wr w1 := Below.trans (Below.refl wr.heap.size wr) (hb1.mono (Below.size (Below.refl wr.heap.size wr)))
      replace hla := hla.belowMore hb1 z1
      clear h1
      have h2 := refOpen_any A1 c1 o r (x - 5) w1 hla (by omega)
      go_wp2_with fail
      refine (h2).mono ?_
      rintro e w2 ⟨rfl, hb2⟩
      have z2 := hb2.size
      have hc2 : Below wr.heap.size wr w2 := Below.trans hc1 (hb2.mono (Below.size hc1))
      replace hla := hla.belowMore hb2 z2
      clear h2
      generalize coverC o r (x - 5) = cv
      have hcv : ((!cv) != (!cv)) = false := by cases cv <;> rfl
      go_wp2_with fail
      refine (cnext_any A1 c1 o r (x - 5) w2 hla (by omega) HMC.out.rng (by unfold R64; omega)).mono ?_
      rintro e w3 ⟨n, rfl, hnx, hb3⟩
      have z3 := hb3.size
      have hc3 : Below wr.heap.size wr w3 := Below.trans hc2 (hb3.mono (Below.size hc2))
      replace hla := hla.belowMore hb3 z3
      have HN := Lib.hid hnx
      clear hnx
      go_wp2_with fail
      refine (refNext_any A1 c1 o r (x - 5) w3 hla (by omega)).mono ?_
      rintro e w4 ⟨n', rfl, hnx', hb4⟩
      have z4 := hb4.size
      have hc4 : Below wr.heap.size wr w4 := Below.trans hc3 (hb4.mono (Below.size hc3))
      replace hla := hla.belowMore hb4 z4
      have hnn := HN.out.unique hnx'
      subst hnn
      have hne : (n != n) = false := by simp
      clear hnx'
      go_wp2_with fail
      go_roundg (6 - (r + 1))
      case measure => have := HG.out; omega
      case rel => exact ⟨r + 1, by omega, rfl, by go_num, hb.trans (hc4.mono hz)⟩
    · obtain rfl : r = 6 := by omega
      have hla := hol.belowMore hb hz
      have hlo := hoL.belowMore hb hz
      go_wp2_with fail
      refine (HP2.out _).mono ?_
      rintro e w' ⟨rfl, rfl⟩
      go_wp2_with fail
      refine (earliest_any A1 B1 c1 d1 o oc (x - 5) mm wr hla hlo (by omega) (by omega) HMC.out.rng HRO.out).mono ?_
      rintro e w1 ⟨e1, ok1, rfl, he1, hb1⟩
      have z1 := hb1.size
      have hc1 : Below wr.heap.size wr w1 := Below.trans (Below.refl wr.heap.size wr) (hb1.mono (Below.size (Below.refl wr.heap.size wr)))
      replace hla := hla.belowMore hb1 z1
      replace hlo := hlo.belowMore hb1 z1
      have HE1 := Lib.hid he1
      clear he1
      go_wp2_with fail
      refine (HP2.out _).mono ?_
      rintro e w' ⟨rfl, rfl⟩
      go_wp2_with fail
      refine (refEarliest_any A1 B1 c1 d1 o oc (x - 5) mm w1 hla hlo (by omega) (by omega)).mono ?_
      rintro e w2 ⟨e2, ok2, rfl, he2, hb2⟩
      have z2 := hb2.size
      have hc2 : Below wr.heap.size wr w2 := Below.trans hc1 (hb2.mono (Below.size hc1))
      replace hla := hla.belowMore hb2 z2
      replace hlo := hlo.belowMore hb2 z2
      obtain ⟨q1, q2⟩ := HE1.out.unique he2
      subst q1 q2
      clear he2 HE1
      go_wp2_with fail
      refine (awake25_any w2).mono ?_
      rintro e w3 ⟨rfl, hb3⟩
      have z3 := hb3.size
      have hc3 : Below wr.heap.size wr w3 := Below.trans hc2 (hb3.mono (Below.size hc2))
      replace hla := hla.belowMore hb3 z3
      replace hlo := hlo.belowMore hb3 z3
      go_wp2_with fail
      refine (check_any A1 c1 o w3 hla (by omega)).mono ?_
      rintro e w4 ⟨rfl, hb4⟩
      have z4 := hb4.size
      have hc4 : Below wr.heap.size wr w4 := Below.trans hc3 (hb4.mono (Below.size hc3))
      replace hla := hla.belowMore hb4 z4
      replace hlo := hlo.belowMore hb4 z4
      rw [HCK.out]
      go_wp2_with fail
      refine (merge_any A1 c1 o w4 hla (by omega)).mono ?_
      rintro e w5 ⟨v1, g1, rfl, ho1, hm1, hb5⟩
      have z5 := hb5.size
      have hc5 : Below wr.heap.size wr w5 := Below.trans hc4 (hb5.mono (Below.size hc4))
      replace hla := hla.belowMore hb5 z5
      replace hlo := hlo.belowMore hb5 z5
      go_wp2_with fail
      refine (refMerge_any A1 c1 o w5 hla (by omega)).mono ?_
      rintro e w6 ⟨v2, g2, rfl, ho2, hm2, hb6⟩
      have z6 := hb6.size
      have hc6 : Below wr.heap.size wr w6 := Below.trans hc5 (hb6.mono (Below.size hc5))
      replace hla := hla.belowMore hb6 z6
      replace hlo := hlo.belowMore hb6 z6
      replace ho1 := ho1.below' hb6
      have hgg := hm1.unique hm2
      subst hgg
      clear hm1 hm2
      go_wp2_with fail
      refine (sameC_own' v1 v2 g1 g1 w6 _ _ ho1 ho2 rfl).mono ?_
      rintro e w7 ⟨rfl, hb7⟩
      have z7 := hb7.size
      have hc7 : Below wr.heap.size wr w7 := Below.trans hc6 (hb7.mono (Below.size hc6))
      replace hla := hla.belowMore hb7 z7
      replace hlo := hlo.belowMore hb7 z7
      clear ho1 ho2
      have h3 := enters_any A1 B1 c1 d1 o oc (x - 5) w7 hla hlo (by omega) (by omega) HMC.out.rng HRO.out
      go_wp2_with fail
      refine (h3).mono ?_
      rintro e w8 ⟨rfl, hb8⟩
      have z8 := hb8.size
      have hc8 : Below wr.heap.size wr w8 := Below.trans hc7 (hb8.mono (Below.size hc7))
      replace hla := hla.belowMore hb8 z8
      replace hlo := hlo.belowMore hb8 z8
      clear h3
      have h4 := refEnters_any A1 B1 c1 d1 o oc (x - 5) w8 hla hlo (by omega) (by omega)
      go_wp2_with fail
      refine (h4).mono ?_
      rintro e w9 ⟨rfl, hb9⟩
      have z9 := hb9.size
      have hc9 : Below wr.heap.size wr w9 := Below.trans hc8 (hb9.mono (Below.size hc8))
      replace hla := hla.belowMore hb9 z9
      replace hlo := hlo.belowMore hb9 z9
      clear h4
      generalize entersC o oc (x - 5) = en
      have d1' : (en == en) = true := by simp
      have d2' : (e1 == e1) = true := by simp
      have d3' : (ok1 == ok1) = true := by simp
      go_wp2_with fail
      go_ret
      refine ⟨rfl, ?_⟩
      have hq := hb.trans (hc9.mono hz)
      exact hS.trans (hq.mono zS)


theorem early_more {l : List Clo} {occ : List Occ} {s m d f : Int} {is : Bool} (h : EarlC l occ s m d true) (hm : m + 1 ≤ 3600) (h' : EarlC l occ s (m + 1) f is) : f = d ∧ is = true := by
  rcases h with ⟨_, a1, a2, a3, a4, a5, a6⟩ | ⟨a, _⟩
  · exact h'.unique (.inl ⟨rfl, a1, by omega, hm, a4, a5, a6⟩)
  · cases a

set_option maxHeartbeats 4000000 in
set_option maxRecDepth 100000 in
theorem walkClosureEarliest (A : Option Addr) (c : Nat) (l : List Int) (B : Option Addr) (d : Nat) (m : List Int) (at_ most : Int) (w : World) (hl : ArgI w A c l) (hm : ArgI w B d m) (hat : R64 at_) (hmo : R64 most) :
    Calls Try.prog 8 #[.slice A l.length c, .slice B m.length d, .int .i64 at_, .int .i64 most] w fun e w' => e = .returned (.bool true) ∧ Below w.heap.size w w' := by
  have hp := pickI_range at_ 60 (by omega)
  have hpm := pickI_range most 120 (by omega)
  have hpick := fun W => pick_any at_ 60 W (by omega) (by omega)
  have hpick2 := fun W => pick_any most 120 W (by omega) (by omega)
  generalize pickI at_ 60 = x at *
  generalize pickI most 120 = mm at *
  obtain ⟨p1, p2⟩ := hp
  obtain ⟨p3, p4⟩ := hpm
  have HP := Lib.hid hpick
  have HP2 := Lib.hid hpick2
  clear hpick hpick2
  go_enter Try.func8, Try.ntmps8
  go_wp2_with fail
  refine (closures_any A c l w hl).mono ?_
  rintro e w1 ⟨vc, o, rfl, hoc, hmc, hb1⟩
  have z1 := hb1.size
  have hc1 : Below w.heap.size w w1 := Below.trans (Below.refl w.heap.size w) (hb1.mono (Below.size (Below.refl w.heap.size w)))
  replace hm := hm.below hb1
  go_wp2_with fail
  refine (occupations_any B d m w1 hm).mono ?_
  rintro e w2 ⟨vo, oc, rfl, hoo, hmo', hb2⟩
  have z2 := hb2.size
  have hc2 : Below w.heap.size w w2 := Below.trans hc1 (hb2.mono (Below.size hc1))
  replace hoc := hoc.below' hb2
  obtain ⟨A1, c1, rfl, hol, _, _⟩ := hoc.cut encO_len
  obtain ⟨B1, d1, rfl, hoL, _, _⟩ := hoo.cut encO_len
  have HMC := Lib.hid hmc
  have hlen := hmc.1
  have hlen2 := hmo'.2.1
  have HRO := Lib.hid (hmo'.rng (by omega))
  clear hoc hmc hoo hmo' hm hl
  go_wp2_with fail
  refine (HP.out _).mono ?_
  rintro e w' ⟨rfl, rfl⟩
  go_wp2_with fail
  refine (HP2.out _).mono ?_
  rintro e w' ⟨rfl, rfl⟩
  go_wp2_with fail
  refine (earliest_any A1 B1 c1 d1 o oc x mm w2 hol hoL (by omega) (by omega) HMC.out.rng HRO.out).mono ?_
  rintro e w3 ⟨e1, ok1, rfl, he1, hb3⟩
  have z3 := hb3.size
  have hc3 : Below w.heap.size w w3 := Below.trans hc2 (hb3.mono (Below.size hc2))
  replace hol := hol.belowMore hb3 z3
  replace hoL := hoL.belowMore hb3 z3
  have HE1 := Lib.hid he1
  obtain ⟨M, rfl⟩ := Int.eq_ofNat_of_zero_le p3
  have he0 : 0 ≤ e1 ∧ e1 ≤ (M : Int) := by rcases he1 with ⟨_, a1, a2, _⟩ | ⟨_, rfl, _⟩ <;> omega
  obtain ⟨E1, rfl⟩ := Int.eq_ofNat_of_zero_le he0.1
  have hem : E1 ≤ M := by omega
  have HNO : Hid (∀ s : Nat, s ≤ M → (ok1 = true → s < E1) → entersC o oc (x + s) = false) := fun s hs hk => by
    rcases HE1.out with ⟨q, a1, a2, a3, a4, a5, a6⟩ | ⟨q, a0, a⟩
    · exact a6 s (by omega) (by have := hk q; omega)
    · rcases a with a | a | a | a
      · omega
      · omega
      · rw [smallC_iff.2 (by omega)] at a; cases a
      · exact a s (by omega) (by omega)
  clear he1 he0
  have hS := hc3
  have zS := Below.size hS
  clear hc1 hc2 hc3 hb1 hb2 hb3
  cases ok1 with
  | true =>
    have HEN : Hid (entersC o oc (x + E1) = true) := by
      rcases HE1.out with ⟨q, a1, a2, a3, a4, a5, a6⟩ | ⟨q, _⟩
      · exact a5
      · cases q
    go_wp2_with fail
    go_loopg [15] (M + 1) (fun g s15 wr => ∃ s : Nat, s ≤ E1 ∧ g = M + 1 - s ∧ s15 = .int .i64 s ∧ Below w3.heap.size w3 wr)
    case atStart => exact ⟨0, by omega, rfl, rfl, Below.refl _ _⟩
    case round =>
      obtain ⟨s, s1, hg, rfl, hb⟩ := hrel
      have HG := Lib.hid hg
      clear hg
      have hz := hb.size
      have hla := hol.belowMore hb hz
      have hlo := hoL.belowMore hb hz
      have hdm : decide ((s : Int) ≤ (M : Int)) = true := by simp; omega
      by_cases hs : s < E1
      · have hdq : ((s : Int) == (E1 : Int)) = false := by simp; omega
        have h3 := enters_any A1 B1 c1 d1 o oc (x + s) wr hla hlo (by omega) (by omega) HMC.out.rng HRO.out
        rw [HNO.out s (by omega) (fun _ => hs)] at h3
        go_wp2_with fail
        refine h3.mono ?_
        rintro e w5 ⟨rfl, hb5⟩
        clear h3
        go_wp2_with fail
        go_roundg (M + 1 - (s + 1))
        case measure => have := HG.out; omega
        case rel => exact ⟨s + 1, by omega, rfl, by go_num, hb.trans (hb5.mono hz)⟩
      · obtain rfl : s = E1 := by omega
        have hdq : ((s : Int) == (s : Int)) = true := by simp
        go_wp2_with fail
        refine (earliest_any A1 B1 c1 d1 o oc x (M + 1) wr hla hlo (by omega) (by omega) HMC.out.rng HRO.out).mono ?_
        rintro e w1 ⟨f, is, rfl, hf, hb1⟩
        have z1 := hb1.size
        have hc1 : Below wr.heap.size wr w1 := Below.trans (Below.refl wr.heap.size wr) (hb1.mono (Below.size (Below.refl wr.heap.size wr)))
        replace hla := hla.belowMore hb1 z1
        replace hlo := hlo.belowMore hb1 z1
        obtain ⟨rfl, rfl⟩ := early_more HE1.out (by omega) hf
        clear hf
        go_wp2_with fail
        refine (awake25_any w1).mono ?_
        rintro e w2 ⟨rfl, hb2⟩
        have z2 := hb2.size
        have hc2 : Below wr.heap.size wr w2 := Below.trans hc1 (hb2.mono (Below.size hc1))
        replace hla := hla.belowMore hb2 z2
        replace hlo := hlo.belowMore hb2 z2
        have h4 := refEnters_any A1 B1 c1 d1 o oc (x + s) w2 hla hlo (by omega) (by omega)
        rw [HEN.out] at h4
        go_wp2_with fail
        refine (h4).mono ?_
        rintro e w3 ⟨rfl, hb3⟩
        have z3 := hb3.size
        have hc3 : Below wr.heap.size wr w3 := Below.trans hc2 (hb3.mono (Below.size hc2))
        replace hla := hla.belowMore hb3 z3
        replace hlo := hlo.belowMore hb3 z3
        clear h4
        go_wp2_with fail
        go_ret
        refine ⟨rfl, ?_⟩
        have hq := hb.trans (hc3.mono hz)
        exact hS.trans (hq.mono zS)
  | false =>
    have HZ : Hid (E1 = 0) := by
      rcases HE1.out with ⟨q, _⟩ | ⟨_, q, _⟩
      · cases q
      · exact (show E1 = 0 by omega)
    go_wp2_with fail
    go_loopg [15] (M + 1) (fun g s15 wr => ∃ s : Nat, s ≤ M + 1 ∧ g = M + 1 - s ∧ s15 = .int .i64 s ∧ Below w3.heap.size w3 wr)
    case atStart => exact ⟨0, by omega, rfl, rfl, Below.refl _ _⟩
    case round =>
      obtain ⟨s, s1, hg, rfl, hb⟩ := hrel
      have HG := Lib.hid hg
      clear hg
      have hz := hb.size
      have hla := hol.belowMore hb hz
      have hlo := hoL.belowMore hb hz
      by_cases hs : s < M + 1
      · have hdm : decide ((s : Int) ≤ (M : Int)) = true := by simp; omega
        have h3 := enters_any A1 B1 c1 d1 o oc (x + s) wr hla hlo (by omega) (by omega) HMC.out.rng HRO.out
        rw [HNO.out s (by omega) (fun h => by cases h)] at h3
        go_wp2_with fail
        refine h3.mono ?_
        rintro e w5 ⟨rfl, hb5⟩
        clear h3
        go_wp2_with fail
        go_roundg (M + 1 - (s + 1))
        case measure => have := HG.out; omega
        case rel => exact ⟨s + 1, by omega, rfl, by go_num, hb.trans (hb5.mono hz)⟩
      · have hdm : decide ((s : Int) ≤ (M : Int)) = false := by simp; omega
        have hz0 := HZ.out
        subst hz0
        go_wp2_with fail
        refine (earliest_any A1 B1 c1 d1 o oc x (M + 1) wr hla hlo (by omega) (by omega) HMC.out.rng HRO.out).mono ?_
        rintro e w1 ⟨f, is, rfl, hf, hb1⟩
        have z1 := hb1.size
        have hc1 : Below wr.heap.size wr w1 := Below.trans (Below.refl wr.heap.size wr) (hb1.mono (Below.size (Below.refl wr.heap.size wr)))
        replace hla := hla.belowMore hb1 z1
        replace hlo := hlo.belowMore hb1 z1
        clear hf
        go_wp2_with fail
        refine (awake25_any w1).mono ?_
        rintro e w2 ⟨rfl, hb2⟩
        have z2 := hb2.size
        have hc2 : Below wr.heap.size wr w2 := Below.trans hc1 (hb2.mono (Below.size hc1))
        replace hla := hla.belowMore hb2 z2
        replace hlo := hlo.belowMore hb2 z2
        go_wp2_with fail
        go_ret
        refine ⟨rfl, ?_⟩
        have hq := hb.trans (hc2.mono hz)
        exact hS.trans (hq.mono zS)

end Go.Proofs.Ytjeocfkijbpinaa
