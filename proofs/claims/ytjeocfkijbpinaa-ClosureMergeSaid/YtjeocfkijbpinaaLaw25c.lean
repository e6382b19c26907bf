/-
  The walks of ClosureMerge and ClosureInside: they return true.
-/
import Derived.Test.YtjeocfkijbpinaaLaw25
set_option linter.unusedVariables false
set_option linter.unusedSimpArgs false
namespace Go.Proofs.Ytjeocfkijbpinaa
open Go.RowKit RP

theorem MergeC.again {l g : List Clo} (h : MergeC l g) : MergeC g g := ⟨h.1, fun _ _ => rfl⟩
theorem can_at {g : List Clo} (h : CanC g) {k : Nat} (hk : k + 1 < g.length) : g[k].1 < g[k + 1].1 ∨ (g[k].1 = g[k + 1].1 ∧ g[k].2.2 < g[k + 1].2.1) :=
  (List.pairwise_iff_getElem.1 h.2) k (k + 1) (by omega) hk (by omega)

set_option maxHeartbeats 4000000 in
set_option maxRecDepth 100000 in
theorem walkClosureMerge (A : Option Addr) (c : Nat) (l : List Int) (w : World) (hl : ArgI w A c l) :
    Calls Try.prog 4 #[.slice A l.length c] w fun e w' => e = .returned (.bool true) ∧ Below w.heap.size w w' := by
  go_enter Try.func4, Try.ntmps4
  go_wp2_with fail
  refine (closures_any A c l w hl).mono ?_
  rintro e w1 ⟨vc, o, rfl, hoc, hmc, hb1⟩
  have z1 := hb1.size
  have hc1 : Below w.heap.size w w1 := Below.trans (Below.refl w.heap.size w) (hb1.mono (Below.size (Below.refl w.heap.size w)))
  obtain ⟨A1, c1, rfl, hol, _, _⟩ := hoc.cut encO_len
  have HMC := Lib.hid hmc
  have hlen := hmc.1
  have HCK := Lib.hid hmc.check
  clear hoc hmc hl
  go_wp2_with fail
  refine (merge_any A1 c1 o w1 hol (by omega)).mono ?_
  rintro e w2 ⟨v1, g, rfl, ho1, hm1, hb2⟩
  have z2 := hb2.size
  have hc2 : Below w.heap.size w w2 := Below.trans hc1 (hb2.mono (Below.size hc1))
  replace hol := hol.belowMore hb2 z2
  obtain ⟨hmg, hgl⟩ := hm1.1 HCK.out
  have HMG := Lib.hid hmg
  have HCK2 := Lib.hid (hmg.check hgl HCK.out)
  clear hmg hm1
  obtain ⟨A2, c2, rfl, hgL, _, _⟩ := ho1.cut encO_len
  go_wp2_with fail
  refine (check_any A2 c2 g w2 hgL (by omega)).mono ?_
  rintro e w3 ⟨rfl, hb3⟩
  have z3 := hb3.size
  have hc3 : Below w.heap.size w w3 := Below.trans hc2 (hb3.mono (Below.size hc2))
  replace hol := hol.belowMore hb3 z3
  replace hgL := hgL.belowMore hb3 z3
  replace ho1 := ho1.below' hb3
  rw [HCK2.out]
  go_wp2_with fail
  refine (merge_any A2 c2 g w3 hgL (by omega)).mono ?_
  rintro e w4 ⟨v2, g2, rfl, ho2, hm2, hb4⟩
  have z4 := hb4.size
  have hc4 : Below w.heap.size w w4 := Below.trans hc3 (hb4.mono (Below.size hc3))
  replace hol := hol.belowMore hb4 z4
  replace hgL := hgL.belowMore hb4 z4
  replace ho1 := ho1.below' hb4
  have hgg := (hm2.1 HCK2.out).1.unique HMG.out.again
  subst hgg
  clear hm2
  go_wp2_with fail
  refine (sameC_own' v2 _ g2 g2 w4 _ _ ho2 ho1 rfl).mono ?_
  rintro e w5 ⟨rfl, hb5⟩
  have z5 := hb5.size
  have hc5 : Below w.heap.size w w5 := Below.trans hc4 (hb5.mono (Below.size hc4))
  replace hol := hol.belowMore hb5 z5
  replace hgL := hgL.belowMore hb5 z5
  clear ho1 ho2
  have hS := hc5
  have zS := Below.size hS
  clear hc1 hc2 hc3 hc4 hb1 hb2 hb3 hb4 hb5 z1 z2 z3 z4 z5
  generalize w5 = V at *
  go_wp2_with fail
  go_loopg [5] (g2.length) (fun q s5 wr => ∃ k : Nat, (k + 1 ≤ g2.length ∨ k = 0) ∧ q = g2.length - k ∧ s5 = .int .i64 ((k : Int) + 1) ∧ Below V.heap.size V wr)
  case atStart => exact ⟨0, by omega, rfl, rfl, Below.refl _ _⟩
  case round =>
    obtain ⟨k, hk, hq, rfl, hb⟩ := hrel
    have HQ := Lib.hid hq
    clear hq
    have hz := hb.size
    by_cases hlt : k + 1 < g2.length
    · obtain ⟨b1, off1, rfl, hbw1, c0, c1', c2'⟩ := (hgL.below hb).oc (k + 1) hlt
      obtain ⟨b2, off2, hbe, hbw2, e0, e1, e2⟩ := (hgL.below hb).oc k (by omega)
      injection hbe with hbe
      injection hbe with hbe1 hbe2
      subst hbe1 hbe2
      have hcan := can_at HMG.out.1 hlt
      generalize g2[k + 1] = y at *
      generalize g2[k] = x at *
      obtain ⟨x1, x2, x3⟩ := x
      obtain ⟨y1, y2, y3⟩ := y
      simp only at c0 c1' c2' e0 e1 e2 hcan
      have hwr : IntKind.i64.wrap ((k : Int) + 1 - 1) = (k : Int) := by rw [IntWalk.i64_in _ (by omega)]; omega
      have j0 : (0 : Int) ≤ (k : Int) + 1 := by omega
      have j1 : (k : Int) + 1 < (g2.length : Int) := by omega
      have j2 : (0 : Int) ≤ (k : Int) := by omega
      have j3 : (k : Int) < (g2.length : Int) := by omega
      have j4 : ((k : Int) + 1).toNat = k + 1 := by omega
      have dl : decide (y1 < x1) = false := by simp; omega
      rcases hcan with h1 | ⟨h1, h2⟩
      · have dq : (y1 == x1) = false := by simp; omega
        go_wp2_with fail
        go_quiet (fail)
        clear hwr j4
        go_wp2_with fail
        go_roundg (g2.length - (k + 1))
        case measure => have := HQ.out; omega
        case rel => exact ⟨k + 1, .inl (by omega), rfl, by go_num, below_drewN hb _⟩
      · have dq : (y1 == x1) = true := by simp; omega
        have df : decide (y2 ≤ x3) = false := by simp; omega
        clear h1
        go_wp2_with fail
        go_quiet (fail)
        clear hwr j4
        go_wp2_with fail
        go_roundg (g2.length - (k + 1))
        case measure => have := HQ.out; omega
        case rel => exact ⟨k + 1, .inl (by omega), rfl, by go_num, below_drewN hb _⟩
    · have hS2 := hS.trans (hb.mono zS)
      have zS2 := Below.size hS2
      have hol2 := hol.belowMore hb hz
      have hgL2 := hgL.belowMore hb hz
      clear hS zS hol hgL hb hz
      generalize wr = V2 at *
      go_wp2_with fail
      go_loopg [6, 7] 6 (fun q s6 s7 wr => ∃ r : Nat, r ≤ 6 ∧ q = 6 - r ∧ s6 = .int .i64 r ∧ Below V2.heap.size V2 wr)
      case atStart => exact ⟨0, by omega, rfl, rfl, Below.refl _ _⟩
      case round =>
        obtain ⟨r, hr, hg, rfl, hb⟩ := hrel
        have HG := Lib.hid hg
        clear hg
        have hz := hb.size
        by_cases hltr : r < 6
        · have hrd : decide ((r : Int) < 6) = true := by simp; omega
          go_wp2_with fail
          generalize wr = V3 at *
          go_loopg [7] 95 (fun q s7 wr => ∃ s : Nat, s ≤ 95 ∧ q = 95 - s ∧ s7 = .int .i64 s ∧ Below V2.heap.size V2 wr)
          case atStart => exact ⟨0, by omega, rfl, rfl, hb⟩
          case round =>
            clear hb hz
            obtain ⟨s, hs, hg, rfl, hb⟩ := hrel
            have HG2 := Lib.hid hg
            clear hg
            have hz := hb.size
            by_cases hlts : s < 95
            · have hsd : decide ((s : Int) < 95) = true := by simp; omega
              have hla := hol2.belowMore hb hz
              have hlb := hgL2.belowMore hb hz
              have h1 := open_any A1 c1 o r s wr hla (by omega)
              go_wp2_with fail
              refine (h1).mono ?_
              rintro e w1 ⟨rfl, hb1⟩
              have z1 := hb1.size
              have hc1 : Below wr.heap.size wr w1 := Below.trans (Below.refl wr.heap.size wr) (hb1.mono (Below.size (Below.refl wr.heap.size wr)))
              replace hla := hla.belowMore hb1 z1
              replace hlb := hlb.belowMore hb1 z1
              clear h1
              have h2 := open_any A2 c2 g2 r s w1 hlb (by omega)
              rw [HMG.out.2] at h2
              go_wp2_with fail
              refine (h2).mono ?_
              rintro e w2 ⟨rfl, hb2⟩
              have z2 := hb2.size
              have hc2 : Below wr.heap.size wr w2 := Below.trans hc1 (hb2.mono (Below.size hc1))
              replace hla := hla.belowMore hb2 z2
              replace hlb := hlb.belowMore hb2 z2
              clear h2
              have h3 := open_any A1 c1 o r s w2 hla (by omega)
              have h4 := fun W h => refOpen_any A1 c1 o r s W h (by omega)
              generalize coverC o r s = cv at *
              have hcv : ((!cv) != (!cv)) = false := by cases cv <;> rfl
              have H4 := Lib.hid h4
              clear h4
              go_wp2_with fail
              refine (h3).mono ?_
              rintro e w3 ⟨rfl, hb3⟩
              have z3 := hb3.size
              have hc3 : Below wr.heap.size wr w3 := Below.trans hc2 (hb3.mono (Below.size hc2))
              replace hla := hla.belowMore hb3 z3
              replace hlb := hlb.belowMore hb3 z3
              clear h3
              go_wp2_with fail
              refine (H4.out w3 hla).mono ?_
              rintro e w4 ⟨rfl, hb4⟩
              have z4 := hb4.size
              have hc4 : Below wr.heap.size wr w4 := Below.trans hc3 (hb4.mono (Below.size hc3))
              replace hla := hla.belowMore hb4 z4
              replace hlb := hlb.belowMore hb4 z4
              go_wp2_with fail
              go_roundg (95 - (s + 1))
              case measure => have := HG2.out; omega
              case rel => exact ⟨s + 1, by omega, rfl, by go_num, hb.trans (hc4.mono hz)⟩
            · obtain rfl : s = 95 := by omega
              go_wp2_with fail
              go_roundg (6 - (r + 1))
              case measure => have := HG.out; omega
              case rel => exact ⟨r + 1, by omega, rfl, by go_num, hb⟩
        · obtain rfl : r = 6 := by omega
          go_wp2_with fail
          refine (awake25_any wr).mono ?_
          rintro e w9 ⟨rfl, hb9⟩
          go_wp2_with fail
          go_ret
          exact ⟨rfl, hS2.trans ((hb.trans (hb9.mono hz)).mono zS2)⟩

end Go.Proofs.Ytjeocfkijbpinaa
