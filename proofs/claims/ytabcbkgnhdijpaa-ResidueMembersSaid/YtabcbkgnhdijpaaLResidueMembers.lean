/-
  The walk of ResidueMembers: it returns true.
-/
import Derived.Test.YtabcbkgnhdijpaaLawKit
import Derived.Test.YtabcbkgnhdijpaaSum
set_option linter.unusedVariables false
set_option linter.unusedSimpArgs false
namespace Go.Proofs.Ytabcbkgnhdijpaa
open Go.RowKit RP

/-- One of the first d residues is a member of a, and its difference to x one of b. -/
def someB (t : Int) (a b : List Sp) (x : Int) : Nat → Bool
  | 0 => false
  | d + 1 => someB t a b x d || (hasL t a d && hasL t b (x - d))

theorem someB_iff {t : Int} {a b : List Sp} {x : Int} : ∀ {n : Nat}, someB t a b x n = true ↔ ∃ d : Nat, d < n ∧ hasL t a d = true ∧ hasL t b (x - d) = true
  | 0 => by simp [someB]
  | n + 1 => by
    rw [someB, Bool.or_eq_true, someB_iff, Bool.and_eq_true]
    constructor
    · rintro (⟨d, h1, h2⟩ | h)
      · exact ⟨d, by omega, h2⟩
      · exact ⟨n, by omega, h⟩
    · rintro ⟨d, h1, h2⟩
      by_cases e : d = n
      · subst e; exact .inr h2
      · exact .inl ⟨d, by omega, h2⟩

theorem inRangeM {T : Nat} (h1 : 1 ≤ T) (h2 : T ≤ 7200) : inRange (T : Int) = true := by simp [inRange]; omega
theorem hasL_valid {T : Nat} {a : List Sp} {x : Int} (h1 : 1 ≤ T) (h2 : T ≤ 7200) (ha : validFrom T (-1) a = true) : hasL T a x = mem a (x % T) := by
  simp [hasL, validL, inRangeM h1 h2, ha]
theorem sum_members {T : Nat} {a b : List Sp} {x : Int} (h1 : 1 ≤ T) (h2 : T ≤ 7200) (ha : validFrom T (-1) a = true) (hb : validFrom T (-1) b = true) (x0 : 0 ≤ x) (x1 : x < T) :
    hasL T (sumI T a b) x = someB T a b x T := by
  have hs : sumI T a b = runs (marked T (arcsOf a b)) T := by simp [sumI, badI_of (inRangeM h1 h2) ha hb]
  rw [hs, hasL_valid h1 h2 (runs_valid _ _), Int.emod_eq_of_lt x0 x1]
  obtain ⟨X, rfl⟩ := Int.eq_ofNat_of_zero_le x0
  rw [mem_runs_nat _ (by omega)]
  apply mem_eq_of_iff
  rw [marked_sum h1 (valid_all ha (by omega)) (valid_all hb (by omega)), someB_iff]
  constructor
  · rintro ⟨y, y0, y1, hy, hz⟩
    obtain ⟨Y, rfl⟩ := Int.eq_ofNat_of_zero_le y0
    exact ⟨Y, by omega, by rw [hasL_valid h1 h2 ha, Int.emod_eq_of_lt y0 y1]; exact hy, by rw [hasL_valid h1 h2 hb]; exact hz⟩
  · rintro ⟨d, hd, hy, hz⟩
    rw [hasL_valid h1 h2 ha, Int.emod_eq_of_lt (by omega) (by omega)] at hy
    rw [hasL_valid h1 h2 hb] at hz
    exact ⟨d, by omega, by omega, hy, hz⟩

set_option maxHeartbeats 4000000 in
theorem walkResidueMembers (t : Int) (A1 : Option Addr) (c1 : Nat) (l : List Int) (A2 : Option Addr) (c2 : Nat) (m : List Int) (x0 : Int) (w : World) (ht : R64 t) (hl : ArgI w A1 c1 l) (hm : ArgI w A2 c2 m) (hx : R64 x0) :
    Calls Try.prog 9 #[.int .i64 t, .slice A1 l.length c1, .slice A2 m.length c2, .int .i64 x0] w fun e w' => e = .returned (.bool true) ∧ Below w.heap.size w w' := by
  obtain ⟨t1, t2⟩ := ht
  have hp := perI_range t
  have hper := fun W => period_any t W t1 t2
  generalize perI t = p at *
  obtain ⟨hp1, hp2⟩ := hp
  obtain ⟨T, rfl⟩ := Int.eq_ofNat_of_zero_le (show 0 ≤ p by omega)
  have hpx := fun W => pick_any x0 T W (by omega) (by omega)
  have hrx := pickI_range x0 T (by omega)
  generalize pickI x0 T = x at *
  obtain ⟨x1, x2⟩ := hrx
  go_enter Try.func9, Try.ntmps9
  go_wp2_with fail
  refine (hper _).mono ?_
  rintro e w' ⟨rfl, rfl⟩
  go_wp2_with fail
  refine (set_any T A1 c1 l w hl (by omega) (by omega)).mono ?_
  rintro e w1 ⟨va, a, rfl, hoa, hva, hb1⟩
  have z1 := hb1.size
  have hc1 : Below w.heap.size w w1 := Below.trans (Below.refl w.heap.size w) (hb1.mono (Below.size (Below.refl w.heap.size w)))
  replace hm := hm.below hb1
  go_wp2_with fail
  refine (set_any T A2 c2 m w1 hm (by omega) (by omega)).mono ?_
  rintro e w2 ⟨vb, b, rfl, hob, hvb, hb2⟩
  have z2 := hb2.size
  have hc2 : Below w.heap.size w w2 := Below.trans hc1 (hb2.mono (Below.size hc1))
  replace hm := hm.below hb2
  replace hoa := hoa.below' hb2
  have HM := Lib.hid (sum_members (T := T) (x := x) (by omega) (by omega) hva hvb x1 x2)
  have HB := Lib.hid (badI_of (inRangeM (T := T) (by omega) (by omega)) hva hvb)
  clear hva hvb
  obtain ⟨A', c', rfl, ha, hac, hc'⟩ := hoa.arg
  obtain ⟨B', d', rfl, hb, hbc, hd'⟩ := hob.arg
  go_wp2_with fail
  refine (sum_any T A' B' c' d' a b w2 ha hb (by omega) (by omega)).mono ?_
  rintro e w3 ⟨vs, rfl, hos, hb3⟩
  have z3 := hb3.size
  have hc3 : Below w.heap.size w w3 := Below.trans hc2 (hb3.mono (Below.size hc2))
  replace ha := ha.belowMore hb3 z3
  replace hb := hb.belowMore hb3 z3
  rw [HB.out]
  obtain ⟨C', e', rfl, hs, hsc, hse'⟩ := hos.arg
  go_wp2_with fail
  refine (hpx _).mono ?_
  rintro e w' ⟨rfl, rfl⟩
  generalize sumI T a b = S at *
  go_wp2_with fail
  go_loopg [14, 15] T (fun g s14 s15 wr => ∃ d : Nat, d ≤ T ∧ g = T - d ∧ s15 = .int .i64 d ∧ s14 = .bool (someB T a b x d) ∧ Below w3.heap.size w3 wr)
  case atStart => exact ⟨0, by omega, by omega, rfl, rfl, Below.refl _ _⟩
  case round =>
    obtain ⟨d, hd, hg, rfl, rfl, hbr⟩ := hrel
    have hz := hbr.size
    by_cases hlt : d < T
    · have q1 := fun W (h : Below w3.heap.size w3 W) => hasPub_any T A' c' a d W (ha.belowMore h h.size) (by omega) (by omega) (by omega)
      have q2 := fun W (h : Below w3.heap.size w3 W) => hasPub_any T B' d' b (x - d) W (hb.belowMore h h.size) (by omega) (by omega) (by omega)
      have HS := Lib.hid (show someB T a b x (d + 1) = (someB T a b x d || (hasL T a d && hasL T b (x - d))) from rfl)
      cases e1 : someB T a b x d with
      | true =>
        rw [e1] at HS
        go_wp2_with fail
        go_roundg (T - (d + 1))
        case measure => omega
        case rel => exact ⟨d + 1, by omega, rfl, by go_num, by rw [HS.out]; rfl, hbr⟩
      | false =>
        rw [e1] at HS
        cases e2 : hasL T a d with
        | false =>
          rw [e2] at HS q1
          go_wp2_with fail
          refine (q1 _ hbr).mono ?_
          rintro e w5 ⟨rfl, hb5⟩
          go_wp2_with fail
          go_roundg (T - (d + 1))
          case measure => omega
          case rel => exact ⟨d + 1, by omega, rfl, by go_num, by rw [HS.out]; rfl, hbr.trans (hb5.mono hz)⟩
        | true =>
          rw [e2] at HS q1
          go_wp2_with fail
          refine (q1 _ hbr).mono ?_
          rintro e w5 ⟨rfl, hb5⟩
          have hbr5 := hbr.trans (hb5.mono hz)
          go_wp2_with fail
          refine (q2 _ hbr5).mono ?_
          rintro e w6 ⟨rfl, hb6⟩
          go_wp2_with fail
          go_roundg (T - (d + 1))
          case measure => omega
          case rel => exact ⟨d + 1, by omega, rfl, by go_num, by rw [HS.out]; simp, hbr5.trans (hb6.mono hbr5.size)⟩
    · obtain rfl : d = T := by omega
      rw [← HM.out]
      go_wp2_with fail
      refine (awake2_any wr).mono ?_
      rintro e w5 ⟨rfl, hb5⟩
      have hbr5 := hbr.trans (hb5.mono hz)
      go_wp2_with fail
      refine (hasPub_any d C' e' S x w5 (hs.belowMore hbr5 hbr5.size) (by omega) (by omega) (by omega)).mono ?_
      rintro e w6 ⟨rfl, hb6⟩
      have hbe : (hasL d S x == hasL d S x) = true := by simp
      go_wp2_with fail
      go_ret
      exact ⟨ret_bool (by simp), hc3.trans ((hbr5.trans (hb6.mono hbr5.size)).mono hc3.size)⟩

end Go.Proofs.Ytabcbkgnhdijpaa
