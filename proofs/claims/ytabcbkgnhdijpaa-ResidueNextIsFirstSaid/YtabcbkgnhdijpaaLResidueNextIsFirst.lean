/-
  The walk of ResidueNextIsFirst: it returns true.
-/
import Derived.Test.YtabcbkgnhdijpaaAwake
import Derived.Test.YtabcbkgnhdijpaaSet
import Derived.Test.YtabcbkgnhdijpaaQ
set_option linter.unusedVariables false
set_option linter.unusedSimpArgs false
namespace Go.Proofs.Ytabcbkgnhdijpaa
open Go.RowKit RP

set_option maxHeartbeats 2000000 in
theorem walkResidueNextIsFirst (t : Int) (A1 : Option Addr) (c1 : Nat) (l : List Int) (x : Int) (w : World) (ht : R64 t) (hl : ArgI w A1 l) (hx : R64 x) :
    Calls Try.prog 5 #[.int .i64 t, .slice A1 l.length c1, .int .i64 x] w fun e w' => e = .returned (.bool true) ∧ Below w.heap.size w w' := by
  obtain ⟨t1, t2⟩ := ht
  have hp := perI_range t
  have hper := fun W => period_any t W t1 t2
  generalize perI t = p at *
  obtain ⟨hp1, hp2⟩ := hp
  obtain ⟨T, rfl⟩ := Int.eq_ofNat_of_zero_le (show 0 ≤ p by omega)
  have hset := set_any T A1 c1 l w hl (by omega) (by omega)
  have hk := pickI_range x (3 * T) (by omega)
  have hpick := fun W => pick_any x (3 * T) W (by omega) (by omega)
  generalize pickI x (3 * T) = y at *
  obtain ⟨hk1, hk2⟩ := hk
  go_enter Try.func5, Try.ntmps5
  go_wp2_with fail
  refine (hper _).mono ?_
  rintro e w' ⟨rfl, rfl⟩
  go_wp2_with fail
  refine hset.mono ?_
  rintro e w1 ⟨v, q, rfl, ho, hv, hb1⟩
  have HV := Lib.hid (show validL T q = true by simp [validL, inRange, hv]; omega)
  clear hv
  obtain ⟨A2, c2, rfl⟩ := ho.form
  have z1 := hb1.size
  have m := ho.maxLen
  simp only [maxLen] at m
  have hq := ho.lst encS_len
  go_wp2_with fail
  refine (hpick _).mono ?_
  rintro e w' ⟨rfl, rfl⟩
  go_wp2_with fail
  refine (nextPub_any T A2 c2 q (y - T) w1 hq m (by omega) (by omega)).mono ?_
  rintro e w2 ⟨d, ok, rfl, hs1, hb2⟩
  have z2 := hb2.size
  have hs := hs1
  unfold NextSpec at hs
  rw [if_pos HV.out] at hs
  clear hs1
  rcases hs with ⟨rfl, d0, d1, dm, dn⟩ | ⟨rfl, rfl, rfl⟩
  · have HM := Lib.hid dm
    have HN := Lib.hid dn
    clear dm dn
    go_wp2_with fail
    go_loopg [11] d.toNat (fun g s11 wr => ∃ k : Nat, (k : Int) ≤ d ∧ g = (d - k).toNat ∧ s11 = .int .i64 k ∧ Below w1.heap.size w1 wr)
    case atStart => exact ⟨0, by omega, by omega, rfl, hb2⟩
    case round =>
      obtain ⟨k, hk, hg, rfl, hb⟩ := hrel
      have zr := hb.size
      by_cases hlt : (k : Int) < d
      · have hlt2 : (k : Int) < T := by omega
        have hh := hasPub_any T A2 c2 q (y - T + k) wr (hq.belowMore hb zr) m (by omega) (by omega)
        rw [show hasL T q (y - T + k) = false by rw [hasL, HN.out k (by omega) hlt, Bool.and_false]] at hh
        go_wp2_with (go_at_call 25; refine hh.mono ?_; rintro e w3 ⟨rfl, hb3⟩)
        go_roundg (d - ((k + 1 : Nat) : Int)).toNat
        case measure => omega
        case rel => exact ⟨k + 1, by omega, rfl, by go_num, hb.trans (hb3.mono (by omega))⟩
      · obtain rfl : d = (k : Int) := by omega
        go_wp2_with fail
        refine (awake2_any _).mono ?_
        rintro e w3 ⟨rfl, hb3⟩
        have z3 := hb3.size
        have hb3' := hb.trans (hb3.mono zr)
        have hh := hasPub_any T A2 c2 q (y - T + k) w3 (hq.belowMore hb3' (by omega)) m (by omega) (by omega)
        rw [show hasL T q (y - T + k) = true by rw [hasL, HV.out, HM.out]; rfl] at hh
        go_wp2_with (go_at_call 25; refine hh.mono ?_; rintro e w4 ⟨rfl, hb4⟩)
        go_ret
        exact ⟨rfl, hb1.trans ((hb3'.trans (hb4.mono (by omega))).mono z1)⟩
  · have hbe : ((([] : List Sp).length : Int) == 0) = true := by simp
    go_wp2_with fail
    refine (awake2_any _).mono ?_
    rintro e w3 ⟨rfl, hb3⟩
    go_wp2_with fail
    go_ret
    exact ⟨rfl, hb1.trans ((hb2.trans (hb3.mono z2)).mono z1)⟩

end Go.Proofs.Ytabcbkgnhdijpaa
