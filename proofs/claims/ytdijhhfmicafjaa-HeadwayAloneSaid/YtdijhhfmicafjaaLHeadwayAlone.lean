/-
  The walk of HeadwayAlone: it returns true.
-/
import Derived.Test.YtdijhhfmicafjaaLeastW
set_option linter.unusedVariables false
set_option linter.unusedSimpArgs false
namespace Go.Proofs.Ytdijhhfmicafjaa
open Go.RowKit RP

/-- No period from 1 to n in which the movement meets itself. -/
def freeTo (a : List Occ) (t : Int) : Nat → Bool
  | 0 => true
  | n + 1 => freeTo a t n && !togB a a (((n : Int) + 1) * t)
theorem freeTo_iff {a : List Occ} {t : Int} : ∀ {n : Nat}, freeTo a t n = true ↔ ∀ k : Nat, 1 ≤ k → k ≤ n → togB a a ((k : Int) * t) = false
  | 0 => ⟨fun _ k h1 h2 => by omega, fun _ => rfl⟩
  | n + 1 => by
    rw [freeTo, Bool.and_eq_true, freeTo_iff (n := n)]
    constructor
    · rintro ⟨h1, h2⟩ k hk1 hk2
      by_cases e : k = n + 1
      · subst e; simpa using h2
      · exact h1 k hk1 (by omega)
    · intro h
      exact ⟨fun k h1 h2 => h k h1 (by omega), by have := h (n + 1) (by omega) (by omega); simpa using this⟩

theorem alone_free {a : List Occ} {t : Int} (ha : MadeO 6 a) (t1 : 1 ≤ t) (t2 : t ≤ 60) {n : Nat} (hn : 60 < ((n : Int) + 1) * t) : aloneL t a = freeTo a t n := by
  have hr : inRange t = true := by simp [inRange]; omega
  rw [Bool.eq_iff_iff, freeTo_iff, aloneL, hr, ha.1]
  simp only [Bool.true_and, aloneB, List.all_eq_true, decide_eq_true_eq]
  constructor
  · intro h k k1 k2
    cases ht : togB a a ((k : Int) * t) with
    | false => rfl
    | true =>
      obtain ⟨q, hq, h2, h3⟩ := (tog_pairs ha.1).1 ht
      obtain ⟨m1, m2, m3⟩ := (pairs_iff ha.1).1 hq
      have e1 := findO_of ha.1 _ m1
      have e2 := findO_of ha.1 _ m2
      rw [m3] at e1
      have e : q.1 = q.2 := by rw [e1] at e2; injection e2
      rw [e] at h3
      have hd := h _ m2
      have : t ≤ (k : Int) * t := by
        have := Int.mul_le_mul_of_nonneg_right (show (1 : Int) ≤ k by omega) (show 0 ≤ t by omega)
        omega
      omega
  · intro h o ho
    have hb := ha.2.2 o ho
    by_cases hle : o.2.2 - o.2.1 ≤ t
    · exact hle
    · have hn1 : 1 ≤ n := by
        rcases Nat.eq_zero_or_pos n with h0 | h0
        · subst h0; simp at hn; omega
        · exact h0
      have := h 1 (by omega) hn1
      have ht : togB a a (((1 : Nat) : Int) * t) = true := tog_iff.2 ⟨o, ho, o, ho, rfl, by simp; omega, by simp; omega⟩
      rw [ht] at this
      cases this

theorem mul_bound {k t : Int} (hk : 0 ≤ k) (hk2 : k ≤ 61) (h1 : 1 ≤ t) (h2 : t ≤ 60) : 0 ≤ k * t ∧ k * t ≤ 3660 ∧ k ≤ k * t := by
  have a1 := Int.mul_le_mul hk2 h2 (by omega) (by omega)
  have a2 := Int.mul_nonneg hk (show 0 ≤ t by omega)
  have a3 := Int.mul_le_mul_of_nonneg_left h1 hk
  omega

set_option maxHeartbeats 4000000 in
theorem walkHeadwayAlone (t : Int) (A1 : Option Addr) (c1 : Nat) (l : List Int) (w : World) (ht : R64 t) (hl : ArgI w A1 c1 l) :
    Calls Try.prog 4 #[.int .i64 t, .slice A1 l.length c1] w fun e w' => e = .returned (.bool true) ∧ Below w.heap.size w w' := by
  have hp := pickI_range t 60 (by omega)
  have hpick := fun W => pick_any t 60 W (by omega) (by omega)
  generalize pickI t 60 = p at *
  obtain ⟨p1, p2⟩ := hp
  go_enter Try.func4, Try.ntmps4
  go_wp2_with fail
  refine (hpick _).mono ?_
  rintro e w' ⟨rfl, rfl⟩
  clear hpick
  go_wp2_with fail
  refine (occupations_any A1 c1 l w hl).mono ?_
  rintro e w1 ⟨va, a, rfl, hoa, hma, hb1⟩
  have z1 := hb1.size
  have hc1 : Below w.heap.size w w1 := Below.trans (Below.refl w.heap.size w) (hb1.mono (Below.size (Below.refl w.heap.size w)))
  obtain ⟨A', c', rfl, ha, hac, hc'⟩ := hoa.cut encO_len
  have na := Lib.hid (NearO.of_valid hma.1)
  have HM := Lib.hid hma
  clear hma hoa
  obtain ⟨T, hT⟩ : ∃ T, 1 + p = T := ⟨_, rfl⟩
  have t1 : 1 ≤ T := by omega
  have t2 : T ≤ 60 := by omega
  go_wp2_with fail
  clear hT p1 p2
  go_loopg [6, 7] 61 (fun g s6 s7 wr => ∃ k : Nat, k ≤ 60 ∧ g = 61 - k ∧ s7 = .int .i64 ((k : Int) + 1) ∧ s6 = .bool (freeTo a T k) ∧ Below w1.heap.size w1 wr)
  case atStart => exact ⟨0, by omega, rfl, rfl, rfl, Below.refl _ _⟩
  case round =>
    obtain ⟨k, hk, hg, rfl, rfl, hb⟩ := hrel
    have hz := hb.size
    have hmb := mul_bound (k := (k : Int) + 1) (by omega) (by omega) t1 t2
    by_cases hle : ((k : Int) + 1) * T ≤ 60
    · have HS := Lib.hid (show freeTo a T (k + 1) = (freeTo a T k && !togB a a (((k : Int) + 1) * T)) from rfl)
      cases hf : freeTo a T k with
      | false =>
        rw [hf] at HS
        go_wp2_with fail
        go_roundg (61 - (k + 1))
        case measure => omega
        case rel => exact ⟨k + 1, by omega, rfl, by go_num, by rw [HS.out]; rfl, hb⟩
      | true =>
        rw [hf] at HS
        have htg := together_any A' A' c' c' a a (((k : Int) + 1) * T) wr (ha.belowMore hb hz) (ha.belowMore hb hz) (by omega) (by omega) na.out na.out (by omega) (by omega)
        generalize togB a a (((k : Int) + 1) * T) = tg at *
        cases tg
        all_goals
          go_wp2_with (go_at_call 15; refine htg.mono ?_; rintro e w2 ⟨rfl, hb2⟩)
          go_roundg (61 - (k + 1))
          case measure => omega
          case rel => exact ⟨k + 1, by omega, rfl, by go_num, by rw [HS.out]; rfl, hb.trans (hb2.mono hz)⟩
    · have HS := Lib.hid (alone_free HM.out t1 t2 (n := k) (by omega))
      have hc0 := hc1.trans (hb.mono z1)
      generalize freeTo a T k = fr at *
      go_wp2_with fail
      refine (awake9_any wr).mono ?_
      rintro e w2 ⟨rfl, hb2⟩
      have z2 := hb2.size
      have hal := alone_any T A' c' a w2 ((ha.belowMore hb hz).belowMore hb2 z2) (by omega)
      rw [HS.out] at hal
      cases fr
      all_goals
        go_wp2_with (go_at_call 17; refine hal.mono ?_; rintro e w3 ⟨rfl, hb3⟩)
        go_ret
        exact ⟨rfl, (hc0.trans (hb2.mono (by omega))).trans (hb3.mono (by omega))⟩

end Go.Proofs.Ytdijhhfmicafjaa
