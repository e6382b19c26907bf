/-
  The walk of HeadwayLeastSeparates: it returns true.
-/
import Derived.Test.YtdijhhfmicafjaaLeastW
set_option linter.unusedVariables false
set_option linter.unusedSimpArgs false
namespace Go.Proofs.Ytdijhhfmicafjaa
open Go.RowKit RP

theorem belA9 (w : World) (o : Obj) : Below w.heap.size w (w.alloc o) := (Below.refl _ _).alloc (Nat.le_refl _) _

theorem least_none {a b : List Occ} (hb : validO (-1) b = true) (h : leastO (pairsO a b) = (0, false)) (d : Int) : togB a b d = false := by
  cases ht : togB a b d with
  | false => rfl
  | true =>
    obtain ⟨q, hq, _⟩ := (tog_pairs hb).1 ht
    rcases least_spec (pairsO a b) with ⟨h0, _⟩ | ⟨h1, _⟩
    · rw [h0] at hq; simp at hq
    · rw [h] at h1; cases h1
theorem least_false {a b : List Occ} (h : (leastO (pairsO a b)).2 = false) : leastO (pairsO a b) = (0, false) := by
  rcases least_spec (pairsO a b) with ⟨_, h0⟩ | ⟨h1, _⟩
  · exact h0
  · rw [h] at h1; cases h1
theorem least_enough {a b : List Occ} (hb : validO (-1) b = true) (h : (leastO (pairsO a b)).2 = true) {d : Int} (hd : (leastO (pairsO a b)).1 ≤ d) : togB a b d = false := by
  cases ht : togB a b d with
  | false => rfl
  | true =>
    obtain ⟨q, hq, h2, h3⟩ := (tog_pairs hb).1 ht
    rcases least_spec (pairsO a b) with ⟨h0, _⟩ | ⟨_, _, h1⟩
    · rw [h0] at hq; simp at hq
    · have := h1 q hq; omega
theorem least_not_less {a b : List Occ} (ha : validO (-1) a = true) (hb : validO (-1) b = true) (h : (leastO (pairsO a b)).2 = true) : togB a b ((leastO (pairsO a b)).1 - 1) = true := by
  rcases least_spec (pairsO a b) with ⟨_, h0⟩ | ⟨_, ⟨q, hq, h1⟩, _⟩
  · rw [h0] at h; cases h
  · obtain ⟨m1, m2, _⟩ := (pairs_iff hb).1 hq
    have v1 := validO_lt ha _ m1
    have v2 := validO_lt hb _ m2
    exact (tog_pairs hb).2 ⟨q, hq, by omega, by omega⟩
theorem least_bound {a b : List Occ} (ha : MadeO 6 a) (hb : MadeO 6 b) : -200 ≤ (leastO (pairsO a b)).1 ∧ (leastO (pairsO a b)).1 ≤ 200 := by
  rcases least_spec (pairsO a b) with ⟨_, h0⟩ | ⟨_, ⟨q, hq, h1⟩, _⟩
  · rw [h0]; simp
  · obtain ⟨m1, m2, _⟩ := (pairs_iff hb.1).1 hq
    have v1 := ha.2.2 _ m1
    have v2 := hb.2.2 _ m2
    omega

set_option maxHeartbeats 4000000 in
theorem walkHeadwayLeastSeparates (A1 : Option Addr) (c1 : Nat) (l : List Int) (A2 : Option Addr) (c2 : Nat) (m : List Int) (more : Int) (w : World) (hl : ArgI w A1 c1 l) (hm : ArgI w A2 c2 m) (hmore : R64 more) :
    Calls Try.prog 3 #[.slice A1 l.length c1, .slice A2 m.length c2, .int .i64 more] w fun e w' => e = .returned (.bool true) ∧ Below w.heap.size w w' := by
  have hp := pickI_range more 200 (by omega)
  have hpick := fun W => pick_any more 200 W (by omega) (by omega)
  generalize pickI more 200 = p at *
  obtain ⟨p1, p2⟩ := hp
  go_enter Try.func3, Try.ntmps3
  go_wp2_with fail
  refine (occupations_any A1 c1 l w hl).mono ?_
  rintro e w1 ⟨va, a, rfl, hoa, hma, hb1⟩
  have z1 := hb1.size
  have hc1 : Below w.heap.size w w1 := Below.trans (Below.refl w.heap.size w) (hb1.mono (Below.size (Below.refl w.heap.size w)))
  replace hm := hm.below hb1
  go_wp2_with fail
  refine (occupations_any A2 c2 m w1 hm).mono ?_
  rintro e w2 ⟨vb, b, rfl, hob, hmb, hb2⟩
  have z2 := hb2.size
  have hc2 : Below w.heap.size w w2 := Below.trans hc1 (hb2.mono (Below.size hc1))
  replace hoa := hoa.below' hb2
  obtain ⟨A', c', rfl, ha, hac, hc'⟩ := hoa.cut encO_len
  obtain ⟨B', d', rfl, hb, hbc, hd'⟩ := hob.cut encO_len
  have na := Lib.hid (NearO.of_valid hma.1)
  have nb := Lib.hid (NearO.of_valid hmb.1)
  have hlb := least_bound hma hmb
  have HL := Lib.hid (show leastL a b = leastO (pairsO a b) by simp [leastL, hma.1, hmb.1])
  have H1 := Lib.hid (fun h => least_none (a := a) (b := b) hmb.1 (least_false h))
  have H1' := Lib.hid (fun h => least_false (a := a) (b := b) h)
  have H2 := Lib.hid (fun h => fun {d : Int} => least_enough (a := a) (b := b) hmb.1 h (d := d))
  have H3 := Lib.hid (fun h => least_not_less (a := a) (b := b) hma.1 hmb.1 h)
  clear hma hmb hm
  clear hoa hob
  go_wp2_with fail
  refine (least_any A' B' c' d' a b w2 ha hb hac hc' hbc hd').mono ?_
  rintro e w3 ⟨rfl, hb3⟩
  have z3 := hb3.size
  have hc3 : Below w.heap.size w w3 := Below.trans hc2 (hb3.mono (Below.size hc2))
  replace ha := ha.belowMore hb3 z3
  replace hb := hb.belowMore hb3 z3
  rw [HL.out]
  generalize leastO (pairsO a b) = s at *
  obtain ⟨h, ok⟩ := s
  simp only at hlb H1 H1' H2 H3
  obtain ⟨hlb1, hlb2⟩ := hlb
  cases ok with
  | false =>
    obtain rfl : h = 0 := by have := H1'.out rfl; injection this
    go_wp2_with fail
    refine (awake9_any w3).mono ?_
    rintro e w4 ⟨rfl, hb4⟩
    have z4 := hb4.size
    have hc4 : Below w.heap.size w w4 := Below.trans hc3 (hb4.mono (Below.size hc3))
    replace ha := ha.belowMore hb4 z4
    replace hb := hb.belowMore hb4 z4
    go_wp2_with fail
    refine (hpick _).mono ?_
    rintro e w' ⟨rfl, rfl⟩
    have ht := together_any A' B' c' d' a b (p - 100) w4 ha hb (by omega) (by omega) na.out nb.out (by omega) (by omega)
    rw [H1.out (by trivial)] at ht
    go_wp2_with fail
    refine (ht).mono ?_
    rintro e w5 ⟨rfl, hb5⟩
    have z5 := hb5.size
    have hc5 : Below w.heap.size w w5 := Below.trans hc4 (hb5.mono (Below.size hc4))
    replace ha := ha.belowMore hb5 z5
    replace hb := hb.belowMore hb5 z5
    go_wp2_with fail
    go_ret
    exact ⟨rfl, hc5⟩
  | true =>
    go_wp2_with fail
    refine (awake9_any w3).mono ?_
    rintro e w4 ⟨rfl, hb4⟩
    have z4 := hb4.size
    have hc4 : Below w.heap.size w w4 := Below.trans hc3 (hb4.mono (Below.size hc3))
    replace ha := ha.belowMore hb4 z4
    replace hb := hb.belowMore hb4 z4
    go_wp2_with fail
    refine (hpick _).mono ?_
    rintro e w' ⟨rfl, rfl⟩
    have ht := together_any A' B' c' d' a b (h + p) w4 ha hb (by omega) (by omega) na.out nb.out (by omega) (by omega)
    rw [H2.out (by trivial) (by omega)] at ht
    go_wp2_with fail
    refine (ht).mono ?_
    rintro e w5 ⟨rfl, hb5⟩
    have z5 := hb5.size
    have hc5 : Below w.heap.size w w5 := Below.trans hc4 (hb5.mono (Below.size hc4))
    replace ha := ha.belowMore hb5 z5
    replace hb := hb.belowMore hb5 z5
    clear ht
    have ht := together_any A' B' c' d' a b (h - 1) w5 ha hb (by omega) (by omega) na.out nb.out (by omega) (by omega)
    rw [H3.out (by trivial)] at ht
    go_wp2_with fail
    refine (ht).mono ?_
    rintro e w6 ⟨rfl, hb6⟩
    have z6 := hb6.size
    have hc6 : Below w.heap.size w w6 := Below.trans hc5 (hb6.mono (Below.size hc5))
    replace ha := ha.belowMore hb6 z6
    replace hb := hb.belowMore hb6 z6
    go_wp2_with fail
    go_ret
    exact ⟨rfl, hc6⟩

end Go.Proofs.Ytdijhhfmicafjaa
