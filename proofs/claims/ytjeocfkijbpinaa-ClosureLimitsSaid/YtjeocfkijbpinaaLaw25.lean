/-
  The walks of ClosureExample, ClosureNext, ClosureMade, ClosureEarliest: they return true.
-/
import Derived.Test.YtjeocfkijbpinaaSameC
set_option linter.unusedVariables false
set_option linter.unusedSimpArgs false
namespace Go.Proofs.Ytjeocfkijbpinaa
open Go.RowKit RP

theorem MadeC.rng {l : List Clo} (h : MadeC l) : ∀ x ∈ l, R64 x.1 ∧ R64 x.2.1 ∧ R64 x.2.2 := fun x hx => by
  have := h.2 x hx; unfold R64; omega
theorem MadeO.rng {k : Nat} {l : List Occ} (h : MadeO k l) (hk : k ≤ 64) : ∀ x ∈ l, R64 x.1 := fun x hx => by
  have := h.2.2 x hx; have := (validO_lt h.1 x hx).1; unfold R64; omega

theorem exE_earl {d : Int} {ok : Bool} (h : EarlC exC [(3, 0, 5)] 10 30 d ok) : d = 15 ∧ ok = true := by
  refine h.unique (.inl ⟨rfl, by omega, by omega, by omega, by decide, by decide, fun e h1 h2 => ?_⟩)
  have : coverC exC 3 (10 + e) = true := (exC_cover _ _).2 ⟨rfl, by omega, by omega⟩
  simp [entersC, this]

set_option maxHeartbeats 2000000 in
theorem walkClosureExample (w : World) : Calls Try.prog 7 #[] w fun e w' => e = .returned (.bool true) ∧ Below w.heap.size w w' := by
  have hl : Lst encO 3 (w.alloc (.cells #[.int .i64 3, .int .i64 10, .int .i64 20, .int .i64 3, .int .i64 20, .int .i64 25] 27)) (w.alloc (.cells #[.int .i64 3, .int .i64 10, .int .i64 20, .int .i64 3, .int .i64 20, .int .i64 25] 27)).heap.size (some ⟨w.heap.size, 0, none⟩) exC :=
    (Own.lit w 27 w.heap.size _ exC 2 rfl encO_len rfl (Nat.le_refl _) (by simp [exC, maxLen])).lst encO_len
  have hb0 := belA w (.cells #[.int .i64 3, .int .i64 10, .int .i64 20, .int .i64 3, .int .i64 20, .int .i64 25] 27)
  have HE1 := Lib.hid (show entersC exC [(3, 0, 5)] 9 = true by decide)
  have HE2 := Lib.hid (show entersC exC [(3, 0, 5)] 10 = false by decide)
  have hro : ∀ x ∈ ([(3, 0, 5)] : List Occ), R64 x.1 := by intro x hx; simp at hx; subst hx; unfold R64; simp only; omega
  have HRO := Lib.hid hro
  clear hro
  go_enter Try.func7, Try.ntmps7
  go_upto_region 2 with fail
  generalize w.alloc (.cells #[.int .i64 3, .int .i64 10, .int .i64 20, .int .i64 3, .int .i64 20, .int .i64 25] 27) = W at *
  have z0 := hb0.size
  generalize hg0 : w.heap.size = g0 at *
  have HG0 := Lib.hid hg0
  clear hg0
  have hb1 := belA W (.cells #[.int .i64 3, .int .i64 0, .int .i64 5] 39)
  have hl1 := hl.belowMore hb1 hb1.size
  have ho1 : Lst encO 3 (W.alloc (.cells #[.int .i64 3, .int .i64 0, .int .i64 5] 39)) (W.alloc (.cells #[.int .i64 3, .int .i64 0, .int .i64 5] 39)).heap.size (some ⟨W.heap.size, 0, none⟩) [(3, 0, 5)] :=
    (Own.lit (enc := encO) W 39 W.heap.size _ [(3, 0, 5)] 1 rfl encO_len rfl (Nat.le_refl _) (by simp [maxLen])).lst encO_len
  clear hl
  go_upto_region 3 with fail
  have hB2 := hb0.trans (hb1.mono z0)
  have zz1 : g0 ≤ (W.alloc (.cells #[.int .i64 3, .int .i64 0, .int .i64 5] 39)).heap.size := by simp; omega
  generalize W.alloc (.cells #[.int .i64 3, .int .i64 0, .int .i64 5] 39) = W1 at *
  generalize W.heap.size = g1 at *
  clear hb1 hb0
  go_wp2_with fail
  refine (earliest_any (some ⟨g0, 0, none⟩) (some ⟨g1, 0, none⟩) 2 1 exC [(3, 0, 5)] 10 30 W1 hl1 ho1 (by simp [exC]) (by simp) exC_rng HRO.out).mono ?_
  rintro e w1 ⟨d, ok, rfl, he, hb1⟩
  have z1 := hb1.size
  have hc1 : Below W1.heap.size W1 w1 := Below.trans (Below.refl W1.heap.size W1) (hb1.mono (Below.size (Below.refl W1.heap.size W1)))
  replace hl1 := hl1.belowMore hb1 z1
  replace ho1 := ho1.belowMore hb1 z1
  obtain ⟨rfl, rfl⟩ := exE_earl he
  clear he
  go_wp2_with fail
  refine (awake25_any w1).mono ?_
  rintro e w2 ⟨rfl, hb2⟩
  have z2 := hb2.size
  have hc2 : Below W1.heap.size W1 w2 := Below.trans hc1 (hb2.mono (Below.size hc1))
  replace hl1 := hl1.belowMore hb2 z2
  replace ho1 := ho1.belowMore hb2 z2
  go_wp2_with fail
  refine (enters_any (some ⟨g0, 0, none⟩) (some ⟨g1, 0, none⟩) 2 1 exC [(3, 0, 5)] 9 w2 hl1 ho1 (by simp [exC]) (by simp) exC_rng HRO.out).mono ?_
  rintro e w3 ⟨rfl, hb3⟩
  have z3 := hb3.size
  have hc3 : Below W1.heap.size W1 w3 := Below.trans hc2 (hb3.mono (Below.size hc2))
  replace hl1 := hl1.belowMore hb3 z3
  replace ho1 := ho1.belowMore hb3 z3
  rw [HE1.out]
  go_wp2_with fail
  refine (enters_any (some ⟨g0, 0, none⟩) (some ⟨g1, 0, none⟩) 2 1 exC [(3, 0, 5)] 10 w3 hl1 ho1 (by simp [exC]) (by simp) exC_rng HRO.out).mono ?_
  rintro e w4 ⟨rfl, hb4⟩
  have z4 := hb4.size
  have hc4 : Below W1.heap.size W1 w4 := Below.trans hc3 (hb4.mono (Below.size hc3))
  replace hl1 := hl1.belowMore hb4 z4
  replace ho1 := ho1.belowMore hb4 z4
  rw [HE2.out]
  go_wp2_with fail
  go_ret
  exact ⟨rfl, by rw [HG0.out]; exact hB2.trans (hc4.mono zz1)⟩

theorem MadeC.next_le {l : List Clo} (h : MadeC l) {r x n : Int} (hx : x < 95) (hn : NextC l r x n) : n ≤ 95 := by
  rcases Int.lt_or_le 95 n with q | q
  · exfalso
    have := hn.2.2 95 (by omega) q
    obtain ⟨c, hc, c1, c2, c3⟩ := cover_iff.1 this
    have := h.2 c hc
    omega
  · exact q

set_option maxHeartbeats 4000000 in
theorem walkClosureNext (A : Option Addr) (c : Nat) (l : List Int) (at_ : Int) (w : World) (hl : ArgI w A c l) (hat : R64 at_) :
    Calls Try.prog 5 #[.slice A l.length c, .int .i64 at_] w fun e w' => e = .returned (.bool true) ∧ Below w.heap.size w w' := by
  have hp := pickI_range at_ 95 (by omega)
  have hpick := fun W => pick_any at_ 95 W (by omega) (by omega)
  generalize pickI at_ 95 = x at *
  obtain ⟨p1, p2⟩ := hp
  have HP := Lib.hid hpick
  clear hpick
  go_enter Try.func5, Try.ntmps5
  go_wp2_with fail
  refine (closures_any A c l w hl).mono ?_
  rintro e w1 ⟨vc, o, rfl, hoc, hmc, hb1⟩
  have z1 := hb1.size
  have hc1 : Below w.heap.size w w1 := Below.trans (Below.refl w.heap.size w) (hb1.mono (Below.size (Below.refl w.heap.size w)))
  obtain ⟨A1, c1, rfl, hol, _, _⟩ := hoc.cut encO_len
  have HMC := Lib.hid hmc
  have hlen := hmc.1
  clear hoc hmc
  go_wp2_with fail
  refine (HP.out _).mono ?_
  rintro e w' ⟨rfl, rfl⟩
  go_wp2_with fail
  go_loopg [7, 8, 9] 6 (fun g s7 s8 s9 wr => ∃ r : Nat, r ≤ 6 ∧ g = 6 - r ∧ s7 = .int .i64 r ∧ Below w1.heap.size w1 wr)
  case atStart => exact ⟨0, by omega, rfl, rfl, Below.refl _ _⟩
  case round =>
    obtain ⟨r, hr, hg, rfl, hb⟩ := hrel
    have HG := Lib.hid hg
    clear hg
    have hz := hb.size
    by_cases hlt : r < 6
    · have hrd : decide ((r : Int) < 6) = true := by simp; omega
      go_wp2_with fail
      refine (cnext_any A1 c1 o r x wr (hol.belowMore hb hz) (by omega) HMC.out.rng (by unfold R64; omega)).mono ?_
      rintro e w2 ⟨n, rfl, hnx, hb2⟩
      have hb3 := hb.trans (hb2.mono hz)
      have hz3 := hb3.size
      have n1 := hnx.1
      have n2 := HMC.out.next_le p2 hnx
      have hop := open_any A1 c1 o r n w2 (hol.belowMore hb3 hz3) (by omega)
      rw [hnx.2.1] at hop
      have HNX := Lib.hid hnx.2.2
      clear hnx
      have d1 : decide (n < x) = false := by simp; omega
      have d2 : decide ((95 : Int) < n) = false := by simp; omega
      go_wp2_with fail
      refine hop.mono ?_
      rintro e w3 ⟨rfl, hb4⟩
      have hb5 := hb3.trans (hb4.mono hz3)
      clear hop hb4 hb3 hb2 hb
      go_wp2_with fail
      obtain ⟨X, rfl⟩ := Int.eq_ofNat_of_zero_le p1
      obtain ⟨N, rfl⟩ := Int.eq_ofNat_of_zero_le (show 0 ≤ n by omega)
      generalize wr = Wa at *
      go_loopg [9] (N - X) (fun g s9 wr => ∃ s : Nat, X ≤ s ∧ s ≤ N ∧ g = N - s ∧ s9 = .int .i64 s ∧ Below w1.heap.size w1 wr)
      case atStart => exact ⟨X, by omega, by omega, rfl, rfl, hb5⟩
      case round =>
        obtain ⟨s, s1, s2, hg, rfl, hb⟩ := hrel
        have HG2 := Lib.hid hg
        clear hg
        have hz := hb.size
        by_cases hs : s < N
        · have hcv := HNX.out s (by omega) (by omega)
          have h1 := open_any A1 c1 o r s wr (hol.belowMore hb hz) (by omega)
          rw [hcv] at h1
          go_wp2_with fail
          refine h1.mono ?_
          rintro e w4 ⟨rfl, hb6⟩
          have hb7 := hb.trans (hb6.mono hz)
          have hz7 := hb7.size
          have h2 := refOpen_any A1 c1 o r s w4 (hol.belowMore hb7 hz7) (by omega)
          rw [hcv] at h2
          clear h1 hcv
          go_wp2_with fail
          refine h2.mono ?_
          rintro e w5 ⟨rfl, hb8⟩
          clear h2
          have hb9 := hb7.trans (hb8.mono hz7)
          go_wp2_with fail
          go_roundg (N - (s + 1))
          case measure => have := HG2.out; omega
          case rel => exact ⟨s + 1, by omega, by omega, rfl, by go_num, hb9⟩
        · go_wp2_with fail
          go_roundg (6 - (r + 1))
          case measure => have := HG.out; omega
          case rel => exact ⟨r + 1, by omega, rfl, by go_num, hb⟩
    · obtain rfl : r = 6 := by omega
      go_wp2_with fail
      refine (awake25_any wr).mono ?_
      rintro e w9 ⟨rfl, hb9⟩
      go_wp2_with fail
      go_ret
      exact ⟨rfl, hc1.trans ((hb.trans (hb9.mono hz)).mono (Below.size hc1))⟩

end Go.Proofs.Ytjeocfkijbpinaa
