/-
  Contract of keep.Set: it returns a valid set of residues.
-/
import Derived.Test.YtabcbkgnhdijpaaSource
import Derived.Test.YtabcbkgnhdijpaaRefUnion
set_option linter.unusedVariables false
set_option linter.unusedSimpArgs false
namespace Go.Proofs.Ytabcbkgnhdijpaa
open Go.RowKit RP

theorem unionL_valid {t : Nat} {a b : List Sp} : validFrom t (-1) (unionL t a b) = true := by
  unfold unionL
  split
  · exact runs_valid _ _
  · rfl

set_option maxHeartbeats 2000000 in
theorem set_any (T : Nat) (A : Option Addr) (c : Nat) (l : List Int) (w : World) (h : ArgI w A c l) (t1 : 1 ≤ T) (t2 : T ≤ 7200) :
    Calls Try.prog 23 #[.int .i64 T, .slice A l.length c] w fun e w' =>
      ∃ v s, e = .returned v ∧ OwnS w' w.heap.size v s ∧ validFrom T (-1) s = true ∧ Below w.heap.size w w' := by
  go_enter Try.func23, Try.ntmps23
  go_wp2_with fail
  refine (from_any A c l w h).mono ?_
  rintro e w1 ⟨rfl, hs1, hb1⟩
  have z1 := hb1.size
  have l1 := hs1.lt
  go_wp2_with fail
  refine (next_any w.heap.size A c l 0 5 w1 hs1 (by omega) (by omega)).mono ?_
  rintro e w2 ⟨n, j, hn0, hn1, rfl, hs2, hg2⟩
  have hb2 : Below w.heap.size w1 w2 := below_of_grownBy hg2 z1 (fun k hk => by injection hk with hk; omega)
  have z2 := hb2.size
  obtain ⟨N, rfl⟩ := Int.eq_ofNat_of_zero_le hn0
  have hbw := hb1.trans hb2
  clear hb1 hb2 hg2 hs1
  go_wp2_with fail
  go_loopg [6, 7, 8, 9] N (fun g s6 s7 s8 s9 wr => ∃ (k : Nat) (s : List Sp) (j : Nat), k ≤ N ∧ g = k ∧ s7 = .int .i64 k ∧ OwnS wr w.heap.size s6 s ∧ (∀ q, s6.ownBlock = some q → w.heap.size < q) ∧ validFrom T (-1) s = true ∧ Src wr w.heap.size A c l j ∧ Below w.heap.size w wr)
  case atStart => exact ⟨N, [], j, by omega, rfl, rfl, Own.nil _ _ _ _ _, by simp [Value.ownBlock], rfl, hs2, hbw⟩
  case round =>
    obtain ⟨k, s, j', hk, hg, rfl, ho, hob, hv, hs, hb⟩ := hrel
    have HV := Lib.hid hv
    clear hv
    by_cases h0 : 0 < k
    · go_wp2_with fail
      have zr := hb.size
      have lr := hs.lt
      refine (next_any w.heap.size A c l j' T wr hs (by omega) (by omega)).mono ?_
      rintro e w3 ⟨r1, j3, hr0, hr1, rfl, hs3, hg3⟩
      have ho3 := ho.kept hg3 (.inr (fun e => by have := hob _ e; omega))
      have z3 := hg3.size
      have hb3 : Below w.heap.size w w3 := hb.grown hg3 zr (fun k hk => by injection hk with hk; omega)
      go_wp2_with fail
      refine (next_any w.heap.size A c l j3 (1 + (T : Int) / 2) w3 hs3 (by omega) (by omega)).mono ?_
      rintro e w4 ⟨r2, j4, hq0, hq1, rfl, hs4, hg4⟩
      have ho4 := ho3.kept hg4 (.inr (fun e => by have := hob _ e; omega))
      have z4 := hg4.size
      have hb4 : Below w.heap.size w w4 := hb3.grown hg4 (by omega) (fun k hk => by injection hk with hk; omega)
      go_wp2_with fail
      refine (refMake_any T r1 r2 w4 (by omega) (by omega) (by omega)).mono ?_
      rintro e w5 ⟨v5, rfl, ho5, hb5⟩
      have ho4' := ho4.below' hb5
      have z5 := hb5.size
      obtain ⟨A6, c6, rfl⟩ := ho4'.form
      obtain ⟨A5, c5, rfl⟩ := ho5.form
      have m4 := ho4'.maxLen
      have m5 := ho5.maxLen
      simp only [maxLen] at m4 m5
      go_wp2_with fail
      refine (refUnion_any T A6 A5 c6 c5 s (makeL T r1 r2) w5 (ho4'.lst encS_len) (ho5.lst encS_len) t1 t2 (by omega) (by omega)).mono ?_
      rintro e w6 ⟨v6, rfl, ho6, hb6⟩
      have HU := Lib.hid (unionL_valid (t := T) (a := s) (b := makeL T r1 r2))
      have z6 := hb6.size
      go_wp2_with fail
      obtain ⟨K, rfl⟩ : ∃ K, k = K + 1 := ⟨k - 1, by omega⟩
      go_roundg K
      case measure => omega
      case rel =>
        refine ⟨K, _, j4, by omega, rfl, by go_num, ho6.rebase (by omega), fun q hq => ?_, HU.out, hs4.belowAt (hb5.trans (hb6.mono z5)) (by have := hs4.lt; omega), hb4.trans ((hb5.mono (by omega)).trans (hb6.mono (by omega)))⟩
        have := (World.ownsRow.lt ho6 q hq).1
        have := hs4.lt
        omega
    · obtain rfl : k = 0 := by omega
      go_wp2_with fail
      go_ret
      exact ⟨_, s, rfl, ho, HV.out, hb⟩

end Go.Proofs.Ytabcbkgnhdijpaa
