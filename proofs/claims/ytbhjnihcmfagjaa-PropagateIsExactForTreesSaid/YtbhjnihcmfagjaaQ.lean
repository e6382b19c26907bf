/-
  Contracts of length, count, Count, Next and Has of package residue, for valid sets and for arbitrary lists.
-/
import Derived.Test.YtbhjnihcmfagjaaRefQ
set_option linter.unusedVariables false
set_option linter.unusedSimpArgs false
namespace Go.Proofs.Ytbhjnihcmfagjaa
open Go.RowKit RP

set_option maxHeartbeats 400000 in
theorem length_any (f e : Int) (w : World) (h1 : -4611686018427387904 ≤ f) (h2 : f ≤ 4611686018427387904) (h3 : -4611686018427387904 ≤ e) (h4 : e ≤ 4611686018427387903) :
    Calls Try.prog 88 #[.agg #[.int .i64 f, .int .i64 e]] w fun x w' => x = .returned (.int .i64 (e - f)) ∧ Below w.heap.size w w' := by
  go_enter Try.func88, Try.ntmps88
  go_wp2
  go_ret
  exact ⟨rfl, (Below.refl _ _).alloc (Nat.le_refl _) _⟩

set_option maxHeartbeats 1000000 in
theorem count_any (t : Int) (A : Option Addr) (c : Nat) (l : List Sp) (w : World) (hl : Lst encS 2 w w.heap.size A l) (t2 : t ≤ 7200) (hv : validFrom t (-1) l = true) (t1 : -1 ≤ t) :
    Calls Try.prog 84 #[.slice A l.length c] w fun e w' => e = .returned (.int .i64 (total l)) ∧ Below w.heap.size w w' := by
  have hln := valid_length hv t1
  have HP := Lib.hid hv
  clear hv
  go_enter Try.func84, Try.ntmps84
  go_wp2
  go_loopg [3, 8] l.length (fun g s3 s8 wr => ∃ k : Nat, k ≤ l.length ∧ g = l.length - k ∧ s8 = .int .i64 k ∧ s3 = .int .i64 (total (l.take k)) ∧ Below w.heap.size w wr)
  case atStart => exact ⟨0, by omega, by omega, rfl, rfl, Below.refl _ _⟩
  case round =>
    obtain ⟨k, hk, hg, rfl, rfl, hb⟩ := hrel
    have hb1 := total_bound (validFrom_take k HP.out) (by omega)
    by_cases hlt : k < l.length
    · obtain ⟨b, off, rfl, hbw, c0, c1⟩ := (hl.below hb).sp k hlt
      have hb2 := total_bound (validFrom_take (k + 1) HP.out) (by omega)
      have HT := Lib.hid (show total (l.take (k + 1)) = total (l.take k) + (l[k].2 - l[k].1) by rw [take_snoc l k hlt, total_snoc])
      obtain ⟨v1, v2, v3⟩ : -1 ≤ l[k].1 ∧ l[k].1 < l[k].2 ∧ l[k].2 ≤ t := by
        have m1 : mem l l[k].1 = true := mem_of_get hlt (by omega) (valid_lt HP.out hlt)
        have m2 : mem l (l[k].2 - 1) = true := mem_of_get hlt (by have := valid_lt HP.out hlt; omega) (by omega)
        have := mem_lo HP.out m1
        have := mem_hi HP.out m2
        have := valid_lt HP.out hlt
        omega
      rw [HT.out] at hb2
      generalize l[k].1 = f at *
      generalize l[k].2 = e at *
      generalize total (l.take k) = S at *
      have hz := hb.size
      go_wp2_with (go_at_call 88; refine (length_any f e _ (by omega) (by omega) (by omega) (by omega)).mono ?_; rintro x w1 ⟨rfl, hb1⟩)
      go_roundg (l.length - (k + 1))
      case measure => omega
      case rel => exact ⟨k + 1, by omega, rfl, by go_num, by rw [HT.out], (hb.alloc hz _).trans (hb1.mono (by simp; omega))⟩
    · go_wp2
      go_ret
      rw [List.take_of_length_le (by omega)]
      exact ⟨rfl, hb⟩

set_option maxHeartbeats 1000000 in
theorem countPub_any (t : Int) (A : Option Addr) (c : Nat) (l : List Sp) (w : World) (hl : Lst encS 2 w w.heap.size A l) (hn : l.length ≤ 9223372036854775807) :
    Calls Try.prog 77 #[.int .i64 t, .slice A l.length c] w fun e w' => e = .returned (.int .i64 (countL t l)) ∧ Below w.heap.size w w' := by
  have hv := valid_any t A c l w hl hn
  cases h1 : validL t l with
  | false =>
    rw [h1] at hv
    have H := Lib.hid h1
    clear h1
    go_enter Try.func77, Try.ntmps77
    go_wp2_with (go_at_call 82; refine hv.mono ?_; rintro e w1 ⟨rfl, hb1⟩)
    go_ret
    exact ⟨ret_int (by simp [countL, H.out]), hb1⟩
  | true =>
    rw [h1] at hv
    obtain ⟨p1, p2, p3, p4⟩ := validL_parts h1
    have HC := Lib.hid (show countL t l = total l by simp [countL, h1])
    have hcnt : ∀ W, Below w.heap.size w W → Calls Try.prog 84 #[.slice A l.length c] W fun e w' => e = .returned (.int .i64 (total l)) ∧ Below w.heap.size w w' := fun W hW =>
      (count_any t A c l W (hl.belowMore hW hW.size) p2 p4 (by omega)).mono fun e w' ⟨he, hb⟩ => ⟨he, hW.trans (hb.mono hW.size)⟩
    generalize total l = S at *
    clear h1 p3 p4
    go_enter Try.func77, Try.ntmps77
    go_wp2_with (first
      | (go_at_call 82; refine hv.mono ?_; rintro e w1 ⟨rfl, hb1⟩)
      | (go_at_call 84; refine (hcnt _ hb1).mono ?_; rintro e w2 ⟨rfl, hb2⟩))
    go_ret
    exact ⟨ret_int (by rw [HC.out]), hb2⟩

set_option maxHeartbeats 2000000 in
theorem nextPub_any (t : Int) (A : Option Addr) (c : Nat) (l : List Sp) (x : Int) (w : World) (hl : Lst encS 2 w w.heap.size A l) (hn : l.length ≤ 9223372036854775807) (t1 : -9223372036854775808 ≤ t) (t2 : t ≤ 9223372036854775807) :
    Calls Try.prog 70 #[.int .i64 t, .slice A l.length c, .int .i64 x] w (NextPost t l x w) := by
  have hv := valid_any t A c l w hl hn
  cases h1 : validL t l with
  | false =>
    rw [h1] at hv
    have H := Lib.hid h1
    clear h1
    go_enter Try.func70, Try.ntmps70
    go_wp2_with (go_at_call 82; refine hv.mono ?_; rintro e w1 ⟨rfl, hb1⟩)
    go_ret2
    exact ⟨0, false, rfl, next_bad H.out, hb1⟩
  | true =>
    rw [h1] at hv
    obtain ⟨p1, p2, p3, p4⟩ := validL_parts h1
    have HV := Lib.hid p4
    have HR := Lib.hid p3
    by_cases h0 : l.length = 0
    · have hl0 : l = [] := List.eq_nil_of_length_eq_zero h0
      subst hl0
      have hbe : ((([] : List Sp).length : Int) == 0) = true := by simp
      clear h1 p3 p4 h0
      go_enter Try.func70, Try.ntmps70
      go_wp2_with (go_at_call 82; refine hv.mono ?_; rintro e w1 ⟨rfl, hb1⟩)
      go_ret2
      exact ⟨0, false, rfl, next_empty HR.out, hb1⟩
    · have hpos : 0 < l.length := by omega
      have hbe : ((l.length : Int) == 0) = false := by rw [beq_eq_false_iff_ne]; omega
      have hmod := fun W => mod_any x t W t1 t2
      have hmr := modI_range x t p1
      rw [modI_emod p1] at hmod hmr
      have HHit := Lib.hid (fun k hk hb hlt => next_hit (x := x) (k := k) p3 p4 hk hb hlt)
      have HRound := Lib.hid (next_round (x := x) p3 p4 hpos)
      obtain ⟨v1, v2⟩ : 0 ≤ l[0].1 ∧ l[0].1 < t := by
        have m1 : mem l l[0].1 = true := mem_of_get hpos (by omega) (valid_lt p4 hpos)
        have := mem_lo p4 m1
        have := mem_hi p4 m1
        omega
      generalize x % t = r at *
      clear h1 p3 p4 h0
      go_enter Try.func70, Try.ntmps70
      go_wp2_with (first
        | (go_at_call 82; refine hv.mono ?_; rintro e w1 ⟨rfl, hb1⟩)
        | (go_at_call 76; refine (hmod _).mono ?_; rintro e w' ⟨rfl, rfl⟩))
      clear hmod hv
      go_loopg [25] l.length (fun g s25 wr => ∃ k : Nat, k ≤ l.length ∧ g = l.length - k ∧ s25 = .int .i64 k ∧ (∀ i (h : i < l.length), i < k → l[i].2 ≤ r) ∧ Below w.heap.size w wr)
      case atStart => exact ⟨0, by omega, by omega, rfl, fun i h hi => by omega, hb1⟩
      case round =>
        obtain ⟨k, hk, hg, rfl, hm, hb⟩ := hrel
        have HM := Lib.hid hm
        clear hm
        have hz := hb.size
        by_cases hlt : k < l.length
        · obtain ⟨b, off, rfl, hbw, c0, c1⟩ := (hl.below hb).sp k hlt
          obtain ⟨u1, u2, u3⟩ : -1 ≤ l[k].1 ∧ l[k].1 < l[k].2 ∧ l[k].2 ≤ t := by
            have m1 : mem l l[k].1 = true := mem_of_get hlt (by omega) (valid_lt HV.out hlt)
            have m2 : mem l (l[k].2 - 1) = true := mem_of_get hlt (by have := valid_lt HV.out hlt; omega) (by omega)
            have := mem_lo HV.out m1
            have := mem_hi HV.out m2
            have := valid_lt HV.out hlt
            omega
          by_cases q : r < l[k].2
          · have HK := Lib.hid (HHit.out k hlt (fun i h hi => HM.out i h hi) q)
            generalize l[k].1 = f at *
            generalize l[k].2 = e at *
            go_wp2
            all_goals go_ret2
            all_goals refine ⟨_, true, rfl, ?_, hb.alloc hz _⟩
            · have hk := HK.out
              rw [Int.max_eq_right (by omega)] at hk
              exact hk
            · have hk := HK.out
              rw [Int.max_eq_left (by omega)] at hk
              exact hk
          · have HQ := Lib.hid (show l[k].2 ≤ r by omega)
            go_wp2
            go_roundg (l.length - (k + 1))
            case measure => omega
            case rel =>
              refine ⟨k + 1, by omega, rfl, by go_num, fun i h hi => ?_, hb.alloc hz _⟩
              by_cases e : i = k
              · subst e; exact HQ.out
              · exact HM.out i h (by omega)
        · have HK := Lib.hid (HRound.out (fun i h => HM.out i h (by omega)))
          obtain ⟨b, off, rfl, hbw, c0, c1⟩ := (hl.below hb).sp 0 hpos
          generalize l[0].1 = f at *
          simp only [Nat.zero_mul, Nat.add_zero] at c0
          go_wp2
          go_ret2
          exact ⟨_, true, rfl, HK.out, hb⟩

set_option maxHeartbeats 1000000 in
theorem hasPub_any (t : Int) (A : Option Addr) (c : Nat) (l : List Sp) (x : Int) (w : World) (hl : Lst encS 2 w w.heap.size A l) (hn : l.length ≤ 9223372036854775807) (t1 : -9223372036854775808 ≤ t) (t2 : t ≤ 9223372036854775807) :
    Calls Try.prog 52 #[.int .i64 t, .slice A l.length c, .int .i64 x] w fun e w' => e = .returned (.bool (hasL t l x)) ∧ Below w.heap.size w w' := by
  go_enter Try.func52, Try.ntmps52
  go_wp2_with fail
  refine (nextPub_any t A c l x w hl hn t1 t2).mono ?_
  rintro e w1 ⟨d, ok, rfl, hs, hb⟩
  have H := Lib.hid (has_next hs)
  clear hs
  cases ok with
  | true =>
    go_wp2_with fail
    go_ret
    exact ⟨ret_bool (by rw [← H.out]; rfl), hb⟩
  | false =>
    go_wp2_with fail
    go_ret
    exact ⟨ret_bool (by rw [← H.out]; rfl), hb⟩

end Go.Proofs.Ytbhjnihcmfagjaa
