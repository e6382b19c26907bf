/-
  Contracts of length, count, Count, Next and Has of package residue, for valid sets and for arbitrary lists.
-/
import Derived.Test.YtdijhhfmicafjaaRefQ
set_option linter.unusedVariables false
set_option linter.unusedSimpArgs false
namespace Go.Proofs.Ytdijhhfmicafjaa
open Go.RowKit RP

set_option maxHeartbeats 400000 in
theorem length_any (f e : Int) (w : World) (h1 : -4611686018427387904 ≤ f) (h2 : f ≤ 4611686018427387904) (h3 : -4611686018427387904 ≤ e) (h4 : e ≤ 4611686018427387903) :
    Calls Try.prog 56 #[.agg #[.int .i64 f, .int .i64 e]] w fun x w' => x = .returned (.int .i64 (e - f)) ∧ Below w.heap.size w w' := by
  go_enter Try.func56, Try.ntmps56
  go_wp2
  go_ret
  exact ⟨rfl, (Below.refl _ _).alloc (Nat.le_refl _) _⟩

set_option maxHeartbeats 1000000 in
theorem count_any (t : Int) (A : Option Addr) (c : Nat) (l : List Sp) (w : World) (hl : Lst encS 2 w w.heap.size A l) (t2 : t ≤ 7200) (hv : validFrom t (-1) l = true) (t1 : -1 ≤ t) :
    Calls Try.prog 49 #[.slice A l.length c] w fun e w' => e = .returned (.int .i64 (total l)) ∧ Below w.heap.size w w' := by
  have hln := valid_length hv t1
  have HP := Lib.hid hv
  clear hv
  go_enter Try.func49, Try.ntmps49
  go_wp2
  go_loopg [3, 8] l.length (fun g s3 s8 wr => ∃ k : Nat, k ≤ l.length ∧ g = l.length - k ∧ s8 = .int .i64 k ∧ s3 = .int .i64 (total (l.take k)) ∧ Below w.heap.size w wr)
  case atStart => exact ⟨0, by omega, by omega, rfl, rfl, Below.refl _ _⟩
  case round =>
    obtain ⟨k, hk, hg, rfl, rfl, hb⟩ := hrel
    have hb1 := total_bound (validFrom_take k HP.out) (by omega)
    by_cases hlt : k < l.length
    · obtain ⟨b, off, rfl, hbw, c0, c1⟩ := (hl.below hb).sp k hlt
      have hb2 := total_bound (validFrom_take (k + 1) HP.out) (by omega)
      have HT := Lib.hid (show total (l.take (k + 1)) = total (l.take k) + (l[k].2 - l[k].1) by rw [take_snoc l k hlt, total_snoc])
      obtain ⟨v1, v2, v3⟩ : -1 ≤ l[k].1 ∧ l[k].1 < l[k].2 ∧ l[k].2 ≤ t := by
        have m1 : mem l l[k].1 = true := mem_of_get hlt (by omega) (valid_lt HP.out hlt)
        have m2 : mem l (l[k].2 - 1) = true := mem_of_get hlt (by have := valid_lt HP.out hlt; omega) (by omega)
        have := mem_lo HP.out m1
        have := mem_hi HP.out m2
        have := valid_lt HP.out hlt
        omega
      rw [HT.out] at hb2
      generalize l[k].1 = f at *
      generalize l[k].2 = e at *
      generalize total (l.take k) = S at *
      have hz := hb.size
      go_wp2_with (go_at_call 56; refine (length_any f e _ (by omega) (by omega) (by omega) (by omega)).mono ?_; rintro x w1 ⟨rfl, hb1⟩)
      go_roundg (l.length - (k + 1))
      case measure => omega
      case rel => exact ⟨k + 1, by omega, rfl, by go_num, by rw [HT.out], (hb.alloc hz _).trans (hb1.mono (by simp; omega))⟩
    · go_wp2
      go_ret
      rw [List.take_of_length_le (by omega)]
      exact ⟨rfl, hb⟩

set_option maxHeartbeats 1000000 in
theorem countPub_any (t : Int) (A : Option Addr) (c : Nat) (l : List Sp) (w : World) (hl : Lst encS 2 w w.heap.size A l) (hn : l.length ≤ 9223372036854775807) :
    Calls Try.prog 36 #[.int .i64 t, .slice A l.length c] w fun e w' => e = .returned (.int .i64 (countL t l)) ∧ Below w.heap.size w w' := by
  have hv := valid_any t A c l w hl hn
  cases h1 : validL t l with
  | false =>
    rw [h1] at hv
    have H := Lib.hid h1
    clear h1
    go_enter Try.func36, Try.ntmps36
    go_wp2_with (go_at_call 48; refine hv.mono ?_; rintro e w1 ⟨rfl, hb1⟩)
    go_ret
    exact ⟨ret_int (by simp [countL, H.out]), hb1⟩
  | true =>
    rw [h1] at hv
    obtain ⟨p1, p2, p3, p4⟩ := validL_parts h1
    have HC := Lib.hid (show countL t l = total l by simp [countL, h1])
    have hcnt : ∀ W, Below w.heap.size w W → Calls Try.prog 49 #[.slice A l.length c] W fun e w' => e = .returned (.int .i64 (total l)) ∧ Below w.heap.size w w' := fun W hW =>
      (count_any t A c l W (hl.belowMore hW hW.size) p2 p4 (by omega)).mono fun e w' ⟨he, hb⟩ => ⟨he, hW.trans (hb.mono hW.size)⟩
    generalize total l = S at *
    clear h1 p3 p4
    go_enter Try.func36, Try.ntmps36
    go_wp2_with (first
      | (go_at_call 48; refine hv.mono ?_; rintro e w1 ⟨rfl, hb1⟩)
      | (go_at_call 49; refine (hcnt _ hb1).mono ?_; rintro e w2 ⟨rfl, hb2⟩))
    go_ret
    exact ⟨ret_int (by rw [HC.out]), hb2⟩

end Go.Proofs.Ytdijhhfmicafjaa
