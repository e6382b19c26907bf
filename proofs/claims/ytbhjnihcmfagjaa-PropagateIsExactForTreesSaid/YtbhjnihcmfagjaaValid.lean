/-
  Contracts of Valid and ValidSpans: they answer whether a list of spans is valid, for arbitrary lists.
-/
import Derived.Test.YtbhjnihcmfagjaaKit
set_option linter.unusedVariables false
set_option linter.unusedSimpArgs false
namespace Go.Proofs.Ytbhjnihcmfagjaa
open Go.RowKit RP

/-- After k elements: whether all of them passed, and the last end. -/
theorem validFrom_split (t : Int) : ∀ (l r : List Sp) (p : Int), validFrom t p (l ++ r) = (validFrom t p l && validFrom t (lastTo p l) r)
  | [], _, _ => by simp [validFrom, lastTo]
  | s :: l, r, p => by simp [validFrom, lastTo, validFrom_split t l r, Bool.and_assoc]

theorem valid_step_no {t : Int} {l : List Sp} {k : Nat} (hk : k < l.length) {p : Int} (h : ¬ (lastTo p (l.take k) < l[k].1 ∧ l[k].1 < l[k].2 ∧ l[k].2 ≤ t)) : validFrom t p l = false := by
  rw [← List.take_append_drop k l, validFrom_split, List.drop_eq_getElem_cons hk]
  cases hh : validFrom t p (l.take k) with
  | false => rfl
  | true =>
    simp only [Bool.true_and]
    cases h2 : validFrom t (lastTo p (l.take k)) (l[k] :: l.drop (k + 1)) with
    | false => rfl
    | true =>
      obtain ⟨a, b, c, _⟩ := validFrom_cons.1 h2
      exact absurd ⟨a, b, c⟩ h

set_option maxHeartbeats 1000000 in
theorem valid_any (t : Int) (A : Option Addr) (c : Nat) (l : List Sp) (w : World) (hl : Lst encS 2 w w.heap.size A l) (hn : l.length ≤ 9223372036854775807) :
    Calls Try.prog 82 #[.int .i64 t, .slice A l.length c] w fun e w' => e = .returned (.bool (validL t l)) ∧ Below w.heap.size w w' := by
  cases hr : inRange t with
  | false =>
    have H := Lib.hid hr
    have hcon := fun W => inRange_any t W
    rw [hr] at hcon
    clear hr
    go_enter Try.func82, Try.ntmps82
    go_wp2_with (go_at_call 74; refine (hcon _).mono ?_; rintro e w' ⟨rfl, rfl⟩)
    go_ret
    exact ⟨ret_bool (by simp [validL, H.out]), Below.refl _ _⟩
  | true =>
    have H := Lib.hid hr
    have hcon := fun W => inRange_any t W
    rw [hr] at hcon
    clear hr
    go_enter Try.func82, Try.ntmps82
    go_wp2_with (go_at_call 74; refine (hcon _).mono ?_; rintro e w' ⟨rfl, rfl⟩)
    clear hcon
    go_loopg [5, 13] l.length (fun g s5 s13 wr => ∃ k : Nat, k ≤ l.length ∧ g = l.length - k ∧ s13 = .int .i64 k ∧ s5 = .int .i64 (lastTo (-1) (l.take k)) ∧ validFrom t (-1) (l.take k) = true ∧ Below w.heap.size w wr)
    case atStart => exact ⟨0, by omega, by omega, rfl, rfl, rfl, Below.refl _ _⟩
    case round =>
      obtain ⟨k, hk, hg, rfl, rfl, hv, hb⟩ := hrel
      have HV := Lib.hid hv
      clear hv
      by_cases hlt : k < l.length
      · obtain ⟨b, off, rfl, hbw, c0, c1⟩ := (hl.below hb).sp k hlt
        go_wp2
        all_goals first
          | (go_ret
             have hf : validFrom t (-1) l = false := valid_step_no hlt (by omega)
             exact ⟨ret_bool (by simp [validL, hf]), hb.alloc hb.size _⟩)
          | (go_roundg (l.length - (k + 1))
             case measure => omega
             case rel =>
               refine ⟨k + 1, by omega, rfl, by go_num, ?_, ?_, hb.alloc hb.size _⟩
               · rw [take_snoc l k hlt, lastTo_snoc]
               · rw [take_snoc l k hlt]; exact validFrom_snoc.2 ⟨HV.out, by omega, by omega, by omega⟩)
      · go_wp2
        go_ret
        have e : l.take k = l := List.take_of_length_le (by omega)
        have hv := HV.out
        rw [e] at hv
        exact ⟨ret_bool (by simp [validL, hv, H.out]), hb⟩

set_option maxHeartbeats 2000000 in
theorem validSpans_any (t : Int) (A : Option Addr) (c : Nat) (l : List Sp) (w : World) (hl : Lst encS 2 w w.heap.size A l) (hn : l.length ≤ 9223372036854775807) :
    Calls Try.prog 43 #[.int .i64 t, .slice A l.length c] w fun e w' => e = .returned (.bool (validL t l)) ∧ Below w.heap.size w w' := by
  by_cases hr : 1 ≤ t ∧ t ≤ 7200
  · obtain ⟨hr1, hr2⟩ := hr
    have H : inRange t = true := by simp [inRange, hr1, hr2]
    have H := Lib.hid H
    go_enter Try.func43, Try.ntmps43
    go_wp2
    go_loopg [5, 6] l.length (fun g s5 s13 wr => ∃ k : Nat, k ≤ l.length ∧ g = l.length - k ∧ s13 = .int .i64 k ∧ s5 = .int .i64 (lastTo (-1) (l.take k)) ∧ validFrom t (-1) (l.take k) = true ∧ Below w.heap.size w wr)
    case atStart => exact ⟨0, by omega, by omega, rfl, rfl, rfl, Below.refl _ _⟩
    case round =>
      obtain ⟨k, hk, hg, rfl, rfl, hv, hb⟩ := hrel
      have hlast := le_lastTo hv
      have HV := Lib.hid hv
      clear hv
      by_cases hlt : k < l.length
      · obtain ⟨b, off, rfl, hbw, c0, c1⟩ := (hl.below hb).sp k hlt
        have hno : ¬ (lastTo (-1) (l.take k) < l[k].1 ∧ l[k].1 < l[k].2 ∧ l[k].2 ≤ t) → validL t l = false := fun h => by
          rw [validL, valid_step_no hlt h, Bool.and_false]
        have hyes : lastTo (-1) (l.take k) < l[k].1 → l[k].1 < l[k].2 → l[k].2 ≤ t → validFrom t (-1) (l.take (k + 1)) = true ∧ lastTo (-1) (l.take (k + 1)) = l[k].2 := fun h1 h2 h3 => by
          rw [take_snoc l k hlt, lastTo_snoc]
          exact ⟨validFrom_snoc.2 ⟨HV.out, h1, h2, h3⟩, rfl⟩
        have HNO := Lib.hid hno
        have HYES := Lib.hid hyes
        clear hno hyes HV
        generalize l[k].1 = f at *
        generalize l[k].2 = e at *
        generalize lastTo (-1) (l.take k) = p at *
        by_cases t1 : f ≤ p
        · go_wp2_with fail
          go_quiet (fail)
          go_wp2
          go_ret
          exact ⟨ret_bool (by rw [HNO.out (by omega)]), below_drewN hb _⟩
        · have d1 : decide (f ≤ p) = false := by simpa using t1
          have d2 : decide (f < 0) = false := by simp; omega
          by_cases t3 : e ≤ f
          · go_wp2_with fail
            go_quiet (fail)
            go_wp2
            go_ret
            exact ⟨ret_bool (by rw [HNO.out (by omega)]), below_drewN hb _⟩
          · have d3 : decide (e ≤ f) = false := by simpa using t3
            by_cases t4 : t < e
            · go_wp2_with fail
              go_quiet (fail)
              go_wp2
              go_ret
              exact ⟨ret_bool (by rw [HNO.out (by omega)]), below_drewN hb _⟩
            · have d4 : decide (t < e) = false := by simpa using t4
              go_wp2_with fail
              go_quiet (fail)
              go_wp2
              go_roundg (l.length - (k + 1))
              case measure => omega
              case rel =>
                obtain ⟨h1, h2⟩ := HYES.out (by omega) (by omega) (by omega)
                exact ⟨k + 1, by omega, rfl, by go_num, by rw [h2], h1, below_drewN hb _⟩
      · go_wp2
        go_ret
        have e : l.take k = l := List.take_of_length_le (by omega)
        have hv := HV.out
        rw [e] at hv
        exact ⟨ret_bool (by simp [validL, hv, H.out]), hb⟩
  · have H : inRange t = false := by simp [inRange]; omega
    have H := Lib.hid H
    go_enter Try.func43, Try.ntmps43
    go_wp2
    all_goals go_ret
    all_goals exact ⟨ret_bool (by simp [validL, H.out]), Below.refl _ _⟩

end Go.Proofs.Ytbhjnihcmfagjaa
