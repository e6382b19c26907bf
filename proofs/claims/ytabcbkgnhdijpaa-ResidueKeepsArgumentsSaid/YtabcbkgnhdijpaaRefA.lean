/-
  Contracts of the reference's helpers bad and spans, and of Make of both packages.
-/
import Derived.Test.YtabcbkgnhdijpaaSame
set_option linter.unusedVariables false
set_option linter.unusedSimpArgs false
namespace Go.Proofs.Ytabcbkgnhdijpaa
open Go.RowKit RP

def makeL (t f n : Int) : List Sp := if inRange t then arc t (modI f t) n else []
def rangeErr (t : Int) : Int := if inRange t then 0 else 4

set_option maxHeartbeats 1000000 in
theorem make_any (t f n : Int) (w : World) (t1 : -9223372036854775808 ≤ t) (t2 : t ≤ 9223372036854775807) (n2 : n ≤ 9223372036854775807) :
    Calls Try.prog 15 #[.int .i64 t, .int .i64 f, .int .i64 n] w fun e w' =>
      ∃ v, e = .returned (.tuple #[v, .int .i64 (rangeErr t)]) ∧ OwnS w' w.heap.size v (makeL t f n) ∧ Below w.heap.size w w' := by
  cases hr : inRange t with
  | false =>
    have H := Lib.hid hr
    have hcon := fun W => inRange_any t W
    rw [hr] at hcon
    clear hr
    go_enter Try.func15, Try.ntmps15
    go_wp2_with (go_at_call 42; refine (hcon _).mono ?_; rintro e w' ⟨rfl, rfl⟩)
    go_ret2
    exact ⟨_, by simp only [rangeErr, H.out]; rfl, by simp only [makeL, H.out]; exact Own.nil _ _ _ _ _, Below.refl _ _⟩
  | true =>
    have H := Lib.hid hr
    have hcon := fun W => inRange_any t W
    rw [hr] at hcon
    have hb : 1 ≤ t ∧ t ≤ 7200 := by simpa [inRange] using hr
    clear hr
    have hm := modI_range f t hb.1
    generalize hq : modI f t = q at hm
    have hmod := fun W => mod_any f t W t1 t2
    rw [hq] at hmod
    have HQ := Lib.hid hq
    clear hq
    go_enter Try.func15, Try.ntmps15
    go_wp2_with (first
      | (go_at_call 42; refine (hcon _).mono ?_; rintro e w' ⟨rfl, rfl⟩)
      | (go_at_call 44; refine (hmod _).mono ?_; rintro e w' ⟨rfl, rfl⟩)
      | (go_at_call 43; refine (appendArc_any w.heap.size _ [] t q n w (Own.nil _ _ _ _ _) (Nat.le_refl _) (by simp) hb.1 hb.2 hm.1 hm.2 n2).mono ?_; rintro e w' ⟨v', rfl, ho, hg⟩))
    go_ret2
    exact ⟨_, by simp only [rangeErr, H.out]; rfl, by simp only [makeL, H.out, HQ.out]; exact ho, below_of_grownBy hg (Nat.le_refl _) (by simp [Value.ownBlock])⟩

/-- What bad answers. -/
def badI (t : Int) (a b : List Sp) : Int := if inRange t then (if validL t a && validL t b then 0 else 1) else 4

set_option maxHeartbeats 1000000 in
theorem bad_any (t : Int) (A B : Option Addr) (c d : Nat) (l m : List Sp) (w : World) (hl : Lst encS 2 w w.heap.size A l) (hm : Lst encS 2 w w.heap.size B m) (hn : l.length ≤ 9223372036854775807) (hn' : m.length ≤ 9223372036854775807) :
    Calls Try.prog 45 #[.int .i64 t, .slice A l.length c, .slice B m.length d] w fun e w' => e = .returned (.int .i64 (badI t l m)) ∧ Below w.heap.size w w' := by
  by_cases hr : 1 ≤ t ∧ t ≤ 7200
  · obtain ⟨hr1, hr2⟩ := hr
    have H := Lib.hid (show inRange t = true by simp [inRange, hr1, hr2])
    have hv := validSpans_any t A c l w hl hn
    cases h1 : validL t l with
    | false =>
      rw [h1] at hv
      have H1 := Lib.hid h1
      clear h1
      go_enter Try.func45, Try.ntmps45
      go_wp2_with (go_at_call 22; refine hv.mono ?_; rintro e w' ⟨rfl, hb⟩)
      go_ret
      exact ⟨ret_int (by simp [badI, H.out, H1.out]), hb⟩
    | true =>
      rw [h1] at hv
      have H1 := Lib.hid h1
      clear h1
      cases h2 : validL t m with
      | false =>
        have H2 := Lib.hid h2
        have hv2 : ∀ W, Below w.heap.size w W → Calls Try.prog 22 #[.int .i64 t, .slice B m.length d] W fun e w' => e = .returned (.bool false) ∧ Below w.heap.size w w' := fun W hW => by
          rw [← h2]
          exact (validSpans_any t B d m W (hm.belowMore hW hW.size) hn').mono fun e w' ⟨he, hb⟩ => ⟨he, hW.trans (hb.mono hW.size)⟩
        clear h2
        go_enter Try.func45, Try.ntmps45
        go_wp2_with fail
        refine hv.mono ?_; rintro e w1 ⟨rfl, hb1⟩
        go_wp2_with fail
        refine (hv2 _ hb1).mono ?_; rintro e w2 ⟨rfl, hb2⟩
        go_wp2_with fail
        go_ret
        exact ⟨ret_int (by simp [badI, H.out, H1.out, H2.out]), hb2⟩
      | true =>
        have H2 := Lib.hid h2
        have hv2 : ∀ W, Below w.heap.size w W → Calls Try.prog 22 #[.int .i64 t, .slice B m.length d] W fun e w' => e = .returned (.bool true) ∧ Below w.heap.size w w' := fun W hW => by
          rw [← h2]
          exact (validSpans_any t B d m W (hm.belowMore hW hW.size) hn').mono fun e w' ⟨he, hb⟩ => ⟨he, hW.trans (hb.mono hW.size)⟩
        clear h2
        go_enter Try.func45, Try.ntmps45
        go_wp2_with fail
        refine hv.mono ?_; rintro e w1 ⟨rfl, hb1⟩
        go_wp2_with fail
        refine (hv2 _ hb1).mono ?_; rintro e w2 ⟨rfl, hb2⟩
        go_wp2_with fail
        go_ret
        exact ⟨ret_int (by simp [badI, H.out, H1.out, H2.out]), hb2⟩
  · have H := Lib.hid (show inRange t = false by simp [inRange]; omega)
    go_enter Try.func45, Try.ntmps45
    go_wp2_with fail
    all_goals go_ret
    all_goals exact ⟨ret_int (by simp [badI, H.out]), Below.refl _ _⟩

end Go.Proofs.Ytabcbkgnhdijpaa
