/-
  Contracts of check (one list, two lists), Grow at nil and Concat of two lists.
-/
import Derived.Test.YtbhjnihcmfagjaaMerge
import Derived.Test.YtbhjnihcmfagjaaStp
import Derived.Lib.AppendZerosOnto
set_option linter.unusedVariables false
set_option linter.unusedSimpArgs false
namespace Go.Proofs.Ytbhjnihcmfagjaa
open Go.RowKit RP

set_option maxHeartbeats 2000000 in
theorem check2_any (t : Int) (A B : Option Addr) (c d : Nat) (a b : List Sp) (g cc : Nat) (w : World) (g0 : w.cell? ⟨g, 0, none⟩ = some (.slice A a.length c)) (g1 : w.cell? ⟨g, 1, none⟩ = some (.slice B b.length d)) (hg : g < w.heap.size)
    (ha : Lst encS 2 w w.heap.size A a) (hb : Lst encS 2 w w.heap.size B b) (hn : a.length ≤ 9223372036854775807) (hn' : b.length ≤ 9223372036854775807) :
    Calls Try.prog 78 #[.int .i64 t, .slice (some ⟨g, 0, none⟩) 2 cc] w fun e w' => e = .returned (.int .i64 (badI t a b)) ∧ Below w.heap.size w w' := by
  have hcon := fun W => inRange_any t W
  cases hr : inRange t with
  | false =>
    have H := Lib.hid hr
    rw [hr] at hcon
    clear hr
    go_enter Try.func78, Try.ntmps78
    go_wp2_with (go_at_call 74; refine (hcon _).mono ?_; rintro e w' ⟨rfl, rfl⟩)
    go_ret
    exact ⟨ret_int (by simp [badI, H.out]), Below.refl _ _⟩
  | true =>
    have H := Lib.hid hr
    rw [hr] at hcon
    clear hr
    go_enter Try.func78, Try.ntmps78
    go_wp2_with (go_at_call 74; refine (hcon _).mono ?_; rintro e w' ⟨rfl, rfl⟩)
    clear hcon
    go_loopg [12, 6] 2 (fun gk s12 s6 wr => ∃ k : Nat, k ≤ 2 ∧ gk = 2 - k ∧ s12 = .int .i64 k ∧ (1 ≤ k → validL t a = true) ∧ (2 ≤ k → validL t b = true) ∧ Below w.heap.size w wr)
    case atStart => exact ⟨0, by omega, by omega, rfl, by omega, by omega, Below.refl _ _⟩
    case round =>
      obtain ⟨k, hk, hgk, rfl, h1, h2, hbw⟩ := hrel
      have q0 := (hbw.cell (p := ⟨g, 0, none⟩) hg).trans g0
      have q1 := (hbw.cell (p := ⟨g, 1, none⟩) hg).trans g1
      have hz := hbw.size
      have H1 := Lib.hid h1
      have H2 := Lib.hid h2
      clear h1 h2
      obtain rfl | rfl | rfl : k = 0 ∨ k = 1 ∨ k = 2 := by omega
      · have hv := valid_any t A c a wr (ha.belowMore hbw hz) hn
        cases hx : validL t a with
        | true =>
          rw [hx] at hv
          have HX := Lib.hid hx
          clear hx
          go_wp2_with (go_at_call 82; refine hv.mono ?_; rintro e w1 ⟨rfl, hb1⟩)
          go_roundg 1
          case measure => omega
          case rel => exact ⟨1, by omega, by omega, rfl, fun _ => HX.out, by omega, hbw.trans (hb1.mono hz)⟩
        | false =>
          rw [hx] at hv
          have HX := Lib.hid hx
          clear hx
          go_wp2_with (go_at_call 82; refine hv.mono ?_; rintro e w1 ⟨rfl, hb1⟩)
          go_ret
          exact ⟨ret_int (by simp [badI, H.out, HX.out]), hbw.trans (hb1.mono hz)⟩
      · have hv := valid_any t B d b wr (hb.belowMore hbw hz) hn'
        cases hx : validL t b with
        | true =>
          rw [hx] at hv
          have HX := Lib.hid hx
          clear hx
          go_wp2_with (go_at_call 82; refine hv.mono ?_; rintro e w1 ⟨rfl, hb1⟩)
          go_roundg 0
          case measure => omega
          case rel => exact ⟨2, by omega, by omega, rfl, fun _ => H1.out (by omega), fun _ => HX.out, hbw.trans (hb1.mono hz)⟩
        | false =>
          rw [hx] at hv
          have HX := Lib.hid hx
          clear hx
          go_wp2_with (go_at_call 82; refine hv.mono ?_; rintro e w1 ⟨rfl, hb1⟩)
          go_ret
          exact ⟨ret_int (by simp [badI, H.out, HX.out]), hbw.trans (hb1.mono hz)⟩
      · go_wp2
        go_ret
        exact ⟨ret_int (by simp [badI, H.out, H1.out (by omega), H2.out (by omega)]), hbw⟩

set_option maxHeartbeats 2000000 in
theorem check1_any (t : Int) (A : Option Addr) (c : Nat) (a : List Sp) (g cc : Nat) (w : World) (g0 : w.cell? ⟨g, 0, none⟩ = some (.slice A a.length c)) (hg : g < w.heap.size)
    (ha : Lst encS 2 w w.heap.size A a) (hn : a.length ≤ 9223372036854775807) :
    Calls Try.prog 78 #[.int .i64 t, .slice (some ⟨g, 0, none⟩) 1 cc] w fun e w' => e = .returned (.int .i64 (badI t a [])) ∧ Below w.heap.size w w' := by
  have hcon := fun W => inRange_any t W
  cases hr : inRange t with
  | false =>
    have H := Lib.hid hr
    rw [hr] at hcon
    clear hr
    go_enter Try.func78, Try.ntmps78
    go_wp2_with (go_at_call 74; refine (hcon _).mono ?_; rintro e w' ⟨rfl, rfl⟩)
    go_ret
    exact ⟨ret_int (by simp [badI, H.out]), Below.refl _ _⟩
  | true =>
    have H := Lib.hid hr
    rw [hr] at hcon
    clear hr
    go_enter Try.func78, Try.ntmps78
    go_wp2_with (go_at_call 74; refine (hcon _).mono ?_; rintro e w' ⟨rfl, rfl⟩)
    clear hcon
    go_loopg [12, 6] 1 (fun gk s12 s6 wr => ∃ k : Nat, k ≤ 1 ∧ gk = 1 - k ∧ s12 = .int .i64 k ∧ (1 ≤ k → validL t a = true) ∧ Below w.heap.size w wr)
    case atStart => exact ⟨0, by omega, by omega, rfl, by omega, Below.refl _ _⟩
    case round =>
      obtain ⟨k, hk, hgk, rfl, h1, hbw⟩ := hrel
      have q0 := (hbw.cell (p := ⟨g, 0, none⟩) hg).trans g0
      have hz := hbw.size
      have H1 := Lib.hid h1
      clear h1
      obtain rfl | rfl : k = 0 ∨ k = 1 := by omega
      · have hv := valid_any t A c a wr (ha.belowMore hbw hz) hn
        cases hx : validL t a with
        | true =>
          rw [hx] at hv
          have HX := Lib.hid hx
          clear hx
          go_wp2_with (go_at_call 82; refine hv.mono ?_; rintro e w1 ⟨rfl, hb1⟩)
          go_roundg 0
          case measure => omega
          case rel => exact ⟨1, by omega, by omega, rfl, fun _ => HX.out, hbw.trans (hb1.mono hz)⟩
        | false =>
          rw [hx] at hv
          have HX := Lib.hid hx
          clear hx
          go_wp2_with (go_at_call 82; refine hv.mono ?_; rintro e w1 ⟨rfl, hb1⟩)
          go_ret
          exact ⟨ret_int (by simp [badI, H.out, HX.out]), hbw.trans (hb1.mono hz)⟩
      · go_wp2
        go_ret
        have hv0 : validL t [] = true := by simp [validL, validFrom, H.out]
        exact ⟨ret_int (by simp [badI, H.out, H1.out (by omega), hv0]), hbw⟩

theorem size_zeros (z : Array Value) (n : Nat) : (Builtin.zeroCells z n).size = n * z.size := by simp [Builtin.zeroCells]

end Go.Proofs.Ytbhjnihcmfagjaa
