/-
  Contract of Same at choices.
-/
import Derived.Test.YtlillkfelfoafaaDivM
import Derived.Test.YtlillkfelfoafaaBasics
import Derived.BigQuiet
set_option linter.unusedVariables false
set_option linter.unusedSimpArgs false
namespace Go.Proofs.Ytlillkfelfoafaa
open Go.RowKit RP

theorem choTS : Try.prog.underlying 55 = some (.struct (Try.prog.fieldsOf 55)) := by kernel_rfl
theorem choTH : Try.prog.stoodInHeld 55 = false := by kernel_rfl
theorem choTG : Try.prog.eqGuardType Try.prog.depth 55 = false := by kernel_rfl

theorem run_neq_cho (a b d e : Int) (w : World) : (binOp .neq 55 (.agg #[.int .i64 a, .int .i64 b]) (.agg #[.int .i64 d, .int .i64 e])).run Try.prog w = .ok (.bool (!(a == d && b == e))) w := by
  have u3 := Try.underlying3
  have a3 := Try.isAgg3
  have z3 := Try.sizeOf3
  rw [run_neq_struct, show (10000 : Nat) = 9999 + 1 from rfl, run_equalIn_agg w 9999 55 _ _ choTS choTH]
  simp only [Program.fieldsOf, Try.underlying55]
  go_simp
  by_cases h1 : a = d <;> by_cases h2 : b = e <;> simp [h1, h2]

set_option maxHeartbeats 1000000 in
theorem sameK_any (A B : Option Addr) (c d : Nat) (l m : List Cho) (w : World) (hl : Lst encK 2 w w.heap.size A l) (hm : Lst encK 2 w w.heap.size B m) (hn : l.length ≤ 9223372036854775807) (hn' : m.length ≤ 9223372036854775807) :
    Calls Try.prog 27 #[.slice A l.length c, .slice B m.length d] w fun e w' => e = .returned (.bool (decide (l = m))) ∧ Below w.heap.size w w' := by
  by_cases hlen : l.length = m.length
  · have hne : ((l.length : Int) != (m.length : Int)) = false := by simp [hlen]
    have HL := Lib.hid hlen
    have hle : m.length ≤ l.length := by omega
    have hle' : l.length ≤ m.length := by omega
    clear hlen
    go_enter Try.func27, Try.ntmps27
    go_wp2
    go_loopg [5, 13] l.length (fun g s5 s13 wr => ∃ k : Nat, k ≤ l.length ∧ g = l.length - k ∧ s13 = .int .i64 k ∧ l.take k = m.take k ∧ Below w.heap.size w wr)
    case atStart => exact ⟨0, by omega, by omega, rfl, rfl, Below.refl _ _⟩
    case round =>
      obtain ⟨k, hk, hg, rfl, ht, hb⟩ := hrel
      have HT := Lib.hid ht
      clear ht
      by_cases hlt : k < l.length
      · have hlt' : k < m.length := by omega
        obtain ⟨b, off, rfl, hbw, c0, c1⟩ := (hl.below hb).cho k hlt
        obtain ⟨b', off', rfl, hbw', c0', c1'⟩ := (hm.below hb).cho k hlt'
        have HX := Lib.hid (fun h => take_eq_snoc hlt hlt' HT.out h)
        have HY := Lib.hid (fun h => list_ne_at hlt hlt' h)
        generalize l[k] = x at *
        generalize m[k] = y at *
        obtain ⟨x1, x2⟩ := x
        obtain ⟨y1, y2⟩ := y
        simp only at c0 c1 c0' c1'
        by_cases he : ((x1, x2) : Cho) = (y1, y2)
        · have hq : ∀ W, (binOp .neq 55 (.agg #[.int .i64 x1, .int .i64 x2]) (.agg #[.int .i64 y1, .int .i64 y2])).run Try.prog W = .ok (.bool false) W := fun W => by
            rw [run_neq_cho]; injection he with e1 e2; simp [e1, e2]
          have HE := Lib.hid he
          clear he
          go_wp2_with fail
          go_quiet (fail)
          go_wp2_with fail
          go_roundg (l.length - (k + 1))
          case measure => omega
          case rel => exact ⟨k + 1, by omega, rfl, by go_num, HX.out HE.out, below_drewN hb _⟩
        · have hq : ∀ W, (binOp .neq 55 (.agg #[.int .i64 x1, .int .i64 x2]) (.agg #[.int .i64 y1, .int .i64 y2])).run Try.prog W = .ok (.bool true) W := fun W => by
            rw [run_neq_cho]
            congr 2
            cases h1 : x1 == y1 <;> cases h2 : x2 == y2 <;> first | rfl | (exfalso; simp at h1 h2; exact he (by rw [h1, h2]))
          have HE := Lib.hid he
          clear he
          go_wp2_with fail
          go_quiet (fail)
          go_wp2_with fail
          go_ret
          exact ⟨ret_bool (by have := HY.out HE.out; simp [this]), below_drewN hb _⟩
      · go_wp2
        go_ret
        have ht := HT.out
        rw [List.take_of_length_le (by omega), List.take_of_length_le (by omega)] at ht
        exact ⟨ret_bool (by simp [ht]), hb⟩
  · have hne : ((l.length : Int) != (m.length : Int)) = true := by rw [bne_iff_ne]; omega
    go_enter Try.func27, Try.ntmps27
    go_wp2
    go_ret
    exact ⟨ret_bool (by have : l ≠ m := (fun h => hlen (by rw [h])); simp [this]), Below.refl _ _⟩

theorem sameK_own (A B : Value) (l m : List Cho) (w : World) (b b' : Nat) (hl : Own encK 2 55 w b A l) (hm : Own encK 2 55 w b' B m) :
    Calls Try.prog 27 #[A, B] w fun e w' => e = .returned (.bool (decide (l = m))) ∧ Below w.heap.size w w' := by
  have h1 := hl.maxLen
  have h2 := hm.maxLen
  simp only [maxLen] at h1 h2
  obtain ⟨A', c, rfl⟩ := hl.form
  obtain ⟨B', d, rfl⟩ := hm.form
  exact sameK_any A' B' c d l m w (hl.lst encK_len) (hm.lst encK_len) (by omega) (by omega)
theorem sameK_own' (A B : Value) (l m : List Cho) (w : World) (b b' : Nat) (hl : Own encK 2 55 w b A l) (hm : Own encK 2 55 w b' B m) (he : l = m) :
    Calls Try.prog 27 #[A, B] w fun e w' => e = .returned (.bool true) ∧ Below w.heap.size w w' :=
  (sameK_own A B l m w b b' hl hm).mono fun e w' ⟨h1, h2⟩ => ⟨by rw [h1, decide_eq_true he], h2⟩

end Go.Proofs.Ytlillkfelfoafaa
