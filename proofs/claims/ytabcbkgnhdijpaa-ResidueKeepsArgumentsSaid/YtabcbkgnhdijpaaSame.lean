/-
  Contract of Same at spans: it answers whether two lists are equal.
-/
import Derived.Test.YtabcbkgnhdijpaaMake
set_option linter.unusedVariables false
set_option linter.unusedSimpArgs false
namespace Go.Proofs.Ytabcbkgnhdijpaa
open Go.RowKit RP

theorem spanS : Try.prog.underlying 31 = some (.struct (Try.prog.fieldsOf 31)) := by kernel_rfl
theorem spanH : Try.prog.stoodInHeld 31 = false := by kernel_rfl
theorem spanG : Try.prog.eqGuardType Try.prog.depth 31 = false := by kernel_rfl

theorem run_neq_span (a b c d : Int) (w : World) : (binOp .neq 31 (.agg #[.int .i64 a, .int .i64 b]) (.agg #[.int .i64 c, .int .i64 d])).run Try.prog w = .ok (.bool (!(a == c && b == d))) w := by
  have u3 := Try.underlying3
  have a3 := Try.isAgg3
  have z3 := Try.sizeOf3
  rw [run_neq_struct, show (10000 : Nat) = 9999 + 1 from rfl, run_equalIn_agg w 9999 31 _ _ spanS spanH]
  simp only [Program.fieldsOf, Try.underlying31]
  go_simp
  by_cases h1 : a = c <;> by_cases h2 : b = d <;> simp [h1, h2]

theorem list_ne_at {α : Type} {a b : List α} {k : Nat} (ha : k < a.length) (hb : k < b.length) (h : a[k] ≠ b[k]) : a ≠ b := by
  rintro rfl; exact h rfl
theorem take_eq_snoc {α : Type} {a b : List α} {k : Nat} (ha : k < a.length) (hb : k < b.length) (h : a.take k = b.take k) (h' : a[k] = b[k]) : a.take (k + 1) = b.take (k + 1) := by
  rw [List.take_succ_eq_append_getElem ha, List.take_succ_eq_append_getElem hb, h, h']

set_option maxHeartbeats 1000000 in
theorem same_any (A B : Option Addr) (c d : Nat) (l m : List Sp) (w : World) (hl : Lst encS 2 w w.heap.size A l) (hm : Lst encS 2 w w.heap.size B m) (hn : l.length ≤ 9223372036854775807) (hn' : m.length ≤ 9223372036854775807) :
    Calls Try.prog 20 #[.slice A l.length c, .slice B m.length d] w fun e w' => e = .returned (.bool (decide (l = m))) ∧ Below w.heap.size w w' := by
  by_cases hlen : l.length = m.length
  · have hne : ((l.length : Int) != (m.length : Int)) = false := by simp [hlen]
    have HL := Lib.hid hlen
    have hle : m.length ≤ l.length := by omega
    have hle' : l.length ≤ m.length := by omega
    clear hlen
    go_enter Try.func20, Try.ntmps20
    go_wp2
    go_loopg [5, 13] l.length (fun g s5 s13 wr => ∃ k : Nat, k ≤ l.length ∧ g = l.length - k ∧ s13 = .int .i64 k ∧ l.take k = m.take k ∧ Below w.heap.size w wr)
    case atStart => exact ⟨0, by omega, by omega, rfl, rfl, Below.refl _ _⟩
    case round =>
      obtain ⟨k, hk, hg, rfl, ht, hb⟩ := hrel
      have HT := Lib.hid ht
      clear ht
      by_cases hlt : k < l.length
      · have hlt' : k < m.length := by omega
        obtain ⟨b, off, rfl, hbw, c0, c1⟩ := (hl.below hb).sp k hlt
        obtain ⟨b', off', rfl, hbw', c0', c1'⟩ := (hm.below hb).sp k hlt'
        have HX := Lib.hid (fun h => take_eq_snoc hlt hlt' HT.out h)
        have HY := Lib.hid (fun h => list_ne_at hlt hlt' h)
        generalize l[k] = x at *
        generalize m[k] = y at *
        obtain ⟨x1, x2⟩ := x
        obtain ⟨y1, y2⟩ := y
        have hq := run_neq_span x1 x2 y1 y2
        go_wp2_with fail
        go_quiet (fail)
        go_wp2_with fail
        · have h : (!x1 == y1) = true ∨ (!x2 == y2) = true := by assumption
          have hne' : ((x1, x2) : Sp) ≠ (y1, y2) := by
            intro e
            injection e with e1 e2
            subst e1 e2
            simp at h
          go_ret
          exact ⟨ret_bool (by have := HY.out hne'; simp [this]), below_drewN hb _⟩
        · have h : (!x1 == y1) = false ∧ (!x2 == y2) = false := by assumption
          simp at h
          go_roundg (l.length - (k + 1))
          case measure => omega
          case rel => exact ⟨k + 1, by omega, rfl, by go_num, HX.out (by rw [h.1, h.2]), below_drewN hb _⟩
      · go_wp2
        go_ret
        have ht := HT.out
        rw [List.take_of_length_le (by omega), List.take_of_length_le (by omega)] at ht
        exact ⟨ret_bool (by simp [ht]), hb⟩
  · have hne : ((l.length : Int) != (m.length : Int)) = true := by rw [bne_iff_ne]; omega
    go_enter Try.func20, Try.ntmps20
    go_wp2
    go_ret
    exact ⟨ret_bool (by have : l ≠ m := (fun h => hlen (by rw [h])); simp [this]), Below.refl _ _⟩

end Go.Proofs.Ytabcbkgnhdijpaa
