/-
  Contracts of the reference's Has, Count and Next, for valid sets and for arbitrary lists.
-/
import Derived.Test.YtbhjnihcmfagjaaValid
import Derived.Test.YtbhjnihcmfagjaaPlain
set_option linter.unusedVariables false
set_option linter.unusedSimpArgs false
namespace Go.Proofs.Ytbhjnihcmfagjaa
open Go.RowKit RP

theorem modI_emod {x t : Int} (h : 1 ≤ t) : modI x t = x % t := by rw [modI, if_neg (by omega)]
theorem validL_parts {t : Int} {l : List Sp} (h : validL t l = true) : 1 ≤ t ∧ t ≤ 7200 ∧ inRange t = true ∧ validFrom t (-1) l = true := by
  simp [validL] at h
  have := h.1
  simp [inRange] at this
  exact ⟨this.1, this.2, h.1, h.2⟩

theorem mem_take_step {l : List Sp} {k : Nat} (hk : k < l.length) (x : Int) (h : mem (l.take k) x = false) (h' : ¬ (l[k].1 ≤ x ∧ x < l[k].2)) : mem (l.take (k + 1)) x = false := by
  rw [List.take_succ_eq_append_getElem hk]
  cases hm : mem (l.take k ++ [l[k]]) x with
  | false => rfl
  | true =>
    rcases mem_append.1 hm with q | q
    · rw [h] at q; cases q
    · rcases mem_cons.1 q with q | q
      · exact absurd q h'
      · simp [mem] at q

set_option maxHeartbeats 1000000 in
theorem refHas_any (t : Int) (A : Option Addr) (c : Nat) (l : List Sp) (x : Int) (w : World) (hl : Lst encS 2 w w.heap.size A l) (hn : l.length ≤ 9223372036854775807) (t1 : -9223372036854775808 ≤ t) (t2 : t ≤ 9223372036854775807) :
    Calls Try.prog 17 #[.int .i64 t, .slice A l.length c, .int .i64 x] w fun e w' => e = .returned (.bool (hasL t l x)) ∧ Below w.heap.size w w' := by
  have hv := validSpans_any t A c l w hl hn
  cases h1 : validL t l with
  | false =>
    rw [h1] at hv
    have H := Lib.hid h1
    clear h1
    go_enter Try.func17, Try.ntmps17
    go_wp2_with (go_at_call 43; refine hv.mono ?_; rintro e w1 ⟨rfl, hb1⟩)
    go_ret
    exact ⟨ret_bool (by simp [hasL, H.out]), hb1⟩
  | true =>
    rw [h1] at hv
    obtain ⟨p1, p2, p3, p4⟩ := validL_parts h1
    have H := Lib.hid h1
    have hmod := fun W => refMod_any x t W t1 t2
    rw [modI_emod p1] at hmod
    have HH := Lib.hid (show hasL t l x = mem l (x % t) by simp [hasL, h1])
    generalize x % t = r at *
    clear h1 p3 p4
    go_enter Try.func17, Try.ntmps17
    go_wp2_with (first
      | (go_at_call 43; refine hv.mono ?_; rintro e w1 ⟨rfl, hb1⟩)
      | (go_at_call 44; refine (hmod _).mono ?_; rintro e w' ⟨rfl, rfl⟩))
    clear hmod hv
    go_loopg [8] l.length (fun g s8 wr => ∃ k : Nat, k ≤ l.length ∧ g = l.length - k ∧ s8 = .int .i64 k ∧ mem (l.take k) r = false ∧ Below w.heap.size w wr)
    case atStart => exact ⟨0, by omega, by omega, rfl, rfl, hb1⟩
    case round =>
      obtain ⟨k, hk, hg, rfl, hm, hb⟩ := hrel
      have HM := Lib.hid hm
      clear hm
      by_cases hlt : k < l.length
      · obtain ⟨b, off, rfl, hbw, c0, c1⟩ := (hl.below hb).sp k hlt
        have HY := Lib.hid (fun h1 h2 => mem_of_get (x := r) hlt h1 h2)
        have HN := Lib.hid (mem_take_step hlt r HM.out)
        generalize l[k] = s at *
        obtain ⟨f, e⟩ := s
        simp only at c0 c1
        by_cases q1 : f ≤ r
        · by_cases q2 : r < e
          · go_wp2
            go_ret
            exact ⟨ret_bool (by rw [HH.out, HY.out q1 q2]), hb⟩
          · go_wp2
            go_roundg (l.length - (k + 1))
            case measure => omega
            case rel => exact ⟨k + 1, by omega, rfl, by go_num, HN.out (by omega), hb⟩
        · go_wp2
          go_roundg (l.length - (k + 1))
          case measure => omega
          case rel => exact ⟨k + 1, by omega, rfl, by go_num, HN.out (by omega), hb⟩
      · go_wp2
        go_ret
        have hm := HM.out
        rw [List.take_of_length_le (by omega)] at hm
        exact ⟨ret_bool (by rw [HH.out, hm]), hb⟩

theorem total_snoc (l : List Sp) (s : Sp) : total (l ++ [s]) = total l + (s.2 - s.1) := by rw [total_append]; simp [total]

/-- What Next leaves. -/
def NextPost (t : Int) (l : List Sp) (x : Int) (w : World) (e : Ending) (w' : World) : Prop := ∃ d ok, e = .returned (.tuple #[.int .i64 d, .bool ok]) ∧ NextSpec t l x d ok ∧ Below w.heap.size w w'

end Go.Proofs.Ytbhjnihcmfagjaa
