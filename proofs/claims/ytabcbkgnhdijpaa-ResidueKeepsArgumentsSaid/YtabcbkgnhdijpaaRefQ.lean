/-
  Contracts of the reference's Has, Count and Next, for valid sets and for arbitrary lists.
-/
import Derived.Test.YtabcbkgnhdijpaaValid
import Derived.Test.YtabcbkgnhdijpaaQuery
set_option linter.unusedVariables false
set_option linter.unusedSimpArgs false
namespace Go.Proofs.Ytabcbkgnhdijpaa
open Go.RowKit RP

theorem modI_emod {x t : Int} (h : 1 ≤ t) : modI x t = x % t := by rw [modI, if_neg (by omega)]
theorem validL_parts {t : Int} {l : List Sp} (h : validL t l = true) : 1 ≤ t ∧ t ≤ 7200 ∧ inRange t = true ∧ validFrom t (-1) l = true := by
  simp [validL] at h
  have := h.1
  simp [inRange] at this
  exact ⟨this.1, this.2, h.1, h.2⟩

theorem mem_take_step {l : List Sp} {k : Nat} (hk : k < l.length) (x : Int) (h : mem (l.take k) x = false) (h' : ¬ (l[k].1 ≤ x ∧ x < l[k].2)) : mem (l.take (k + 1)) x = false := by
  rw [List.take_succ_eq_append_getElem hk]
  cases hm : mem (l.take k ++ [l[k]]) x with
  | false => rfl
  | true =>
    rcases mem_append.1 hm with q | q
    · rw [h] at q; cases q
    · rcases mem_cons.1 q with q | q
      · exact absurd q h'
      · simp [mem] at q

set_option maxHeartbeats 1000000 in
theorem refHas_any (t : Int) (A : Option Addr) (c : Nat) (l : List Sp) (x : Int) (w : World) (hl : Lst encS 2 w w.heap.size A l) (hn : l.length ≤ 9223372036854775807) (t1 : -9223372036854775808 ≤ t) (t2 : t ≤ 9223372036854775807) :
    Calls Try.prog 27 #[.int .i64 t, .slice A l.length c, .int .i64 x] w fun e w' => e = .returned (.bool (hasL t l x)) ∧ Below w.heap.size w w' := by
  have hv := validSpans_any t A c l w hl hn
  cases h1 : validL t l with
  | false =>
    rw [h1] at hv
    have H := Lib.hid h1
    clear h1
    go_enter Try.func27, Try.ntmps27
    go_wp2_with (go_at_call 22; refine hv.mono ?_; rintro e w1 ⟨rfl, hb1⟩)
    go_ret
    exact ⟨ret_bool (by simp [hasL, H.out]), hb1⟩
  | true =>
    rw [h1] at hv
    obtain ⟨p1, p2, p3, p4⟩ := validL_parts h1
    have H := Lib.hid h1
    have hmod := fun W => refMod_any x t W t1 t2
    rw [modI_emod p1] at hmod
    have HH := Lib.hid (show hasL t l x = mem l (x % t) by simp [hasL, h1])
    generalize x % t = r at *
    clear h1 p3 p4
    go_enter Try.func27, Try.ntmps27
    go_wp2_with (first
      | (go_at_call 22; refine hv.mono ?_; rintro e w1 ⟨rfl, hb1⟩)
      | (go_at_call 46; refine (hmod _).mono ?_; rintro e w' ⟨rfl, rfl⟩))
    clear hmod hv
    go_loopg [8] l.length (fun g s8 wr => ∃ k : Nat, k ≤ l.length ∧ g = l.length - k ∧ s8 = .int .i64 k ∧ mem (l.take k) r = false ∧ Below w.heap.size w wr)
    case atStart => exact ⟨0, by omega, by omega, rfl, rfl, hb1⟩
    case round =>
      obtain ⟨k, hk, hg, rfl, hm, hb⟩ := hrel
      have HM := Lib.hid hm
      clear hm
      by_cases hlt : k < l.length
      · obtain ⟨b, off, rfl, hbw, c0, c1⟩ := (hl.below hb).sp k hlt
        have HY := Lib.hid (fun h1 h2 => mem_of_get (x := r) hlt h1 h2)
        have HN := Lib.hid (mem_take_step hlt r HM.out)
        generalize l[k] = s at *
        obtain ⟨f, e⟩ := s
        simp only at c0 c1
        by_cases q1 : f ≤ r
        · by_cases q2 : r < e
          · go_wp2
            go_ret
            exact ⟨ret_bool (by rw [HH.out, HY.out q1 q2]), hb⟩
          · go_wp2
            go_roundg (l.length - (k + 1))
            case measure => omega
            case rel => exact ⟨k + 1, by omega, rfl, by go_num, HN.out (by omega), hb⟩
        · go_wp2
          go_roundg (l.length - (k + 1))
          case measure => omega
          case rel => exact ⟨k + 1, by omega, rfl, by go_num, HN.out (by omega), hb⟩
      · go_wp2
        go_ret
        have hm := HM.out
        rw [List.take_of_length_le (by omega)] at hm
        exact ⟨ret_bool (by rw [HH.out, hm]), hb⟩

theorem total_snoc (l : List Sp) (s : Sp) : total (l ++ [s]) = total l + (s.2 - s.1) := by rw [total_append]; simp [total]

set_option maxHeartbeats 1000000 in
theorem refCount_any (t : Int) (A : Option Addr) (c : Nat) (l : List Sp) (w : World) (hl : Lst encS 2 w w.heap.size A l) (hn : l.length ≤ 9223372036854775807) :
    Calls Try.prog 29 #[.int .i64 t, .slice A l.length c] w fun e w' => e = .returned (.int .i64 (countL t l)) ∧ Below w.heap.size w w' := by
  have hv := validSpans_any t A c l w hl hn
  cases h1 : validL t l with
  | false =>
    rw [h1] at hv
    have H := Lib.hid h1
    clear h1
    go_enter Try.func29, Try.ntmps29
    go_wp2_with (go_at_call 22; refine hv.mono ?_; rintro e w1 ⟨rfl, hb1⟩)
    go_ret
    exact ⟨ret_int (by simp [countL, H.out]), hb1⟩
  | true =>
    rw [h1] at hv
    obtain ⟨p1, p2, p3, p4⟩ := validL_parts h1
    have HP := Lib.hid p4
    have HC := Lib.hid (show countL t l = total l by simp [countL, h1])
    clear h1 p3 p4
    go_enter Try.func29, Try.ntmps29
    go_wp2_with (go_at_call 22; refine hv.mono ?_; rintro e w1 ⟨rfl, hb1⟩)
    clear hv
    go_loopg [5, 6] l.length (fun g s5 s6 wr => ∃ k : Nat, k ≤ l.length ∧ g = l.length - k ∧ s6 = .int .i64 k ∧ s5 = .int .i64 (total (l.take k)) ∧ Below w.heap.size w wr)
    case atStart => exact ⟨0, by omega, by omega, rfl, rfl, hb1⟩
    case round =>
      obtain ⟨k, hk, hg, rfl, rfl, hb⟩ := hrel
      have hb1 := total_bound (validFrom_take k HP.out) (by omega)
      by_cases hlt : k < l.length
      · obtain ⟨b, off, rfl, hbw, c0, c1⟩ := (hl.below hb).sp k hlt
        have hb2 := total_bound (validFrom_take (k + 1) HP.out) (by omega)
        have HT := Lib.hid (show total (l.take (k + 1)) = total (l.take k) + (l[k].2 - l[k].1) by rw [take_snoc l k hlt, total_snoc])
        have hva := valid_lt HP.out hlt
        rw [HT.out] at hb2
        generalize l[k].1 = f at *
        generalize l[k].2 = e at *
        have hf : 0 ≤ e - f ∧ e - f ≤ 7201 := by omega
        generalize total (l.take k) = S at *
        have w1 : IntKind.i64.wrap (e - f) = e - f := IntWalk.i64_in _ (by omega)
        have w2 : IntKind.i64.wrap (S + (e - f)) = S + (e - f) := IntWalk.i64_in _ (by omega)
        have hlt' : (k : Int) < (l.length : Int) := by omega
        go_wp2_with fail
        go_quiet (fail)
        clear w1 w2
        go_wp2
        go_roundg (l.length - (k + 1))
        case measure => omega
        case rel => exact ⟨k + 1, by omega, rfl, by go_num, by rw [HT.out], below_drewN hb _⟩
      · go_wp2
        go_ret
        rw [List.take_of_length_le (by omega)]
        exact ⟨ret_int (by rw [HC.out]), hb⟩

/-- What Next leaves. -/
def NextPost (t : Int) (l : List Sp) (x : Int) (w : World) (e : Ending) (w' : World) : Prop := ∃ d ok, e = .returned (.tuple #[.int .i64 d, .bool ok]) ∧ NextSpec t l x d ok ∧ Below w.heap.size w w'

set_option maxHeartbeats 1000000 in
theorem refNext_any (t : Int) (A : Option Addr) (c : Nat) (l : List Sp) (x : Int) (w : World) (hl : Lst encS 2 w w.heap.size A l) (hn : l.length ≤ 9223372036854775807) (t1 : -9223372036854775808 ≤ t) (t2 : t ≤ 9223372036854775807) :
    Calls Try.prog 26 #[.int .i64 t, .slice A l.length c, .int .i64 x] w (NextPost t l x w) := by
  have hv := validSpans_any t A c l w hl hn
  cases h1 : validL t l with
  | false =>
    rw [h1] at hv
    have H := Lib.hid h1
    clear h1
    go_enter Try.func26, Try.ntmps26
    go_wp2_with (go_at_call 22; refine hv.mono ?_; rintro e w1 ⟨rfl, hb1⟩)
    go_ret2
    exact ⟨0, false, rfl, next_bad H.out, hb1⟩
  | true =>
    rw [h1] at hv
    obtain ⟨p1, p2, p3, p4⟩ := validL_parts h1
    have H := Lib.hid h1
    have HV := Lib.hid p4
    have HR := Lib.hid p3
    have hmod := fun W => refMod_any x t W t1 t2
    have hmr := modI_range x t p1
    rw [modI_emod p1] at hmod hmr
    have hhas : ∀ (d : Int) (W : World), Below w.heap.size w W → Calls Try.prog 27 #[.int .i64 t, .slice A l.length c, .int .i64 (x % t + d)] W fun e w' => e = .returned (.bool (mem l ((x + d) % t))) ∧ Below w.heap.size w w' := fun d W hW => by
      have := refHas_any t A c l (x % t + d) W (hl.belowMore hW hW.size) hn t1 t2
      have e1 : hasL t l (x % t + d) = mem l ((x + d) % t) := by rw [hasL, h1, Bool.true_and, emod_shift]
      rw [e1] at this
      exact this.mono fun e w' ⟨he, hb⟩ => ⟨he, hW.trans (hb.mono hW.size)⟩
    generalize hr : x % t = r at *
    clear h1 p3 p4 hr
    go_enter Try.func26, Try.ntmps26
    go_wp2_with (first
      | (go_at_call 22; refine hv.mono ?_; rintro e w1 ⟨rfl, hb1⟩)
      | (go_at_call 46; refine (hmod _).mono ?_; rintro e w' ⟨rfl, rfl⟩))
    clear hmod hv
    obtain ⟨T, rfl⟩ := Int.eq_ofNat_of_zero_le (show 0 ≤ t by omega)
    go_loopg [9] T (fun g s9 wr => ∃ k : Nat, k ≤ T ∧ g = T - k ∧ s9 = .int .i64 k ∧ (∀ j : Int, 0 ≤ j → j < k → mem l ((x + j) % T) = false) ∧ Below w.heap.size w wr)
    case atStart => exact ⟨0, by omega, by omega, rfl, fun j h0 h1 => by omega, hb1⟩
    case round =>
      obtain ⟨k, hk, hg, rfl, hm, hb⟩ := hrel
      have HM := Lib.hid hm
      clear hm
      by_cases hlt : k < T
      · have hc := hhas k wr hb
        have HH := Lib.hid hhas
        clear hhas
        cases hx : mem l ((x + k) % T) with
        | true =>
          rw [hx] at hc
          have HX := Lib.hid hx
          clear hx
          go_wp2_with (go_at_call 27; refine hc.mono ?_; rintro e w2 ⟨rfl, hb2⟩)
          go_ret2
          refine ⟨k, true, rfl, ?_, hb2⟩
          unfold NextSpec
          rw [if_pos H.out]
          exact .inl ⟨rfl, by omega, by omega, HX.out, fun j h0 h1 => HM.out j h0 h1⟩
        | false =>
          rw [hx] at hc
          have HX := Lib.hid hx
          clear hx
          go_wp2_with (go_at_call 27; refine hc.mono ?_; rintro e w2 ⟨rfl, hb2⟩)
          go_roundg (T - (k + 1))
          case measure => omega
          case rel =>
            refine ⟨k + 1, by omega, rfl, by go_num, fun j h0 h1 => ?_, hb2⟩
            by_cases e : j = k
            · subst e; exact HX.out
            · exact HM.out j h0 (by omega)
      · clear hhas
        go_wp2
        go_ret2
        have h0 : l = [] := empty_of_none (x := x) HR.out HV.out (fun j h0 h1 => HM.out j h0 (by omega))
        exact ⟨0, false, rfl, by rw [h0]; exact next_empty HR.out, hb⟩

end Go.Proofs.Ytabcbkgnhdijpaa
