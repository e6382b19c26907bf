/-
  Contracts of closure.Check, Open and small, and of the reference's CheckClosures, covering, Open, Next, moderate, Enters and Earliest.
-/
import Derived.Test.YtjeocfkijbpinaaClo
set_option linter.unusedVariables false
set_option linter.unusedSimpArgs false
namespace Go.Proofs.Ytjeocfkijbpinaa
open Go.RowKit RP

set_option maxHeartbeats 1000000 in
theorem check_any (A : Option Addr) (c : Nat) (l : List Clo) (w : World) (hl : Lst encO 3 w w.heap.size A l) (hn : l.length ≤ 9223372036854775807) :
    Calls Try.prog 13 #[.slice A l.length c] w fun e w' => e = .returned (.bool (checkC l)) ∧ Below w.heap.size w w' := by
  by_cases h32 : l.length ≤ 32
  · go_enter Try.func13, Try.ntmps13
    go_wp2_with fail
    go_loopg [4, 10] l.length (fun g s4 s10 wr => ∃ k : Nat, k ≤ l.length ∧ g = l.length - k ∧ s10 = .int .i64 k ∧ (l.take k).all (fun c => decide (okC c)) = true ∧ Below w.heap.size w wr)
    case atStart => exact ⟨0, by omega, by omega, rfl, rfl, Below.refl _ _⟩
    case round =>
      obtain ⟨k, hk, hg, rfl, hv, hb⟩ := hrel
      have HV := Lib.hid hv
      clear hv
      by_cases hlt : k < l.length
      · obtain ⟨b, off, rfl, hbw, c0, c1, c2⟩ := (hl.below hb).oc k hlt
        have HNO := Lib.hid (fun h => all_no (p := fun c : Clo => decide (okC c)) hlt h)
        have HYES := Lib.hid (fun h => all_take_snoc (p := fun c : Clo => decide (okC c)) hlt HV.out h)
        generalize l[k] = x at *
        obtain ⟨r, f, e⟩ := x
        simp only at c0 c1 c2
        go_wp2
        all_goals first
          | (go_ret
             refine ⟨ret_bool ?_, hb.alloc hb.size _⟩
             rw [checkC, HNO.out (by rw [decide_eq_false_iff_not]; simp only [okC]; omega), Bool.and_false])
          | (go_roundg (l.length - (k + 1))
             case measure => omega
             case rel => exact ⟨k + 1, by omega, rfl, by go_num, HYES.out (by rw [decide_eq_true_eq]; simp only [okC]; omega), hb.alloc hb.size _⟩)
      · go_wp2
        go_ret
        have hv := HV.out
        rw [List.take_of_length_le (by omega)] at hv
        exact ⟨ret_bool (by simp [checkC, hv]; omega), hb⟩
  · go_enter Try.func13, Try.ntmps13
    go_wp2
    go_ret
    exact ⟨ret_bool (by simp [checkC]; omega), Below.refl _ _⟩

set_option maxHeartbeats 1000000 in
theorem refCheck_any (A : Option Addr) (c : Nat) (l : List Clo) (w : World) (hl : Lst encO 3 w w.heap.size A l) (hn : l.length ≤ 9223372036854775807) :
    Calls Try.prog 24 #[.slice A l.length c] w fun e w' => e = .returned (.bool (checkC l)) ∧ Below w.heap.size w w' := by
  by_cases h32 : l.length ≤ 32
  · go_enter Try.func24, Try.ntmps24
    go_wp2_with fail
    go_loopg [4, 10] l.length (fun g s4 s10 wr => ∃ k : Nat, k ≤ l.length ∧ g = l.length - k ∧ s10 = .int .i64 k ∧ (l.take k).all (fun c => decide (okC c)) = true ∧ Below w.heap.size w wr)
    case atStart => exact ⟨0, by omega, by omega, rfl, rfl, Below.refl _ _⟩
    case round =>
      obtain ⟨k, hk, hg, rfl, hv, hb⟩ := hrel
      have HV := Lib.hid hv
      clear hv
      by_cases hlt : k < l.length
      · obtain ⟨b, off, rfl, hbw, c0, c1, c2⟩ := (hl.below hb).oc k hlt
        have HNO := Lib.hid (fun h => all_no (p := fun c : Clo => decide (okC c)) hlt h)
        have HYES := Lib.hid (fun h => all_take_snoc (p := fun c : Clo => decide (okC c)) hlt HV.out h)
        generalize l[k] = x at *
        obtain ⟨r, f, e⟩ := x
        simp only at c0 c1 c2
        go_wp2
        all_goals first
          | (go_ret
             refine ⟨ret_bool ?_, hb.alloc hb.size _⟩
             rw [checkC, HNO.out (by rw [decide_eq_false_iff_not]; simp only [okC]; omega), Bool.and_false])
          | (go_roundg (l.length - (k + 1))
             case measure => omega
             case rel => exact ⟨k + 1, by omega, rfl, by go_num, HYES.out (by rw [decide_eq_true_eq]; simp only [okC]; omega), hb.alloc hb.size _⟩)
      · go_wp2
        go_ret
        have hv := HV.out
        rw [List.take_of_length_le (by omega)] at hv
        exact ⟨ret_bool (by simp [checkC, hv]; omega), hb⟩
  · go_enter Try.func24, Try.ntmps24
    go_wp2
    go_ret
    exact ⟨ret_bool (by simp [checkC]; omega), Below.refl _ _⟩


theorem cover_take {l : List Clo} {r x : Int} {k : Nat} (hk : k < l.length) (h : (l.take k).any (covC r x) = false) (h' : covC r x l[k] = false) : (l.take (k + 1)).any (covC r x) = false := by
  rw [take_snoc l k hk, List.any_append, h]; simp [h']

set_option maxHeartbeats 1000000 in
theorem open_any (A : Option Addr) (c : Nat) (l : List Clo) (r x : Int) (w : World) (hl : Lst encO 3 w w.heap.size A l) (hn : l.length ≤ 9223372036854775807) :
    Calls Try.prog 17 #[.slice A l.length c, .int .i64 r, .int .i64 x] w fun e w' => e = .returned (.bool (!coverC l r x)) ∧ Below w.heap.size w w' := by
  go_enter Try.func17, Try.ntmps17
  go_wp2_with fail
  go_loopg [8, 11] l.length (fun g s8 s11 wr => ∃ k : Nat, k ≤ l.length ∧ g = l.length - k ∧ s11 = .int .i64 k ∧ (l.take k).any (covC r x) = false ∧ Below w.heap.size w wr)
  case atStart => exact ⟨0, by omega, by omega, rfl, rfl, Below.refl _ _⟩
  case round =>
    obtain ⟨k, hk, hg, rfl, hv, hb⟩ := hrel
    have HV := Lib.hid hv
    clear hv
    by_cases hlt : k < l.length
    · obtain ⟨b, off, rfl, hbw, c0, c1, c2⟩ := (hl.below hb).oc k hlt
      have HYES := Lib.hid (fun h : covC r x l[k] = true => show coverC l r x = true from List.any_eq_true.2 ⟨l[k], List.getElem_mem hlt, h⟩)
      have HNO := Lib.hid (fun h => cover_take hlt HV.out h)
      generalize l[k] = q at *
      obtain ⟨r', f, e⟩ := q
      simp only at c0 c1 c2
      by_cases q1 : r' = r
      · have d1 : (r' == r) = true := by simp [q1]
        by_cases q2 : f ≤ x
        · by_cases q3 : x < e
          · have HT := Lib.hid (HYES.out (cov_iff.2 ⟨q1, q2, q3⟩))
            clear q1
            go_wp2_with fail
            go_ret
            exact ⟨ret_bool (by rw [HT.out]; rfl), hb.alloc hb.size _⟩
          · have HT := Lib.hid (HNO.out (cov_false.2 (fun h => q3 h.2.2)))
            clear q1
            go_wp2_with fail
            go_roundg (l.length - (k + 1))
            case measure => omega
            case rel => exact ⟨k + 1, by omega, rfl, by go_num, HT.out, hb.alloc hb.size _⟩
        · have HT := Lib.hid (HNO.out (cov_false.2 (fun h => q2 h.2.1)))
          clear q1
          go_wp2_with fail
          go_roundg (l.length - (k + 1))
          case measure => omega
          case rel => exact ⟨k + 1, by omega, rfl, by go_num, HT.out, hb.alloc hb.size _⟩
      · have HT := Lib.hid (HNO.out (cov_false.2 (fun h => q1 h.1)))
        have d1 : (r' == r) = false := by simp [q1]
        clear q1
        go_wp2_with fail
        go_roundg (l.length - (k + 1))
        case measure => omega
        case rel => exact ⟨k + 1, by omega, rfl, by go_num, HT.out, hb.alloc hb.size _⟩
    · go_wp2_with fail
      go_ret
      have hv := HV.out
      rw [List.take_of_length_le (by omega)] at hv
      exact ⟨ret_bool (by rw [coverC, hv]; rfl), hb⟩

/-- What covering answers: an element that covers, or -1 where there is none. -/
def CovPost (l : List Clo) (r x : Int) (w : World) (e : Ending) (w' : World) : Prop :=
  ((∃ (k : Nat) (h : k < l.length), e = .returned (.int .i64 k) ∧ covC r x l[k] = true) ∨ (e = .returned (.int .i64 (-1)) ∧ coverC l r x = false)) ∧ Below w.heap.size w w'

set_option maxHeartbeats 1000000 in
theorem covering_any (A : Option Addr) (c : Nat) (l : List Clo) (r x : Int) (w : World) (hl : Lst encO 3 w w.heap.size A l) (hn : l.length ≤ 9223372036854775807) :
    Calls Try.prog 33 #[.slice A l.length c, .int .i64 r, .int .i64 x] w (CovPost l r x w) := by
  go_enter Try.func33, Try.ntmps33
  go_wp2_with fail
  go_loopg [7, 8, 11] l.length (fun g s7 s8 s11 wr => ∃ k : Nat, k ≤ l.length ∧ g = l.length - k ∧ s11 = .int .i64 k ∧ (l.take k).any (covC r x) = false ∧ Below w.heap.size w wr)
  case atStart => exact ⟨0, by omega, by omega, rfl, rfl, Below.refl _ _⟩
  case round =>
    obtain ⟨k, hk, hg, rfl, hv, hb⟩ := hrel
    have HV := Lib.hid hv
    clear hv
    by_cases hlt : k < l.length
    · obtain ⟨b, off, rfl, hbw, c0, c1, c2⟩ := (hl.below hb).oc k hlt
      have HNO := Lib.hid (fun h => cover_take hlt HV.out h)
      obtain ⟨q, hq⟩ : ∃ q, l[k] = q := ⟨_, rfl⟩
      rw [hq] at c0 c1 c2 HNO
      have HQ := Lib.hid hq
      clear hq
      obtain ⟨r', f, e⟩ := q
      simp only at c0 c1 c2
      by_cases q1 : r' = r
      · have d1 : (r' == r) = true := by simp [q1]
        by_cases q2 : f ≤ x
        · by_cases q3 : x < e
          · have HT := Lib.hid (show covC r x (r', f, e) = true from cov_iff.2 ⟨q1, q2, q3⟩)
            clear q1
            go_wp2_with fail
            go_ret
            exact ⟨.inl ⟨k, hlt, rfl, by rw [HQ.out]; exact HT.out⟩, hb.alloc hb.size _⟩
          · have HT := Lib.hid (HNO.out (cov_false.2 (fun h => q3 h.2.2)))
            clear q1
            go_wp2_with fail
            go_roundg (l.length - (k + 1))
            case measure => omega
            case rel => exact ⟨k + 1, by omega, rfl, by go_num, HT.out, hb.alloc hb.size _⟩
        · have HT := Lib.hid (HNO.out (cov_false.2 (fun h => q2 h.2.1)))
          clear q1
          go_wp2_with fail
          go_roundg (l.length - (k + 1))
          case measure => omega
          case rel => exact ⟨k + 1, by omega, rfl, by go_num, HT.out, hb.alloc hb.size _⟩
      · have HT := Lib.hid (HNO.out (cov_false.2 (fun h => q1 h.1)))
        have d1 : (r' == r) = false := by simp [q1]
        clear q1
        go_wp2_with fail
        go_roundg (l.length - (k + 1))
        case measure => omega
        case rel => exact ⟨k + 1, by omega, rfl, by go_num, HT.out, hb.alloc hb.size _⟩
    · go_wp2_with fail
      go_ret
      have hv := HV.out
      rw [List.take_of_length_le (by omega)] at hv
      exact ⟨.inr ⟨rfl, hv⟩, hb⟩

set_option maxHeartbeats 1000000 in
theorem refOpen_any (A : Option Addr) (c : Nat) (l : List Clo) (r x : Int) (w : World) (hl : Lst encO 3 w w.heap.size A l) (hn : l.length ≤ 9223372036854775807) :
    Calls Try.prog 18 #[.slice A l.length c, .int .i64 r, .int .i64 x] w fun e w' => e = .returned (.bool (!coverC l r x)) ∧ Below w.heap.size w w' := by
  go_enter Try.func18, Try.ntmps18
  go_wp2_with fail
  refine (covering_any A c l r x w hl hn).mono ?_
  rintro e w1 ⟨h | h, hb⟩
  · obtain ⟨k, hk, rfl, hc⟩ := h
    have HC := Lib.hid (show coverC l r x = true from List.any_eq_true.2 ⟨l[k], List.getElem_mem hk, hc⟩)
    clear hc
    go_wp2_with fail
    go_ret
    exact ⟨ret_bool (by rw [HC.out]; rfl), hb⟩
  · obtain ⟨rfl, hc⟩ := h
    have HC := Lib.hid hc
    clear hc
    go_wp2_with fail
    go_ret
    exact ⟨ret_bool (by rw [HC.out]; rfl), hb⟩

set_option maxHeartbeats 400000 in
theorem small_any (x : Int) (w : World) : Calls Try.prog 36 #[.int .i64 x] w fun e w' => e = .returned (.bool (smallC x)) ∧ w = w' := by
  by_cases h1 : -1099511627776 ≤ x
  · by_cases h2 : x ≤ 1099511627776
    · go_enter Try.func36, Try.ntmps36
      go_wp2
      go_ret
      exact ⟨ret_bool (by simp [smallC, h1, h2]), rfl⟩
    · go_enter Try.func36, Try.ntmps36
      go_wp2
      go_ret
      exact ⟨ret_bool (by simp [smallC]; omega), rfl⟩
  · go_enter Try.func36, Try.ntmps36
    go_wp2
    go_ret
    exact ⟨ret_bool (by simp [smallC]; omega), rfl⟩

set_option maxHeartbeats 400000 in
theorem moderate_any (x : Int) (w : World) : Calls Try.prog 37 #[.int .i64 x] w fun e w' => e = .returned (.bool (smallC x)) ∧ w = w' := by
  by_cases h1 : -1099511627776 ≤ x
  · by_cases h2 : x ≤ 1099511627776
    · go_enter Try.func37, Try.ntmps37
      go_wp2
      go_ret
      exact ⟨ret_bool (by simp [smallC, h1, h2]), rfl⟩
    · go_enter Try.func37, Try.ntmps37
      go_wp2
      go_ret
      exact ⟨ret_bool (by simp [smallC]; omega), rfl⟩
  · go_enter Try.func37, Try.ntmps37
    go_wp2
    go_ret
    exact ⟨ret_bool (by simp [smallC]; omega), rfl⟩


end Go.Proofs.Ytjeocfkijbpinaa
