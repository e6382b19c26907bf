/-
  Contracts of closure.Check, Open and small, and of the reference's CheckClosures, covering, Open, Next, moderate, Enters and Earliest.
  Contracts of the reference's Next, Enters and Earliest.
-/
import Derived.Test.YtlillkfelfoafaaClo
set_option linter.unusedVariables false
set_option linter.unusedSimpArgs false
namespace Go.Proofs.Ytlillkfelfoafaa
open Go.RowKit RP

theorem cover_take {l : List Clo} {r x : Int} {k : Nat} (hk : k < l.length) (h : (l.take k).any (covC r x) = false) (h' : covC r x l[k] = false) : (l.take (k + 1)).any (covC r x) = false := by
  rw [take_snoc l k hk, List.any_append, h]; simp [h']

/-- What covering answers: an element that covers, or -1 where there is none. -/
def CovPost (l : List Clo) (r x : Int) (w : World) (e : Ending) (w' : World) : Prop :=
  ((∃ (k : Nat) (h : k < l.length), e = .returned (.int .i64 k) ∧ covC r x l[k] = true) ∨ (e = .returned (.int .i64 (-1)) ∧ coverC l r x = false)) ∧ Below w.heap.size w w'

set_option maxHeartbeats 1000000 in
theorem covering_any (A : Option Addr) (c : Nat) (l : List Clo) (r x : Int) (w : World) (hl : Lst encO 3 w w.heap.size A l) (hn : l.length ≤ 9223372036854775807) :
    Calls Try.prog 66 #[.slice A l.length c, .int .i64 r, .int .i64 x] w (CovPost l r x w) := by
  go_enter Try.func66, Try.ntmps66
  go_wp2_with fail
  go_loopg [7, 8, 11] l.length (fun g s7 s8 s11 wr => ∃ k : Nat, k ≤ l.length ∧ g = l.length - k ∧ s11 = .int .i64 k ∧ (l.take k).any (covC r x) = false ∧ Below w.heap.size w wr)
  case atStart => exact ⟨0, by omega, by omega, rfl, rfl, Below.refl _ _⟩
  case round =>
    obtain ⟨k, hk, hg, rfl, hv, hb⟩ := hrel
    have HV := Lib.hid hv
    clear hv
    by_cases hlt : k < l.length
    · obtain ⟨b, off, rfl, hbw, c0, c1, c2⟩ := (hl.below hb).oc k hlt
      have HNO := Lib.hid (fun h => cover_take hlt HV.out h)
      obtain ⟨q, hq⟩ : ∃ q, l[k] = q := ⟨_, rfl⟩
      rw [hq] at c0 c1 c2 HNO
      have HQ := Lib.hid hq
      clear hq
      obtain ⟨r', f, e⟩ := q
      simp only at c0 c1 c2
      by_cases q1 : r' = r
      · have d1 : (r' == r) = true := by simp [q1]
        by_cases q2 : f ≤ x
        · by_cases q3 : x < e
          · have HT := Lib.hid (show covC r x (r', f, e) = true from cov_iff.2 ⟨q1, q2, q3⟩)
            clear q1
            go_wp2_with fail
            go_ret
            exact ⟨.inl ⟨k, hlt, rfl, by rw [HQ.out]; exact HT.out⟩, hb.alloc hb.size _⟩
          · have HT := Lib.hid (HNO.out (cov_false.2 (fun h => q3 h.2.2)))
            clear q1
            go_wp2_with fail
            go_roundg (l.length - (k + 1))
            case measure => omega
            case rel => exact ⟨k + 1, by omega, rfl, by go_num, HT.out, hb.alloc hb.size _⟩
        · have HT := Lib.hid (HNO.out (cov_false.2 (fun h => q2 h.2.1)))
          clear q1
          go_wp2_with fail
          go_roundg (l.length - (k + 1))
          case measure => omega
          case rel => exact ⟨k + 1, by omega, rfl, by go_num, HT.out, hb.alloc hb.size _⟩
      · have HT := Lib.hid (HNO.out (cov_false.2 (fun h => q1 h.1)))
        have d1 : (r' == r) = false := by simp [q1]
        clear q1
        go_wp2_with fail
        go_roundg (l.length - (k + 1))
        case measure => omega
        case rel => exact ⟨k + 1, by omega, rfl, by go_num, HT.out, hb.alloc hb.size _⟩
    · go_wp2_with fail
      go_ret
      have hv := HV.out
      rw [List.take_of_length_le (by omega)] at hv
      exact ⟨.inr ⟨rfl, hv⟩, hb⟩

set_option maxHeartbeats 1000000 in
theorem refOpen_any (A : Option Addr) (c : Nat) (l : List Clo) (r x : Int) (w : World) (hl : Lst encO 3 w w.heap.size A l) (hn : l.length ≤ 9223372036854775807) :
    Calls Try.prog 55 #[.slice A l.length c, .int .i64 r, .int .i64 x] w fun e w' => e = .returned (.bool (!coverC l r x)) ∧ Below w.heap.size w w' := by
  go_enter Try.func55, Try.ntmps55
  go_wp2_with fail
  refine (covering_any A c l r x w hl hn).mono ?_
  rintro e w1 ⟨h | h, hb⟩
  · obtain ⟨k, hk, rfl, hc⟩ := h
    have HC := Lib.hid (show coverC l r x = true from List.any_eq_true.2 ⟨l[k], List.getElem_mem hk, hc⟩)
    clear hc
    go_wp2_with fail
    go_ret
    exact ⟨ret_bool (by rw [HC.out]; rfl), hb⟩
  · obtain ⟨rfl, hc⟩ := h
    have HC := Lib.hid hc
    clear hc
    go_wp2_with fail
    go_ret
    exact ⟨ret_bool (by rw [HC.out]; rfl), hb⟩

set_option maxHeartbeats 400000 in
theorem small_any (x : Int) (w : World) : Calls Try.prog 51 #[.int .i64 x] w fun e w' => e = .returned (.bool (smallC x)) ∧ w = w' := by
  by_cases h1 : -1099511627776 ≤ x
  · by_cases h2 : x ≤ 1099511627776
    · go_enter Try.func51, Try.ntmps51
      go_wp2
      go_ret
      exact ⟨ret_bool (by simp [smallC, h1, h2]), rfl⟩
    · go_enter Try.func51, Try.ntmps51
      go_wp2
      go_ret
      exact ⟨ret_bool (by simp [smallC]; omega), rfl⟩
  · go_enter Try.func51, Try.ntmps51
    go_wp2
    go_ret
    exact ⟨ret_bool (by simp [smallC]; omega), rfl⟩

set_option maxHeartbeats 400000 in
theorem moderate_any (x : Int) (w : World) : Calls Try.prog 54 #[.int .i64 x] w fun e w' => e = .returned (.bool (smallC x)) ∧ w = w' := by
  by_cases h1 : -1099511627776 ≤ x
  · by_cases h2 : x ≤ 1099511627776
    · go_enter Try.func54, Try.ntmps54
      go_wp2
      go_ret
      exact ⟨ret_bool (by simp [smallC, h1, h2]), rfl⟩
    · go_enter Try.func54, Try.ntmps54
      go_wp2
      go_ret
      exact ⟨ret_bool (by simp [smallC]; omega), rfl⟩
  · go_enter Try.func54, Try.ntmps54
    go_wp2
    go_ret
    exact ⟨ret_bool (by simp [smallC]; omega), rfl⟩


end Go.Proofs.Ytlillkfelfoafaa

namespace Go.Proofs.Ytlillkfelfoafaa
open Go.RowKit RP

def NextPostC (l : List Clo) (r x : Int) (w : World) (e : Ending) (w' : World) : Prop := ∃ n, e = .returned (.int .i64 n) ∧ NextC l r x n ∧ Below w.heap.size w w'
def CovAt (l : List Clo) (r x : Int) (v : Value) : Prop := (∃ (k : Nat) (h : k < l.length), v = .int .i64 k ∧ covC r x l[k] = true) ∨ (v = .int .i64 (-1) ∧ coverC l r x = false)

theorem smallC_iff {x : Int} : smallC x = true ↔ -1099511627776 ≤ x ∧ x ≤ 1099511627776 := by simp [smallC]

set_option maxHeartbeats 2000000 in
theorem refEnters_any (A B : Option Addr) (c d : Nat) (l : List Clo) (occ : List Occ) (s : Int) (w : World) (hl : Lst encO 3 w w.heap.size A l) (ho : Lst encO 3 w w.heap.size B occ) (hn : l.length ≤ 9223372036854775807) (hn' : occ.length ≤ 9223372036854775807) :
    Calls Try.prog 37 #[.slice A l.length c, .slice B occ.length d, .int .i64 s] w fun e w' => e = .returned (.bool (entersC l occ s)) ∧ Below w.heap.size w w' := by
  have hmo := fun W => moderate_any s W
  cases hs : smallC s with
  | false =>
    rw [hs] at hmo
    have H := Lib.hid (show entersC l occ s = false by simp [entersC, hs])
    clear hs
    go_enter Try.func37, Try.ntmps37
    go_wp2_with (go_at_call 54; refine (hmo _).mono ?_; rintro e w' ⟨rfl, rfl⟩)
    go_ret
    exact ⟨ret_bool H.out.symm, Below.refl _ _⟩
  | true =>
    rw [hs] at hmo
    have HS := Lib.hid hs
    obtain ⟨s1, s2⟩ := smallC_iff.1 hs
    clear hs
    have HMO := Lib.hid hmo
    clear hmo
    go_enter Try.func37, Try.ntmps37
    go_wp2_with fail
    refine (HMO.out _).mono ?_
    rintro e w' ⟨rfl, rfl⟩
    clear HMO
    go_wp2_with fail
    go_loopg [8, 14] occ.length (fun g s8 s14 wr => ∃ k : Nat, k ≤ occ.length ∧ g = occ.length - k ∧ s14 = .int .i64 k ∧ (occ.take k).all (fun o => smallC o.2.1 && !coverC l o.1 (s + o.2.1)) = true ∧ Below w.heap.size w wr)
    case atStart => exact ⟨0, by omega, by omega, rfl, rfl, Below.refl _ _⟩
    case round =>
      obtain ⟨k, hk, hg, rfl, hv, hb⟩ := hrel
      have HV := Lib.hid hv
      clear hv
      have hz := hb.size
      by_cases hlt : k < occ.length
      · obtain ⟨b, off, rfl, hbw, c0, c1, c2⟩ := (ho.below hb).oc k hlt
        have HNO := Lib.hid (fun h => all_no (p := fun o : Occ => smallC o.2.1 && !coverC l o.1 (s + o.2.1)) hlt h)
        have HYES := Lib.hid (fun h => all_take_snoc (p := fun o : Occ => smallC o.2.1 && !coverC l o.1 (s + o.2.1)) hlt HV.out h)
        generalize occ[k] = q at *
        obtain ⟨r, f, e⟩ := q
        simp only at c0 c1 c2
        have hbW := hb.alloc hz (.cells #[.int .i64 r, .int .i64 f, .int .i64 e] 46)
        have k0 : (wr.alloc (.cells #[.int .i64 r, .int .i64 f, .int .i64 e] 46)).cell? ⟨wr.heap.size, 0, none⟩ = some (.int .i64 r) := by rw [World.cell?_alloc_at _ _ _ _ rfl]; rfl
        have k1 : (wr.alloc (.cells #[.int .i64 r, .int .i64 f, .int .i64 e] 46)).cell? ⟨wr.heap.size, 1, none⟩ = some (.int .i64 f) := by rw [World.cell?_alloc_at _ _ _ _ rfl]; rfl
        have hmf := fun W => moderate_any f W
        cases hf : smallC f with
        | false =>
          rw [hf] at hmf
          have HF := Lib.hid (HNO.out (by simp [hf]))
          clear hf
          go_wp2_with (go_at_call 54; refine (hmf _).mono ?_; rintro e w' ⟨rfl, rfl⟩)
          go_ret
          exact ⟨ret_bool (by rw [entersC, HF.out, Bool.and_false]), hbW⟩
        | true =>
          rw [hf] at hmf
          obtain ⟨f1, f2⟩ := smallC_iff.1 hf
          have HF := Lib.hid hf
          clear hf
          go_wp2_with fail
          refine (hmf _).mono ?_
          rintro e w' ⟨rfl, rfl⟩
          clear hmf
          generalize wr.alloc (.cells #[.int .i64 r, .int .i64 f, .int .i64 e] 46) = W at *
          have hzW := hbW.size
          have hop := refOpen_any A c l r (s + f) W (hl.belowMore hbW hzW) hn
          cases hcv : coverC l r (s + f) with
          | true =>
            rw [hcv] at hop
            have HF := Lib.hid (HNO.out (by simp [hcv]))
            clear hcv
            go_wp2_with (go_at_call 55; refine hop.mono ?_; rintro e w2 ⟨rfl, hb2⟩)
            go_ret
            exact ⟨ret_bool (by rw [entersC, HF.out, Bool.and_false]), hbW.trans (hb2.mono hzW)⟩
          | false =>
            rw [hcv] at hop
            have HT := Lib.hid (HYES.out (by simp [hcv, HF.out]))
            clear hcv
            go_wp2_with (go_at_call 55; refine hop.mono ?_; rintro e w2 ⟨rfl, hb2⟩)
            go_roundg (occ.length - (k + 1))
            case measure => omega
            case rel => exact ⟨k + 1, by omega, rfl, by go_num, HT.out, hbW.trans (hb2.mono hzW)⟩
      · go_wp2_with fail
        go_ret
        have hv := HV.out
        rw [List.take_of_length_le (by omega)] at hv
        exact ⟨ret_bool (by rw [entersC, HS.out, hv]; rfl), hb⟩

def EarlPost (l : List Clo) (occ : List Occ) (s m : Int) (w : World) (e : Ending) (w' : World) : Prop := ∃ d ok, e = .returned (.tuple #[.int .i64 d, .bool ok]) ∧ EarlC l occ s m d ok ∧ Below w.heap.size w w'

end Go.Proofs.Ytlillkfelfoafaa
