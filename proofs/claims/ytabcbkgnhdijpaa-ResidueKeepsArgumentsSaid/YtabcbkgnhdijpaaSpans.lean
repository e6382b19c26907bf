/-
  Contract of the reference's spans: the set of the marked residues.
-/
import Derived.Test.YtabcbkgnhdijpaaRefA
set_option linter.unusedVariables false
set_option linter.unusedSimpArgs false
namespace Go.Proofs.Ytabcbkgnhdijpaa
open Go.RowKit RP

theorem Lst.bo {w : World} {B : Nat} {A : Option Addr} {l : List Bool} (h : Lst encB 1 w B A l) (i : Nat) (hi : i < l.length) :
    ∃ b off, A = some ⟨b, off, none⟩ ∧ b < B ∧ w.cell? ⟨b, off + i, none⟩ = some (.bool l[i]) := by
  obtain ⟨b, off, e, hb, hc⟩ := h (by intro h0; subst h0; simp at hi)
  have := hc i l[i] (List.getElem?_eq_getElem hi) 0 _ rfl
  rw [Nat.mul_one, Nat.add_zero] at this
  exact ⟨b, off, e, hb, this⟩

def bitAt (l : List Bool) (i : Nat) : Bool := l.getD i false
theorem bitAt_get {l : List Bool} {i : Nat} (h : i < l.length) : bitAt l i = l[i] := by simp [bitAt, h]

theorem runs_no {P : Nat → Bool} {k : Nat} (h : P k = false) : runs P (k + 1) = runs P k := by simp [runs, h]
theorem runs_first {P : Nat → Bool} {k : Nat} (h : P k = true) (h0 : runs P k = []) : runs P (k + 1) = [] ++ [((k : Int), (k : Int) + 1)] := by simp [runs, h, h0, stepRun]
theorem runs_far {P : Nat → Bool} {k : Nat} (h : P k = true) {r : List Sp} {s : Sp} (h0 : runs P k = r ++ [s]) (h1 : s.2 ≠ k) : runs P (k + 1) = (r ++ [s]) ++ [((k : Int), (k : Int) + 1)] := by simp [runs, h, h0, stepRun, h1]
theorem runs_near {P : Nat → Bool} {k : Nat} (h : P k = true) {r : List Sp} {s : Sp} (h0 : runs P k = r ++ [s]) (h1 : s.2 = k) : runs P (k + 1) = (r ++ [s]).set r.length (s.1, (k : Int) + 1) := by
  simp [runs, h, h0, stepRun, h1]
theorem runs_len (P : Nat → Bool) : ∀ k, (runs P k).length ≤ k
  | 0 => by simp [runs]
  | k + 1 => by
    have ih := runs_len P k
    simp only [runs]
    split
    · unfold stepRun
      split
      · split
        · simp; omega
        · simp; omega
      · simp
    · omega

set_option maxHeartbeats 2000000 in
theorem spans_any (A : Option Addr) (c : Nat) (l : List Bool) (w : World) (hl : Lst encB 1 w w.heap.size A l) (hn : l.length ≤ 4294967296) :
    Calls Try.prog 47 #[.slice A l.length c] w fun e w' => ∃ v, e = .returned v ∧ OwnS w' w.heap.size v (runs (bitAt l) l.length) ∧ Below w.heap.size w w' := by
  go_enter Try.func47, Try.ntmps47
  go_wp2
  go_loopg [3, 4] l.length (fun g s3 s4 wr => ∃ k : Nat, k ≤ l.length ∧ g = l.length - k ∧ s4 = .int .i64 k ∧ OwnS wr w.heap.size s3 (runs (bitAt l) k) ∧ Below w.heap.size w wr)
  case atStart => exact ⟨0, by omega, by omega, rfl, Own.nil _ _ _ _ _, Below.refl _ _⟩
  case round =>
    obtain ⟨k, hk, hg, rfl, ho, hb⟩ := hrel
    by_cases hlt : k < l.length
    · obtain ⟨b, off, rfl, hbw, c0⟩ := (hl.below hb).bo k hlt
      have hbit := bitAt_get hlt
      cases hx : l[k] with
      | false =>
        rw [hx] at c0 hbit
        have H := Lib.hid (runs_no hbit)
        clear hbit hx
        go_wp2
        go_roundg (l.length - (k + 1))
        case measure => omega
        case rel => exact ⟨k + 1, by omega, rfl, by go_num, by rw [H.out]; exact ho, hb⟩
      | true =>
        rw [hx] at c0 hbit
        have hrl := runs_len (bitAt l) k
        rcases snoc_cases (runs (bitAt l) k) with h0 | ⟨r, s, h0⟩
        · have H := Lib.hid (runs_first hbit h0)
          clear hbit hx
          rw [h0] at ho hrl
          clear h0
          obtain ⟨A', c', rfl⟩ := ho.form
          go_wp2_with (at_builtin; refine wpList_append_rec rfl _ _ 22 rfl w.heap.size 31 16 Try.underlying22 elemS _ [] rfl ho [((k : Int), (k : Int) + 1)] _ rfl 1 1 rfl rfl (by simp only [maxLen, List.length_cons, List.length_nil]; omega) (by simp only [List.length_cons, List.length_nil]; omega) hb.size ?_; intro v1 w1 ho1 hg1 hat1)
          go_roundg (l.length - (k + 1))
          case measure => omega
          case rel => exact ⟨k + 1, by omega, rfl, by go_num, by rw [H.out]; exact ho1, hb.grown hg1 hb.size (ho.le (Nat.le_refl _))⟩
        · rw [h0] at ho hrl
          obtain ⟨g, c', rfl, hge, hgl, hcc, hcell, hfz⟩ := ho.at_ encS_len (by simp)
          have hr1 : r.length + 1 ≤ 4294967296 := by simp at hrl; omega
          have cl := hcell r.length s (by simp) 1 (.int .i64 s.2) rfl
          have fz := hfz (r.length * 2 + 1)
          by_cases h1 : s.2 = k
          · have H := Lib.hid (runs_near hbit h0 h1)
            have hst := ho.stored encS_len r.length 1 (.int .i64 ((k : Int) + 1)) (s.1, (k : Int) + 1) (by simp) (by omega) (by simp [encS])
            have HS := Lib.hid hst
            have hbe : (s.2 == (k : Int)) = true := by simp [h1]
            clear hbit hx h0 h1 hst hcell hfz hrl
            go_wp2
            go_roundg (l.length - (k + 1))
            case measure => omega
            case rel =>
              have hs := HS.out
              exact ⟨k + 1, by omega, rfl, by go_num, by rw [H.out]; simpa using hs.1, hb.setCell hge _⟩
          · have H := Lib.hid (runs_far hbit h0 h1)
            have hbe : (s.2 == (k : Int)) = false := by simp [h1]
            clear hbit hx h0 h1 hcell hfz hrl
            go_wp2_with (at_builtin; refine wpList_append_rec rfl _ _ 22 rfl w.heap.size 31 16 Try.underlying22 elemS _ (r ++ [s]) rfl ho [((k : Int), (k : Int) + 1)] _ rfl 1 1 rfl rfl (by simp only [maxLen, List.length_cons, List.length_nil, List.length_append]; omega) (by simp only [List.length_cons, List.length_nil, List.length_append]; omega) hb.size ?_; intro v1 w1 ho1 hg1 hat1)
            go_roundg (l.length - (k + 1))
            case measure => omega
            case rel => exact ⟨k + 1, by omega, rfl, by go_num, by rw [H.out]; exact ho1, hb.grown hg1 hb.size (ho.le (Nat.le_refl _))⟩
    · go_wp2
      go_ret
      obtain rfl : k = l.length := by omega
      exact ⟨_, rfl, ho, hb⟩

end Go.Proofs.Ytabcbkgnhdijpaa
