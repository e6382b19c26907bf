/-
  Contract of the reference's Forbidden.
-/
import Derived.Test.YtdijhhfmicafjaaRef9C
import Derived.Test.YtdijhhfmicafjaaSpans
set_option linter.unusedVariables false
set_option linter.unusedSimpArgs false
namespace Go.Proofs.Ytdijhhfmicafjaa
open Go.RowKit RP

theorem Own.bit {w : World} {base g n c : Nat} {T : Nat} {P : Nat → Bool} (h : Own encB 1 4 w base (.slice (some ⟨g, 0, none⟩) n c) (bitsOf T P)) (i : Nat) (hi : i < T) : w.cell? ⟨g, i, none⟩ = some (.bool (P i)) := by
  obtain ⟨b, off, e, _, hc⟩ := (h.lst encB_len) (by intro h0; have := bitsOf_length T P; rw [h0] at this; simp at this; omega)
  injection e with e
  injection e with e1 e2
  subst e1 e2
  have := hc i (P i) (by simp [bitsOf, hi]) 0 _ rfl
  simpa using this

set_option maxHeartbeats 4000000 in
theorem refForbidden_any (t : Int) (A B : Option Addr) (c d : Nat) (a b : List Occ) (w : World) (ha : Lst encO 3 w w.heap.size A a) (hb : Lst encO 3 w w.heap.size B b) (hn : a.length ≤ 9223372036854775807) (hn' : b.length ≤ 9223372036854775807) :
    Calls Try.prog 25 #[.int .i64 t, .slice A a.length c, .slice B b.length d] w fun e w' =>
      ∃ v, e = .returned (.tuple #[v, .int .i64 (forbErr t a b)]) ∧ OwnS w' w.heap.size v (forbL t a b) ∧ Below w.heap.size w w' := by
  have hfb := forbRef_any t A B c d a b w ha hb hn hn'
  by_cases h0 : forbErr t a b = 0
  · have hr : inRange t = true := by
      unfold forbErr at h0
      split at h0
      · rename_i q; exact q
      · simp at h0
    have ht : 1 ≤ t ∧ t ≤ 7200 := by simpa [inRange] using hr
    obtain ⟨T, rfl⟩ := Int.eq_ofNat_of_zero_le (show 0 ≤ t by omega)
    obtain ⟨t1, t2⟩ : 1 ≤ T ∧ T ≤ 7200 := by omega
    have HE := Lib.hid h0
    have HL := Lib.hid (show forbL T a b = runs (forbB T (pairsO a b)) T by simp [forbL, h0])
    rw [h0] at hfb
    rw [Int.toNat_natCast] at hfb
    clear h0 hr ht
    generalize forbB T (pairsO a b) = P at *
    go_enter Try.func25, Try.ntmps25
    go_wp2_with fail
    refine hfb.mono ?_
    rintro e w1 ⟨vm, rfl, hm, hb1⟩
    obtain ⟨gm, rfl, hom⟩ := hm (by trivial)
    clear hm hfb
    have z1 := hb1.size
    have gl := (World.ownsRow.lt hom gm rfl).2
    go_wp2_with fail
    go_loopg [10, 11, 12] T (fun g s10 s11 s12 wr => ∃ k : Nat, k ≤ T ∧ g = T - k ∧ s11 = .int .i64 k ∧ OwnS wr w1.heap.size s10 (runs P k) ∧ Below w1.heap.size w1 wr)
    case atStart => exact ⟨0, by omega, by omega, rfl, Own.nil _ _ _ _ _, Below.refl _ _⟩
    case round =>
      obtain ⟨k, hk, hg, rfl, ho, hb⟩ := hrel
      have hz := hb.size
      by_cases hlt : k < T
      · have c0 := (hb.cell (p := ⟨gm, k, none⟩) gl).trans (hom.bit k hlt)
        have i1 : (0 : Int) ≤ (k : Int) := by omega
        cases hbit : P k with
        | false =>
          rw [hbit] at c0
          have H := Lib.hid (runs_no hbit)
          clear hbit
          go_wp2_with fail
          go_roundg (T - (k + 1))
          case measure => omega
          case rel => exact ⟨k + 1, by omega, rfl, by go_num, by rw [H.out]; exact ho, hb⟩
        | true =>
          rw [hbit] at c0
          have hrl := runs_len P k
          rcases snoc_cases (runs P k) with h0 | ⟨r, s, h0⟩
          · have H := Lib.hid (runs_first hbit h0)
            clear hbit
            rw [h0] at ho hrl
            clear h0
            obtain ⟨A', c', rfl⟩ := ho.form
            go_wp2_with (at_builtin; refine wpList_append_rec rfl _ _ 33 rfl w1.heap.size 47 16 Try.underlying33 elemS _ [] rfl ho [((k : Int), (k : Int) + 1)] _ rfl 1 1 rfl rfl (by simp only [Go.maxLen, List.length_cons, List.length_nil]; omega) (by simp only [List.length_cons, List.length_nil]; omega) hb.size ?_; intro v1 w2 ho1 hg1 hat1)
            go_roundg (T - (k + 1))
            case measure => omega
            case rel => exact ⟨k + 1, by omega, rfl, by go_num, by rw [H.out]; exact ho1, hb.grown hg1 hb.size (ho.le (Nat.le_refl _))⟩
          · rw [h0] at ho hrl
            obtain ⟨g, c', rfl, hge, hgl, hcc, hcell, hfz⟩ := ho.at_ encS_len (by simp)
            have hr1 : r.length + 1 ≤ 4294967296 := by simp at hrl; omega
            have cl := hcell r.length s (by simp) 1 (.int .i64 s.2) rfl
            have fz := hfz (r.length * 2 + 1)
            by_cases h1 : s.2 = k
            · have H := Lib.hid (runs_near hbit h0 h1)
              have hst := ho.stored encS_len r.length 1 (.int .i64 ((k : Int) + 1)) (s.1, (k : Int) + 1) (by simp) (by omega) (by simp [encS])
              have HS := Lib.hid hst
              have hbe : (s.2 == (k : Int)) = true := by simp [h1]
              clear hbit h0 h1 hst hcell hfz hrl
              go_wp2_with fail
              go_roundg (T - (k + 1))
              case measure => omega
              case rel =>
                have hs := HS.out
                exact ⟨k + 1, by omega, rfl, by go_num, by rw [H.out]; simpa using hs.1, hb.setCell hge _⟩
            · have H := Lib.hid (runs_far hbit h0 h1)
              have hbe : (s.2 == (k : Int)) = false := by simp [h1]
              clear hbit h0 h1 hcell hfz hrl
              go_wp2_with (at_builtin; refine wpList_append_rec rfl _ _ 33 rfl w1.heap.size 47 16 Try.underlying33 elemS _ (r ++ [s]) rfl ho [((k : Int), (k : Int) + 1)] _ rfl 1 1 rfl rfl (by simp only [Go.maxLen, List.length_cons, List.length_nil, List.length_append]; omega) (by simp only [List.length_cons, List.length_nil, List.length_append]; omega) hb.size ?_; intro v1 w2 ho1 hg1 hat1)
              go_roundg (T - (k + 1))
              case measure => omega
              case rel => exact ⟨k + 1, by omega, rfl, by go_num, by rw [H.out]; exact ho1, hb.grown hg1 hb.size (ho.le (Nat.le_refl _))⟩
      · obtain rfl : k = T := by omega
        go_wp2_with fail
        go_ret2
        exact ⟨_, by rw [HE.out]; rfl, by rw [HL.out]; exact ho.rebase z1, hb1.trans (hb.mono z1)⟩
  · have hne : (forbErr t a b != 0) = true := by simp [h0]
    have HR := Lib.hid (show forbL t a b = [] by simp [forbL, h0])
    clear h0
    generalize hE : forbErr t a b = E at *
    go_enter Try.func25, Try.ntmps25
    go_wp2_with fail
    refine hfb.mono ?_
    rintro e w1 ⟨v1, rfl, _, hb1⟩
    clear hfb
    go_wp2_with fail
    go_ret2
    exact ⟨_, rfl, by rw [HR.out]; exact Own.nil _ _ _ _ _, hb1⟩

end Go.Proofs.Ytdijhhfmicafjaa
