/-
  Contracts of the reference's in, ValidList, find, Least and Alone.
-/
import Derived.Test.YtlillkfelfoafaaHead
set_option linter.unusedVariables false
set_option linter.unusedSimpArgs false
namespace Go.Proofs.Ytlillkfelfoafaa
open Go.RowKit RP

theorem lastR_take {l : List Occ} {k : Nat} (hk : k < l.length) (p : Int) : lastR p (l.take (k + 1)) = l[k].1 := by rw [take_snoc l k hk, lastR_snoc]

set_option maxHeartbeats 2000000 in
theorem validList_any (A : Option Addr) (c : Nat) (l : List Occ) (w : World) (hl : Lst encO 3 w w.heap.size A l) (hn : l.length ≤ 9223372036854775807) :
    Calls Try.prog 50 #[.slice A l.length c] w fun e w' => e = .returned (.bool (validO (-1) l)) ∧ Below w.heap.size w w' := by
  go_enter Try.func50, Try.ntmps50
  go_wp2_with fail
  go_loopg [3] l.length (fun g s3 wr => ∃ k : Nat, k ≤ l.length ∧ g = l.length - k ∧ s3 = .int .i64 k ∧ validO (-1) (l.take k) = true ∧ Below w.heap.size w wr)
  case atStart => exact ⟨0, by omega, by omega, rfl, rfl, Below.refl _ _⟩
  case round =>
    obtain ⟨k, hk, hg, rfl, hv, hb⟩ := hrel
    have hlast := lastR_le hv
    have HV := Lib.hid hv
    clear hv
    by_cases hlt : k < l.length
    · obtain ⟨bb, off, rfl, hbw, hcc⟩ := (hl.below hb) (by rintro rfl; simp at hlt)
      have c0 := hcc k l[k] (List.getElem?_eq_getElem hlt) 0 _ rfl
      have c1 := hcc k l[k] (List.getElem?_eq_getElem hlt) 1 _ rfl
      have c2 := hcc k l[k] (List.getElem?_eq_getElem hlt) 2 _ rfl
      rw [Nat.add_zero] at c0
      have HNO := Lib.hid (fun h => validO_no hlt (p := -1) h)
      have HYES := Lib.hid (fun (h : okO (lastR (-1) (l.take k)) l[k]) => by
        have := (validO_snoc (p := -1) (l := l.take k) (o := l[k])).2 ⟨HV.out, h⟩
        rw [← take_snoc l k hlt] at this
        exact this)
      have i1 : (0 : Int) ≤ (k : Int) := by omega
      have i2 : (k : Int) < (l.length : Int) := by omega
      cases k with
      | zero =>
        clear hcc
        rw [show lastR (-1) (l.take 0) = -1 from rfl] at HNO HYES hlast
        generalize l[0] = x at *
        obtain ⟨r, f, e⟩ := x
        simp only [Nat.zero_mul, Nat.add_zero] at c0 c1 c2
        have dk : decide ((0 : Int) < ((0 : Nat) : Int)) = false := by simp
        by_cases t1 : r < 0
        · go_wp2_with fail
          go_quiet (fail)
          go_wp2
          go_ret
          exact ⟨ret_bool (by rw [HNO.out (by simp only [okO]; omega)]), below_drewN hb _⟩
        · have d1 : decide (r < 0) = false := by simp; omega
          by_cases t3 : f < -65536
          · go_wp2_with fail
            go_quiet (fail)
            go_wp2
            go_ret
            exact ⟨ret_bool (by rw [HNO.out (by simp only [okO]; omega)]), below_drewN hb _⟩
          · have d3 : decide (f < -65536) = false := by simp; omega
            by_cases t4 : 65536 < e
            · go_wp2_with fail
              go_quiet (fail)
              go_wp2
              go_ret
              exact ⟨ret_bool (by rw [HNO.out (by simp only [okO]; omega)]), below_drewN hb _⟩
            · have d4 : decide (65536 < e) = false := by simp; omega
              by_cases t5 : e ≤ f
              · go_wp2_with fail
                go_quiet (fail)
                go_wp2
                go_ret
                exact ⟨ret_bool (by rw [HNO.out (by simp only [okO]; omega)]), below_drewN hb _⟩
              · have d5 : decide (e ≤ f) = false := by simp; omega
                go_wp2_with fail
                go_quiet (fail)
                go_wp2
                go_roundg (l.length - (0 + 1))
                case measure => omega
                case rel => exact ⟨0 + 1, by omega, by omega, by go_num, HYES.out (by simp only [okO]; omega), below_drewN hb _⟩
      | succ K =>
        have hK : K < l.length := by omega
        have p0 := hcc K l[K] (List.getElem?_eq_getElem hK) 0 _ rfl
        rw [Nat.add_zero] at p0
        clear hcc
        rw [lastR_take hK] at HNO HYES hlast
        generalize l[K + 1] = x at *
        generalize l[K].1 = p at *
        obtain ⟨r, f, e⟩ := x
        simp only at c0 c1 c2
        have dk : decide ((0 : Int) < ((K + 1 : Nat) : Int)) = true := by simp
        have dk' : decide ((0 : Int) < (K : Int) + 1) = true := by simp
        have hwr : IntKind.i64.wrap ((K : Int) + 1 - 1) = (K : Int) := by rw [IntWalk.i64_in _ (by omega)]; omega
        have i3 : (0 : Int) ≤ (K : Int) := by omega
        have i4 : (K : Int) < (l.length : Int) := by omega
        by_cases t1 : r < 0
        · go_wp2_with fail
          go_quiet (fail)
          go_wp2
          go_ret
          exact ⟨ret_bool (by rw [HNO.out (by simp only [okO]; omega)]), below_drewN hb _⟩
        · have d1 : decide (r < 0) = false := by simp; omega
          by_cases t2 : r ≤ p
          · go_wp2_with fail
            go_quiet (fail)
            go_wp2
            go_ret
            exact ⟨ret_bool (by rw [HNO.out (by simp only [okO]; omega)]), below_drewN hb _⟩
          · have d2 : decide (r ≤ p) = false := by simp; omega
            by_cases t3 : f < -65536
            · go_wp2_with fail
              go_quiet (fail)
              go_wp2
              go_ret
              exact ⟨ret_bool (by rw [HNO.out (by simp only [okO]; omega)]), below_drewN hb _⟩
            · have d3 : decide (f < -65536) = false := by simp; omega
              by_cases t4 : 65536 < e
              · go_wp2_with fail
                go_quiet (fail)
                go_wp2
                go_ret
                exact ⟨ret_bool (by rw [HNO.out (by simp only [okO]; omega)]), below_drewN hb _⟩
              · have d4 : decide (65536 < e) = false := by simp; omega
                by_cases t5 : e ≤ f
                · go_wp2_with fail
                  go_quiet (fail)
                  go_wp2
                  go_ret
                  exact ⟨ret_bool (by rw [HNO.out (by simp only [okO]; omega)]), below_drewN hb _⟩
                · have d5 : decide (e ≤ f) = false := by simp; omega
                  go_wp2_with fail
                  go_quiet (fail)
                  go_wp2
                  go_roundg (l.length - (K + 1 + 1))
                  case measure => omega
                  case rel => exact ⟨K + 1 + 1, by omega, by omega, by go_num, HYES.out (by simp only [okO]; omega), below_drewN hb _⟩
    · go_wp2
      go_ret
      have hv := HV.out
      rw [List.take_of_length_le (by omega)] at hv
      exact ⟨ret_bool (by simp [hv]), hb⟩

end Go.Proofs.Ytlillkfelfoafaa
