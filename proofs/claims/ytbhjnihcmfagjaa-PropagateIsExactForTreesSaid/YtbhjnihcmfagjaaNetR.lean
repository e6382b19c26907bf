/-
  Contract of the reference's Check of a network.
-/
import Derived.Test.YtbhjnihcmfagjaaNet
set_option linter.unusedVariables false
set_option linter.unusedSimpArgs false
namespace Go.Proofs.Ytbhjnihcmfagjaa
open Go.RowKit RP

set_option maxHeartbeats 4000000 in
set_option maxRecDepth 100000 in
theorem refNet_any (T : Int) (E : Option Addr) (m cE : Nat) (A : Option Addr) (cA : Nat) (l : List Acy) (w : World) (hl : Lst encA 6 w w.heap.size A l) (hn : l.length ≤ 9223372036854775807) :
    Calls Try.prog 15 #[netV T E m cE A l.length cA] w fun e w' => e = .returned (.bool (netB T m l)) ∧ Below w.heap.size w w' := by
  by_cases ht : 2 ≤ T ∧ T ≤ 7200
  · have dt := decide_eq_true ht
    by_cases h0 : m ≤ 48 ∧ l.length ≤ 512
    · obtain ⟨t1, t2⟩ := ht
      obtain ⟨t3, t4⟩ := h0
      go_enter Try.func15, Try.ntmps15
      go_wp2_with ((go_at_call 42; refine (in11_any _ _ _ _).mono ?_; rintro e w' ⟨rfl, rfl⟩))
      have c0 : (w.alloc (.cells #[.int .i64 T, .slice E m cE, .slice A l.length cA] 25)).heap[w.heap.size]? = _ := heap_alloc_new w _
      have HA := Lib.hid (belA w (.cells #[.int .i64 T, .slice E m cE, .slice A l.length cA] 25))
      go_loopg [3, 4] l.length (fun g s3 s4 wr => ∃ k : Nat, k ≤ l.length ∧ g = l.length - k ∧ s3 = .int .i64 k ∧ (l.take k).all (fun c => decide (okA m T c)) = true ∧ Below (w.heap.size + 1) (w.alloc (.cells #[.int .i64 T, .slice E m cE, .slice A l.length cA] 25)) wr)
      case atStart => exact ⟨0, by omega, by omega, rfl, rfl, Below.refl _ _⟩
      case round =>
        obtain ⟨k, hk, hg, rfl, hv, hb⟩ := hrel
        have HV := Lib.hid hv
        have hbw : Below w.heap.size w wr := HA.out.trans (hb.mono (by omega))
        have hblk := (hb.block w.heap.size (by omega)).trans c0
        have n0 : wr.cell? ⟨w.heap.size, 0, none⟩ = some (.int .i64 T) := by rw [cell_of_row wr _ 0 _ _ _ hblk]; rfl
        have n1 : wr.cell? ⟨w.heap.size, 1, none⟩ = some (.slice E m cE) := by rw [cell_of_row wr _ 1 _ _ _ hblk]; rfl
        have n2 : wr.cell? ⟨w.heap.size, 2, none⟩ = some (.slice A l.length cA) := by rw [cell_of_row wr _ 2 _ _ _ hblk]; rfl
        have hz : w.heap.size < wr.heap.size := by have := hb.size; simp at this; omega
        have HB := Lib.hid hb
        have HBW := Lib.hid hbw
        clear hv hb hbw hblk c0 dt
        by_cases hlt : k < l.length
        · obtain ⟨b, off, rfl, hbb, a0, a1, a2, a3, a4, a5⟩ := (hl.below HBW.out).ac k hlt
          have HNO := Lib.hid (fun h => all_no' (p := fun c : Acy => decide (okA m T c)) hlt h)
          have HYES := Lib.hid (fun h => all_snoc' (p := fun c : Acy => decide (okA m T c)) hlt HV.out h)
          generalize l[k] = x at *
          obtain ⟨ki, sr, ds, lo, hi, wt⟩ := x
          simp only at a0 a1 a2 a3 a4 a5
          have HW := Lib.hid (HBW.out.trans ((belA wr (.cells #[.int .i64 ki, .int .i64 sr, .int .i64 ds, .int .i64 lo, .int .i64 hi, .int .i64 wt] 30)).mono (by omega)))
          have HX := Lib.hid (HB.out.trans ((belA wr (.cells #[.int .i64 ki, .int .i64 sr, .int .i64 ds, .int .i64 lo, .int .i64 hi, .int .i64 wt] 30)).mono (show w.heap.size + 1 ≤ wr.heap.size by omega)))
          by_cases qs : 0 ≤ sr ∧ sr ≤ (m : Int) - 1
          · have ds1 := decide_eq_true qs
            by_cases qd : 0 ≤ ds ∧ ds ≤ (m : Int) - 1
            · have dd1 := decide_eq_true qd
              by_cases q1 : sr = ds
              · subst q1
                have d1 : (sr == sr) = true := by simp
                go_wp2_with ((go_at_call 42; refine (in11_any _ _ _ _).mono ?_; rintro e w' ⟨rfl, rfl⟩))
                go_ret
                refine ⟨ret_bool ?_, HW.out⟩
                rw [netB, HNO.out (by rw [decide_eq_false_iff_not]; simp only [okA]; omega), Bool.and_false]
              · have d1 : (sr == ds) = false := by simp [q1]
                by_cases q2 : lo < -65536
                · go_wp2_with ((go_at_call 42; refine (in11_any _ _ _ _).mono ?_; rintro e w' ⟨rfl, rfl⟩))
                  go_ret
                  refine ⟨ret_bool ?_, HW.out⟩
                  rw [netB, HNO.out (by rw [decide_eq_false_iff_not]; simp only [okA]; omega), Bool.and_false]
                · by_cases q4 : 65536 < hi
                  · go_wp2_with ((go_at_call 42; refine (in11_any _ _ _ _).mono ?_; rintro e w' ⟨rfl, rfl⟩))
                    go_ret
                    refine ⟨ret_bool ?_, HW.out⟩
                    rw [netB, HNO.out (by rw [decide_eq_false_iff_not]; simp only [okA]; omega), Bool.and_false]
                  · by_cases q3 : hi < lo
                    · go_wp2_with ((go_at_call 42; refine (in11_any _ _ _ _).mono ?_; rintro e w' ⟨rfl, rfl⟩))
                      go_ret
                      refine ⟨ret_bool ?_, HW.out⟩
                      rw [netB, HNO.out (by rw [decide_eq_false_iff_not]; simp only [okA]; omega), Bool.and_false]
                    · by_cases q5 : T ≤ hi - lo
                      · go_wp2_with ((go_at_call 42; refine (in11_any _ _ _ _).mono ?_; rintro e w' ⟨rfl, rfl⟩))
                        go_ret
                        refine ⟨ret_bool ?_, HW.out⟩
                        rw [netB, HNO.out (by rw [decide_eq_false_iff_not]; simp only [okA]; omega), Bool.and_false]
                      · by_cases q6 : 0 ≤ wt ∧ wt ≤ 1048576
                        · have d6 := decide_eq_true q6
                          go_wp2_with ((go_at_call 42; refine (in11_any _ _ _ _).mono ?_; rintro e w' ⟨rfl, rfl⟩))
                          go_roundg (l.length - (k + 1))
                          case measure => omega
                          case rel => exact ⟨k + 1, by omega, rfl, by go_num, HYES.out (by rw [decide_eq_true_eq]; simp only [okA]; omega), HX.out⟩
                        · have d6 := decide_eq_false q6
                          go_wp2_with ((go_at_call 42; refine (in11_any _ _ _ _).mono ?_; rintro e w' ⟨rfl, rfl⟩))
                          go_ret
                          refine ⟨ret_bool ?_, HW.out⟩
                          rw [netB, HNO.out (by rw [decide_eq_false_iff_not]; simp only [okA]; omega), Bool.and_false]
            · have dd1 := decide_eq_false qd
              go_wp2_with ((go_at_call 42; refine (in11_any _ _ _ _).mono ?_; rintro e w' ⟨rfl, rfl⟩))
              go_ret
              refine ⟨ret_bool ?_, HW.out⟩
              rw [netB, HNO.out (by rw [decide_eq_false_iff_not]; simp only [okA]; omega), Bool.and_false]
          · have ds1 := decide_eq_false qs
            go_wp2_with ((go_at_call 42; refine (in11_any _ _ _ _).mono ?_; rintro e w' ⟨rfl, rfl⟩))
            go_ret
            refine ⟨ret_bool ?_, HW.out⟩
            rw [netB, HNO.out (by rw [decide_eq_false_iff_not]; simp only [okA]; omega), Bool.and_false]
        · go_wp2_with fail
          go_ret
          have hv := HV.out
          rw [List.take_of_length_le (by omega)] at hv
          exact ⟨ret_bool (by rw [netB, hv, Bool.and_true]; simp; omega), HBW.out⟩
    · go_enter Try.func15, Try.ntmps15
      go_wp2_with ((go_at_call 42; refine (in11_any _ _ _ _).mono ?_; rintro e w' ⟨rfl, rfl⟩))
      all_goals first
        | (go_ret
           exact ⟨ret_bool (by rw [netB, decide_eq_false (fun q => h0 q.2.2), Bool.false_and]), belA w _⟩)
        | (exfalso; omega)
  · have dt := decide_eq_false ht
    go_enter Try.func15, Try.ntmps15
    go_wp2_with ((go_at_call 42; refine (in11_any _ _ _ _).mono ?_; rintro e w' ⟨rfl, rfl⟩))
    go_ret
    exact ⟨ret_bool (by rw [netB, decide_eq_false (fun q => ht ⟨q.1, q.2.1⟩), Bool.false_and]), belA w _⟩

end Go.Proofs.Ytbhjnihcmfagjaa
