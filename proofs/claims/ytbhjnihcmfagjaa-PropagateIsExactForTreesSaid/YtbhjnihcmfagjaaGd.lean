/-
  Contract of network.Good.
-/
import Derived.Test.YtbhjnihcmfagjaaNet
set_option linter.unusedVariables false
set_option linter.unusedSimpArgs false
namespace RP
def goodB (T : Int) (m : Nat) (l : List Acy) (ts : List Int) : Bool := netB T m l && (decide (ts.length = m) && ts.all fun t => decide (0 ≤ t ∧ t < T))
theorem goodB_iff {T : Int} {m : Nat} {l : List Acy} {ts : List Int} : goodB T m l ts = true ↔ netB T m l = true ∧ ts.length = m ∧ ∀ t ∈ ts, 0 ≤ t ∧ t < T := by
  unfold goodB; rw [Bool.and_eq_true, Bool.and_eq_true, decide_eq_true_eq, List.all_eq_true]; simp
end RP
namespace Go.Proofs.Ytbhjnihcmfagjaa
open Go.RowKit RP

set_option maxRecDepth 100000 in
set_option maxHeartbeats 4000000 in
theorem good_any (T : Int) (E : Option Addr) (m cE : Nat) (A : Option Addr) (cA : Nat) (l : List Acy) (B : Option Addr) (cB : Nat) (ts : List Int) (w : World) (hl : Lst encA 6 w w.heap.size A l) (hn : l.length ≤ 9223372036854775807) (ht : Lst encI 1 w w.heap.size B ts) (hn' : ts.length ≤ 9223372036854775807) :
    Calls Try.prog 51 #[netV T E m cE A l.length cA, .slice B ts.length cB] w fun e w' => e = .returned (.bool (goodB T m l ts)) ∧ Below w.heap.size w w' := by
  have ba := belA w (.cells #[.int .i64 T, .slice E m cE, .slice A l.length cA] 25)
  have hnew := heap_alloc_new w (.cells #[.int .i64 T, .slice E m cE, .slice A l.length cA] 25)
  go_enter Try.func51, Try.ntmps51
  go_wp2_with fail
  refine (netCheck_any T E m cE A cA l _ (hl.belowMore ba (by simp)) hn).mono ?_
  rintro e w1 ⟨rfl, hb⟩
  rw [World.size_alloc] at hb
  have hbl := (hb.block w.heap.size (by omega)).trans hnew
  have HB := Lib.hid (ba.trans (hb.mono (by omega)))
  have n0 : w1.cell? ⟨w.heap.size, 0, none⟩ = some (.int .i64 T) := by rw [cell_of_row w1 _ 0 _ _ _ hbl]; rfl
  have n1 : w1.cell? ⟨w.heap.size, 1, none⟩ = some (.slice E m cE) := by rw [cell_of_row w1 _ 1 _ _ _ hbl]; rfl
  clear ba hb hnew hbl
  cases hnb : netB T m l with
  | false =>
    have HNB := Lib.hid hnb
    clear hnb
    go_wp2_with fail
    go_ret
    exact ⟨ret_bool (by rw [goodB, HNB.out]; rfl), HB.out⟩
  | true =>
    have HNB := Lib.hid hnb
    clear hnb
    by_cases hlen : ts.length = m
    · have d1 : ((ts.length : Int) != (m : Int)) = false := by simp [hlen]
      have HL := Lib.hid hlen
      clear hlen
      go_wp2_with fail
      go_loopg [6, 20] ts.length (fun g s6 s20 wr => ∃ k : Nat, k ≤ ts.length ∧ g = ts.length - k ∧ s20 = .int .i64 k ∧ (ts.take k).all (fun t => decide (0 ≤ t ∧ t < T)) = true ∧ wr = w1)
      case atStart => exact ⟨0, by omega, by omega, rfl, rfl, rfl⟩
      case round =>
        obtain ⟨k, hk, hg, rfl, hv, rfl⟩ := hrel
        have HV := Lib.hid hv
        clear hv
        by_cases hlt : k < ts.length
        · obtain ⟨b, off, rfl, hbb, a0⟩ := (ht.below HB.out).it k hlt
          have HNO := Lib.hid (fun h => all_no' (p := fun t : Int => decide (0 ≤ t ∧ t < T)) hlt h)
          have HYES := Lib.hid (fun h => all_snoc' (p := fun t : Int => decide (0 ≤ t ∧ t < T)) hlt HV.out h)
          generalize ts[k] = x at *
          by_cases q1 : x < 0
          · go_wp2_with fail
            go_ret
            exact ⟨ret_bool (by rw [goodB, HNO.out (by simp; omega), Bool.and_false, Bool.and_false]), HB.out⟩
          · by_cases q2 : T ≤ x
            · go_wp2_with fail
              go_ret
              exact ⟨ret_bool (by rw [goodB, HNO.out (by simp; omega), Bool.and_false, Bool.and_false]), HB.out⟩
            · go_wp2_with fail
              go_roundg (ts.length - (k + 1))
              case measure => omega
              case rel => exact ⟨k + 1, by omega, rfl, by go_num, HYES.out (by simp; omega), rfl⟩
        · go_wp2_with fail
          go_ret
          have hv := HV.out
          rw [List.take_of_length_le (by omega)] at hv
          exact ⟨ret_bool (by rw [goodB, HNB.out, hv, decide_eq_true HL.out]; rfl), HB.out⟩
    · have d1 : ((ts.length : Int) != (m : Int)) = true := by simp; omega
      have HL := Lib.hid hlen
      clear hlen
      go_wp2_with fail
      go_ret
      exact ⟨ret_bool (by rw [goodB, decide_eq_false HL.out, Bool.false_and, Bool.and_false]), HB.out⟩

end Go.Proofs.Ytbhjnihcmfagjaa
