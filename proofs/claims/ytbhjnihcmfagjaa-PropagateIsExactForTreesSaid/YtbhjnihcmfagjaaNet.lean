/-
  Networks in memory: words; contracts of network.Check and isEvent and of the reference's Check and in.
-/
import Derived.Test.YtbhjnihcmfagjaaSource
set_option linter.unusedVariables false
set_option linter.unusedSimpArgs false
namespace RP
/-- An activity: kind, the two events, the bounds, the weight. -/
structure Acy where
  kind : Int
  src : Int
  dst : Int
  lo : Int
  hi : Int
  wt : Int
def okA (m : Nat) (T : Int) (x : Acy) : Prop := 0 ≤ x.src ∧ x.src < m ∧ 0 ≤ x.dst ∧ x.dst < m ∧ x.src ≠ x.dst ∧ -65536 ≤ x.lo ∧ x.lo ≤ x.hi ∧ x.hi ≤ 65536 ∧ x.hi - x.lo < T ∧ 0 ≤ x.wt ∧ x.wt ≤ 1048576
instance {m : Nat} {T : Int} {x : Acy} : Decidable (okA m T x) := by unfold okA; infer_instance
/-- A valid network. -/
def netB (T : Int) (m : Nat) (l : List Acy) : Bool := decide (2 ≤ T ∧ T ≤ 7200 ∧ m ≤ 48 ∧ l.length ≤ 512) && l.all fun x => decide (okA m T x)
theorem netB_iff {T : Int} {m : Nat} {l : List Acy} : netB T m l = true ↔ (2 ≤ T ∧ T ≤ 7200 ∧ m ≤ 48 ∧ l.length ≤ 512) ∧ ∀ x ∈ l, okA m T x := by
  unfold netB; rw [Bool.and_eq_true, decide_eq_true_eq, List.all_eq_true]; simp
theorem all_no' {α : Type} {p : α → Bool} {l : List α} {k : Nat} (hk : k < l.length) (h : p l[k] = false) : l.all p = false := by
  rw [List.all_eq_false]; exact ⟨l[k], List.getElem_mem hk, by simp [h]⟩
theorem all_snoc' {α : Type} {p : α → Bool} {l : List α} {k : Nat} (hk : k < l.length) (h : (l.take k).all p = true) (h' : p l[k] = true) : (l.take (k + 1)).all p = true := by
  rw [List.take_succ_eq_append_getElem hk, List.all_append, h]; simp [h']
end RP
namespace Go.Proofs.Ytbhjnihcmfagjaa
open Go.RowKit RP

def encA (x : Acy) : List Value := [.int .i64 x.kind, .int .i64 x.src, .int .i64 x.dst, .int .i64 x.lo, .int .i64 x.hi, .int .i64 x.wt]
theorem encA_len (x : Acy) : (encA x).length = 6 := rfl
theorem encA_one (x : Acy) : ∀ u ∈ encA x, u.oneCell' = true := by
  intro u hu
  simp only [encA, List.mem_cons, List.not_mem_nil, or_false] at hu
  rcases hu with rfl | rfl | rfl | rfl | rfl | rfl <;> rfl
theorem Lst.ac {w : World} {B : Nat} {A : Option Addr} {l : List Acy} (h : Lst encA 6 w B A l) (i : Nat) (hi : i < l.length) :
    ∃ b off, A = some ⟨b, off, none⟩ ∧ b < B ∧ w.cell? ⟨b, off + i * 6, none⟩ = some (.int .i64 l[i].kind) ∧ w.cell? ⟨b, off + i * 6 + 1, none⟩ = some (.int .i64 l[i].src) ∧ w.cell? ⟨b, off + i * 6 + 2, none⟩ = some (.int .i64 l[i].dst) ∧
      w.cell? ⟨b, off + i * 6 + 3, none⟩ = some (.int .i64 l[i].lo) ∧ w.cell? ⟨b, off + i * 6 + 4, none⟩ = some (.int .i64 l[i].hi) ∧ w.cell? ⟨b, off + i * 6 + 5, none⟩ = some (.int .i64 l[i].wt) := by
  obtain ⟨b, off, e, hb, hc⟩ := h (by intro h0; subst h0; simp at hi)
  have hg := hc i l[i] (List.getElem?_eq_getElem hi)
  exact ⟨b, off, e, hb, hg 0 _ rfl, hg 1 _ rfl, hg 2 _ rfl, hg 3 _ rfl, hg 4 _ rfl, hg 5 _ rfl⟩

/-- The value of a network. -/
abbrev netV (T : Int) (E : Option Addr) (m cE : Nat) (A : Option Addr) (n cA : Nat) : Value := .agg #[.int .i64 T, .slice E m cE, .slice A n cA]

set_option maxHeartbeats 1000000 in
theorem isEvent_any (T i : Int) (E : Option Addr) (m cE : Nat) (A : Option Addr) (n cA : Nat) (w : World) :
    Calls Try.prog 63 #[netV T E m cE A n cA, .int .i64 i] w fun e w' => e = .returned (.bool (decide (0 ≤ i ∧ i < m))) ∧ Below w.heap.size w w' := by
  go_enter Try.func63, Try.ntmps63
  go_wp2
  all_goals
    go_ret
    exact ⟨ret_bool (by simp; try omega), belA w _⟩

theorem in11_any (n lo hi : Int) (w : World) : Calls Try.prog 42 #[.int .i64 n, .int .i64 lo, .int .i64 hi] w fun e w' => e = .returned (.bool (decide (lo ≤ n ∧ n ≤ hi))) ∧ w = w' := by
  go_enter Try.func42, Try.ntmps42
  go_wp2
  all_goals
    go_ret
    exact ⟨ret_bool (by simp; try omega), rfl⟩

set_option maxHeartbeats 4000000 in
theorem netCheck_any (T : Int) (E : Option Addr) (m cE : Nat) (A : Option Addr) (cA : Nat) (l : List Acy) (w : World) (hl : Lst encA 6 w w.heap.size A l) (hn : l.length ≤ 9223372036854775807) :
    Calls Try.prog 34 #[netV T E m cE A l.length cA] w fun e w' => e = .returned (.bool (netB T m l)) ∧ Below w.heap.size w w' := by
  by_cases h0 : 2 ≤ T ∧ T ≤ 7200 ∧ m ≤ 48 ∧ l.length ≤ 512
  · obtain ⟨t1, t2, t3, t4⟩ := h0
    go_enter Try.func34, Try.ntmps34
    go_wp2_with fail
    have c0 : (w.alloc (.cells #[.int .i64 T, .slice E m cE, .slice A l.length cA] 25)).heap[w.heap.size]? = _ := heap_alloc_new w _
    have HA := Lib.hid (belA w (.cells #[.int .i64 T, .slice E m cE, .slice A l.length cA] 25))
    go_loopg [4, 28] l.length (fun g s4 s28 wr => ∃ k : Nat, k ≤ l.length ∧ g = l.length - k ∧ s28 = .int .i64 k ∧ (l.take k).all (fun c => decide (okA m T c)) = true ∧ Below (w.heap.size + 1) (w.alloc (.cells #[.int .i64 T, .slice E m cE, .slice A l.length cA] 25)) wr)
    case atStart => exact ⟨0, by omega, by omega, rfl, rfl, Below.refl _ _⟩
    case round =>
      obtain ⟨k, hk, hg, rfl, hv, hb⟩ := hrel
      have HV := Lib.hid hv
      have hbw : Below w.heap.size w wr := HA.out.trans (hb.mono (by omega))
      have hblk := (hb.block w.heap.size (by omega)).trans c0
      have n0 : wr.cell? ⟨w.heap.size, 0, none⟩ = some (.int .i64 T) := by rw [cell_of_row wr _ 0 _ _ _ hblk]; rfl
      have n1 : wr.cell? ⟨w.heap.size, 1, none⟩ = some (.slice E m cE) := by rw [cell_of_row wr _ 1 _ _ _ hblk]; rfl
      have n2 : wr.cell? ⟨w.heap.size, 2, none⟩ = some (.slice A l.length cA) := by rw [cell_of_row wr _ 2 _ _ _ hblk]; rfl
      have hz : w.heap.size + 1 ≤ wr.heap.size := by have := hb.size; simp at this; omega
      have HB := Lib.hid hb
      have HBW := Lib.hid hbw
      clear hv hb hbw hblk c0
      by_cases hlt : k < l.length
      · obtain ⟨b, off, rfl, hbb, a0, a1, a2, a3, a4, a5⟩ := (hl.below HBW.out).ac k hlt
        have HNO := Lib.hid (fun h => all_no' (p := fun c : Acy => decide (okA m T c)) hlt h)
        have HYES := Lib.hid (fun h => all_snoc' (p := fun c : Acy => decide (okA m T c)) hlt HV.out h)
        generalize l[k] = x at *
        obtain ⟨ki, sr, ds, lo, hi, wt⟩ := x
        simp only at a0 a1 a2 a3 a4 a5
        have hnew := heap_alloc_new wr (.cells #[.int .i64 ki, .int .i64 sr, .int .i64 ds, .int .i64 lo, .int .i64 hi, .int .i64 wt] 30)
        have HN := Lib.hid hnew
        clear hnew
        have hne : w.heap.size ≠ wr.heap.size := by omega
        have hne2 : w.heap.size < wr.heap.size := by omega
        by_cases qs : 0 ≤ sr ∧ sr < m
        · by_cases qd : 0 ≤ ds ∧ ds < m
          · go_wp2_with fail
            refine (isEvent_any _ _ _ _ _ _ _ _ _).mono ?_
            rintro e w1 ⟨rfl, hb1⟩
            rw [decide_eq_true qs]
            rw [World.size_alloc] at hb1
            have hX1 : Below wr.heap.size wr w1 := (belA wr _).trans (hb1.mono (by omega))
            have z1 : wr.heap.size + 1 ≤ w1.heap.size := by have := hb1.size; rw [World.size_alloc] at this; omega
            have k1 := (hb1.block wr.heap.size (by omega)).trans HN.out
            have x1 : w1.cell? ⟨wr.heap.size, 1, none⟩ = some (.int .i64 sr) := by rw [cell_of_row w1 _ 1 _ _ _ k1]; rfl
            have x2 : w1.cell? ⟨wr.heap.size, 2, none⟩ = some (.int .i64 ds) := by rw [cell_of_row w1 _ 2 _ _ _ k1]; rfl
            have m0 := (hX1.cell (p := ⟨w.heap.size, 0, none⟩) (show w.heap.size < wr.heap.size by omega)).trans n0
            have m1 := (hX1.cell (p := ⟨w.heap.size, 1, none⟩) (show w.heap.size < wr.heap.size by omega)).trans n1
            have m2 := (hX1.cell (p := ⟨w.heap.size, 2, none⟩) (show w.heap.size < wr.heap.size by omega)).trans n2
            have HW1 := Lib.hid (HBW.out.trans (hX1.mono (by omega)))
            have HX1 := Lib.hid (show Below (w.heap.size + 1) wr w1 from hX1.mono (by omega))
            have K1 := Lib.hid k1
            clear hb1 hX1 k1
            go_wp2_with fail
            refine (isEvent_any _ _ _ _ _ _ _ _ _).mono ?_
            rintro e w2 ⟨rfl, hb2⟩
            rw [decide_eq_true qd]
            have k1 := (hb2.block wr.heap.size (by omega)).trans K1.out
            have y1 : w2.cell? ⟨wr.heap.size, 1, none⟩ = some (.int .i64 sr) := by rw [cell_of_row w2 _ 1 _ _ _ k1]; rfl
            have y2 : w2.cell? ⟨wr.heap.size, 2, none⟩ = some (.int .i64 ds) := by rw [cell_of_row w2 _ 2 _ _ _ k1]; rfl
            have y3 : w2.cell? ⟨wr.heap.size, 3, none⟩ = some (.int .i64 lo) := by rw [cell_of_row w2 _ 3 _ _ _ k1]; rfl
            have y4 : w2.cell? ⟨wr.heap.size, 4, none⟩ = some (.int .i64 hi) := by rw [cell_of_row w2 _ 4 _ _ _ k1]; rfl
            have y5 : w2.cell? ⟨wr.heap.size, 5, none⟩ = some (.int .i64 wt) := by rw [cell_of_row w2 _ 5 _ _ _ k1]; rfl
            have p0 := (hb2.cell (p := ⟨w.heap.size, 0, none⟩) (show w.heap.size < w1.heap.size by omega)).trans m0
            have HW2 := Lib.hid (HW1.out.trans (hb2.mono (by omega)))
            have HX2 := Lib.hid (HX1.out.trans (hb2.mono (by omega)))
            clear hb2 k1
            by_cases q1 : sr = ds
            · have d1 : (sr == ds) = true := by simp [q1]
              go_wp2_with fail
              go_ret
              refine ⟨ret_bool ?_, HW2.out⟩
              rw [netB, HNO.out (by rw [decide_eq_false_iff_not]; simp only [okA]; omega), Bool.and_false]
            · have d1 : (sr == ds) = false := by simp [q1]
              by_cases q2 : lo < -65536
              · go_wp2_with fail
                go_ret
                refine ⟨ret_bool ?_, HW2.out⟩
                rw [netB, HNO.out (by rw [decide_eq_false_iff_not]; simp only [okA]; omega), Bool.and_false]
              · by_cases q3 : hi < lo
                · go_wp2_with fail
                  go_ret
                  refine ⟨ret_bool ?_, HW2.out⟩
                  rw [netB, HNO.out (by rw [decide_eq_false_iff_not]; simp only [okA]; omega), Bool.and_false]
                · by_cases q4 : 65536 < hi
                  · go_wp2_with fail
                    go_ret
                    refine ⟨ret_bool ?_, HW2.out⟩
                    rw [netB, HNO.out (by rw [decide_eq_false_iff_not]; simp only [okA]; omega), Bool.and_false]
                  · by_cases q5 : T ≤ hi - lo
                    · go_wp2_with fail
                      go_ret
                      refine ⟨ret_bool ?_, HW2.out⟩
                      rw [netB, HNO.out (by rw [decide_eq_false_iff_not]; simp only [okA]; omega), Bool.and_false]
                    · by_cases q6 : wt < 0
                      · go_wp2_with fail
                        go_ret
                        refine ⟨ret_bool ?_, HW2.out⟩
                        rw [netB, HNO.out (by rw [decide_eq_false_iff_not]; simp only [okA]; omega), Bool.and_false]
                      · by_cases q7 : 1048576 < wt
                        · go_wp2_with fail
                          go_ret
                          refine ⟨ret_bool ?_, HW2.out⟩
                          rw [netB, HNO.out (by rw [decide_eq_false_iff_not]; simp only [okA]; omega), Bool.and_false]
                        · go_wp2_with fail
                          go_roundg (l.length - (k + 1))
                          case measure => omega
                          case rel => exact ⟨k + 1, by omega, rfl, by go_num, HYES.out (by rw [decide_eq_true_eq]; simp only [okA]; omega), HB.out.trans HX2.out⟩
          · go_wp2_with fail
            refine (isEvent_any _ _ _ _ _ _ _ _ _).mono ?_
            rintro e w1 ⟨rfl, hb1⟩
            rw [decide_eq_true qs]
            rw [World.size_alloc] at hb1
            have hX1 : Below wr.heap.size wr w1 := (belA wr _).trans (hb1.mono (by omega))
            have z1 : wr.heap.size + 1 ≤ w1.heap.size := by have := hb1.size; rw [World.size_alloc] at this; omega
            have k1 := (hb1.block wr.heap.size (by omega)).trans HN.out
            have x1 : w1.cell? ⟨wr.heap.size, 1, none⟩ = some (.int .i64 sr) := by rw [cell_of_row w1 _ 1 _ _ _ k1]; rfl
            have x2 : w1.cell? ⟨wr.heap.size, 2, none⟩ = some (.int .i64 ds) := by rw [cell_of_row w1 _ 2 _ _ _ k1]; rfl
            have m0 := (hX1.cell (p := ⟨w.heap.size, 0, none⟩) (show w.heap.size < wr.heap.size by omega)).trans n0
            have m1 := (hX1.cell (p := ⟨w.heap.size, 1, none⟩) (show w.heap.size < wr.heap.size by omega)).trans n1
            have m2 := (hX1.cell (p := ⟨w.heap.size, 2, none⟩) (show w.heap.size < wr.heap.size by omega)).trans n2
            have HW1 := Lib.hid (HBW.out.trans (hX1.mono (by omega)))
            have HX1 := Lib.hid (show Below (w.heap.size + 1) wr w1 from hX1.mono (by omega))
            have K1 := Lib.hid k1
            clear hb1 hX1 k1
            go_wp2_with fail
            refine (isEvent_any _ _ _ _ _ _ _ _ _).mono ?_
            rintro e w2 ⟨rfl, hb2⟩
            rw [decide_eq_false qd]
            have k1 := (hb2.block wr.heap.size (by omega)).trans K1.out
            have y1 : w2.cell? ⟨wr.heap.size, 1, none⟩ = some (.int .i64 sr) := by rw [cell_of_row w2 _ 1 _ _ _ k1]; rfl
            have y2 : w2.cell? ⟨wr.heap.size, 2, none⟩ = some (.int .i64 ds) := by rw [cell_of_row w2 _ 2 _ _ _ k1]; rfl
            have y3 : w2.cell? ⟨wr.heap.size, 3, none⟩ = some (.int .i64 lo) := by rw [cell_of_row w2 _ 3 _ _ _ k1]; rfl
            have y4 : w2.cell? ⟨wr.heap.size, 4, none⟩ = some (.int .i64 hi) := by rw [cell_of_row w2 _ 4 _ _ _ k1]; rfl
            have y5 : w2.cell? ⟨wr.heap.size, 5, none⟩ = some (.int .i64 wt) := by rw [cell_of_row w2 _ 5 _ _ _ k1]; rfl
            have p0 := (hb2.cell (p := ⟨w.heap.size, 0, none⟩) (show w.heap.size < w1.heap.size by omega)).trans m0
            have HW2 := Lib.hid (HW1.out.trans (hb2.mono (by omega)))
            have HX2 := Lib.hid (HX1.out.trans (hb2.mono (by omega)))
            clear hb2 k1
            go_wp2
            go_ret
            refine ⟨ret_bool ?_, HW2.out⟩
            rw [netB, HNO.out (by rw [decide_eq_false_iff_not]; simp only [okA]; omega), Bool.and_false]
        · go_wp2_with fail
          refine (isEvent_any _ _ _ _ _ _ _ _ _).mono ?_
          rintro e w1 ⟨rfl, hb1⟩
          rw [decide_eq_false qs]
          rw [World.size_alloc] at hb1
          have hX1 : Below wr.heap.size wr w1 := (belA wr _).trans (hb1.mono (by omega))
          have z1 : wr.heap.size + 1 ≤ w1.heap.size := by have := hb1.size; rw [World.size_alloc] at this; omega
          have k1 := (hb1.block wr.heap.size (by omega)).trans HN.out
          have x1 : w1.cell? ⟨wr.heap.size, 1, none⟩ = some (.int .i64 sr) := by rw [cell_of_row w1 _ 1 _ _ _ k1]; rfl
          have x2 : w1.cell? ⟨wr.heap.size, 2, none⟩ = some (.int .i64 ds) := by rw [cell_of_row w1 _ 2 _ _ _ k1]; rfl
          have m0 := (hX1.cell (p := ⟨w.heap.size, 0, none⟩) (show w.heap.size < wr.heap.size by omega)).trans n0
          have m1 := (hX1.cell (p := ⟨w.heap.size, 1, none⟩) (show w.heap.size < wr.heap.size by omega)).trans n1
          have m2 := (hX1.cell (p := ⟨w.heap.size, 2, none⟩) (show w.heap.size < wr.heap.size by omega)).trans n2
          have HW1 := Lib.hid (HBW.out.trans (hX1.mono (by omega)))
          have HX1 := Lib.hid (show Below (w.heap.size + 1) wr w1 from hX1.mono (by omega))
          have K1 := Lib.hid k1
          clear hb1 hX1 k1
          go_wp2
          go_ret
          refine ⟨ret_bool ?_, HW1.out⟩
          rw [netB, HNO.out (by rw [decide_eq_false_iff_not]; simp only [okA]; omega), Bool.and_false]
      · go_wp2_with fail
        go_ret
        have hv := HV.out
        rw [List.take_of_length_le (by omega)] at hv
        exact ⟨ret_bool (by rw [netB, hv, Bool.and_true]; simp; omega), HBW.out⟩
  · go_enter Try.func34, Try.ntmps34
    go_wp2
    all_goals first
      | (go_ret
         exact ⟨ret_bool (by rw [netB, decide_eq_false h0, Bool.false_and]), belA w _⟩)
      | (exfalso; omega)

end Go.Proofs.Ytbhjnihcmfagjaa
