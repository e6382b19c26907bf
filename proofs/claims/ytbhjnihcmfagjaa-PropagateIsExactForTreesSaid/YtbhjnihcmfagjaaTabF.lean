/-
  Contract of compose.
-/
import Derived.Test.YtbhjnihcmfagjaaTabE
import Derived.Deep.DeepCutAuto
import Derived.Test.YtbhjnihcmfagjaaOrd
set_option linter.unusedVariables false
set_option linter.unusedSimpArgs false
namespace Go.Proofs.Ytbhjnihcmfagjaa
open Go.RowKit Go.Shelf RP

theorem st2 {w : World} {B o b o' : Nat} {v v' : Value} (h : w.cell? ⟨b, o', none⟩ = some v) (hb : b ≠ B) : (w.setCell ⟨B, o, none⟩ v').cell? ⟨b, o', none⟩ = some v := (cell_set_ne' hb).trans h

theorem two_below (w : World) (o o' : Obj) : Below w.heap.size w ((w.alloc o).alloc o').drew := (((Below.refl _ w).alloc (Nat.le_refl _) o).alloc (by simp) o').drew
section
variable {w : World} {a b c d : Value} {t t' : TypeId}
theorem two_b0 : ((w.alloc (.cells #[a, b] t)).alloc (.cells #[c, d] t')).drew.cell? ⟨w.heap.size + 1, 0, none⟩ = some c := by
  have h : ((w.alloc (.cells #[a, b] t)).alloc (.cells #[c, d] t')).drew.heap[w.heap.size + 1]? = some (.cells #[c, d] t' (0, 0)) := by
    have := heap_alloc_new (w.alloc (.cells #[a, b] t)) (.cells #[c, d] t')
    rw [show (w.alloc (.cells #[a, b] t)).heap.size = w.heap.size + 1 by simp] at this
    exact this
  rw [cell_of_row _ _ 0 _ _ _ h]; rfl
theorem two_b1 : ((w.alloc (.cells #[a, b] t)).alloc (.cells #[c, d] t')).drew.cell? ⟨w.heap.size + 1, 1, none⟩ = some d := by
  have h : ((w.alloc (.cells #[a, b] t)).alloc (.cells #[c, d] t')).drew.heap[w.heap.size + 1]? = some (.cells #[c, d] t' (0, 0)) := by
    have := heap_alloc_new (w.alloc (.cells #[a, b] t)) (.cells #[c, d] t')
    rw [show (w.alloc (.cells #[a, b] t)).heap.size = w.heap.size + 1 by simp] at this
    exact this
  rw [cell_of_row _ _ 1 _ _ _ h]; rfl
theorem two_blk : ((w.alloc (.cells #[a, b] t)).alloc (.cells #[c, d] t')).drew.heap[w.heap.size]? = some (.cells #[a, b] t (0, 0)) :=
  (heap_alloc_old (w.alloc (.cells #[a, b] t)) (.cells #[c, d] t') (by simp)).trans (heap_alloc_new w (.cells #[a, b] t))
theorem two_a0 : ((w.alloc (.cells #[a, b] t)).alloc (.cells #[c, d] t')).drew.cell? ⟨w.heap.size, 0, none⟩ = some a := by rw [cell_of_row _ _ 0 _ _ _ two_blk]; rfl
theorem two_a1 : ((w.alloc (.cells #[a, b] t)).alloc (.cells #[c, d] t')).drew.cell? ⟨w.heap.size, 1, none⟩ = some b := by rw [cell_of_row _ _ 1 _ _ _ two_blk]; rfl
end
theorem cnt_T {P : Nat → Bool} : ∀ k, cntN P k ≤ k
  | 0 => Nat.le_refl _
  | k + 1 => by have := cnt_T (P := P) k; simp only [cntN]; split <;> omega

def S6 (gt gs mm p1 p2 : Nat) (x1 x2 y1 y2 z1 : Value) (w' : World) : Prop := w'.cell? ⟨gt, 1, none⟩ = some z1 ∧ w'.cell? ⟨gt, 3, none⟩ = some (.slice (some ⟨gs, 0, none⟩) mm mm) ∧ w'.cell? ⟨gs, p1 * 2, none⟩ = some x1 ∧ w'.cell? ⟨gs, p1 * 2 + 1, none⟩ = some x2 ∧ w'.cell? ⟨gs, p2 * 2, none⟩ = some y1 ∧ w'.cell? ⟨gs, p2 * 2 + 1, none⟩ = some y2
theorem S6.al {gt gs mm p1 p2 : Nat} {x1 x2 y1 y2 z1 : Value} {w : World} (h : S6 gt gs mm p1 p2 x1 x2 y1 y2 z1 w) (o : Obj) : S6 gt gs mm p1 p2 x1 x2 y1 y2 z1 (w.alloc o) :=
  ⟨Go.Proofs.Ytbhjnihcmfagjaa.al h.1, Go.Proofs.Ytbhjnihcmfagjaa.al h.2.1, Go.Proofs.Ytbhjnihcmfagjaa.al h.2.2.1, Go.Proofs.Ytbhjnihcmfagjaa.al h.2.2.2.1, Go.Proofs.Ytbhjnihcmfagjaa.al h.2.2.2.2.1, Go.Proofs.Ytbhjnihcmfagjaa.al h.2.2.2.2.2⟩

set_option maxRecDepth 100000 in
set_option maxHeartbeats 8000000 in
theorem compose_any (gt gs gw : Nat) (M : List Nat) (m T : Nat) (E : Option Addr) (cE : Nat) (va : Value) (D : Tab) (e : Bool) (q : List (Nat × Nat)) (i j k : Nat) (w : World)
    (h : St w gt gs gw M m T E cE va D e q) (hi : i < m) (hj : j < m) (hk : k < m) (hij : i ≠ j) (hjk : j ≠ k) (hik : i ≠ k) :
    Calls Try.prog 68 #[.pointer (some ⟨gt, 0, none⟩), .int .i64 i, .int .i64 j, .int .i64 k] w fun ex w' =>
      (∃ v, ex = .returned v) ∧ ∃ M', Kept M w w' ∧ (∀ k ∈ M, k ∈ M') ∧ (∀ k ∈ M', k ∈ M ∨ w.heap.size ≤ k) ∧
        (((∀ x, x < T → D i k x = true → sumB T (D i j) (D j k) x = true) ∧ St w' gt gs gw M' m T E cE va D e q) ∨
         (cntN (fun x => D i k x && sumB T (D i j) (D j k) x) T ≠ cntN (D i k) T ∧ St w' gt gs gw M' m T E cE va (resT T D i k (sumB T (D i j) (D j k))) (e || decide (cntN (fun x => D i k x && sumB T (D i j) (D j k) x) T = 0)) (addQ q (pr i k)))) := by
  obtain ⟨vq, hTb, hQ⟩ := h.tb
  have k1 : w.drew.cell? ⟨gt, 1, none⟩ = _ := hTb.c1
  have k3 : w.drew.cell? ⟨gt, 3, none⟩ = _ := hTb.c3
  obtain ⟨A1, c1, s1, s2, r1, b1, b2⟩ := hTb.set i j hi hj
  obtain ⟨A2, c2, s3, s4, r2, b3, b4⟩ := hTb.set j k hj hk
  have hat1 := fun W (k1 : W.cell? ⟨gt, 1, none⟩ = some (.slice E m cE)) => at_any gt m E cE i j W k1 hTb.mT.1 hi hj
  have hat2 := fun W (k1 : W.cell? ⟨gt, 1, none⟩ = some (.slice E m cE)) => at_any gt m E cE j k W k1 hTb.mT.1 hj hk
  have hix1 := idx_lt hi hj
  have hix2 := idx_lt hj hk
  generalize hmm : m * m = mm at *
  generalize hp1 : i * m + j = p1 at *
  generalize hp2 : j * m + k = p2 at *
  have HMM := Lib.hid hmm
  have HP1 := Lib.hid hp1
  have HP2 := Lib.hid hp2
  have HH := Lib.hid h
  have HT := Lib.hid hTb
  have HQ := Lib.hid hQ
  have hgt := hTb.gtlt
  have hgs := hTb.gslt
  clear hmm hp1 hp2 h hTb hQ
  have ip0 : (0 : Int) ≤ (p1 : Int) := by omega
  have ip1 : (p1 : Int) < (mm : Int) := by omega
  have ip2 : (0 : Int) ≤ (p2 : Int) := by omega
  have ip3 : (p2 : Int) < (mm : Int) := by omega
  have t1 : w.drew.cell? ⟨gs, p1 * 2, none⟩ = _ := s1
  have t2 : w.drew.cell? ⟨gs, p1 * 2 + 1, none⟩ = _ := s2
  have t3 : w.drew.cell? ⟨gs, p2 * 2, none⟩ = _ := s3
  have t4 : w.drew.cell? ⟨gs, p2 * 2 + 1, none⟩ = _ := s4
  have n1 : gt ≠ w.heap.size := by omega
  have n2 : gs ≠ w.heap.size := by omega
  have n3 : gt ≠ w.heap.size + 1 := by omega
  have n4 : gs ≠ w.heap.size + 1 := by omega
  go_enter Try.func68, Try.ntmps68
  go_upto_region 0 with fail
  go_cut [8, 9] (fun s8 s9 wx => ∃ g8 g9, s8 = .pointer (some ⟨g8, 0, none⟩) ∧ s9 = .pointer (some ⟨g9, 0, none⟩) ∧ Below w.heap.size w wx ∧ wx.cell? ⟨g8, 0, none⟩ = some (.slice A1 (runs (D i j) T).length c1) ∧ wx.cell? ⟨g8, 1, none⟩ = some (.int .i64 (cntN (D i j) T)) ∧ wx.cell? ⟨g9, 0, none⟩ = some (.slice A2 (runs (D j k) T).length c2) ∧ wx.cell? ⟨g9, 1, none⟩ = some (.int .i64 (cntN (D j k) T)))
  case first =>
    have h0 : S6 gt gs mm p1 p2 (.slice A1 (runs (D i j) T).length c1) (.int .i64 (cntN (D i j) T)) (.slice A2 (runs (D j k) T).length c2) (.int .i64 (cntN (D j k) T)) (.slice E m cE) w.drew := ⟨k1, k3, t1, t2, t3, t4⟩
    refine wp_region_held_drew (S := S6 gt gs mm p1 p2 (.slice A1 (runs (D i j) T).length c1) (.int .i64 (cntN (D i j) T)) (.slice A2 (runs (D j k) T).length c2) (.int .i64 (cntN (D j k) T)) (.slice E m cE)) (by kernel_rfl) h0 (fun _ => ?_)
    refine wpAnyH_takeL (i := 0) (v := ?_) rfl (by kernel_rfl) (by kernel_rfl) (by kernel_rfl) (fun _ _ _ h => h) (Or.inl ⟨by rfl, ?_⟩) h0 ?_
    rotate_left
    · intro u hSu
      (try dsimp only at hSu)
      obtain ⟨q1, q2, q3, q4, q5, q6⟩ := hSu
      go_simp
      try rfl
    simp only [Act.put, List.setIfInBounds_toArray, List.set_cons_zero, List.set_cons_succ]
    refine wpAnyH_takeL (i := 1) (v := ?_) rfl (by kernel_rfl) (by kernel_rfl) (by kernel_rfl) (fun _ _ _ h => h) (Or.inl ⟨by rfl, ?_⟩) h0 ?_
    rotate_left
    · intro u hSu
      (try dsimp only at hSu)
      obtain ⟨q1, q2, q3, q4, q5, q6⟩ := hSu
      go_simp
      try rfl
    simp only [Act.put, List.setIfInBounds_toArray, List.set_cons_zero, List.set_cons_succ]
    refine wpAnyH_takeL (i := 2) (v := ?_) rfl (by kernel_rfl) (by kernel_rfl) (by kernel_rfl) (fun _ _ _ h => h) (Or.inl ⟨by rfl, ?_⟩) h0 ?_
    rotate_left
    · intro u hSu
      (try dsimp only at hSu)
      obtain ⟨q1, q2, q3, q4, q5, q6⟩ := hSu
      go_simp
      try rfl
    simp only [Act.put, List.setIfInBounds_toArray, List.set_cons_zero, List.set_cons_succ]
    refine wpAnyH_takeL (i := 3) (v := ?_) rfl (by kernel_rfl) (by kernel_rfl) (by kernel_rfl) (fun _ _ _ h => h) (Or.inl ⟨by rfl, ?_⟩) h0 ?_
    rotate_left
    · intro u hSu
      (try dsimp only at hSu)
      obtain ⟨q1, q2, q3, q4, q5, q6⟩ := hSu
      go_simp
      try rfl
    simp only [Act.put, List.setIfInBounds_toArray, List.set_cons_zero, List.set_cons_succ]
    refine wpAnyH_takeL (i := 4) (v := ?_) rfl (by kernel_rfl) (by kernel_rfl) (by kernel_rfl) (fun _ _ _ h => h) (Or.inl ⟨by rfl, ?_⟩) h0 ?_
    rotate_left
    · intro u hSu
      (try dsimp only at hSu)
      obtain ⟨q1, q2, q3, q4, q5, q6⟩ := hSu
      go_simp
      try rfl
    simp only [Act.put, List.setIfInBounds_toArray, List.set_cons_zero, List.set_cons_succ]
    refine wpAnyH_takeL (i := 5) (v := ?_) rfl (by kernel_rfl) (by kernel_rfl) (by kernel_rfl) (fun _ _ _ h => h) (Or.inl ⟨by rfl, ?_⟩) h0 ?_
    rotate_left
    · intro u hSu
      (try dsimp only at hSu)
      obtain ⟨q1, q2, q3, q4, q5, q6⟩ := hSu
      go_simp
      try rfl
    simp only [Act.put, List.setIfInBounds_toArray, List.set_cons_zero, List.set_cons_succ]
    refine wpAnyH_takeL (i := 6) (v := ?_) rfl (by kernel_rfl) (by kernel_rfl) (by kernel_rfl) (fun _ _ _ h => h) (Or.inl ⟨by rfl, ?_⟩) h0 ?_
    rotate_left
    · intro u hSu
      (try dsimp only at hSu)
      obtain ⟨q1, q2, q3, q4, q5, q6⟩ := hSu
      go_simp
      try rfl
    simp only [Act.put, List.setIfInBounds_toArray, List.set_cons_zero, List.set_cons_succ]
    refine wpAnyH_callL (i := 7) (v := .int .i64 (p1 : Nat)) rfl (by kernel_rfl) (by kernel_rfl) (by kernel_rfl) (fun _ _ _ h => h) ⟨by rfl, fun u hu => ⟨38, _, by go_simp, hat1 u hu.1⟩⟩ h0 ?_
    simp only [Act.put, List.setIfInBounds_toArray, List.set_cons_zero, List.set_cons_succ]
    refine wpAnyH_takeL (i := 8) (v := ?_) rfl (by kernel_rfl) (by kernel_rfl) (by kernel_rfl) (fun _ _ _ h => h) (Or.inl ⟨by rfl, ?_⟩) h0 ?_
    rotate_left
    · intro u hSu
      (try dsimp only at hSu)
      obtain ⟨q1, q2, q3, q4, q5, q6⟩ := hSu
      go_simp
      try rfl
    simp only [Act.put, List.setIfInBounds_toArray, List.set_cons_zero, List.set_cons_succ]
    refine wpAnyH_takeL (i := 9) (v := ?_) rfl (by kernel_rfl) (by kernel_rfl) (by kernel_rfl) (fun _ _ _ h => h) (Or.inl ⟨by rfl, ?_⟩) h0 ?_
    rotate_left
    · intro u hSu
      (try dsimp only at hSu)
      obtain ⟨q1, q2, q3, q4, q5, q6⟩ := hSu
      go_simp
      try rfl
    simp only [Act.put, List.setIfInBounds_toArray, List.set_cons_zero, List.set_cons_succ]
    refine wpAnyH_takeL (i := 10) (v := ?_) rfl (by kernel_rfl) (by kernel_rfl) (by kernel_rfl) (fun _ _ _ h => h) (Or.inl ⟨by rfl, ?_⟩) h0 ?_
    rotate_left
    · intro u hSu
      (try dsimp only at hSu)
      obtain ⟨q1, q2, q3, q4, q5, q6⟩ := hSu
      go_simp
      try rfl
    simp only [Act.put, List.setIfInBounds_toArray, List.set_cons_zero, List.set_cons_succ]
    refine wpAnyH_takeL (i := 11) (v := ?_) rfl (by kernel_rfl) (by kernel_rfl) (by kernel_rfl) (fun _ _ _ h => h) (Or.inl ⟨by rfl, ?_⟩) h0 ?_
    rotate_left
    · intro u hSu
      (try dsimp only at hSu)
      obtain ⟨q1, q2, q3, q4, q5, q6⟩ := hSu
      go_simp
      try rfl
    simp only [Act.put, List.setIfInBounds_toArray, List.set_cons_zero, List.set_cons_succ]
    refine wpAnyH_takeL (i := 12) (v := ?_) rfl (by kernel_rfl) (by kernel_rfl) (by kernel_rfl) (fun _ _ _ h => h) (Or.inl ⟨by rfl, ?_⟩) h0 ?_
    rotate_left
    · intro u hSu
      (try dsimp only at hSu)
      obtain ⟨q1, q2, q3, q4, q5, q6⟩ := hSu
      go_simp
      try rfl
    simp only [Act.put, List.setIfInBounds_toArray, List.set_cons_zero, List.set_cons_succ]
    refine wpAnyH_takeL (i := 13) (v := ?_) rfl (by kernel_rfl) (by kernel_rfl) (by kernel_rfl) (fun _ _ _ h => h) (Or.inl ⟨by rfl, ?_⟩) h0 ?_
    rotate_left
    · intro u hSu
      (try dsimp only at hSu)
      obtain ⟨q1, q2, q3, q4, q5, q6⟩ := hSu
      go_simp
      try rfl
    simp only [Act.put, List.setIfInBounds_toArray, List.set_cons_zero, List.set_cons_succ]
    refine wpAnyH_takeL (i := 14) (v := ?_) rfl (by kernel_rfl) (by kernel_rfl) (by kernel_rfl) (fun _ _ _ h => h) (Or.inl ⟨by rfl, ?_⟩) h0 ?_
    rotate_left
    · intro u hSu
      (try dsimp only at hSu)
      obtain ⟨q1, q2, q3, q4, q5, q6⟩ := hSu
      go_simp
      try rfl
    simp only [Act.put, List.setIfInBounds_toArray, List.set_cons_zero, List.set_cons_succ]
    refine wpAnyH_takeL (i := 15) (v := ?_) rfl (by kernel_rfl) (by kernel_rfl) (by kernel_rfl) (fun _ _ _ h => h) (Or.inl ⟨by rfl, ?_⟩) h0 ?_
    rotate_left
    · intro u hSu
      (try dsimp only at hSu)
      obtain ⟨q1, q2, q3, q4, q5, q6⟩ := hSu
      go_simp
      try rfl
    simp only [Act.put, List.setIfInBounds_toArray, List.set_cons_zero, List.set_cons_succ]
    refine wpAnyH_takeL (i := 16) (v := ?_) rfl (by kernel_rfl) (by kernel_rfl) (by kernel_rfl) (fun _ _ _ h => h) (Or.inl ⟨by rfl, ?_⟩) h0 ?_
    rotate_left
    · intro u hSu
      (try dsimp only at hSu)
      obtain ⟨q1, q2, q3, q4, q5, q6⟩ := hSu
      go_simp
      try rfl
    simp only [Act.put, List.setIfInBounds_toArray, List.set_cons_zero, List.set_cons_succ]
    refine wpAnyH_callL (i := 17) (v := .int .i64 (p2 : Nat)) rfl (by kernel_rfl) (by kernel_rfl) (by kernel_rfl) (fun _ _ _ h => h) ⟨by rfl, fun u hu => ⟨38, _, by go_simp, hat2 u hu.1⟩⟩ h0 ?_
    simp only [Act.put, List.setIfInBounds_toArray, List.set_cons_zero, List.set_cons_succ]
    refine wpAnyH_takeL (i := 18) (v := ?_) rfl (by kernel_rfl) (by kernel_rfl) (by kernel_rfl) (fun _ _ _ h => h) (Or.inl ⟨by rfl, ?_⟩) h0 ?_
    rotate_left
    · intro u hSu
      (try dsimp only at hSu)
      obtain ⟨q1, q2, q3, q4, q5, q6⟩ := hSu
      go_simp
      try rfl
    simp only [Act.put, List.setIfInBounds_toArray, List.set_cons_zero, List.set_cons_succ]
    refine wpAnyH_takeL (i := 19) (v := ?_) rfl (by kernel_rfl) (by kernel_rfl) (by kernel_rfl) (fun _ _ _ h => h) (Or.inl ⟨by rfl, ?_⟩) h0 ?_
    rotate_left
    · intro u hSu
      (try dsimp only at hSu)
      obtain ⟨q1, q2, q3, q4, q5, q6⟩ := hSu
      go_simp
      try rfl
    simp only [Act.put, List.setIfInBounds_toArray, List.set_cons_zero, List.set_cons_succ]
    have hA1 := fun X => h0.al X
    have hA2 := fun X Y => (h0.al X).al Y
    refine wpAnyH_ready (rs := [20, 21]) (by kernel_rfl) (by simp) ?_
    refine readyL rfl (fun K hK => ?_) (readyL rfl (fun K hK => ?_) AllReadyH.nil)
    · go_simp
      refine hK.out _ _ (hA1 _) (fun _ => ?_)
      clear hK K
      refine wpAnyH_ready (rs := [21]) (by kernel_rfl) (by simp) ?_
      refine readyL rfl (fun K hK => ?_) AllReadyH.nil
      go_simp
      refine hK.out _ _ (hA2 _ _) (fun _ => ?_)
      clear hK K
      refine wpAnyH_ready (rs := [22]) (by kernel_rfl) (by simp) ?_
      refine readyL rfl (fun K hK => ?_) AllReadyH.nil
      go_simp
      refine hK.out _ _ (hA2 _ _) (fun _ => ?_)
      clear hK K
      refine wpAnyH_ready (rs := [23]) (by kernel_rfl) (by simp) ?_
      refine readyL rfl (fun K hK => ?_) AllReadyH.nil
      go_simp
      refine hK.out _ _ (hA2 _ _) (fun _ => ?_)
      clear hK K
      refine wpAnyH_done (by kernel_rfl) ?_ _
      go_wp2_with fail
      go_meet
      first
        | exact ⟨_, _, rfl, rfl, two_below _ _ _, two_a0, two_a1, two_b0, two_b1⟩
        | exact ⟨_, _, rfl, rfl, two_below _ _ _, two_b0, two_b1, two_a0, two_a1⟩
    · go_simp
      refine hK.out _ _ (hA1 _) (fun _ => ?_)
      clear hK K
      refine wpAnyH_ready (rs := [20]) (by kernel_rfl) (by simp) ?_
      refine readyL rfl (fun K hK => ?_) AllReadyH.nil
      go_simp
      refine hK.out _ _ (hA2 _ _) (fun _ => ?_)
      clear hK K
      refine wpAnyH_ready (rs := [22]) (by kernel_rfl) (by simp) ?_
      refine readyL rfl (fun K hK => ?_) AllReadyH.nil
      go_simp
      refine hK.out _ _ (hA2 _ _) (fun _ => ?_)
      clear hK K
      refine wpAnyH_ready (rs := [23]) (by kernel_rfl) (by simp) ?_
      refine readyL rfl (fun K hK => ?_) AllReadyH.nil
      go_simp
      refine hK.out _ _ (hA2 _ _) (fun _ => ?_)
      clear hK K
      refine wpAnyH_done (by kernel_rfl) ?_ _
      go_wp2_with fail
      go_meet
      first
        | exact ⟨_, _, rfl, rfl, two_below _ _ _, two_a0, two_a1, two_b0, two_b1⟩
        | exact ⟨_, _, rfl, rfl, two_below _ _ _, two_b0, two_b1, two_a0, two_a1⟩
  case rest =>
    obtain ⟨g8, g9, rfl, rfl, hbx, x0, x1, x2, x3⟩ := hcut
    have HTX := Lib.hid (HT.out.below hbx)
    have HR1 := Lib.hid (r1.kept (.of_below M hbx))
    have HR2 := Lib.hid (r2.kept (.of_below M hbx))
    have HBX := Lib.hid hbx
    have xT := HTX.out.c0
    have hT1 := HT.out.mT.2.1
    have hT2 := HT.out.mT.2.2
    have l1 := runs_len (D i j) T
    have l2 := runs_len (D j k) T
    have HSUM := Lib.hid (fun W' (hb : Below wc.heap.size wc W') => sum_any T A1 A2 c1 c2 (runs (D i j) T) (runs (D j k) T) W' (HR1.out.kept (.of_below M hb)).lst (HR2.out.kept (.of_below M hb)).lst (by omega) (by omega))
    have HRES := Lib.hid (sum_runs hT1 hT2 (D i j) (D j k))
    have y8 : g8 < wc.heap.size := World.block_lt_of_cell? wc ⟨g8, 0, none⟩ x0
    have y9 : g9 < wc.heap.size := World.block_lt_of_cell? wc ⟨g9, 0, none⟩ x2
    have yt := HTX.out.gtlt
    have ca2 := cnt_T (P := D i j) T
    have cb2 := cnt_T (P := D j k) T
    clear k1 k3 t1 t2 t3 t4 s1 s2 s3 s4 hat1 hat2 hbx r1 r2
    generalize hca : cntN (D i j) T = ca at x1 ca2
    generalize hcb : cntN (D j k) T = cb at x3 cb2
    have HCA := Lib.hid hca
    have HCB := Lib.hid hcb
    clear hca hcb
    generalize wc = W1 at *
    go_upto_region 1 with fail
    go_cut [52] (fun s wy => s = .bool (decide (0 < ca ∧ 0 < cb ∧ T < ca + cb)) ∧ Below W1.heap.size W1 wy)
    case first =>
      by_cases h1 : 0 < ca
      · by_cases h2 : 0 < cb
        · by_cases h3 : T < ca + cb
          · have d1 : decide ((0 : Int) < (ca : Int)) = true := by simpa using h1
            have d2 : decide ((0 : Int) < (cb : Int)) = true := by simpa using h2
            have d3 : decide ((T : Int) < (ca : Int) + (cb : Int)) = true := by simp; omega
            have d4 : decide (0 < ca ∧ 0 < cb ∧ T < ca + cb) = true := decide_eq_true ⟨h1, h2, h3⟩
            have HD4 := Lib.hid d4
            clear d4
            go_quiet (fail)
            go_wp2_with fail
            go_meet
            exact ⟨by rw [HD4.out], below_drewN (Below.refl _ _) _⟩
          · have d1 : decide ((0 : Int) < (ca : Int)) = true := by simpa using h1
            have d2 : decide ((0 : Int) < (cb : Int)) = true := by simpa using h2
            have d3 : decide ((T : Int) < (ca : Int) + (cb : Int)) = false := by simp; omega
            have d4 : decide (0 < ca ∧ 0 < cb ∧ T < ca + cb) = false := decide_eq_false (fun q => h3 q.2.2)
            have HD4 := Lib.hid d4
            clear d4
            go_quiet (fail)
            go_wp2_with fail
            go_meet
            exact ⟨by rw [HD4.out], below_drewN (Below.refl _ _) _⟩
        · have d1 : decide ((0 : Int) < (ca : Int)) = true := by simpa using h1
          have d2 : decide ((0 : Int) < (cb : Int)) = false := by simp; omega
          have d4 : decide (0 < ca ∧ 0 < cb ∧ T < ca + cb) = false := decide_eq_false (fun q => h2 q.2.1)
          have HD4 := Lib.hid d4
          clear d4
          go_quiet (fail)
          go_wp2_with fail
          go_meet
          exact ⟨by rw [HD4.out], below_drewN (Below.refl _ _) _⟩
      · have d1 : decide ((0 : Int) < (ca : Int)) = false := by simp; omega
        have d4 : decide (0 < ca ∧ 0 < cb ∧ T < ca + cb) = false := decide_eq_false (fun q => h1 q.1)
        have HD4 := Lib.hid d4
        clear d4
        go_quiet (fail)
        go_wp2_with fail
        go_meet
        exact ⟨by rw [HD4.out], below_drewN (Below.refl _ _) _⟩
    case rest =>
      obtain ⟨rfl, hby⟩ := hcut
      replace x0 := (hby.cell (p := ⟨g8, 0, none⟩) y8).trans x0
      replace x2 := (hby.cell (p := ⟨g9, 0, none⟩) y9).trans x2
      have HBY := Lib.hid hby
      have HBW := Lib.hid (HBX.out.trans (hby.mono HBX.out.size))
      have zy := hby.size
      have zw := HBX.out.size
      by_cases hf : 0 < ca ∧ 0 < cb ∧ T < ca + cb
      · rw [decide_eq_true hf]
        have HF := Lib.hid hf
        clear hf hby
        go_wp2_with fail
        refine bodyPost_ret (results_none rfl _ _ _) rfl ?_
        first
          | refine ⟨M, .of_below M HBW.out, fun _ h => h, fun _ h => .inl h, .inl ⟨fun x hx _ => sumB_full hT1 ?_ x, HH.out.below HBW.out⟩⟩
          | refine ⟨⟨_, rfl⟩, M, .of_below M HBW.out, fun _ h => h, fun _ h => .inl h, .inl ⟨fun x hx _ => sumB_full hT1 ?_ x, HH.out.below HBW.out⟩⟩
        rw [HCA.out, HCB.out]
        exact HF.out.2.2
      · rw [decide_eq_false hf]
        replace xT := (hby.cell (p := ⟨gt, 0, none⟩) yt).trans xT
        have z8 : g8 < wc.heap.size := by omega
        have z9 : g9 < wc.heap.size := by omega
        have zt : gt < wc.heap.size := by omega
        have HTY := Lib.hid (HTX.out.below HBY.out)
        clear hf hby x1 x3
        go_upto_region 2 with fail
        have hB : Below wc.heap.size wc wc.drew := (Below.refl _ _).drew
        go_region_held3 (fun w' => w'.cell? ⟨g8, 0, none⟩ = some (.slice A1 (runs (D i j) T).length c1) ∧ w'.cell? ⟨g9, 0, none⟩ = some (.slice A2 (runs (D j k) T).length c2) ∧ w'.cell? ⟨gt, 0, none⟩ = some (.int .i64 T))
          (exact ⟨(hB.cell (p := ⟨g8, 0, none⟩) z8).trans x0, (hB.cell (p := ⟨g9, 0, none⟩) z9).trans x2, (hB.cell (p := ⟨gt, 0, none⟩) zt).trans xT⟩)
          ((go_at_call 81; refine (HSUM.out _ (HBY.out.trans (hB.mono HBY.out.size))).mono ?_; rintro e wx ⟨vx, rfl, hox, hbx⟩; replace hB := hB.trans (hbx.mono hB.size)))
        rw [HRES.out] at hox
        generalize badI T (runs (D i j) T) (runs (D j k) T) = er at *
        obtain ⟨A3, c3, rfl⟩ := hox.form
        have zx : wc.heap.size ≤ wx.heap.size := hB.size
        have HTW := Lib.hid (HTY.out.below hB)
        have HBZ := Lib.hid (HBW.out.trans (hB.mono (by omega)))
        have HR3 := Lib.hid (show Row wx M A3 (runs (sumB T (D i j) (D j k)) T) from Row.own hox (fun k hk => by have := HH.out.lt k hk; show k < wc.heap.size; omega))
        have HOX := Lib.hid (show (runs (sumB T (D i j) (D j k)) T).length ≤ c3 ∧ c3 ≤ maxLen from own_cap hox)
        clear hox hbx hB HSUM x0 x2 xT
        go_wp2_with fail
        refine (restrict_any gt gs M m T E cE va vq _ D e i k (sumB T (D i j) (D j k)) A3 c3 wx HTW.out hi hk hik HR3.out HOX.out.1 HOX.out.2 (fun k hk => by have := HH.out.lt k hk; omega)).mono ?_
        rintro ex w3 (⟨hc3, rfl, hb3⟩ | ⟨hc3, rfl, hT3, hk3⟩)
        · have HC3 := Lib.hid hc3
          have HB3 := Lib.hid (HBZ.out.trans (hb3.mono (by omega)))
          clear hc3 hb3
          go_wp2_with fail
          go_end0
          refine ⟨⟨_, rfl⟩, M, .of_below M HB3.out, fun _ h => h, fun _ h => .inl h, .inl ⟨fun x hx q => ?_, HH.out.below HB3.out⟩⟩
          have := cnt_eq (fun x _ q => (Bool.and_eq_true _ _ ▸ q).1) HC3.out x hx
          rw [q] at this
          simpa using this
        · have hne := HH.out.ne
          have hQ3 : Que w3 gt gs gw M vq q := (HQ.out.kept (fun g hg _ _ _ _ => HBZ.out.block g hg) HBZ.out.size (fun _ h => h)).kept (fun g hg _ n1 n2 _ => hk3.block g hg (by simp [n1, n2])) hk3.size (fun _ h => h)
          have hW3 : Wt w3 gw m q := (HH.out.wt.kept (HBZ.out.block gw HH.out.wt.lt)).kept (hk3.block gw (by have := HH.out.wt.lt; omega) (by simp [hne.2.1, hne.2.2]))
          have hS3 : St w3 gt gs gw M m T E cE va (resT T D i k (sumB T (D i j) (D j k))) (e || decide (cntN (fun x => D i k x && sumB T (D i j) (D j k) x) T = 0)) q :=
            ⟨⟨vq, by rw [HMM.out]; exact hT3, hQ3⟩, hW3, HH.out.gq, hne, fun k hk => by have := HH.out.lt k hk; have := hk3.size; omega⟩
          have HC3 := Lib.hid hc3
          have HS3 := Lib.hid hS3
          have HK3 := Lib.hid (show Kept M w w3 from (Kept.of_below M HBZ.out).trans hk3 (fun k hk => .inl (by
            rcases List.mem_cons.1 hk with rfl | hk
            · exact HT.out.inM.1
            · rw [List.mem_singleton.1 hk]; exact HT.out.inM.2.1)))
          clear hc3 hT3 hk3 hQ3 hW3 hS3
          go_wp2_with fail
          refine (enter_any gt gs gw M m T E cE va _ _ q i k w3 HS3.out hi hk hik).mono ?_
          rintro ex w4 ⟨⟨v4, rfl⟩, M', hS4, hk4, hm4, hn4⟩
          have z3 := HK3.out.size
          have HS4 := Lib.hid hS4
          have HK4 := Lib.hid hk4
          clear hS4 hk4
          go_wp2_with fail
          go_end0
          exact ⟨⟨_, rfl⟩, M', HK3.out.trans HK4.out (fun k hk => .inl hk), hm4, fun k hk => (hn4 k hk).imp id (fun q => by omega), .inr ⟨HC3.out, HS4.out⟩⟩

end Go.Proofs.Ytbhjnihcmfagjaa
