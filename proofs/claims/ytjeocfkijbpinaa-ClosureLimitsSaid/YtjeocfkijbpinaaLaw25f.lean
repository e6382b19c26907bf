/-
  The walk of ClosureLimits: it returns true.
-/
import Derived.Test.YtjeocfkijbpinaaLaw25
import Derived.Test.YtjeocfkijbpinaaStepLst
set_option linter.unusedVariables false
set_option linter.unusedSimpArgs false
namespace Go.Proofs.Ytjeocfkijbpinaa
open Go.RowKit RP

theorem check_snoc {l : List Clo} (h : MadeC l) (x : Clo) : checkC (l ++ [x]) = decide (okC x) := by
  rw [Bool.eq_iff_iff, checkC_iff, decide_eq_true_eq]
  have h1 := (checkC_iff.1 h.check).2
  have h2 := h.1
  constructor
  · exact fun q => q.2 x (by simp)
  · intro q
    refine ⟨by simp; omega, fun c hc => ?_⟩
    rcases List.mem_append.1 hc with hc | hc
    · exact h1 c hc
    · simp at hc; subst hc; exact q

theorem setCell_in {w : World} {g o : Nat} {u : Value} (j : Nat) (v : Value) (h : w.cell? ⟨g, o, none⟩ = some u) : (w.setCell ⟨g, o, none⟩ v).cell? ⟨g, j, none⟩ = if j = o then some v else w.cell? ⟨g, j, none⟩ := by
  by_cases e : j = o
  · subst e; rw [if_pos rfl]; exact World.cell?_setCell_same _ _ _ h
  · rw [if_neg e]; exact World.cell?_setCell_other _ _ _ _ (by intro q; injection q with _ q; exact e q.symm)

def manyZ : Array Value := madeCells (Value.agg #[.int .i64 0, .int .i64 0, .int .i64 0]).cells 96
theorem makeMany : ∀ w : World, (Instr.makeSlice 23 (.int .i64 32) (.int .i64 32)).run Try.prog w = .ok (.slice (some ⟨w.heap.size, 0, none⟩) 32 32) (w.alloc (.cells manyZ 27)) := fun w => by
  obtain ⟨i, hi, h0, h1, h2⟩ := info_parts infoClo
  have := run_makeSlice (P := Try.prog) (w := w) 23 27 i _ Try.underlying23 hi h0 .i64 .i64 32 32 (by omega) (by omega) (by rw [h1]; omega) (by rw [h2]; omega) (by omega)
  rw [h1] at this
  exact this
/-- The first k of the many closures. -/
def manyC (k : Nat) : List Clo := (List.range k).map (fun i : Nat => ((i : Int), 0, 1)) ++ List.replicate (32 - k) (0, 0, 0)
theorem many_zero : manyZ.toList = (manyC 0).flatMap encO := by kernel_rfl
theorem many_len {k : Nat} (h : k ≤ 32) : (manyC k).length = 32 := by unfold manyC; rw [List.length_append, List.length_map, List.length_range, List.length_replicate]; omega
theorem many_at {k : Nat} (h : k < 32) : (manyC k)[k]'(by rw [many_len (by omega)]; exact h) = (0, 0, 0) := by
  unfold manyC
  rw [List.getElem_append_right (by simp)]
  simp
theorem many_set {k : Nat} (h : k < 32) : (manyC k).set k ((k : Int), 0, 1) = manyC (k + 1) := by
  unfold manyC
  rw [List.set_append_right _ _ (by simp), List.length_map, List.length_range, Nat.sub_self, show 32 - k = (32 - (k + 1)) + 1 by omega, List.replicate_succ, List.set_cons_zero, List.range_succ, List.map_append, List.append_assoc]
  rfl
theorem many_check : checkC (manyC 32) = true := by decide +kernel
theorem many_more : checkC (manyC 32 ++ [(0, 0, 1)]) = false := by decide +kernel
theorem many_first : (manyC 32)[0]? = some (0, 0, 1) := by decide +kernel

set_option maxHeartbeats 16000000 in
set_option maxRecDepth 100000 in
theorem walkClosureLimits (A : Option Addr) (c : Nat) (l : List Int) (how at_ : Int) (w : World) (hl : ArgI w A c l) (hh : R64 how) (hat : R64 at_) :
    Calls Try.prog 3 #[.slice A l.length c, .int .i64 how, .int .i64 at_] w fun e w' => e = .returned (.bool true) ∧ Below w.heap.size w w' := by
  have hp := pickI_range at_ 6 (by omega)
  have hpm := pickI_range how 5 (by omega)
  have hpick := fun W => pick_any at_ 6 W (by omega) (by omega)
  have hpick2 := fun W => pick_any how 5 W (by omega) (by omega)
  generalize pickI at_ 6 = x at *
  generalize pickI how 5 = p at *
  obtain ⟨p1, p2⟩ := hp
  obtain ⟨p3, p4⟩ := hpm
  have HP := Lib.hid hpick
  have HP2 := Lib.hid hpick2
  clear hpick hpick2
  go_enter Try.func3, Try.ntmps3
  go_wp2_with fail
  refine (closures_any A c l w hl).mono ?_
  rintro e w1 ⟨vc, o, rfl, hoc, hmc, hb1⟩
  have z1 := hb1.size
  have hc1 : Below w.heap.size w w1 := Below.trans (Below.refl w.heap.size w) (hb1.mono (Below.size (Below.refl w.heap.size w)))
  obtain ⟨A1, c1, rfl, hol, _, _⟩ := hoc.cut encO_len
  have HMC := Lib.hid hmc
  have hlen := hmc.1
  clear hoc hmc hl
  have k0 : (w1.alloc (.cells #[.int .i64 x, .int .i64 0, .int .i64 4194304] 27)).cell? ⟨w1.heap.size, 0, none⟩ = some (.int .i64 x) := by rw [World.cell?_alloc_at _ _ _ _ rfl]; rfl
  have k1 : (w1.alloc (.cells #[.int .i64 x, .int .i64 0, .int .i64 4194304] 27)).cell? ⟨w1.heap.size, 1, none⟩ = some (.int .i64 0) := by rw [World.cell?_alloc_at _ _ _ _ rfl]; rfl
  have k2 : (w1.alloc (.cells #[.int .i64 x, .int .i64 0, .int .i64 4194304] 27)).cell? ⟨w1.heap.size, 2, none⟩ = some (.int .i64 4194304) := by rw [World.cell?_alloc_at _ _ _ _ rfl]; rfl
  have hbW := belA w1 (.cells #[.int .i64 x, .int .i64 0, .int .i64 4194304] 27)
  have hfz : ∀ j, (w1.alloc (.cells #[.int .i64 x, .int .i64 0, .int .i64 4194304] 27)).frozen? ⟨w1.heap.size, j, none⟩ = false := fun j => World.frozen?_alloc_at _ _ _ j rfl
  have hzW : w1.heap.size < (w1.alloc (.cells #[.int .i64 x, .int .i64 0, .int .i64 4194304] 27)).heap.size := by simp
  go_upto_region 3 with (go_at_call 12; refine (HP.out _).mono ?_; rintro e w' ⟨rfl, rfl⟩)
  generalize w1.alloc (.cells #[.int .i64 x, .int .i64 0, .int .i64 4194304] 27) = W at *
  have holW := hol.belowMore hbW hbW.size
  generalize hgx : w1.heap.size = gx at *
  have HGX := Lib.hid hgx
  clear hgx
  obtain ⟨L, hL⟩ : ∃ L, o ++ [(x, 0, 4194304)] = L := ⟨_, rfl⟩
  have HOK : Hid (checkC L = true ∧ L.length ≤ 6) := by
    refine (show checkC L = true ∧ L.length ≤ 6 from ?_)
    rw [← hL, check_snoc HMC.out, decide_eq_true_eq]
    exact ⟨by unfold okC; simp only; omega, by simp; omega⟩
  have HL := Lib.hid hL
  clear hL
  go_cut [9] (fun s9 wx => s9 = .bool true ∧ Below W.heap.size W wx)
  case first =>
    have hbU : Below W.heap.size W (W.drew.alloc (.cells #[.int .i64 x, .int .i64 0, .int .i64 4194304] 27)) := ((Below.refl W.heap.size W).drew).alloc (Nat.le_refl _) _
    have zU : W.heap.size < (W.drew.alloc (.cells #[.int .i64 x, .int .i64 0, .int .i64 4194304] 27)).heap.size := by simp
    have holU := holW.belowMore hbU hbU.size
    have hU : (W.drew.alloc (.cells #[.int .i64 x, .int .i64 0, .int .i64 4194304] 27)).heap[W.heap.size]? = some (.cells #[.int .i64 x, .int .i64 0, .int .i64 4194304] 27 (0, 0)) := heap_alloc_new W.drew _
    have HU := Lib.hid hU
    have ZU := Lib.hid zU
    clear hU zU
    go_region_held3 (fun w' => w'.cell? ⟨gx, 0, none⟩ = some (.int .i64 x) ∧ w'.cell? ⟨gx, 1, none⟩ = some (.int .i64 0) ∧ w'.cell? ⟨gx, 2, none⟩ = some (.int .i64 4194304)) (first | exact ⟨m0, m1, m2⟩ | exact ⟨n0, n1, n2⟩ | exact ⟨j0, j1, j2⟩ | exact ⟨k0, k1, k2⟩ | go_keep)
      (first
        | (refine step_append_lst rfl _ _ 23 rfl W.heap.size 27 24 Try.underlying23 elemC (.slice none 0 0) [] rfl (Own.nil _ _ _ _ _) o _ _ c1 W.heap.size rfl rfl holW (by simp only [Go.maxLen, List.length_nil]; omega) (by simp only [List.length_nil]; omega) (Nat.le_refl _) ?_
           intro v4 w4 ho4 hg4 hat4
           rw [List.nil_append] at ho4
           have hb4 : Below W.heap.size W w4 := below_of_grownBy (w := W) ⟨hg4.os, hg4.tape, hg4.output, hg4.size, hg4.block⟩ (Nat.le_refl _) (fun k hk => by cases hk)
           have z4 := hb4.size
           have j0 := (hb4.cell (p := ⟨gx, 0, none⟩) hzW).trans k0
           have j1 := (hb4.cell (p := ⟨gx, 1, none⟩) hzW).trans k1
           have j2 := (hb4.cell (p := ⟨gx, 2, none⟩) hzW).trans k2
           clear hg4 hat4)
        | (refine step_append_lst (W := W.drew.alloc (.cells #[.int .i64 x, .int .i64 0, .int .i64 4194304] 27)) rfl _ _ 23 rfl W.heap.size 27 24 Try.underlying23 elemC (.slice none 0 0) [] rfl (Own.nil _ _ _ _ _) o _ _ c1 _ rfl rfl holU (by simp only [Go.maxLen, List.length_nil]; omega) (by simp only [List.length_nil]; omega) (Nat.le_of_lt ZU.out) ?_
           intro v4 w4 ho4 hg4 hat4
           rw [List.nil_append] at ho4
           have hb4 : Below W.heap.size W w4 := hbU.grown hg4 (Nat.le_of_lt ZU.out) (fun k hk => by cases hk)
           have hk4 : w4.heap[W.heap.size]? = some (.cells #[.int .i64 x, .int .i64 0, .int .i64 4194304] 27 (0, 0)) := (hg4.block W.heap.size ZU.out (by intro q; cases q)).trans HU.out
           have HK4 := Lib.hid hk4
           have z4 := hb4.size
           have j0 := (hb4.cell (p := ⟨gx, 0, none⟩) hzW).trans k0
           have j1 := (hb4.cell (p := ⟨gx, 1, none⟩) hzW).trans k1
           have j2 := (hb4.cell (p := ⟨gx, 2, none⟩) hzW).trans k2
           clear hg4 hat4 hk4)
        | (refine step_append_blk (by rfl) _ _ 23 (by rfl) W.heap.size 27 24 Try.underlying23 elemC v4 o (by rfl) (ho4.alloc _) [(x, 0, 4194304)] w4.heap.size 1 1 (by rfl) (by rfl) 27 (heap_alloc_new w4 _) (by simp only [Go.maxLen, List.length_cons, List.length_nil]; omega) (by simp only [List.length_cons, List.length_nil]; omega) (by simp; omega) ?_
           intro v5 w5 ho5 hg5 hat5
           have hb5 : Below W.heap.size W w5 := (hb4.alloc z4 _).grown hg5 (by simp; omega) (fun g hg => (World.ownsRow.lt ho4 g hg).1)
           have z5 := hb5.size
           rw [HL.out] at ho5
           have n0 := (hb5.cell (p := ⟨gx, 0, none⟩) hzW).trans k0
           have n1 := (hb5.cell (p := ⟨gx, 1, none⟩) hzW).trans k1
           have n2 := (hb5.cell (p := ⟨gx, 2, none⟩) hzW).trans k2
           obtain ⟨A5, c5, rfl⟩ := ho5.form
           clear hg5 hat5 hb4 ho4)
        | (refine step_append_blk (by rfl) _ _ 23 (by rfl) W.heap.size 27 24 Try.underlying23 elemC v4 o (by rfl) ho4 [(x, 0, 4194304)] W.heap.size 1 1 (by rfl) (by rfl) 27 HK4.out (by simp only [Go.maxLen, List.length_cons, List.length_nil]; omega) (by simp only [List.length_cons, List.length_nil]; omega) (by omega) ?_
           intro v5 w5 ho5 hg5 hat5
           have hb5 : Below W.heap.size W w5 := hb4.grown hg5 z4 (fun g hg => (World.ownsRow.lt ho4 g hg).1)
           have z5 := hb5.size
           rw [HL.out] at ho5
           have n0 := (hb5.cell (p := ⟨gx, 0, none⟩) hzW).trans k0
           have n1 := (hb5.cell (p := ⟨gx, 1, none⟩) hzW).trans k1
           have n2 := (hb5.cell (p := ⟨gx, 2, none⟩) hzW).trans k2
           obtain ⟨A5, c5, rfl⟩ := ho5.form
           clear hg5 hat5 hb4 ho4)
        | (go_at_call 13
           refine (check_any A5 c5 L w5 (ho5.lst encO_len) (by have := HOK.out.2; omega)).mono ?_
           rintro e' w6 ⟨rfl, hb6⟩
           rw [HOK.out.1]
           have hbR := hb5.trans (hb6.mono z5)
           have m0 := (hbR.cell (p := ⟨gx, 0, none⟩) hzW).trans k0
           have m1 := (hbR.cell (p := ⟨gx, 1, none⟩) hzW).trans k1
           have m2 := (hbR.cell (p := ⟨gx, 2, none⟩) hzW).trans k2
           clear hb5 hb6 ho5))
    all_goals (go_wp2_with fail; go_meet; exact ⟨rfl, hbR⟩)
  case rest =>
    obtain ⟨rfl, hbR⟩ := hcut
    have hbT := hc1.trans ((hbW.trans (hbR.mono (Nat.le_of_lt hzW))).mono z1)
    have k0' := (hbR.cell (p := ⟨gx, 0, none⟩) hzW).trans k0
    have k1' := (hbR.cell (p := ⟨gx, 1, none⟩) hzW).trans k1
    have k2' := (hbR.cell (p := ⟨gx, 2, none⟩) hzW).trans k2
    have f0 : ∀ j, wc.frozen? ⟨gx, j, none⟩ = false := fun j => (hbR.frozen (p := ⟨gx, j, none⟩) hzW).trans (hfz j)
    have holc : Lst encO 3 wc gx A1 o := (hol.below hbW).below (hbR.mono (Nat.le_of_lt hzW))
    have hzc : gx < wc.heap.size := Nat.lt_of_lt_of_le hzW hbR.size
    clear k0 k1 k2 hbR hbW hzW holW hol HOK HL hfz
    obtain hp | hp | hp | hp | hp : p = 0 ∨ p = 1 ∨ p = 2 ∨ p = 3 ∨ p = 4 := by omega
    · subst hp
      have k0 : (wc.setCell ⟨gx, 2, none⟩ (.int .i64 (4194305))).cell? ⟨gx, 0, none⟩ = some (.int .i64 (x)) := by rw [setCell_in 0 _ k2']; first | exact k0' | rfl
      have k1 : (wc.setCell ⟨gx, 2, none⟩ (.int .i64 (4194305))).cell? ⟨gx, 1, none⟩ = some (.int .i64 (0)) := by rw [setCell_in 1 _ k2']; first | exact k1' | rfl
      have k2 : (wc.setCell ⟨gx, 2, none⟩ (.int .i64 (4194305))).cell? ⟨gx, 2, none⟩ = some (.int .i64 (4194305)) := by rw [setCell_in 2 _ k2']; first | exact k2' | rfl
      have hbW : Below gx wc (wc.setCell ⟨gx, 2, none⟩ (.int .i64 (4194305))) := (Below.refl gx wc).setCell (p := ⟨gx, 2, none⟩) (Nat.le_refl _) _
      have hzW : gx < (wc.setCell ⟨gx, 2, none⟩ (.int .i64 (4194305))).heap.size := by simpa using hzc
      have hbT2 := hbT.trans (hbW.mono z1)
      have holW := (holc.below hbW).more (Nat.le_of_lt hzW)
      go_upto_region 14 with (go_at_call 12; refine (HP2.out _).mono ?_; rintro e w' ⟨rfl, rfl⟩)
      generalize wc.setCell ⟨gx, 2, none⟩ (.int .i64 (4194305)) = W at *
      clear hbW hbT holc hzc f0 k0' k1' k2'
      obtain ⟨L, hL⟩ : ∃ L, o ++ [(x, 0, 4194305)] = L := ⟨_, rfl⟩
      have HOK : Hid (checkC L = false ∧ L.length ≤ 6) := by
        refine (show checkC L = false ∧ L.length ≤ 6 from ?_)
        rw [← hL, check_snoc HMC.out, decide_eq_false_iff_not]
        exact ⟨by unfold okC; simp only; omega, by simp; omega⟩
      have HL := Lib.hid hL
      clear hL
      go_cut [10] (fun s10 wx => s10 = .bool false ∧ Below W.heap.size W wx)
      case first =>
        have hbU : Below W.heap.size W (W.drew.alloc (.cells #[.int .i64 (x), .int .i64 (0), .int .i64 (4194305)] 27)) := ((Below.refl W.heap.size W).drew).alloc (Nat.le_refl _) _
        have zU : W.heap.size < (W.drew.alloc (.cells #[.int .i64 (x), .int .i64 (0), .int .i64 (4194305)] 27)).heap.size := by simp
        have holU := holW.belowMore hbU hbU.size
        have hU : (W.drew.alloc (.cells #[.int .i64 (x), .int .i64 (0), .int .i64 (4194305)] 27)).heap[W.heap.size]? = some (.cells #[.int .i64 (x), .int .i64 (0), .int .i64 (4194305)] 27 (0, 0)) := heap_alloc_new W.drew _
        have HU := Lib.hid hU
        have ZU := Lib.hid zU
        clear hU zU
        go_region_held3 (fun w' => w'.cell? ⟨gx, 0, none⟩ = some (.int .i64 (x)) ∧ w'.cell? ⟨gx, 1, none⟩ = some (.int .i64 (0)) ∧ w'.cell? ⟨gx, 2, none⟩ = some (.int .i64 (4194305))) (first | exact ⟨m0, m1, m2⟩ | exact ⟨n0, n1, n2⟩ | exact ⟨j0, j1, j2⟩ | exact ⟨k0, k1, k2⟩ | go_keep)
          (first
            | (refine step_append_lst rfl _ _ 23 rfl W.heap.size 27 24 Try.underlying23 elemC (.slice none 0 0) [] rfl (Own.nil _ _ _ _ _) o _ _ c1 W.heap.size rfl rfl holW (by simp only [Go.maxLen, List.length_nil]; omega) (by simp only [List.length_nil]; omega) (Nat.le_refl _) ?_
               intro v4 w4 ho4 hg4 hat4
               rw [List.nil_append] at ho4
               have hb4 : Below W.heap.size W w4 := below_of_grownBy (w := W) ⟨hg4.os, hg4.tape, hg4.output, hg4.size, hg4.block⟩ (Nat.le_refl _) (fun k hk => by cases hk)
               have z4 := hb4.size
               have j0 := (hb4.cell (p := ⟨gx, 0, none⟩) hzW).trans k0
               have j1 := (hb4.cell (p := ⟨gx, 1, none⟩) hzW).trans k1
               have j2 := (hb4.cell (p := ⟨gx, 2, none⟩) hzW).trans k2
               clear hg4 hat4)
            | (refine step_append_lst (W := W.drew.alloc (.cells #[.int .i64 (x), .int .i64 (0), .int .i64 (4194305)] 27)) rfl _ _ 23 rfl W.heap.size 27 24 Try.underlying23 elemC (.slice none 0 0) [] rfl (Own.nil _ _ _ _ _) o _ _ c1 _ rfl rfl holU (by simp only [Go.maxLen, List.length_nil]; omega) (by simp only [List.length_nil]; omega) (Nat.le_of_lt ZU.out) ?_
               intro v4 w4 ho4 hg4 hat4
               rw [List.nil_append] at ho4
               have hb4 : Below W.heap.size W w4 := hbU.grown hg4 (Nat.le_of_lt ZU.out) (fun k hk => by cases hk)
               have hk4 : w4.heap[W.heap.size]? = some (.cells #[.int .i64 (x), .int .i64 (0), .int .i64 (4194305)] 27 (0, 0)) := (hg4.block W.heap.size ZU.out (by intro q; cases q)).trans HU.out
               have HK4 := Lib.hid hk4
               have z4 := hb4.size
               have j0 := (hb4.cell (p := ⟨gx, 0, none⟩) hzW).trans k0
               have j1 := (hb4.cell (p := ⟨gx, 1, none⟩) hzW).trans k1
               have j2 := (hb4.cell (p := ⟨gx, 2, none⟩) hzW).trans k2
               clear hg4 hat4 hk4)
            | (refine step_append_blk (by rfl) _ _ 23 (by rfl) W.heap.size 27 24 Try.underlying23 elemC v4 o (by rfl) (ho4.alloc _) [((x), (0), (4194305))] w4.heap.size 1 1 (by rfl) (by rfl) 27 (heap_alloc_new w4 _) (by simp only [Go.maxLen, List.length_cons, List.length_nil]; omega) (by simp only [List.length_cons, List.length_nil]; omega) (by simp; omega) ?_
               intro v5 w5 ho5 hg5 hat5
               have hb5 : Below W.heap.size W w5 := (hb4.alloc z4 _).grown hg5 (by simp; omega) (fun g hg => (World.ownsRow.lt ho4 g hg).1)
               have z5 := hb5.size
               rw [HL.out] at ho5
               have n0 := (hb5.cell (p := ⟨gx, 0, none⟩) hzW).trans k0
               have n1 := (hb5.cell (p := ⟨gx, 1, none⟩) hzW).trans k1
               have n2 := (hb5.cell (p := ⟨gx, 2, none⟩) hzW).trans k2
               obtain ⟨A5, c5, rfl⟩ := ho5.form
               clear hg5 hat5 hb4 ho4)
            | (refine step_append_blk (by rfl) _ _ 23 (by rfl) W.heap.size 27 24 Try.underlying23 elemC v4 o (by rfl) ho4 [((x), (0), (4194305))] W.heap.size 1 1 (by rfl) (by rfl) 27 HK4.out (by simp only [Go.maxLen, List.length_cons, List.length_nil]; omega) (by simp only [List.length_cons, List.length_nil]; omega) (by omega) ?_
               intro v5 w5 ho5 hg5 hat5
               have hb5 : Below W.heap.size W w5 := hb4.grown hg5 z4 (fun g hg => (World.ownsRow.lt ho4 g hg).1)
               have z5 := hb5.size
               rw [HL.out] at ho5
               have n0 := (hb5.cell (p := ⟨gx, 0, none⟩) hzW).trans k0
               have n1 := (hb5.cell (p := ⟨gx, 1, none⟩) hzW).trans k1
               have n2 := (hb5.cell (p := ⟨gx, 2, none⟩) hzW).trans k2
               obtain ⟨A5, c5, rfl⟩ := ho5.form
               clear hg5 hat5 hb4 ho4)
            | (go_at_call 13
               refine (check_any A5 c5 L w5 (ho5.lst encO_len) (by have := HOK.out.2; omega)).mono ?_
               rintro e' w6 ⟨rfl, hb6⟩
               rw [HOK.out.1]
               have hbR := hb5.trans (hb6.mono z5)
               have m0 := (hbR.cell (p := ⟨gx, 0, none⟩) hzW).trans k0
               have m1 := (hbR.cell (p := ⟨gx, 1, none⟩) hzW).trans k1
               have m2 := (hbR.cell (p := ⟨gx, 2, none⟩) hzW).trans k2
               clear hb5 hb6 ho5))
        all_goals (go_wp2_with fail; go_meet; exact ⟨rfl, hbR⟩)
      case rest =>
        obtain ⟨rfl, hbR⟩ := hcut
        have hmk := makeMany
        have hbT3 := hbT2.trans (hbR.mono (Nat.le_trans z1 (Nat.le_of_lt hzW)))
        clear hbT2 hbR hzW holW k0 k1 k2 HOK HL
        have zT := hbT3.size
        have hoM : OwnC (wc.alloc (.cells manyZ 27)) wc.heap.size (.slice (some ⟨wc.heap.size, 0, none⟩) 32 32) (manyC 0) := Own.lit wc _ _ _ (manyC 0) 32 (by rw [many_len (by omega)]) encO_len many_zero (Nat.le_refl _) (by rw [many_len (by omega)]; simp [maxLen])
        have hbM := belA wc (.cells manyZ 27)
        go_wp2_with fail
        generalize wc.alloc (.cells manyZ 27) = W1 at *
        have zM := hbM.size
        generalize hgm : wc.heap.size = gm at *
        clear hmk
        go_loopg [12, 53] 32 (fun g s12 s53 wr => ∃ k : Nat, k ≤ 32 ∧ g = 32 - k ∧ s53 = .int .i64 k ∧ OwnC wr gm (.slice (some ⟨gm, 0, none⟩) 32 32) (manyC k) ∧ Below gm wc wr)
        case atStart => exact ⟨0, by omega, rfl, rfl, hoM, hbM⟩
        case round =>
          obtain ⟨k, hk, hg, rfl, ho, hb⟩ := hrel
          have HG := Lib.hid hg
          clear hg hoM hbM
          have hz := hb.size
          by_cases hlt : k < 32
          · have hml := many_len (k := k) (by omega)
            obtain ⟨g, c', hv, hge, hgw, hcc, hcell, hfz⟩ := ho.at_ encO_len (fun h => by rw [h] at hml; simp at hml)
            rw [hml] at hv
            injection hv with hv1 _ hv2
            injection hv1 with hv1
            injection hv1 with hv1
            subst hv1 hv2
            have hsl : k < (manyC k).length := by rw [hml]; exact hlt
            have hat := List.getElem?_eq_getElem hsl
            rw [many_at hlt] at hat
            have y0 := hcell k _ hat 0 (.int .i64 0) rfl
            have y1 := hcell k _ hat 1 (.int .i64 0) rfl
            have y2 := hcell k _ hat 2 (.int .i64 0) rfl
            have v0 := hfz (k * 3)
            have v1 := hfz (k * 3 + 1)
            have v2 := hfz (k * 3 + 2)
            simp only [Nat.add_zero] at y0
            have i1 : (0 : Int) ≤ (k : Int) := by omega
            have i2 : (k : Int) < ((32 : Nat) : Int) := by omega
            have st0 := ho.stored encO_len k 0 (.int .i64 k) ((k : Int), 0, 0) hsl (by omega) (by rw [many_at hlt]; rfl)
            have st1 := st0.1.stored encO_len k 1 (.int .i64 0) ((k : Int), 0, 0) (by rw [List.length_set]; exact hsl) (by omega) (by rw [List.getElem_set_self]; rfl)
            have st2 := st1.1.stored encO_len k 2 (.int .i64 1) ((k : Int), 0, 1) (by rw [List.length_set, List.length_set]; exact hsl) (by omega) (by rw [List.getElem_set_self]; rfl)
            rw [List.set_set, List.set_set, many_set hlt, Nat.add_zero] at st2
            have HO := Lib.hid st2.1
            have HB := Lib.hid (((hb.setCell (p := ⟨gm, k * 3, none⟩) (Nat.le_refl _) (.int .i64 k)).setCell (p := ⟨gm, k * 3 + 1, none⟩) (Nat.le_refl _) (.int .i64 0)).setCell (p := ⟨gm, k * 3 + 2, none⟩) (Nat.le_refl _) (.int .i64 1))
            clear st0 st1 st2 ho hcell hfz hat
            go_wp2_with fail
            go_roundg (32 - (k + 1))
            case measure => have := HG.out; omega
            case rel => exact ⟨k + 1, by omega, rfl, by go_num, HO.out, HB.out⟩
          · obtain rfl : k = 32 := by omega
            obtain ⟨M, hM⟩ : ∃ M, manyC 32 = M := ⟨_, rfl⟩
            have hM1 := many_check
            have hM2 := many_more
            have hM3 := many_first
            have hM4 := many_len (k := 32) (by omega)
            rw [hM] at hM1 hM2 hM3 hM4 ho
            clear hM
            have HM1 := Lib.hid hM1
            have HM2 := Lib.hid hM2
            have HM3 := Lib.hid hM3
            have HM4 := Lib.hid hM4
            clear hM1 hM2 hM3
            clear hM4
            obtain ⟨N, hN⟩ : ∃ N, M ++ [(0, 0, 1)] = N := ⟨_, rfl⟩
            have HN1 : Hid (checkC N = false ∧ N.length ≤ 33) := by
              refine (show checkC N = false ∧ N.length ≤ 33 from ?_)
              rw [← hN]
              exact ⟨HM2.out, by rw [List.length_append, HM4.out]; simp⟩
            have HN := Lib.hid hN
            clear hN
            go_wp2_with fail
            refine (awake25_any wr).mono ?_
            rintro e w1 ⟨rfl, hb1⟩
            have z1 := hb1.size
            have hc1 : Below wr.heap.size wr w1 := Below.trans (Below.refl wr.heap.size wr) (hb1.mono (Below.size (Below.refl wr.heap.size wr)))
            replace ho := ho.below' hb1
            have h1 := check_any (some ⟨gm, 0, none⟩) 32 M w1 (ho.lst encO_len) (by have := HM4.out; omega)
            rw [HM4.out, HM1.out] at h1
            go_wp2_with fail
            refine (h1).mono ?_
            rintro e w2 ⟨rfl, hb2⟩
            have z2 := hb2.size
            have hc2 : Below wr.heap.size wr w2 := Below.trans hc1 (hb2.mono (Below.size hc1))
            replace ho := ho.below' hb2
            clear h1
            obtain ⟨g, c', hv, hge, hgw, hcc, hcell, hfz⟩ := ho.at_ encO_len (fun h => by have := HM4.out; rw [h] at this; simp at this)
            rw [HM4.out] at hv
            injection hv with hv1 _ hv2
            injection hv1 with hv1
            injection hv1 with hv1
            subst hv1 hv2
            have y0 := hcell 0 _ HM3.out 0 (.int .i64 0) rfl
            have y1 := hcell 0 _ HM3.out 1 (.int .i64 0) rfl
            have y2 := hcell 0 _ HM3.out 2 (.int .i64 1) rfl
            simp only [Nat.zero_mul, Nat.zero_add, Nat.add_zero] at y0 y1 y2
            clear hcell hfz
            have hml : M.length ≤ 32 := by have := HM4.out; omega
            go_wp2_with (at_builtin; refine wpList_append_blk_w (by rfl) _ _ 23 rfl gm 27 24 Try.underlying23 elemC (.slice (some ⟨gm, 0, none⟩) 32 32) M rfl (ho.alloc _) [(0, 0, 1)] w2.heap.size 1 1 rfl rfl 27 (heap_alloc_new w2 _) (by simp only [Go.maxLen, List.length_cons, List.length_nil]; omega) (by simp only [List.length_cons, List.length_nil]; omega) (by simp; omega) ?_; intro v6 w6 ho6 hg6 hat6; rw [HN.out] at ho6; obtain ⟨A6, c6, rfl⟩ := ho6.form)
            have hbz := ((hb.trans (hc2.mono (by rw [← hgm]; exact hz))).alloc (by have := Below.size hc2; omega) _).grown hg6 (by have := Below.size hc2; simp; omega) (fun g hg => (World.ownsRow.lt ho g hg).1)
            have hzz := hbz.size
            have h2 := check_any A6 c6 N w6 (ho6.lst encO_len) (by have := HN1.out.2; omega)
            rw [HN1.out.1] at h2
            clear hg6 hat6 ho6
            go_wp2_with fail
            refine h2.mono ?_
            rintro e' w7 ⟨rfl, hb7⟩
            clear h2
            go_wp2_with fail
            go_ret
            refine ⟨rfl, ?_⟩
            have hq := hbz.trans (hb7.mono (by rw [← hgm]; exact hzz))
            rw [← hgm] at hq
            exact hbT3.trans (hq.mono (by rw [hgm]; exact zT))
    · subst hp
      have k0 : (wc.setCell ⟨gx, 1, none⟩ (.int .i64 (-1))).cell? ⟨gx, 0, none⟩ = some (.int .i64 (x)) := by rw [setCell_in 0 _ k1']; first | exact k0' | rfl
      have k1 : (wc.setCell ⟨gx, 1, none⟩ (.int .i64 (-1))).cell? ⟨gx, 1, none⟩ = some (.int .i64 (-1)) := by rw [setCell_in 1 _ k1']; first | exact k1' | rfl
      have k2 : (wc.setCell ⟨gx, 1, none⟩ (.int .i64 (-1))).cell? ⟨gx, 2, none⟩ = some (.int .i64 (4194304)) := by rw [setCell_in 2 _ k1']; first | exact k2' | rfl
      have hbW : Below gx wc (wc.setCell ⟨gx, 1, none⟩ (.int .i64 (-1))) := (Below.refl gx wc).setCell (p := ⟨gx, 1, none⟩) (Nat.le_refl _) _
      have hzW : gx < (wc.setCell ⟨gx, 1, none⟩ (.int .i64 (-1))).heap.size := by simpa using hzc
      have hbT2 := hbT.trans (hbW.mono z1)
      have holW := (holc.below hbW).more (Nat.le_of_lt hzW)
      go_upto_region 14 with (go_at_call 12; refine (HP2.out _).mono ?_; rintro e w' ⟨rfl, rfl⟩)
      generalize wc.setCell ⟨gx, 1, none⟩ (.int .i64 (-1)) = W at *
      clear hbW hbT holc hzc f0 k0' k1' k2'
      obtain ⟨L, hL⟩ : ∃ L, o ++ [(x, -1, 4194304)] = L := ⟨_, rfl⟩
      have HOK : Hid (checkC L = false ∧ L.length ≤ 6) := by
        refine (show checkC L = false ∧ L.length ≤ 6 from ?_)
        rw [← hL, check_snoc HMC.out, decide_eq_false_iff_not]
        exact ⟨by unfold okC; simp only; omega, by simp; omega⟩
      have HL := Lib.hid hL
      clear hL
      go_cut [10] (fun s10 wx => s10 = .bool false ∧ Below W.heap.size W wx)
      case first =>
        have hbU : Below W.heap.size W (W.drew.alloc (.cells #[.int .i64 (x), .int .i64 (-1), .int .i64 (4194304)] 27)) := ((Below.refl W.heap.size W).drew).alloc (Nat.le_refl _) _
        have zU : W.heap.size < (W.drew.alloc (.cells #[.int .i64 (x), .int .i64 (-1), .int .i64 (4194304)] 27)).heap.size := by simp
        have holU := holW.belowMore hbU hbU.size
        have hU : (W.drew.alloc (.cells #[.int .i64 (x), .int .i64 (-1), .int .i64 (4194304)] 27)).heap[W.heap.size]? = some (.cells #[.int .i64 (x), .int .i64 (-1), .int .i64 (4194304)] 27 (0, 0)) := heap_alloc_new W.drew _
        have HU := Lib.hid hU
        have ZU := Lib.hid zU
        clear hU zU
        go_region_held3 (fun w' => w'.cell? ⟨gx, 0, none⟩ = some (.int .i64 (x)) ∧ w'.cell? ⟨gx, 1, none⟩ = some (.int .i64 (-1)) ∧ w'.cell? ⟨gx, 2, none⟩ = some (.int .i64 (4194304))) (first | exact ⟨m0, m1, m2⟩ | exact ⟨n0, n1, n2⟩ | exact ⟨j0, j1, j2⟩ | exact ⟨k0, k1, k2⟩ | go_keep)
          (first
            | (refine step_append_lst rfl _ _ 23 rfl W.heap.size 27 24 Try.underlying23 elemC (.slice none 0 0) [] rfl (Own.nil _ _ _ _ _) o _ _ c1 W.heap.size rfl rfl holW (by simp only [Go.maxLen, List.length_nil]; omega) (by simp only [List.length_nil]; omega) (Nat.le_refl _) ?_
               intro v4 w4 ho4 hg4 hat4
               rw [List.nil_append] at ho4
               have hb4 : Below W.heap.size W w4 := below_of_grownBy (w := W) ⟨hg4.os, hg4.tape, hg4.output, hg4.size, hg4.block⟩ (Nat.le_refl _) (fun k hk => by cases hk)
               have z4 := hb4.size
               have j0 := (hb4.cell (p := ⟨gx, 0, none⟩) hzW).trans k0
               have j1 := (hb4.cell (p := ⟨gx, 1, none⟩) hzW).trans k1
               have j2 := (hb4.cell (p := ⟨gx, 2, none⟩) hzW).trans k2
               clear hg4 hat4)
            | (refine step_append_lst (W := W.drew.alloc (.cells #[.int .i64 (x), .int .i64 (-1), .int .i64 (4194304)] 27)) rfl _ _ 23 rfl W.heap.size 27 24 Try.underlying23 elemC (.slice none 0 0) [] rfl (Own.nil _ _ _ _ _) o _ _ c1 _ rfl rfl holU (by simp only [Go.maxLen, List.length_nil]; omega) (by simp only [List.length_nil]; omega) (Nat.le_of_lt ZU.out) ?_
               intro v4 w4 ho4 hg4 hat4
               rw [List.nil_append] at ho4
               have hb4 : Below W.heap.size W w4 := hbU.grown hg4 (Nat.le_of_lt ZU.out) (fun k hk => by cases hk)
               have hk4 : w4.heap[W.heap.size]? = some (.cells #[.int .i64 (x), .int .i64 (-1), .int .i64 (4194304)] 27 (0, 0)) := (hg4.block W.heap.size ZU.out (by intro q; cases q)).trans HU.out
               have HK4 := Lib.hid hk4
               have z4 := hb4.size
               have j0 := (hb4.cell (p := ⟨gx, 0, none⟩) hzW).trans k0
               have j1 := (hb4.cell (p := ⟨gx, 1, none⟩) hzW).trans k1
               have j2 := (hb4.cell (p := ⟨gx, 2, none⟩) hzW).trans k2
               clear hg4 hat4 hk4)
            | (refine step_append_blk (by rfl) _ _ 23 (by rfl) W.heap.size 27 24 Try.underlying23 elemC v4 o (by rfl) (ho4.alloc _) [((x), (-1), (4194304))] w4.heap.size 1 1 (by rfl) (by rfl) 27 (heap_alloc_new w4 _) (by simp only [Go.maxLen, List.length_cons, List.length_nil]; omega) (by simp only [List.length_cons, List.length_nil]; omega) (by simp; omega) ?_
               intro v5 w5 ho5 hg5 hat5
               have hb5 : Below W.heap.size W w5 := (hb4.alloc z4 _).grown hg5 (by simp; omega) (fun g hg => (World.ownsRow.lt ho4 g hg).1)
               have z5 := hb5.size
               rw [HL.out] at ho5
               have n0 := (hb5.cell (p := ⟨gx, 0, none⟩) hzW).trans k0
               have n1 := (hb5.cell (p := ⟨gx, 1, none⟩) hzW).trans k1
               have n2 := (hb5.cell (p := ⟨gx, 2, none⟩) hzW).trans k2
               obtain ⟨A5, c5, rfl⟩ := ho5.form
               clear hg5 hat5 hb4 ho4)
            | (refine step_append_blk (by rfl) _ _ 23 (by rfl) W.heap.size 27 24 Try.underlying23 elemC v4 o (by rfl) ho4 [((x), (-1), (4194304))] W.heap.size 1 1 (by rfl) (by rfl) 27 HK4.out (by simp only [Go.maxLen, List.length_cons, List.length_nil]; omega) (by simp only [List.length_cons, List.length_nil]; omega) (by omega) ?_
               intro v5 w5 ho5 hg5 hat5
               have hb5 : Below W.heap.size W w5 := hb4.grown hg5 z4 (fun g hg => (World.ownsRow.lt ho4 g hg).1)
               have z5 := hb5.size
               rw [HL.out] at ho5
               have n0 := (hb5.cell (p := ⟨gx, 0, none⟩) hzW).trans k0
               have n1 := (hb5.cell (p := ⟨gx, 1, none⟩) hzW).trans k1
               have n2 := (hb5.cell (p := ⟨gx, 2, none⟩) hzW).trans k2
               obtain ⟨A5, c5, rfl⟩ := ho5.form
               clear hg5 hat5 hb4 ho4)
            | (go_at_call 13
               refine (check_any A5 c5 L w5 (ho5.lst encO_len) (by have := HOK.out.2; omega)).mono ?_
               rintro e' w6 ⟨rfl, hb6⟩
               rw [HOK.out.1]
               have hbR := hb5.trans (hb6.mono z5)
               have m0 := (hbR.cell (p := ⟨gx, 0, none⟩) hzW).trans k0
               have m1 := (hbR.cell (p := ⟨gx, 1, none⟩) hzW).trans k1
               have m2 := (hbR.cell (p := ⟨gx, 2, none⟩) hzW).trans k2
               clear hb5 hb6 ho5))
        all_goals (go_wp2_with fail; go_meet; exact ⟨rfl, hbR⟩)
      case rest =>
        obtain ⟨rfl, hbR⟩ := hcut
        have hmk := makeMany
        have hbT3 := hbT2.trans (hbR.mono (Nat.le_trans z1 (Nat.le_of_lt hzW)))
        clear hbT2 hbR hzW holW k0 k1 k2 HOK HL
        have zT := hbT3.size
        have hoM : OwnC (wc.alloc (.cells manyZ 27)) wc.heap.size (.slice (some ⟨wc.heap.size, 0, none⟩) 32 32) (manyC 0) := Own.lit wc _ _ _ (manyC 0) 32 (by rw [many_len (by omega)]) encO_len many_zero (Nat.le_refl _) (by rw [many_len (by omega)]; simp [maxLen])
        have hbM := belA wc (.cells manyZ 27)
        go_wp2_with fail
        generalize wc.alloc (.cells manyZ 27) = W1 at *
        have zM := hbM.size
        generalize hgm : wc.heap.size = gm at *
        clear hmk
        go_loopg [12, 53] 32 (fun g s12 s53 wr => ∃ k : Nat, k ≤ 32 ∧ g = 32 - k ∧ s53 = .int .i64 k ∧ OwnC wr gm (.slice (some ⟨gm, 0, none⟩) 32 32) (manyC k) ∧ Below gm wc wr)
        case atStart => exact ⟨0, by omega, rfl, rfl, hoM, hbM⟩
        case round =>
          obtain ⟨k, hk, hg, rfl, ho, hb⟩ := hrel
          have HG := Lib.hid hg
          clear hg hoM hbM
          have hz := hb.size
          by_cases hlt : k < 32
          · have hml := many_len (k := k) (by omega)
            obtain ⟨g, c', hv, hge, hgw, hcc, hcell, hfz⟩ := ho.at_ encO_len (fun h => by rw [h] at hml; simp at hml)
            rw [hml] at hv
            injection hv with hv1 _ hv2
            injection hv1 with hv1
            injection hv1 with hv1
            subst hv1 hv2
            have hsl : k < (manyC k).length := by rw [hml]; exact hlt
            have hat := List.getElem?_eq_getElem hsl
            rw [many_at hlt] at hat
            have y0 := hcell k _ hat 0 (.int .i64 0) rfl
            have y1 := hcell k _ hat 1 (.int .i64 0) rfl
            have y2 := hcell k _ hat 2 (.int .i64 0) rfl
            have v0 := hfz (k * 3)
            have v1 := hfz (k * 3 + 1)
            have v2 := hfz (k * 3 + 2)
            simp only [Nat.add_zero] at y0
            have i1 : (0 : Int) ≤ (k : Int) := by omega
            have i2 : (k : Int) < ((32 : Nat) : Int) := by omega
            have st0 := ho.stored encO_len k 0 (.int .i64 k) ((k : Int), 0, 0) hsl (by omega) (by rw [many_at hlt]; rfl)
            have st1 := st0.1.stored encO_len k 1 (.int .i64 0) ((k : Int), 0, 0) (by rw [List.length_set]; exact hsl) (by omega) (by rw [List.getElem_set_self]; rfl)
            have st2 := st1.1.stored encO_len k 2 (.int .i64 1) ((k : Int), 0, 1) (by rw [List.length_set, List.length_set]; exact hsl) (by omega) (by rw [List.getElem_set_self]; rfl)
            rw [List.set_set, List.set_set, many_set hlt, Nat.add_zero] at st2
            have HO := Lib.hid st2.1
            have HB := Lib.hid (((hb.setCell (p := ⟨gm, k * 3, none⟩) (Nat.le_refl _) (.int .i64 k)).setCell (p := ⟨gm, k * 3 + 1, none⟩) (Nat.le_refl _) (.int .i64 0)).setCell (p := ⟨gm, k * 3 + 2, none⟩) (Nat.le_refl _) (.int .i64 1))
            clear st0 st1 st2 ho hcell hfz hat
            go_wp2_with fail
            go_roundg (32 - (k + 1))
            case measure => have := HG.out; omega
            case rel => exact ⟨k + 1, by omega, rfl, by go_num, HO.out, HB.out⟩
          · obtain rfl : k = 32 := by omega
            obtain ⟨M, hM⟩ : ∃ M, manyC 32 = M := ⟨_, rfl⟩
            have hM1 := many_check
            have hM2 := many_more
            have hM3 := many_first
            have hM4 := many_len (k := 32) (by omega)
            rw [hM] at hM1 hM2 hM3 hM4 ho
            clear hM
            have HM1 := Lib.hid hM1
            have HM2 := Lib.hid hM2
            have HM3 := Lib.hid hM3
            have HM4 := Lib.hid hM4
            clear hM1 hM2 hM3
            clear hM4
            obtain ⟨N, hN⟩ : ∃ N, M ++ [(0, 0, 1)] = N := ⟨_, rfl⟩
            have HN1 : Hid (checkC N = false ∧ N.length ≤ 33) := by
              refine (show checkC N = false ∧ N.length ≤ 33 from ?_)
              rw [← hN]
              exact ⟨HM2.out, by rw [List.length_append, HM4.out]; simp⟩
            have HN := Lib.hid hN
            clear hN
            go_wp2_with fail
            refine (awake25_any wr).mono ?_
            rintro e w1 ⟨rfl, hb1⟩
            have z1 := hb1.size
            have hc1 : Below wr.heap.size wr w1 := Below.trans (Below.refl wr.heap.size wr) (hb1.mono (Below.size (Below.refl wr.heap.size wr)))
            replace ho := ho.below' hb1
            have h1 := check_any (some ⟨gm, 0, none⟩) 32 M w1 (ho.lst encO_len) (by have := HM4.out; omega)
            rw [HM4.out, HM1.out] at h1
            go_wp2_with fail
            refine (h1).mono ?_
            rintro e w2 ⟨rfl, hb2⟩
            have z2 := hb2.size
            have hc2 : Below wr.heap.size wr w2 := Below.trans hc1 (hb2.mono (Below.size hc1))
            replace ho := ho.below' hb2
            clear h1
            obtain ⟨g, c', hv, hge, hgw, hcc, hcell, hfz⟩ := ho.at_ encO_len (fun h => by have := HM4.out; rw [h] at this; simp at this)
            rw [HM4.out] at hv
            injection hv with hv1 _ hv2
            injection hv1 with hv1
            injection hv1 with hv1
            subst hv1 hv2
            have y0 := hcell 0 _ HM3.out 0 (.int .i64 0) rfl
            have y1 := hcell 0 _ HM3.out 1 (.int .i64 0) rfl
            have y2 := hcell 0 _ HM3.out 2 (.int .i64 1) rfl
            simp only [Nat.zero_mul, Nat.zero_add, Nat.add_zero] at y0 y1 y2
            clear hcell hfz
            have hml : M.length ≤ 32 := by have := HM4.out; omega
            go_wp2_with (at_builtin; refine wpList_append_blk_w (by rfl) _ _ 23 rfl gm 27 24 Try.underlying23 elemC (.slice (some ⟨gm, 0, none⟩) 32 32) M rfl (ho.alloc _) [(0, 0, 1)] w2.heap.size 1 1 rfl rfl 27 (heap_alloc_new w2 _) (by simp only [Go.maxLen, List.length_cons, List.length_nil]; omega) (by simp only [List.length_cons, List.length_nil]; omega) (by simp; omega) ?_; intro v6 w6 ho6 hg6 hat6; rw [HN.out] at ho6; obtain ⟨A6, c6, rfl⟩ := ho6.form)
            have hbz := ((hb.trans (hc2.mono (by rw [← hgm]; exact hz))).alloc (by have := Below.size hc2; omega) _).grown hg6 (by have := Below.size hc2; simp; omega) (fun g hg => (World.ownsRow.lt ho g hg).1)
            have hzz := hbz.size
            have h2 := check_any A6 c6 N w6 (ho6.lst encO_len) (by have := HN1.out.2; omega)
            rw [HN1.out.1] at h2
            clear hg6 hat6 ho6
            go_wp2_with fail
            refine h2.mono ?_
            rintro e' w7 ⟨rfl, hb7⟩
            clear h2
            go_wp2_with fail
            go_ret
            refine ⟨rfl, ?_⟩
            have hq := hbz.trans (hb7.mono (by rw [← hgm]; exact hzz))
            rw [← hgm] at hq
            exact hbT3.trans (hq.mono (by rw [hgm]; exact zT))
    · subst hp
      have k0 : (wc.setCell ⟨gx, 1, none⟩ (.int .i64 (4194304))).cell? ⟨gx, 0, none⟩ = some (.int .i64 (x)) := by rw [setCell_in 0 _ k1']; first | exact k0' | rfl
      have k1 : (wc.setCell ⟨gx, 1, none⟩ (.int .i64 (4194304))).cell? ⟨gx, 1, none⟩ = some (.int .i64 (4194304)) := by rw [setCell_in 1 _ k1']; first | exact k1' | rfl
      have k2 : (wc.setCell ⟨gx, 1, none⟩ (.int .i64 (4194304))).cell? ⟨gx, 2, none⟩ = some (.int .i64 (4194304)) := by rw [setCell_in 2 _ k1']; first | exact k2' | rfl
      have hbW : Below gx wc (wc.setCell ⟨gx, 1, none⟩ (.int .i64 (4194304))) := (Below.refl gx wc).setCell (p := ⟨gx, 1, none⟩) (Nat.le_refl _) _
      have hzW : gx < (wc.setCell ⟨gx, 1, none⟩ (.int .i64 (4194304))).heap.size := by simpa using hzc
      have hbT2 := hbT.trans (hbW.mono z1)
      have holW := (holc.below hbW).more (Nat.le_of_lt hzW)
      go_upto_region 14 with (go_at_call 12; refine (HP2.out _).mono ?_; rintro e w' ⟨rfl, rfl⟩)
      generalize wc.setCell ⟨gx, 1, none⟩ (.int .i64 (4194304)) = W at *
      clear hbW hbT holc hzc f0 k0' k1' k2'
      obtain ⟨L, hL⟩ : ∃ L, o ++ [(x, 4194304, 4194304)] = L := ⟨_, rfl⟩
      have HOK : Hid (checkC L = false ∧ L.length ≤ 6) := by
        refine (show checkC L = false ∧ L.length ≤ 6 from ?_)
        rw [← hL, check_snoc HMC.out, decide_eq_false_iff_not]
        exact ⟨by unfold okC; simp only; omega, by simp; omega⟩
      have HL := Lib.hid hL
      clear hL
      go_cut [10] (fun s10 wx => s10 = .bool false ∧ Below W.heap.size W wx)
      case first =>
        have hbU : Below W.heap.size W (W.drew.alloc (.cells #[.int .i64 (x), .int .i64 (4194304), .int .i64 (4194304)] 27)) := ((Below.refl W.heap.size W).drew).alloc (Nat.le_refl _) _
        have zU : W.heap.size < (W.drew.alloc (.cells #[.int .i64 (x), .int .i64 (4194304), .int .i64 (4194304)] 27)).heap.size := by simp
        have holU := holW.belowMore hbU hbU.size
        have hU : (W.drew.alloc (.cells #[.int .i64 (x), .int .i64 (4194304), .int .i64 (4194304)] 27)).heap[W.heap.size]? = some (.cells #[.int .i64 (x), .int .i64 (4194304), .int .i64 (4194304)] 27 (0, 0)) := heap_alloc_new W.drew _
        have HU := Lib.hid hU
        have ZU := Lib.hid zU
        clear hU zU
        go_region_held3 (fun w' => w'.cell? ⟨gx, 0, none⟩ = some (.int .i64 (x)) ∧ w'.cell? ⟨gx, 1, none⟩ = some (.int .i64 (4194304)) ∧ w'.cell? ⟨gx, 2, none⟩ = some (.int .i64 (4194304))) (first | exact ⟨m0, m1, m2⟩ | exact ⟨n0, n1, n2⟩ | exact ⟨j0, j1, j2⟩ | exact ⟨k0, k1, k2⟩ | go_keep)
          (first
            | (refine step_append_lst rfl _ _ 23 rfl W.heap.size 27 24 Try.underlying23 elemC (.slice none 0 0) [] rfl (Own.nil _ _ _ _ _) o _ _ c1 W.heap.size rfl rfl holW (by simp only [Go.maxLen, List.length_nil]; omega) (by simp only [List.length_nil]; omega) (Nat.le_refl _) ?_
               intro v4 w4 ho4 hg4 hat4
               rw [List.nil_append] at ho4
               have hb4 : Below W.heap.size W w4 := below_of_grownBy (w := W) ⟨hg4.os, hg4.tape, hg4.output, hg4.size, hg4.block⟩ (Nat.le_refl _) (fun k hk => by cases hk)
               have z4 := hb4.size
               have j0 := (hb4.cell (p := ⟨gx, 0, none⟩) hzW).trans k0
               have j1 := (hb4.cell (p := ⟨gx, 1, none⟩) hzW).trans k1
               have j2 := (hb4.cell (p := ⟨gx, 2, none⟩) hzW).trans k2
               clear hg4 hat4)
            | (refine step_append_lst (W := W.drew.alloc (.cells #[.int .i64 (x), .int .i64 (4194304), .int .i64 (4194304)] 27)) rfl _ _ 23 rfl W.heap.size 27 24 Try.underlying23 elemC (.slice none 0 0) [] rfl (Own.nil _ _ _ _ _) o _ _ c1 _ rfl rfl holU (by simp only [Go.maxLen, List.length_nil]; omega) (by simp only [List.length_nil]; omega) (Nat.le_of_lt ZU.out) ?_
               intro v4 w4 ho4 hg4 hat4
               rw [List.nil_append] at ho4
               have hb4 : Below W.heap.size W w4 := hbU.grown hg4 (Nat.le_of_lt ZU.out) (fun k hk => by cases hk)
               have hk4 : w4.heap[W.heap.size]? = some (.cells #[.int .i64 (x), .int .i64 (4194304), .int .i64 (4194304)] 27 (0, 0)) := (hg4.block W.heap.size ZU.out (by intro q; cases q)).trans HU.out
               have HK4 := Lib.hid hk4
               have z4 := hb4.size
               have j0 := (hb4.cell (p := ⟨gx, 0, none⟩) hzW).trans k0
               have j1 := (hb4.cell (p := ⟨gx, 1, none⟩) hzW).trans k1
               have j2 := (hb4.cell (p := ⟨gx, 2, none⟩) hzW).trans k2
               clear hg4 hat4 hk4)
            | (refine step_append_blk (by rfl) _ _ 23 (by rfl) W.heap.size 27 24 Try.underlying23 elemC v4 o (by rfl) (ho4.alloc _) [((x), (4194304), (4194304))] w4.heap.size 1 1 (by rfl) (by rfl) 27 (heap_alloc_new w4 _) (by simp only [Go.maxLen, List.length_cons, List.length_nil]; omega) (by simp only [List.length_cons, List.length_nil]; omega) (by simp; omega) ?_
               intro v5 w5 ho5 hg5 hat5
               have hb5 : Below W.heap.size W w5 := (hb4.alloc z4 _).grown hg5 (by simp; omega) (fun g hg => (World.ownsRow.lt ho4 g hg).1)
               have z5 := hb5.size
               rw [HL.out] at ho5
               have n0 := (hb5.cell (p := ⟨gx, 0, none⟩) hzW).trans k0
               have n1 := (hb5.cell (p := ⟨gx, 1, none⟩) hzW).trans k1
               have n2 := (hb5.cell (p := ⟨gx, 2, none⟩) hzW).trans k2
               obtain ⟨A5, c5, rfl⟩ := ho5.form
               clear hg5 hat5 hb4 ho4)
            | (refine step_append_blk (by rfl) _ _ 23 (by rfl) W.heap.size 27 24 Try.underlying23 elemC v4 o (by rfl) ho4 [((x), (4194304), (4194304))] W.heap.size 1 1 (by rfl) (by rfl) 27 HK4.out (by simp only [Go.maxLen, List.length_cons, List.length_nil]; omega) (by simp only [List.length_cons, List.length_nil]; omega) (by omega) ?_
               intro v5 w5 ho5 hg5 hat5
               have hb5 : Below W.heap.size W w5 := hb4.grown hg5 z4 (fun g hg => (World.ownsRow.lt ho4 g hg).1)
               have z5 := hb5.size
               rw [HL.out] at ho5
               have n0 := (hb5.cell (p := ⟨gx, 0, none⟩) hzW).trans k0
               have n1 := (hb5.cell (p := ⟨gx, 1, none⟩) hzW).trans k1
               have n2 := (hb5.cell (p := ⟨gx, 2, none⟩) hzW).trans k2
               obtain ⟨A5, c5, rfl⟩ := ho5.form
               clear hg5 hat5 hb4 ho4)
            | (go_at_call 13
               refine (check_any A5 c5 L w5 (ho5.lst encO_len) (by have := HOK.out.2; omega)).mono ?_
               rintro e' w6 ⟨rfl, hb6⟩
               rw [HOK.out.1]
               have hbR := hb5.trans (hb6.mono z5)
               have m0 := (hbR.cell (p := ⟨gx, 0, none⟩) hzW).trans k0
               have m1 := (hbR.cell (p := ⟨gx, 1, none⟩) hzW).trans k1
               have m2 := (hbR.cell (p := ⟨gx, 2, none⟩) hzW).trans k2
               clear hb5 hb6 ho5))
        all_goals (go_wp2_with fail; go_meet; exact ⟨rfl, hbR⟩)
      case rest =>
        obtain ⟨rfl, hbR⟩ := hcut
        have hmk := makeMany
        have hbT3 := hbT2.trans (hbR.mono (Nat.le_trans z1 (Nat.le_of_lt hzW)))
        clear hbT2 hbR hzW holW k0 k1 k2 HOK HL
        have zT := hbT3.size
        have hoM : OwnC (wc.alloc (.cells manyZ 27)) wc.heap.size (.slice (some ⟨wc.heap.size, 0, none⟩) 32 32) (manyC 0) := Own.lit wc _ _ _ (manyC 0) 32 (by rw [many_len (by omega)]) encO_len many_zero (Nat.le_refl _) (by rw [many_len (by omega)]; simp [maxLen])
        have hbM := belA wc (.cells manyZ 27)
        go_wp2_with fail
        generalize wc.alloc (.cells manyZ 27) = W1 at *
        have zM := hbM.size
        generalize hgm : wc.heap.size = gm at *
        clear hmk
        go_loopg [12, 53] 32 (fun g s12 s53 wr => ∃ k : Nat, k ≤ 32 ∧ g = 32 - k ∧ s53 = .int .i64 k ∧ OwnC wr gm (.slice (some ⟨gm, 0, none⟩) 32 32) (manyC k) ∧ Below gm wc wr)
        case atStart => exact ⟨0, by omega, rfl, rfl, hoM, hbM⟩
        case round =>
          obtain ⟨k, hk, hg, rfl, ho, hb⟩ := hrel
          have HG := Lib.hid hg
          clear hg hoM hbM
          have hz := hb.size
          by_cases hlt : k < 32
          · have hml := many_len (k := k) (by omega)
            obtain ⟨g, c', hv, hge, hgw, hcc, hcell, hfz⟩ := ho.at_ encO_len (fun h => by rw [h] at hml; simp at hml)
            rw [hml] at hv
            injection hv with hv1 _ hv2
            injection hv1 with hv1
            injection hv1 with hv1
            subst hv1 hv2
            have hsl : k < (manyC k).length := by rw [hml]; exact hlt
            have hat := List.getElem?_eq_getElem hsl
            rw [many_at hlt] at hat
            have y0 := hcell k _ hat 0 (.int .i64 0) rfl
            have y1 := hcell k _ hat 1 (.int .i64 0) rfl
            have y2 := hcell k _ hat 2 (.int .i64 0) rfl
            have v0 := hfz (k * 3)
            have v1 := hfz (k * 3 + 1)
            have v2 := hfz (k * 3 + 2)
            simp only [Nat.add_zero] at y0
            have i1 : (0 : Int) ≤ (k : Int) := by omega
            have i2 : (k : Int) < ((32 : Nat) : Int) := by omega
            have st0 := ho.stored encO_len k 0 (.int .i64 k) ((k : Int), 0, 0) hsl (by omega) (by rw [many_at hlt]; rfl)
            have st1 := st0.1.stored encO_len k 1 (.int .i64 0) ((k : Int), 0, 0) (by rw [List.length_set]; exact hsl) (by omega) (by rw [List.getElem_set_self]; rfl)
            have st2 := st1.1.stored encO_len k 2 (.int .i64 1) ((k : Int), 0, 1) (by rw [List.length_set, List.length_set]; exact hsl) (by omega) (by rw [List.getElem_set_self]; rfl)
            rw [List.set_set, List.set_set, many_set hlt, Nat.add_zero] at st2
            have HO := Lib.hid st2.1
            have HB := Lib.hid (((hb.setCell (p := ⟨gm, k * 3, none⟩) (Nat.le_refl _) (.int .i64 k)).setCell (p := ⟨gm, k * 3 + 1, none⟩) (Nat.le_refl _) (.int .i64 0)).setCell (p := ⟨gm, k * 3 + 2, none⟩) (Nat.le_refl _) (.int .i64 1))
            clear st0 st1 st2 ho hcell hfz hat
            go_wp2_with fail
            go_roundg (32 - (k + 1))
            case measure => have := HG.out; omega
            case rel => exact ⟨k + 1, by omega, rfl, by go_num, HO.out, HB.out⟩
          · obtain rfl : k = 32 := by omega
            obtain ⟨M, hM⟩ : ∃ M, manyC 32 = M := ⟨_, rfl⟩
            have hM1 := many_check
            have hM2 := many_more
            have hM3 := many_first
            have hM4 := many_len (k := 32) (by omega)
            rw [hM] at hM1 hM2 hM3 hM4 ho
            clear hM
            have HM1 := Lib.hid hM1
            have HM2 := Lib.hid hM2
            have HM3 := Lib.hid hM3
            have HM4 := Lib.hid hM4
            clear hM1 hM2 hM3
            clear hM4
            obtain ⟨N, hN⟩ : ∃ N, M ++ [(0, 0, 1)] = N := ⟨_, rfl⟩
            have HN1 : Hid (checkC N = false ∧ N.length ≤ 33) := by
              refine (show checkC N = false ∧ N.length ≤ 33 from ?_)
              rw [← hN]
              exact ⟨HM2.out, by rw [List.length_append, HM4.out]; simp⟩
            have HN := Lib.hid hN
            clear hN
            go_wp2_with fail
            refine (awake25_any wr).mono ?_
            rintro e w1 ⟨rfl, hb1⟩
            have z1 := hb1.size
            have hc1 : Below wr.heap.size wr w1 := Below.trans (Below.refl wr.heap.size wr) (hb1.mono (Below.size (Below.refl wr.heap.size wr)))
            replace ho := ho.below' hb1
            have h1 := check_any (some ⟨gm, 0, none⟩) 32 M w1 (ho.lst encO_len) (by have := HM4.out; omega)
            rw [HM4.out, HM1.out] at h1
            go_wp2_with fail
            refine (h1).mono ?_
            rintro e w2 ⟨rfl, hb2⟩
            have z2 := hb2.size
            have hc2 : Below wr.heap.size wr w2 := Below.trans hc1 (hb2.mono (Below.size hc1))
            replace ho := ho.below' hb2
            clear h1
            obtain ⟨g, c', hv, hge, hgw, hcc, hcell, hfz⟩ := ho.at_ encO_len (fun h => by have := HM4.out; rw [h] at this; simp at this)
            rw [HM4.out] at hv
            injection hv with hv1 _ hv2
            injection hv1 with hv1
            injection hv1 with hv1
            subst hv1 hv2
            have y0 := hcell 0 _ HM3.out 0 (.int .i64 0) rfl
            have y1 := hcell 0 _ HM3.out 1 (.int .i64 0) rfl
            have y2 := hcell 0 _ HM3.out 2 (.int .i64 1) rfl
            simp only [Nat.zero_mul, Nat.zero_add, Nat.add_zero] at y0 y1 y2
            clear hcell hfz
            have hml : M.length ≤ 32 := by have := HM4.out; omega
            go_wp2_with (at_builtin; refine wpList_append_blk_w (by rfl) _ _ 23 rfl gm 27 24 Try.underlying23 elemC (.slice (some ⟨gm, 0, none⟩) 32 32) M rfl (ho.alloc _) [(0, 0, 1)] w2.heap.size 1 1 rfl rfl 27 (heap_alloc_new w2 _) (by simp only [Go.maxLen, List.length_cons, List.length_nil]; omega) (by simp only [List.length_cons, List.length_nil]; omega) (by simp; omega) ?_; intro v6 w6 ho6 hg6 hat6; rw [HN.out] at ho6; obtain ⟨A6, c6, rfl⟩ := ho6.form)
            have hbz := ((hb.trans (hc2.mono (by rw [← hgm]; exact hz))).alloc (by have := Below.size hc2; omega) _).grown hg6 (by have := Below.size hc2; simp; omega) (fun g hg => (World.ownsRow.lt ho g hg).1)
            have hzz := hbz.size
            have h2 := check_any A6 c6 N w6 (ho6.lst encO_len) (by have := HN1.out.2; omega)
            rw [HN1.out.1] at h2
            clear hg6 hat6 ho6
            go_wp2_with fail
            refine h2.mono ?_
            rintro e' w7 ⟨rfl, hb7⟩
            clear h2
            go_wp2_with fail
            go_ret
            refine ⟨rfl, ?_⟩
            have hq := hbz.trans (hb7.mono (by rw [← hgm]; exact hzz))
            rw [← hgm] at hq
            exact hbT3.trans (hq.mono (by rw [hgm]; exact zT))
    · subst hp
      have k0 : (wc.setCell ⟨gx, 0, none⟩ (.int .i64 (144))).cell? ⟨gx, 0, none⟩ = some (.int .i64 (144)) := by rw [setCell_in 0 _ k0']; first | exact k0' | rfl
      have k1 : (wc.setCell ⟨gx, 0, none⟩ (.int .i64 (144))).cell? ⟨gx, 1, none⟩ = some (.int .i64 (0)) := by rw [setCell_in 1 _ k0']; first | exact k1' | rfl
      have k2 : (wc.setCell ⟨gx, 0, none⟩ (.int .i64 (144))).cell? ⟨gx, 2, none⟩ = some (.int .i64 (4194304)) := by rw [setCell_in 2 _ k0']; first | exact k2' | rfl
      have hbW : Below gx wc (wc.setCell ⟨gx, 0, none⟩ (.int .i64 (144))) := (Below.refl gx wc).setCell (p := ⟨gx, 0, none⟩) (Nat.le_refl _) _
      have hzW : gx < (wc.setCell ⟨gx, 0, none⟩ (.int .i64 (144))).heap.size := by simpa using hzc
      have hbT2 := hbT.trans (hbW.mono z1)
      have holW := (holc.below hbW).more (Nat.le_of_lt hzW)
      go_upto_region 14 with (go_at_call 12; refine (HP2.out _).mono ?_; rintro e w' ⟨rfl, rfl⟩)
      generalize wc.setCell ⟨gx, 0, none⟩ (.int .i64 (144)) = W at *
      clear hbW hbT holc hzc f0 k0' k1' k2'
      obtain ⟨L, hL⟩ : ∃ L, o ++ [(144, 0, 4194304)] = L := ⟨_, rfl⟩
      have HOK : Hid (checkC L = false ∧ L.length ≤ 6) := by
        refine (show checkC L = false ∧ L.length ≤ 6 from ?_)
        rw [← hL, check_snoc HMC.out, decide_eq_false_iff_not]
        exact ⟨by unfold okC; simp only; omega, by simp; omega⟩
      have HL := Lib.hid hL
      clear hL
      go_cut [10] (fun s10 wx => s10 = .bool false ∧ Below W.heap.size W wx)
      case first =>
        have hbU : Below W.heap.size W (W.drew.alloc (.cells #[.int .i64 (144), .int .i64 (0), .int .i64 (4194304)] 27)) := ((Below.refl W.heap.size W).drew).alloc (Nat.le_refl _) _
        have zU : W.heap.size < (W.drew.alloc (.cells #[.int .i64 (144), .int .i64 (0), .int .i64 (4194304)] 27)).heap.size := by simp
        have holU := holW.belowMore hbU hbU.size
        have hU : (W.drew.alloc (.cells #[.int .i64 (144), .int .i64 (0), .int .i64 (4194304)] 27)).heap[W.heap.size]? = some (.cells #[.int .i64 (144), .int .i64 (0), .int .i64 (4194304)] 27 (0, 0)) := heap_alloc_new W.drew _
        have HU := Lib.hid hU
        have ZU := Lib.hid zU
        clear hU zU
        go_region_held3 (fun w' => w'.cell? ⟨gx, 0, none⟩ = some (.int .i64 (144)) ∧ w'.cell? ⟨gx, 1, none⟩ = some (.int .i64 (0)) ∧ w'.cell? ⟨gx, 2, none⟩ = some (.int .i64 (4194304))) (first | exact ⟨m0, m1, m2⟩ | exact ⟨n0, n1, n2⟩ | exact ⟨j0, j1, j2⟩ | exact ⟨k0, k1, k2⟩ | go_keep)
          (first
            | (refine step_append_lst rfl _ _ 23 rfl W.heap.size 27 24 Try.underlying23 elemC (.slice none 0 0) [] rfl (Own.nil _ _ _ _ _) o _ _ c1 W.heap.size rfl rfl holW (by simp only [Go.maxLen, List.length_nil]; omega) (by simp only [List.length_nil]; omega) (Nat.le_refl _) ?_
               intro v4 w4 ho4 hg4 hat4
               rw [List.nil_append] at ho4
               have hb4 : Below W.heap.size W w4 := below_of_grownBy (w := W) ⟨hg4.os, hg4.tape, hg4.output, hg4.size, hg4.block⟩ (Nat.le_refl _) (fun k hk => by cases hk)
               have z4 := hb4.size
               have j0 := (hb4.cell (p := ⟨gx, 0, none⟩) hzW).trans k0
               have j1 := (hb4.cell (p := ⟨gx, 1, none⟩) hzW).trans k1
               have j2 := (hb4.cell (p := ⟨gx, 2, none⟩) hzW).trans k2
               clear hg4 hat4)
            | (refine step_append_lst (W := W.drew.alloc (.cells #[.int .i64 (144), .int .i64 (0), .int .i64 (4194304)] 27)) rfl _ _ 23 rfl W.heap.size 27 24 Try.underlying23 elemC (.slice none 0 0) [] rfl (Own.nil _ _ _ _ _) o _ _ c1 _ rfl rfl holU (by simp only [Go.maxLen, List.length_nil]; omega) (by simp only [List.length_nil]; omega) (Nat.le_of_lt ZU.out) ?_
               intro v4 w4 ho4 hg4 hat4
               rw [List.nil_append] at ho4
               have hb4 : Below W.heap.size W w4 := hbU.grown hg4 (Nat.le_of_lt ZU.out) (fun k hk => by cases hk)
               have hk4 : w4.heap[W.heap.size]? = some (.cells #[.int .i64 (144), .int .i64 (0), .int .i64 (4194304)] 27 (0, 0)) := (hg4.block W.heap.size ZU.out (by intro q; cases q)).trans HU.out
               have HK4 := Lib.hid hk4
               have z4 := hb4.size
               have j0 := (hb4.cell (p := ⟨gx, 0, none⟩) hzW).trans k0
               have j1 := (hb4.cell (p := ⟨gx, 1, none⟩) hzW).trans k1
               have j2 := (hb4.cell (p := ⟨gx, 2, none⟩) hzW).trans k2
               clear hg4 hat4 hk4)
            | (refine step_append_blk (by rfl) _ _ 23 (by rfl) W.heap.size 27 24 Try.underlying23 elemC v4 o (by rfl) (ho4.alloc _) [((144), (0), (4194304))] w4.heap.size 1 1 (by rfl) (by rfl) 27 (heap_alloc_new w4 _) (by simp only [Go.maxLen, List.length_cons, List.length_nil]; omega) (by simp only [List.length_cons, List.length_nil]; omega) (by simp; omega) ?_
               intro v5 w5 ho5 hg5 hat5
               have hb5 : Below W.heap.size W w5 := (hb4.alloc z4 _).grown hg5 (by simp; omega) (fun g hg => (World.ownsRow.lt ho4 g hg).1)
               have z5 := hb5.size
               rw [HL.out] at ho5
               have n0 := (hb5.cell (p := ⟨gx, 0, none⟩) hzW).trans k0
               have n1 := (hb5.cell (p := ⟨gx, 1, none⟩) hzW).trans k1
               have n2 := (hb5.cell (p := ⟨gx, 2, none⟩) hzW).trans k2
               obtain ⟨A5, c5, rfl⟩ := ho5.form
               clear hg5 hat5 hb4 ho4)
            | (refine step_append_blk (by rfl) _ _ 23 (by rfl) W.heap.size 27 24 Try.underlying23 elemC v4 o (by rfl) ho4 [((144), (0), (4194304))] W.heap.size 1 1 (by rfl) (by rfl) 27 HK4.out (by simp only [Go.maxLen, List.length_cons, List.length_nil]; omega) (by simp only [List.length_cons, List.length_nil]; omega) (by omega) ?_
               intro v5 w5 ho5 hg5 hat5
               have hb5 : Below W.heap.size W w5 := hb4.grown hg5 z4 (fun g hg => (World.ownsRow.lt ho4 g hg).1)
               have z5 := hb5.size
               rw [HL.out] at ho5
               have n0 := (hb5.cell (p := ⟨gx, 0, none⟩) hzW).trans k0
               have n1 := (hb5.cell (p := ⟨gx, 1, none⟩) hzW).trans k1
               have n2 := (hb5.cell (p := ⟨gx, 2, none⟩) hzW).trans k2
               obtain ⟨A5, c5, rfl⟩ := ho5.form
               clear hg5 hat5 hb4 ho4)
            | (go_at_call 13
               refine (check_any A5 c5 L w5 (ho5.lst encO_len) (by have := HOK.out.2; omega)).mono ?_
               rintro e' w6 ⟨rfl, hb6⟩
               rw [HOK.out.1]
               have hbR := hb5.trans (hb6.mono z5)
               have m0 := (hbR.cell (p := ⟨gx, 0, none⟩) hzW).trans k0
               have m1 := (hbR.cell (p := ⟨gx, 1, none⟩) hzW).trans k1
               have m2 := (hbR.cell (p := ⟨gx, 2, none⟩) hzW).trans k2
               clear hb5 hb6 ho5))
        all_goals (go_wp2_with fail; go_meet; exact ⟨rfl, hbR⟩)
      case rest =>
        obtain ⟨rfl, hbR⟩ := hcut
        have hmk := makeMany
        have hbT3 := hbT2.trans (hbR.mono (Nat.le_trans z1 (Nat.le_of_lt hzW)))
        clear hbT2 hbR hzW holW k0 k1 k2 HOK HL
        have zT := hbT3.size
        have hoM : OwnC (wc.alloc (.cells manyZ 27)) wc.heap.size (.slice (some ⟨wc.heap.size, 0, none⟩) 32 32) (manyC 0) := Own.lit wc _ _ _ (manyC 0) 32 (by rw [many_len (by omega)]) encO_len many_zero (Nat.le_refl _) (by rw [many_len (by omega)]; simp [maxLen])
        have hbM := belA wc (.cells manyZ 27)
        go_wp2_with fail
        generalize wc.alloc (.cells manyZ 27) = W1 at *
        have zM := hbM.size
        generalize hgm : wc.heap.size = gm at *
        clear hmk
        go_loopg [12, 53] 32 (fun g s12 s53 wr => ∃ k : Nat, k ≤ 32 ∧ g = 32 - k ∧ s53 = .int .i64 k ∧ OwnC wr gm (.slice (some ⟨gm, 0, none⟩) 32 32) (manyC k) ∧ Below gm wc wr)
        case atStart => exact ⟨0, by omega, rfl, rfl, hoM, hbM⟩
        case round =>
          obtain ⟨k, hk, hg, rfl, ho, hb⟩ := hrel
          have HG := Lib.hid hg
          clear hg hoM hbM
          have hz := hb.size
          by_cases hlt : k < 32
          · have hml := many_len (k := k) (by omega)
            obtain ⟨g, c', hv, hge, hgw, hcc, hcell, hfz⟩ := ho.at_ encO_len (fun h => by rw [h] at hml; simp at hml)
            rw [hml] at hv
            injection hv with hv1 _ hv2
            injection hv1 with hv1
            injection hv1 with hv1
            subst hv1 hv2
            have hsl : k < (manyC k).length := by rw [hml]; exact hlt
            have hat := List.getElem?_eq_getElem hsl
            rw [many_at hlt] at hat
            have y0 := hcell k _ hat 0 (.int .i64 0) rfl
            have y1 := hcell k _ hat 1 (.int .i64 0) rfl
            have y2 := hcell k _ hat 2 (.int .i64 0) rfl
            have v0 := hfz (k * 3)
            have v1 := hfz (k * 3 + 1)
            have v2 := hfz (k * 3 + 2)
            simp only [Nat.add_zero] at y0
            have i1 : (0 : Int) ≤ (k : Int) := by omega
            have i2 : (k : Int) < ((32 : Nat) : Int) := by omega
            have st0 := ho.stored encO_len k 0 (.int .i64 k) ((k : Int), 0, 0) hsl (by omega) (by rw [many_at hlt]; rfl)
            have st1 := st0.1.stored encO_len k 1 (.int .i64 0) ((k : Int), 0, 0) (by rw [List.length_set]; exact hsl) (by omega) (by rw [List.getElem_set_self]; rfl)
            have st2 := st1.1.stored encO_len k 2 (.int .i64 1) ((k : Int), 0, 1) (by rw [List.length_set, List.length_set]; exact hsl) (by omega) (by rw [List.getElem_set_self]; rfl)
            rw [List.set_set, List.set_set, many_set hlt, Nat.add_zero] at st2
            have HO := Lib.hid st2.1
            have HB := Lib.hid (((hb.setCell (p := ⟨gm, k * 3, none⟩) (Nat.le_refl _) (.int .i64 k)).setCell (p := ⟨gm, k * 3 + 1, none⟩) (Nat.le_refl _) (.int .i64 0)).setCell (p := ⟨gm, k * 3 + 2, none⟩) (Nat.le_refl _) (.int .i64 1))
            clear st0 st1 st2 ho hcell hfz hat
            go_wp2_with fail
            go_roundg (32 - (k + 1))
            case measure => have := HG.out; omega
            case rel => exact ⟨k + 1, by omega, rfl, by go_num, HO.out, HB.out⟩
          · obtain rfl : k = 32 := by omega
            obtain ⟨M, hM⟩ : ∃ M, manyC 32 = M := ⟨_, rfl⟩
            have hM1 := many_check
            have hM2 := many_more
            have hM3 := many_first
            have hM4 := many_len (k := 32) (by omega)
            rw [hM] at hM1 hM2 hM3 hM4 ho
            clear hM
            have HM1 := Lib.hid hM1
            have HM2 := Lib.hid hM2
            have HM3 := Lib.hid hM3
            have HM4 := Lib.hid hM4
            clear hM1 hM2 hM3
            clear hM4
            obtain ⟨N, hN⟩ : ∃ N, M ++ [(0, 0, 1)] = N := ⟨_, rfl⟩
            have HN1 : Hid (checkC N = false ∧ N.length ≤ 33) := by
              refine (show checkC N = false ∧ N.length ≤ 33 from ?_)
              rw [← hN]
              exact ⟨HM2.out, by rw [List.length_append, HM4.out]; simp⟩
            have HN := Lib.hid hN
            clear hN
            go_wp2_with fail
            refine (awake25_any wr).mono ?_
            rintro e w1 ⟨rfl, hb1⟩
            have z1 := hb1.size
            have hc1 : Below wr.heap.size wr w1 := Below.trans (Below.refl wr.heap.size wr) (hb1.mono (Below.size (Below.refl wr.heap.size wr)))
            replace ho := ho.below' hb1
            have h1 := check_any (some ⟨gm, 0, none⟩) 32 M w1 (ho.lst encO_len) (by have := HM4.out; omega)
            rw [HM4.out, HM1.out] at h1
            go_wp2_with fail
            refine (h1).mono ?_
            rintro e w2 ⟨rfl, hb2⟩
            have z2 := hb2.size
            have hc2 : Below wr.heap.size wr w2 := Below.trans hc1 (hb2.mono (Below.size hc1))
            replace ho := ho.below' hb2
            clear h1
            obtain ⟨g, c', hv, hge, hgw, hcc, hcell, hfz⟩ := ho.at_ encO_len (fun h => by have := HM4.out; rw [h] at this; simp at this)
            rw [HM4.out] at hv
            injection hv with hv1 _ hv2
            injection hv1 with hv1
            injection hv1 with hv1
            subst hv1 hv2
            have y0 := hcell 0 _ HM3.out 0 (.int .i64 0) rfl
            have y1 := hcell 0 _ HM3.out 1 (.int .i64 0) rfl
            have y2 := hcell 0 _ HM3.out 2 (.int .i64 1) rfl
            simp only [Nat.zero_mul, Nat.zero_add, Nat.add_zero] at y0 y1 y2
            clear hcell hfz
            have hml : M.length ≤ 32 := by have := HM4.out; omega
            go_wp2_with (at_builtin; refine wpList_append_blk_w (by rfl) _ _ 23 rfl gm 27 24 Try.underlying23 elemC (.slice (some ⟨gm, 0, none⟩) 32 32) M rfl (ho.alloc _) [(0, 0, 1)] w2.heap.size 1 1 rfl rfl 27 (heap_alloc_new w2 _) (by simp only [Go.maxLen, List.length_cons, List.length_nil]; omega) (by simp only [List.length_cons, List.length_nil]; omega) (by simp; omega) ?_; intro v6 w6 ho6 hg6 hat6; rw [HN.out] at ho6; obtain ⟨A6, c6, rfl⟩ := ho6.form)
            have hbz := ((hb.trans (hc2.mono (by rw [← hgm]; exact hz))).alloc (by have := Below.size hc2; omega) _).grown hg6 (by have := Below.size hc2; simp; omega) (fun g hg => (World.ownsRow.lt ho g hg).1)
            have hzz := hbz.size
            have h2 := check_any A6 c6 N w6 (ho6.lst encO_len) (by have := HN1.out.2; omega)
            rw [HN1.out.1] at h2
            clear hg6 hat6 ho6
            go_wp2_with fail
            refine h2.mono ?_
            rintro e' w7 ⟨rfl, hb7⟩
            clear h2
            go_wp2_with fail
            go_ret
            refine ⟨rfl, ?_⟩
            have hq := hbz.trans (hb7.mono (by rw [← hgm]; exact hzz))
            rw [← hgm] at hq
            exact hbT3.trans (hq.mono (by rw [hgm]; exact zT))
    · subst hp
      have k0 : (wc.setCell ⟨gx, 0, none⟩ (.int .i64 (-1))).cell? ⟨gx, 0, none⟩ = some (.int .i64 (-1)) := by rw [setCell_in 0 _ k0']; first | exact k0' | rfl
      have k1 : (wc.setCell ⟨gx, 0, none⟩ (.int .i64 (-1))).cell? ⟨gx, 1, none⟩ = some (.int .i64 (0)) := by rw [setCell_in 1 _ k0']; first | exact k1' | rfl
      have k2 : (wc.setCell ⟨gx, 0, none⟩ (.int .i64 (-1))).cell? ⟨gx, 2, none⟩ = some (.int .i64 (4194304)) := by rw [setCell_in 2 _ k0']; first | exact k2' | rfl
      have hbW : Below gx wc (wc.setCell ⟨gx, 0, none⟩ (.int .i64 (-1))) := (Below.refl gx wc).setCell (p := ⟨gx, 0, none⟩) (Nat.le_refl _) _
      have hzW : gx < (wc.setCell ⟨gx, 0, none⟩ (.int .i64 (-1))).heap.size := by simpa using hzc
      have hbT2 := hbT.trans (hbW.mono z1)
      have holW := (holc.below hbW).more (Nat.le_of_lt hzW)
      go_upto_region 14 with (go_at_call 12; refine (HP2.out _).mono ?_; rintro e w' ⟨rfl, rfl⟩)
      generalize wc.setCell ⟨gx, 0, none⟩ (.int .i64 (-1)) = W at *
      clear hbW hbT holc hzc f0 k0' k1' k2'
      obtain ⟨L, hL⟩ : ∃ L, o ++ [(-1, 0, 4194304)] = L := ⟨_, rfl⟩
      have HOK : Hid (checkC L = false ∧ L.length ≤ 6) := by
        refine (show checkC L = false ∧ L.length ≤ 6 from ?_)
        rw [← hL, check_snoc HMC.out, decide_eq_false_iff_not]
        exact ⟨by unfold okC; simp only; omega, by simp; omega⟩
      have HL := Lib.hid hL
      clear hL
      go_cut [10] (fun s10 wx => s10 = .bool false ∧ Below W.heap.size W wx)
      case first =>
        have hbU : Below W.heap.size W (W.drew.alloc (.cells #[.int .i64 (-1), .int .i64 (0), .int .i64 (4194304)] 27)) := ((Below.refl W.heap.size W).drew).alloc (Nat.le_refl _) _
        have zU : W.heap.size < (W.drew.alloc (.cells #[.int .i64 (-1), .int .i64 (0), .int .i64 (4194304)] 27)).heap.size := by simp
        have holU := holW.belowMore hbU hbU.size
        have hU : (W.drew.alloc (.cells #[.int .i64 (-1), .int .i64 (0), .int .i64 (4194304)] 27)).heap[W.heap.size]? = some (.cells #[.int .i64 (-1), .int .i64 (0), .int .i64 (4194304)] 27 (0, 0)) := heap_alloc_new W.drew _
        have HU := Lib.hid hU
        have ZU := Lib.hid zU
        clear hU zU
        go_region_held3 (fun w' => w'.cell? ⟨gx, 0, none⟩ = some (.int .i64 (-1)) ∧ w'.cell? ⟨gx, 1, none⟩ = some (.int .i64 (0)) ∧ w'.cell? ⟨gx, 2, none⟩ = some (.int .i64 (4194304))) (first | exact ⟨m0, m1, m2⟩ | exact ⟨n0, n1, n2⟩ | exact ⟨j0, j1, j2⟩ | exact ⟨k0, k1, k2⟩ | go_keep)
          (first
            | (refine step_append_lst rfl _ _ 23 rfl W.heap.size 27 24 Try.underlying23 elemC (.slice none 0 0) [] rfl (Own.nil _ _ _ _ _) o _ _ c1 W.heap.size rfl rfl holW (by simp only [Go.maxLen, List.length_nil]; omega) (by simp only [List.length_nil]; omega) (Nat.le_refl _) ?_
               intro v4 w4 ho4 hg4 hat4
               rw [List.nil_append] at ho4
               have hb4 : Below W.heap.size W w4 := below_of_grownBy (w := W) ⟨hg4.os, hg4.tape, hg4.output, hg4.size, hg4.block⟩ (Nat.le_refl _) (fun k hk => by cases hk)
               have z4 := hb4.size
               have j0 := (hb4.cell (p := ⟨gx, 0, none⟩) hzW).trans k0
               have j1 := (hb4.cell (p := ⟨gx, 1, none⟩) hzW).trans k1
               have j2 := (hb4.cell (p := ⟨gx, 2, none⟩) hzW).trans k2
               clear hg4 hat4)
            | (refine step_append_lst (W := W.drew.alloc (.cells #[.int .i64 (-1), .int .i64 (0), .int .i64 (4194304)] 27)) rfl _ _ 23 rfl W.heap.size 27 24 Try.underlying23 elemC (.slice none 0 0) [] rfl (Own.nil _ _ _ _ _) o _ _ c1 _ rfl rfl holU (by simp only [Go.maxLen, List.length_nil]; omega) (by simp only [List.length_nil]; omega) (Nat.le_of_lt ZU.out) ?_
               intro v4 w4 ho4 hg4 hat4
               rw [List.nil_append] at ho4
               have hb4 : Below W.heap.size W w4 := hbU.grown hg4 (Nat.le_of_lt ZU.out) (fun k hk => by cases hk)
               have hk4 : w4.heap[W.heap.size]? = some (.cells #[.int .i64 (-1), .int .i64 (0), .int .i64 (4194304)] 27 (0, 0)) := (hg4.block W.heap.size ZU.out (by intro q; cases q)).trans HU.out
               have HK4 := Lib.hid hk4
               have z4 := hb4.size
               have j0 := (hb4.cell (p := ⟨gx, 0, none⟩) hzW).trans k0
               have j1 := (hb4.cell (p := ⟨gx, 1, none⟩) hzW).trans k1
               have j2 := (hb4.cell (p := ⟨gx, 2, none⟩) hzW).trans k2
               clear hg4 hat4 hk4)
            | (refine step_append_blk (by rfl) _ _ 23 (by rfl) W.heap.size 27 24 Try.underlying23 elemC v4 o (by rfl) (ho4.alloc _) [((-1), (0), (4194304))] w4.heap.size 1 1 (by rfl) (by rfl) 27 (heap_alloc_new w4 _) (by simp only [Go.maxLen, List.length_cons, List.length_nil]; omega) (by simp only [List.length_cons, List.length_nil]; omega) (by simp; omega) ?_
               intro v5 w5 ho5 hg5 hat5
               have hb5 : Below W.heap.size W w5 := (hb4.alloc z4 _).grown hg5 (by simp; omega) (fun g hg => (World.ownsRow.lt ho4 g hg).1)
               have z5 := hb5.size
               rw [HL.out] at ho5
               have n0 := (hb5.cell (p := ⟨gx, 0, none⟩) hzW).trans k0
               have n1 := (hb5.cell (p := ⟨gx, 1, none⟩) hzW).trans k1
               have n2 := (hb5.cell (p := ⟨gx, 2, none⟩) hzW).trans k2
               obtain ⟨A5, c5, rfl⟩ := ho5.form
               clear hg5 hat5 hb4 ho4)
            | (refine step_append_blk (by rfl) _ _ 23 (by rfl) W.heap.size 27 24 Try.underlying23 elemC v4 o (by rfl) ho4 [((-1), (0), (4194304))] W.heap.size 1 1 (by rfl) (by rfl) 27 HK4.out (by simp only [Go.maxLen, List.length_cons, List.length_nil]; omega) (by simp only [List.length_cons, List.length_nil]; omega) (by omega) ?_
               intro v5 w5 ho5 hg5 hat5
               have hb5 : Below W.heap.size W w5 := hb4.grown hg5 z4 (fun g hg => (World.ownsRow.lt ho4 g hg).1)
               have z5 := hb5.size
               rw [HL.out] at ho5
               have n0 := (hb5.cell (p := ⟨gx, 0, none⟩) hzW).trans k0
               have n1 := (hb5.cell (p := ⟨gx, 1, none⟩) hzW).trans k1
               have n2 := (hb5.cell (p := ⟨gx, 2, none⟩) hzW).trans k2
               obtain ⟨A5, c5, rfl⟩ := ho5.form
               clear hg5 hat5 hb4 ho4)
            | (go_at_call 13
               refine (check_any A5 c5 L w5 (ho5.lst encO_len) (by have := HOK.out.2; omega)).mono ?_
               rintro e' w6 ⟨rfl, hb6⟩
               rw [HOK.out.1]
               have hbR := hb5.trans (hb6.mono z5)
               have m0 := (hbR.cell (p := ⟨gx, 0, none⟩) hzW).trans k0
               have m1 := (hbR.cell (p := ⟨gx, 1, none⟩) hzW).trans k1
               have m2 := (hbR.cell (p := ⟨gx, 2, none⟩) hzW).trans k2
               clear hb5 hb6 ho5))
        all_goals (go_wp2_with fail; go_meet; exact ⟨rfl, hbR⟩)
      case rest =>
        obtain ⟨rfl, hbR⟩ := hcut
        have hmk := makeMany
        have hbT3 := hbT2.trans (hbR.mono (Nat.le_trans z1 (Nat.le_of_lt hzW)))
        clear hbT2 hbR hzW holW k0 k1 k2 HOK HL
        have zT := hbT3.size
        have hoM : OwnC (wc.alloc (.cells manyZ 27)) wc.heap.size (.slice (some ⟨wc.heap.size, 0, none⟩) 32 32) (manyC 0) := Own.lit wc _ _ _ (manyC 0) 32 (by rw [many_len (by omega)]) encO_len many_zero (Nat.le_refl _) (by rw [many_len (by omega)]; simp [maxLen])
        have hbM := belA wc (.cells manyZ 27)
        go_wp2_with fail
        generalize wc.alloc (.cells manyZ 27) = W1 at *
        have zM := hbM.size
        generalize hgm : wc.heap.size = gm at *
        clear hmk
        go_loopg [12, 53] 32 (fun g s12 s53 wr => ∃ k : Nat, k ≤ 32 ∧ g = 32 - k ∧ s53 = .int .i64 k ∧ OwnC wr gm (.slice (some ⟨gm, 0, none⟩) 32 32) (manyC k) ∧ Below gm wc wr)
        case atStart => exact ⟨0, by omega, rfl, rfl, hoM, hbM⟩
        case round =>
          obtain ⟨k, hk, hg, rfl, ho, hb⟩ := hrel
          have HG := Lib.hid hg
          clear hg hoM hbM
          have hz := hb.size
          by_cases hlt : k < 32
          · have hml := many_len (k := k) (by omega)
            obtain ⟨g, c', hv, hge, hgw, hcc, hcell, hfz⟩ := ho.at_ encO_len (fun h => by rw [h] at hml; simp at hml)
            rw [hml] at hv
            injection hv with hv1 _ hv2
            injection hv1 with hv1
            injection hv1 with hv1
            subst hv1 hv2
            have hsl : k < (manyC k).length := by rw [hml]; exact hlt
            have hat := List.getElem?_eq_getElem hsl
            rw [many_at hlt] at hat
            have y0 := hcell k _ hat 0 (.int .i64 0) rfl
            have y1 := hcell k _ hat 1 (.int .i64 0) rfl
            have y2 := hcell k _ hat 2 (.int .i64 0) rfl
            have v0 := hfz (k * 3)
            have v1 := hfz (k * 3 + 1)
            have v2 := hfz (k * 3 + 2)
            simp only [Nat.add_zero] at y0
            have i1 : (0 : Int) ≤ (k : Int) := by omega
            have i2 : (k : Int) < ((32 : Nat) : Int) := by omega
            have st0 := ho.stored encO_len k 0 (.int .i64 k) ((k : Int), 0, 0) hsl (by omega) (by rw [many_at hlt]; rfl)
            have st1 := st0.1.stored encO_len k 1 (.int .i64 0) ((k : Int), 0, 0) (by rw [List.length_set]; exact hsl) (by omega) (by rw [List.getElem_set_self]; rfl)
            have st2 := st1.1.stored encO_len k 2 (.int .i64 1) ((k : Int), 0, 1) (by rw [List.length_set, List.length_set]; exact hsl) (by omega) (by rw [List.getElem_set_self]; rfl)
            rw [List.set_set, List.set_set, many_set hlt, Nat.add_zero] at st2
            have HO := Lib.hid st2.1
            have HB := Lib.hid (((hb.setCell (p := ⟨gm, k * 3, none⟩) (Nat.le_refl _) (.int .i64 k)).setCell (p := ⟨gm, k * 3 + 1, none⟩) (Nat.le_refl _) (.int .i64 0)).setCell (p := ⟨gm, k * 3 + 2, none⟩) (Nat.le_refl _) (.int .i64 1))
            clear st0 st1 st2 ho hcell hfz hat
            go_wp2_with fail
            go_roundg (32 - (k + 1))
            case measure => have := HG.out; omega
            case rel => exact ⟨k + 1, by omega, rfl, by go_num, HO.out, HB.out⟩
          · obtain rfl : k = 32 := by omega
            obtain ⟨M, hM⟩ : ∃ M, manyC 32 = M := ⟨_, rfl⟩
            have hM1 := many_check
            have hM2 := many_more
            have hM3 := many_first
            have hM4 := many_len (k := 32) (by omega)
            rw [hM] at hM1 hM2 hM3 hM4 ho
            clear hM
            have HM1 := Lib.hid hM1
            have HM2 := Lib.hid hM2
            have HM3 := Lib.hid hM3
            have HM4 := Lib.hid hM4
            clear hM1 hM2 hM3
            clear hM4
            obtain ⟨N, hN⟩ : ∃ N, M ++ [(0, 0, 1)] = N := ⟨_, rfl⟩
            have HN1 : Hid (checkC N = false ∧ N.length ≤ 33) := by
              refine (show checkC N = false ∧ N.length ≤ 33 from ?_)
              rw [← hN]
              exact ⟨HM2.out, by rw [List.length_append, HM4.out]; simp⟩
            have HN := Lib.hid hN
            clear hN
            go_wp2_with fail
            refine (awake25_any wr).mono ?_
            rintro e w1 ⟨rfl, hb1⟩
            have z1 := hb1.size
            have hc1 : Below wr.heap.size wr w1 := Below.trans (Below.refl wr.heap.size wr) (hb1.mono (Below.size (Below.refl wr.heap.size wr)))
            replace ho := ho.below' hb1
            have h1 := check_any (some ⟨gm, 0, none⟩) 32 M w1 (ho.lst encO_len) (by have := HM4.out; omega)
            rw [HM4.out, HM1.out] at h1
            go_wp2_with fail
            refine (h1).mono ?_
            rintro e w2 ⟨rfl, hb2⟩
            have z2 := hb2.size
            have hc2 : Below wr.heap.size wr w2 := Below.trans hc1 (hb2.mono (Below.size hc1))
            replace ho := ho.below' hb2
            clear h1
            obtain ⟨g, c', hv, hge, hgw, hcc, hcell, hfz⟩ := ho.at_ encO_len (fun h => by have := HM4.out; rw [h] at this; simp at this)
            rw [HM4.out] at hv
            injection hv with hv1 _ hv2
            injection hv1 with hv1
            injection hv1 with hv1
            subst hv1 hv2
            have y0 := hcell 0 _ HM3.out 0 (.int .i64 0) rfl
            have y1 := hcell 0 _ HM3.out 1 (.int .i64 0) rfl
            have y2 := hcell 0 _ HM3.out 2 (.int .i64 1) rfl
            simp only [Nat.zero_mul, Nat.zero_add, Nat.add_zero] at y0 y1 y2
            clear hcell hfz
            have hml : M.length ≤ 32 := by have := HM4.out; omega
            go_wp2_with (at_builtin; refine wpList_append_blk_w (by rfl) _ _ 23 rfl gm 27 24 Try.underlying23 elemC (.slice (some ⟨gm, 0, none⟩) 32 32) M rfl (ho.alloc _) [(0, 0, 1)] w2.heap.size 1 1 rfl rfl 27 (heap_alloc_new w2 _) (by simp only [Go.maxLen, List.length_cons, List.length_nil]; omega) (by simp only [List.length_cons, List.length_nil]; omega) (by simp; omega) ?_; intro v6 w6 ho6 hg6 hat6; rw [HN.out] at ho6; obtain ⟨A6, c6, rfl⟩ := ho6.form)
            have hbz := ((hb.trans (hc2.mono (by rw [← hgm]; exact hz))).alloc (by have := Below.size hc2; omega) _).grown hg6 (by have := Below.size hc2; simp; omega) (fun g hg => (World.ownsRow.lt ho g hg).1)
            have hzz := hbz.size
            have h2 := check_any A6 c6 N w6 (ho6.lst encO_len) (by have := HN1.out.2; omega)
            rw [HN1.out.1] at h2
            clear hg6 hat6 ho6
            go_wp2_with fail
            refine h2.mono ?_
            rintro e' w7 ⟨rfl, hb7⟩
            clear h2
            go_wp2_with fail
            go_ret
            refine ⟨rfl, ?_⟩
            have hq := hbz.trans (hb7.mono (by rw [← hgm]; exact hzz))
            rw [← hgm] at hq
            exact hbT3.trans (hq.mono (by rw [hgm]; exact zT))

end Go.Proofs.Ytjeocfkijbpinaa
