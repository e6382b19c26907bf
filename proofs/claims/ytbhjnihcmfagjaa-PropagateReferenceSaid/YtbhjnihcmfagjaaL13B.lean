/-
  Walk of PropagateIsSymmetric.
-/
import Derived.Test.YtbhjnihcmfagjaaL13A
set_option linter.unusedVariables false
set_option linter.unusedSimpArgs false
namespace Go.Proofs.Ytbhjnihcmfagjaa
open Go.RowKit Go.Shelf RP


theorem pickN (v : Int) (n : Nat) (h : 1 ≤ n) : ∃ k : Nat, k < n ∧ pickI v n = k := by
  have := pickI_range v n (by omega)
  exact ⟨(pickI v n).toNat, by omega, by omega⟩

set_option maxRecDepth 100000 in
set_option maxHeartbeats 4000000 in
theorem walkPropagateIsSymmetric (A : Option Addr) (c : Nat) (l : List Int) (i j d : Int) (w : World) (h : ArgI w A c l) (_ : R64 i) (_ : R64 j) (_ : R64 d) :
    Calls Try.prog 4 #[.slice A l.length c, .int .i64 i, .int .i64 j, .int .i64 d] w fun e w' => e = .returned (.bool true) ∧ Below w.heap.size w w' := by
  go_enter Try.func4, Try.ntmps4
  go_wp2_with fail
  refine (network_any A c l w h).mono ?_
  rintro ex w1 ⟨T, m, E, cE, A', cA, ev, acts, rfl, hev, hoE, hoA, hmade, hb1⟩
  have HMD := Lib.hid hmade
  obtain ⟨_, t1, t2, m1, m2, la⟩ := hmade
  have lE := Own.lst encE_len hoE
  have lA := Own.lst encA_len hoA
  clear hoE hoA
  have z1 := hb1.size
  have ba := belA w1 (.cells #[.int .i64 T, .slice E m cE, .slice A' acts.length cA] 25)
  have hnew := heap_alloc_new w1 (.cells #[.int .i64 T, .slice E m cE, .slice A' acts.length cA] 25)
  have n0 : (w1.alloc (.cells #[.int .i64 T, .slice E m cE, .slice A' acts.length cA] 25)).cell? ⟨w1.heap.size, 0, none⟩ = some (.int .i64 T) := by rw [cell_of_row _ _ 0 _ _ _ hnew]; rfl
  have n1 : (w1.alloc (.cells #[.int .i64 T, .slice E m cE, .slice A' acts.length cA] 25)).cell? ⟨w1.heap.size, 1, none⟩ = some (.slice E m cE) := by rw [cell_of_row _ _ 1 _ _ _ hnew]; rfl
  have n2 : (w1.alloc (.cells #[.int .i64 T, .slice E m cE, .slice A' acts.length cA] 25)).cell? ⟨w1.heap.size, 2, none⟩ = some (.slice A' acts.length cA) := by rw [cell_of_row _ _ 2 _ _ _ hnew]; rfl
  have za : (w1.alloc (.cells #[.int .i64 T, .slice E m cE, .slice A' acts.length cA] 25)).heap.size = w1.heap.size + 1 := by simp
  have hbw := hb1.trans (ba.mono z1)
  replace lE := lE.belowMore ba (show w1.heap.size ≤ (w1.alloc (.cells #[.int .i64 T, .slice E m cE, .slice A' acts.length cA] 25)).heap.size by simp)
  replace lA := lA.belowMore ba (show w1.heap.size ≤ (w1.alloc (.cells #[.int .i64 T, .slice E m cE, .slice A' acts.length cA] 25)).heap.size by simp)
  have HBW := Lib.hid hbw
  have HLE := Lib.hid lE
  have HLA := Lib.hid lA
  have HEV := Lib.hid hev
  clear hb1 ba hnew hbw lE lA hev
  go_wp2_with fail
  generalize w1.alloc (.cells #[.int .i64 T, .slice E m cE, .slice A' acts.length cA] 25) = w2 at *
  refine (table_any T E m cE A' cA ev acts w2 HLA.out HLE.out HEV.out HMD.out.1).mono ?_
  rintro ex w3 ⟨gt, D, e, rfl, hS, hb3⟩
  have g1 : w1.heap.size < w2.heap.size := by omega
  replace n0 := (hb3.cell (p := ⟨w1.heap.size, 0, none⟩) g1).trans n0
  replace n1 := (hb3.cell (p := ⟨w1.heap.size, 1, none⟩) g1).trans n1
  have z3 := hb3.size
  have hbw3 := HBW.out.trans (hb3.mono HBW.out.size)
  have HBW3 := Lib.hid hbw3
  clear hb3 hbw3 za n2
  obtain ⟨I, hI, hqi⟩ := pickN i m (by omega)
  have hqi := fun W => (show pickI i m = I from hqi) ▸ pick_any i m W (by omega) (by omega)
  obtain ⟨J, hJ, hqj⟩ := pickN j m (by omega)
  have hqj := fun W => (show pickI j m = J from hqj) ▸ pick_any j m W (by omega) (by omega)
  obtain ⟨X, hX, hqd⟩ := pickN d T (by omega)
  have hqd := fun W => (show pickI d T = X from hqd) ▸ pick_any d T W (by omega) (by omega)
  have HS := Lib.hid hS
  have hsz := hS.size
  clear hS
  go_wp2_with fail
  refine (hqi _).mono ?_
  rintro ex w' ⟨rfl, rfl⟩
  go_wp2_with fail
  refine (hqj _).mono ?_
  rintro ex w' ⟨rfl, rfl⟩
  go_wp2_with fail
  refine (hqd _).mono ?_
  rintro ex w' ⟨rfl, rfl⟩
  have g3 : w1.heap.size < w3.heap.size := by omega
  have hsym : D J I (res T (-(X : Int))) = D I J X := by
    rw [HS.out.fin.sym I J hI hJ _ (res_lt hsz.2.1 _), res_neg_neg hsz.2.1 hX]
  have ln1 := runs_len (D I J) T
  have ln2 := runs_len (D J I) T
  obtain ⟨b, hb⟩ : ∃ b, D I J X = b := ⟨_, rfl⟩
  have HH1 : ∀ W A c, Lst encS 2 W W.heap.size A (runs (D I J) T) → Calls Try.prog 17 #[.int .i64 T, .slice A (runs (D I J) T).length c, .int .i64 X] W fun e w' => e = .returned (.bool b) ∧ Below W.heap.size W w' := fun W A c hl => by
    have := refHas_any T A c (runs (D I J) T) X W hl (by omega) (by omega) (by omega)
    rw [has_runs hsz.2.1 hsz.2.2, res_small hsz.2.1 hX, hb] at this
    exact this
  have HH2 : ∀ W A c, Lst encS 2 W W.heap.size A (runs (D J I) T) → Calls Try.prog 17 #[.int .i64 T, .slice A (runs (D J I) T).length c, .int .i64 (-X)] W fun e w' => e = .returned (.bool b) ∧ Below W.heap.size W w' := fun W A c hl => by
    have := refHas_any T A c (runs (D J I) T) (-X) W hl (by omega) (by omega) (by omega)
    rw [has_runs hsz.2.1 hsz.2.2, hsym, hb] at this
    exact this
  have sw : IntKind.i64.wrap (-(X : Int)) = -(X : Int) := IntWalk.i64_in _ (by omega)
  have hbb : (b == b) = true := by simp
  clear hsym hb n1
  go_upto_region 8 with fail
  have hB : Below w3.heap.size w3 w3.drew := (Below.refl _ _).drew
  go_region_held3 (fun w' => w'.cell? ⟨w1.heap.size, 0, none⟩ = some (.int .i64 T))
    (exact (hB.cell (p := ⟨w1.heap.size, 0, none⟩) g3).trans n0)
    (first
      | (go_at_call 18; (with_reducible refine (betweenIn_any gt m T acts D e I J _ (HS.out.below hB) hI hJ).mono ?_); rintro ex w4 ⟨v4, rfl, ho4, hb4⟩; obtain ⟨A4, c4, rfl⟩ := ho4.form; replace hB := hB.trans (hb4.mono hB.size))
      | (go_at_call 17; (with_reducible refine (HH1 _ A4 c4 (Own.lst encS_len ho4)).mono ?_); rintro ex w5 ⟨rfl, hb5⟩; replace hB := hB.trans (hb5.mono hB.size))
      | (go_at_call 18; (with_reducible refine (betweenIn_any gt m T acts D e J I _ (HS.out.below hB) hJ hI).mono ?_); rintro ex w6 ⟨v6, rfl, ho6, hb6⟩; obtain ⟨A6, c6, rfl⟩ := ho6.form; replace hB := hB.trans (hb6.mono hB.size))
      | (go_at_call 17; (with_reducible refine (HH2 _ A6 c6 (Own.lst encS_len ho6)).mono ?_); rintro ex w7 ⟨rfl, hb7⟩; replace hB := hB.trans (hb7.mono hB.size))
      | (go_at_call 18; (with_reducible refine (betweenOut_any gt m T acts D e (-1) 0 _ (HS.out.below hB) (by omega)).mono ?_); rintro ex w' ⟨rfl, rfl⟩))
  all_goals
    clear HH1 HH2 sw
    go_wp2_with fail
    go_ret
    exact ⟨ret_bool (by simp), HBW3.out.trans (hB.mono HBW3.out.size)⟩

end Go.Proofs.Ytbhjnihcmfagjaa
