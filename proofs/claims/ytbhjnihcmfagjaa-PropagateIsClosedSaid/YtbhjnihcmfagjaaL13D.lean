/-
  Walk of PropagateIsClosed.
-/
import Derived.Test.YtbhjnihcmfagjaaL13B
import Derived.Test.YtbhjnihcmfagjaaRefSum
import Derived.Test.YtbhjnihcmfagjaaRefSet
set_option linter.unusedVariables false
set_option linter.unusedSimpArgs false
namespace Go.Proofs.Ytbhjnihcmfagjaa
open Go.RowKit Go.Shelf RP



theorem runs_one {T : Nat} (h : 1 ≤ T) {P : Nat → Bool} (hP : ∀ x, x < T → P x = decide (x = 0)) : runs P T = [(0, 1)] := by
  rw [runs_congr (Q := fun x => decide (x = 0)) hP]
  have : ∀ k, runs (fun x => decide (x = 0)) (k + 1) = [(0, 1)] := fun k => by
    induction k with
    | zero => rfl
    | succ k ih => rw [runs, if_neg (by simp)]; exact ih
  obtain ⟨k, rfl⟩ : ∃ k, T = k + 1 := ⟨T - 1, by omega⟩
  exact this k

set_option maxRecDepth 100000 in
set_option maxHeartbeats 8000000 in
theorem walkPropagateIsClosed (A : Option Addr) (c : Nat) (l : List Int) (i j k : Int) (w : World) (h : ArgI w A c l) (_ : R64 i) (_ : R64 j) (_ : R64 k) :
    Calls Try.prog 6 #[.slice A l.length c, .int .i64 i, .int .i64 j, .int .i64 k] w fun e w' => e = .returned (.bool true) ∧ Below w.heap.size w w' := by
  go_enter Try.func6, Try.ntmps6
  go_wp2_with fail
  refine (network_any A c l w h).mono ?_
  rintro ex w1 ⟨T, m, E, cE, A', cA, ev, acts, rfl, hev, hoE, hoA, hmade, hb1⟩
  have HMD := Lib.hid hmade
  obtain ⟨_, t1, t2, m1, m2, la⟩ := hmade
  have lE := Own.lst encE_len hoE
  have lA := Own.lst encA_len hoA
  clear hoE hoA
  have z1 := hb1.size
  have ba := belA w1 (.cells #[.int .i64 T, .slice E m cE, .slice A' acts.length cA] 25)
  have hnew := heap_alloc_new w1 (.cells #[.int .i64 T, .slice E m cE, .slice A' acts.length cA] 25)
  have n0 : (w1.alloc (.cells #[.int .i64 T, .slice E m cE, .slice A' acts.length cA] 25)).cell? ⟨w1.heap.size, 0, none⟩ = some (.int .i64 T) := by rw [cell_of_row _ _ 0 _ _ _ hnew]; rfl
  have n1 : (w1.alloc (.cells #[.int .i64 T, .slice E m cE, .slice A' acts.length cA] 25)).cell? ⟨w1.heap.size, 1, none⟩ = some (.slice E m cE) := by rw [cell_of_row _ _ 1 _ _ _ hnew]; rfl
  have n2 : (w1.alloc (.cells #[.int .i64 T, .slice E m cE, .slice A' acts.length cA] 25)).cell? ⟨w1.heap.size, 2, none⟩ = some (.slice A' acts.length cA) := by rw [cell_of_row _ _ 2 _ _ _ hnew]; rfl
  have za : (w1.alloc (.cells #[.int .i64 T, .slice E m cE, .slice A' acts.length cA] 25)).heap.size = w1.heap.size + 1 := by simp
  have hbw := hb1.trans (ba.mono z1)
  replace lE := lE.belowMore ba (show w1.heap.size ≤ (w1.alloc (.cells #[.int .i64 T, .slice E m cE, .slice A' acts.length cA] 25)).heap.size by simp)
  replace lA := lA.belowMore ba (show w1.heap.size ≤ (w1.alloc (.cells #[.int .i64 T, .slice E m cE, .slice A' acts.length cA] 25)).heap.size by simp)
  have HBW := Lib.hid hbw
  have HLE := Lib.hid lE
  have HLA := Lib.hid lA
  have HEV := Lib.hid hev
  clear hb1 ba hnew hbw lE lA hev
  go_wp2_with fail
  generalize w1.alloc (.cells #[.int .i64 T, .slice E m cE, .slice A' acts.length cA] 25) = w2 at *
  refine (table_any T E m cE A' cA ev acts w2 HLA.out HLE.out HEV.out HMD.out.1).mono ?_
  rintro ex w3 ⟨gt, D, e, rfl, hS, hb3⟩
  have g1 : w1.heap.size < w2.heap.size := by omega
  replace n0 := (hb3.cell (p := ⟨w1.heap.size, 0, none⟩) g1).trans n0
  replace n1 := (hb3.cell (p := ⟨w1.heap.size, 1, none⟩) g1).trans n1
  have z3 := hb3.size
  have hbw3 := HBW.out.trans (hb3.mono HBW.out.size)
  have HBW3 := Lib.hid hbw3
  clear hb3 hbw3 za n2
  obtain ⟨I, hI, hqi⟩ := pickN i m (by omega)
  have hqi := fun W => (show pickI i m = I from hqi) ▸ pick_any i m W (by omega) (by omega)
  obtain ⟨J, hJ, hqj⟩ := pickN j m (by omega)
  have hqj := fun W => (show pickI j m = J from hqj) ▸ pick_any j m W (by omega) (by omega)
  obtain ⟨K, hK, hqk⟩ := pickN k m (by omega)
  have hqk := fun W => (show pickI k m = K from hqk) ▸ pick_any k m W (by omega) (by omega)
  have HS := Lib.hid hS
  have hsz := hS.size
  have h1 := hsz.2.1
  have h2 := hsz.2.2
  clear hS
  go_wp2_with fail
  refine (hqi _).mono ?_
  rintro ex w' ⟨rfl, rfl⟩
  go_wp2_with fail
  refine (hqj _).mono ?_
  rintro ex w' ⟨rfl, rfl⟩
  go_wp2_with fail
  refine (hqk _).mono ?_
  rintro ex w' ⟨rfl, rfl⟩
  have g3 : w1.heap.size < w3.heap.size := by omega
  have ln1 := runs_len (D I J) T
  have ln2 := runs_len (D J K) T
  have ln3 := runs_len (D I K) T
  have ln4 := runs_len (sumB T (D I J) (D J K)) T
  have HSUM : ∀ W A c B d, Lst encS 2 W W.heap.size A (runs (D I J) T) → Lst encS 2 W W.heap.size B (runs (D J K) T) → Calls Try.prog 22 #[.int .i64 T, .slice A (runs (D I J) T).length c, .slice B (runs (D J K) T).length d] W fun e w' => ∃ A' c', e = .returned (.tuple #[.slice A' (runs (sumB T (D I J) (D J K)) T).length c', .int .i64 0]) ∧ OwnS w' W.heap.size (.slice A' (runs (sumB T (D I J) (D J K)) T).length c') (runs (sumB T (D I J) (D J K)) T) ∧ Below W.heap.size W w' := fun W A c B d ha hb => by
    refine (refSum_any T A B c d (runs (D I J) T) (runs (D J K) T) W ha hb h1 h2 (by omega) (by omega)).mono ?_
    rintro e w' ⟨v, rfl, ho, hb⟩
    rw [← sumI_nat, sum_runs h1 h2] at ho
    rw [bad_runs h1 h2]
    obtain ⟨A', c', rfl⟩ := ho.form
    exact ⟨A', c', rfl, ho, hb⟩
  have hcl := HS.out.fin.great.closed I J K hI hJ hK
  have HINT : ∀ W A c B d, Lst encS 2 W W.heap.size A (runs (sumB T (D I J) (D J K)) T) → Lst encS 2 W W.heap.size B (runs (D I K) T) → Calls Try.prog 23 #[.int .i64 T, .slice A (runs (sumB T (D I J) (D J K)) T).length c, .slice B (runs (D I K) T).length d] W fun e w' => ∃ A' c', e = .returned (.tuple #[.slice A' (runs (D I K) T).length c', .int .i64 0]) ∧ OwnS w' W.heap.size (.slice A' (runs (D I K) T).length c') (runs (D I K) T) ∧ Below W.heap.size W w' := fun W A c B d ha hb => by
    refine (refIntersect_any T A B c d (runs (sumB T (D I J) (D J K)) T) (runs (D I K) T) W ha hb h1 h2 (by omega) (by omega)).mono ?_
    rintro e w' ⟨v, rfl, ho, hb⟩
    rw [← interI_nat, inter_runs h1 h2, runs_congr (Q := D I K) (fun x hx => by
      cases q : D I K x with
      | false => rw [Bool.and_false]
      | true => rw [hcl x hx q]; rfl)] at ho
    rw [bad_runs h1 h2]
    obtain ⟨A', c', rfl⟩ := ho.form
    exact ⟨A', c', rfl, ho, hb⟩
  clear hcl n1
  have HSU := Lib.hid HSUM
  have HIN := Lib.hid HINT
  clear HSUM HINT
  go_upto_region 7 with fail
  have hB : Below w3.heap.size w3 w3.drew := (Below.refl _ _).drew
  go_region_held3 (fun w' => w'.cell? ⟨w1.heap.size, 0, none⟩ = some (.int .i64 T))
    (exact (hB.cell (p := ⟨w1.heap.size, 0, none⟩) g3).trans n0)
    (first
      | (go_at_call 18; (with_reducible refine (betweenIn_any gt m T acts D e I J _ (HS.out.below hB) hI hJ).mono ?_); rintro ex w4 ⟨v4, rfl, ho4, hb4⟩; obtain ⟨A4, c4, rfl⟩ := ho4.form; replace hB := hB.trans (hb4.mono hB.size))
      | (go_at_call 18; (with_reducible refine (betweenIn_any gt m T acts D e J K _ (HS.out.below hB) hJ hK).mono ?_); rintro ex w6 ⟨v6, rfl, ho6, hb6⟩; obtain ⟨A6, c6, rfl⟩ := ho6.form; replace ho4 := ho4.below' hb6; replace hB := hB.trans (hb6.mono hB.size))
      | (go_at_call 22; (with_reducible refine (HSU.out _ A4 c4 A6 c6 (Own.lst encS_len ho4) (Own.lst encS_len ho6)).mono ?_); rintro ex w7 ⟨A7, c7, rfl, ho7, hb7⟩; replace hB := hB.trans (hb7.mono hB.size)))
  have z7 : w3.heap.size ≤ w7.heap.size := hB.size
  have n7 := (hB.cell (p := ⟨w1.heap.size, 0, none⟩) g3).trans n0
  have HS7 := Lib.hid (HS.out.below hB)
  have HB7 := Lib.hid (HBW3.out.trans (hB.mono HBW3.out.size))
  have HO7 := Lib.hid (Own.lst encS_len ho7)
  clear ho4 hb4 ho6 hb6 ho7 hb7 hB n0
  go_upto_region 8 with fail
  have g7 : w1.heap.size < w7.heap.size := by omega
  have hB : Below w7.heap.size w7 w7.drew := (Below.refl _ _).drew
  go_region_held3 (fun w' => w'.cell? ⟨w1.heap.size, 0, none⟩ = some (.int .i64 T))
    (exact (hB.cell (p := ⟨w1.heap.size, 0, none⟩) g7).trans n7)
    (first
      | (go_at_call 18; (with_reducible refine (betweenIn_any gt m T acts D e I K _ (HS7.out.below hB) hI hK).mono ?_); rintro ex w8 ⟨v8, rfl, ho8, hb8⟩; obtain ⟨A8, c8, rfl⟩ := ho8.form; replace hB := hB.trans (hb8.mono hB.size))
      | (go_at_call 23; (with_reducible refine (HIN.out _ A7 c7 A8 c8 (HO7.out.belowMore hB hB.size) (Own.lst encS_len ho8)).mono ?_); rintro ex w9 ⟨A9, c9, rfl, ho9, hb9⟩; replace hB := hB.trans (hb9.mono hB.size)))
  have HS9 := Lib.hid (HS7.out.below hB)
  have HB9 := Lib.hid (HB7.out.trans (hB.mono HB7.out.size))
  have HO9 := Lib.hid (Own.lst encS_len ho9)
  clear ho8 hb8 ho9 hb9 hB n7 HO7 HS7 HB7 HIN HSU
  go_wp2_with fail
  refine (betweenIn_any gt m T acts D e I K w9 HS9.out hI hK).mono ?_
  rintro ex w10 ⟨v10, rfl, ho10, hb10⟩
  obtain ⟨A10, c10, rfl⟩ := ho10.form
  have HO9' := Lib.hid (HO9.out.belowMore hb10 hb10.size)
  have HB10 := Lib.hid (HB9.out.trans (hb10.mono HB9.out.size))
  have HS10 := Lib.hid (HS9.out.below hb10)
  have HO10 := Lib.hid (Own.lst encS_len ho10)
  clear ho10 hb10
  go_wp2_with fail
  refine (same_any A9 A10 c9 c10 (runs (D I K) T) (runs (D I K) T) w10 HO9'.out HO10.out (by omega) (by omega)).mono ?_
  rintro ex w11 ⟨rfl, hb11⟩
  rw [decide_eq_true rfl]
  have HB11 := Lib.hid (HB10.out.trans (hb11.mono HB10.out.size))
  have HS11 := Lib.hid (HS10.out.below hb11)
  clear hb11
  cases e with
  | true =>
    have hnil : runs (D I I) T = [] := runs_none T fun x _ => (HS11.out.fin.emp rfl).2 I I x
    have hbt := betweenIn_any gt m T acts D true I I w11 HS11.out hI hI
    rw [hnil] at hbt
    go_wp2_with fail
    refine (empty_any gt m T acts D true w11 HS11.out).mono ?_
    rintro ex w' ⟨rfl, rfl⟩
    go_wp2_with fail
    refine hbt.mono ?_
    rintro ex w12 ⟨v12, rfl, ho12, hb12⟩
    obtain ⟨A12, c12, rfl⟩ := ho12.form
    simp only [List.length_nil]
    go_wp2_with fail
    go_ret
    exact ⟨rfl, HB11.out.trans (hb12.mono HB11.out.size)⟩
  | false =>
    have hone : runs (D I I) T = [(0, 1)] := runs_one h1 fun x hx => (HS11.out.fin.non rfl).2 I hI x hx
    have hbt := betweenIn_any gt m T acts D false I I w11 HS11.out hI hI
    rw [hone] at hbt
    go_wp2_with fail
    refine (empty_any gt m T acts D false w11 HS11.out).mono ?_
    rintro ex w' ⟨rfl, rfl⟩
    go_wp2_with fail
    refine hbt.mono ?_
    rintro ex w12 ⟨v12, rfl, ho12, hb12⟩
    obtain ⟨A12, c12, rfl⟩ := ho12.form
    have HB12 := Lib.hid (HB11.out.trans (hb12.mono HB11.out.size))
    have ba := belA w12 (.cells #[.int .i64 0, .int .i64 1] 46)
    have hlit : OwnS (w12.alloc (.cells #[.int .i64 0, .int .i64 1] 46)) w12.heap.size (.slice (some ⟨w12.heap.size, 0, none⟩) 1 1) [(0, 1)] := Own.lit w12 _ _ _ [(0, 1)] 1 rfl encS_len rfl (Nat.le_refl _) (by simp [Go.maxLen])
    have HL1 := Lib.hid (Own.lst encS_len (ho12.alloc (.cells #[.int .i64 0, .int .i64 1] 46)))
    have HL2 := Lib.hid (Own.lst encS_len hlit)
    have HBA := Lib.hid (HB12.out.trans (ba.mono HB12.out.size))
    clear ho12 hb12 ba hlit hbt
    simp only [List.length_cons, List.length_nil]
    go_wp2_with fail
    refine (same_any A12 (some ⟨w12.heap.size, 0, none⟩) c12 1 [(0, 1)] [(0, 1)] _ HL1.out HL2.out (by simp) (by simp)).mono ?_
    rintro ex w13 ⟨rfl, hb13⟩
    have HB13 := Lib.hid (HBA.out.trans (hb13.mono HBA.out.size))
    clear hb13
    go_wp2_with fail
    go_ret
    exact ⟨ret_bool (by simp), HB13.out⟩

end Go.Proofs.Ytbhjnihcmfagjaa
