/-
  Walks of PropagateEmptiness and PropagateIsSymmetric.
-/
import Derived.Test.YtbhjnihcmfagjaaTabG
import Derived.Test.YtbhjnihcmfagjaaNetK
import Derived.Test.YtbhjnihcmfagjaaRefQ
set_option linter.unusedVariables false
set_option linter.unusedSimpArgs false
namespace RP
theorem has_runs {T : Nat} (h1 : 1 ≤ T) (h2 : T ≤ 7200) (P : Nat → Bool) (x : Int) : hasL T (runs P T) x = P (res T x) := by
  have hi : inRange (T : Int) = true := by simp [inRange]; omega
  have hv : validL T (runs P T) = true := by rw [validL, hi, runs_valid]; rfl
  rw [hasL, hv, Bool.true_and, ← mem_runs_nat P (res_lt h1 x), res_val h1]
end RP
namespace Go.Proofs.Ytbhjnihcmfagjaa
open Go.RowKit Go.Shelf RP

theorem runs_nil_iff {T : Nat} {P : Nat → Bool} : runs P T = [] ↔ NoneAt T P := by
  refine ⟨fun h x hx => ?_, fun h => runs_none T h⟩
  have := mem_runs_nat P hx
  rw [h] at this
  rw [← this]; rfl
/-- table on a valid network. -/
theorem table_any (T : Nat) (E : Option Addr) (m cE : Nat) (A : Option Addr) (cA : Nat) (ev : List Evt) (l : List Acy) (w : World) (hl : Lst encA 6 w w.heap.size A l) (he : Lst encE 3 w w.heap.size E ev) (hm : ev.length = m) (hyes : netB T m l = true) :
    Calls Try.prog 16 #[netV T E m cE A l.length cA] w fun ex w' => ∃ gt D e, ex = .returned (.pointer (some ⟨gt, 0, none⟩)) ∧ Shut13 w' gt m T l D e ∧ Below w.heap.size w w' := by
  have ba := belA w (.cells #[.int .i64 T, .slice E m cE, .slice A l.length cA] 25)
  go_enter Try.func16, Try.ntmps16
  go_wp2_with fail
  refine (close_any T E m cE A cA ev l _ (hl.belowMore ba (by simp)) (he.belowMore ba (by simp)) hm hyes).mono ?_
  intro ex w1 hp
  obtain ⟨gt, D, e, rfl, hS, hb⟩ := shut_of_post hp
  rw [World.size_alloc] at hb
  have HB := Lib.hid (ba.trans (hb.mono (by omega)))
  clear hp hb ba
  go_wp2_with fail
  go_ret
  exact ⟨gt, D, e, rfl, hS, HB.out⟩


set_option maxRecDepth 100000 in
set_option maxHeartbeats 2000000 in
theorem walkPropagateEmptiness (A : Option Addr) (c : Nat) (l : List Int) (i j : Int) (w : World) (h : ArgI w A c l) (_ : R64 i) (_ : R64 j) :
    Calls Try.prog 8 #[.slice A l.length c, .int .i64 i, .int .i64 j] w fun e w' => e = .returned (.bool true) ∧ Below w.heap.size w w' := by
  go_enter Try.func8, Try.ntmps8
  go_wp2_with fail
  refine (network_any A c l w h).mono ?_
  rintro ex w1 ⟨T, m, E, cE, A', cA, ev, acts, rfl, hev, hoE, hoA, hmade, hb1⟩
  have HMD := Lib.hid hmade
  obtain ⟨_, t1, t2, m1, m2, la⟩ := hmade
  have lE := Own.lst encE_len hoE
  have lA := Own.lst encA_len hoA
  clear hoE hoA
  have z1 := hb1.size
  have ba := belA w1 (.cells #[.int .i64 T, .slice E m cE, .slice A' acts.length cA] 25)
  have hnew := heap_alloc_new w1 (.cells #[.int .i64 T, .slice E m cE, .slice A' acts.length cA] 25)
  have n0 : (w1.alloc (.cells #[.int .i64 T, .slice E m cE, .slice A' acts.length cA] 25)).cell? ⟨w1.heap.size, 0, none⟩ = some (.int .i64 T) := by rw [cell_of_row _ _ 0 _ _ _ hnew]; rfl
  have n1 : (w1.alloc (.cells #[.int .i64 T, .slice E m cE, .slice A' acts.length cA] 25)).cell? ⟨w1.heap.size, 1, none⟩ = some (.slice E m cE) := by rw [cell_of_row _ _ 1 _ _ _ hnew]; rfl
  have n2 : (w1.alloc (.cells #[.int .i64 T, .slice E m cE, .slice A' acts.length cA] 25)).cell? ⟨w1.heap.size, 2, none⟩ = some (.slice A' acts.length cA) := by rw [cell_of_row _ _ 2 _ _ _ hnew]; rfl
  have za : (w1.alloc (.cells #[.int .i64 T, .slice E m cE, .slice A' acts.length cA] 25)).heap.size = w1.heap.size + 1 := by simp
  have hbw := hb1.trans (ba.mono z1)
  replace lE := lE.belowMore ba (show w1.heap.size ≤ (w1.alloc (.cells #[.int .i64 T, .slice E m cE, .slice A' acts.length cA] 25)).heap.size by simp)
  replace lA := lA.belowMore ba (show w1.heap.size ≤ (w1.alloc (.cells #[.int .i64 T, .slice E m cE, .slice A' acts.length cA] 25)).heap.size by simp)
  have HBW := Lib.hid hbw
  have HLE := Lib.hid lE
  have HLA := Lib.hid lA
  have HEV := Lib.hid hev
  clear hb1 ba hnew hbw lE lA hev
  go_wp2_with fail
  generalize w1.alloc (.cells #[.int .i64 T, .slice E m cE, .slice A' acts.length cA] 25) = w2 at *
  refine (table_any T E m cE A' cA ev acts w2 HLA.out HLE.out HEV.out HMD.out.1).mono ?_
  rintro ex w3 ⟨gt, D, e, rfl, hS, hb3⟩
  have g1 : w1.heap.size < w2.heap.size := by omega
  replace n0 := (hb3.cell (p := ⟨w1.heap.size, 0, none⟩) g1).trans n0
  replace n1 := (hb3.cell (p := ⟨w1.heap.size, 1, none⟩) g1).trans n1
  have z3 := hb3.size
  have hbw3 := HBW.out.trans (hb3.mono HBW.out.size)
  have HBW3 := Lib.hid hbw3
  clear hb3 hbw3 za n2
  have hpi := pickI_range i m (by omega)
  have hpj := pickI_range j m (by omega)
  have hki := fun W => pick_any i m W (by omega) (by omega)
  have hkj := fun W => pick_any j m W (by omega) (by omega)
  generalize pickI i m = I at *
  generalize pickI j m = J at *
  obtain ⟨I, rfl⟩ := Int.eq_ofNat_of_zero_le hpi.1
  obtain ⟨J, rfl⟩ := Int.eq_ofNat_of_zero_le hpj.1
  have hI : I < m := by omega
  have hJ : J < m := by omega
  have HS := Lib.hid hS
  have hsz := hS.size
  clear hpi hpj hS
  go_wp2_with fail
  refine (hki _).mono ?_
  rintro ex w' ⟨rfl, rfl⟩
  go_wp2_with fail
  refine (hkj _).mono ?_
  rintro ex w' ⟨rfl, rfl⟩
  go_wp2_with fail
  refine (betweenIn_any gt m T acts D e I J w3 HS.out hI hJ).mono ?_
  rintro ex w4 ⟨v, rfl, ho, hb4⟩
  obtain ⟨A4, c4, rfl⟩ := ho.form
  have hz4 := hb4.size
  have hS4 := HS.out.below hb4
  have HB4 := Lib.hid (HBW3.out.trans (hb4.mono (by have := HBW.out.size; omega)))
  have hfin := hS4.fin
  have hrl : (runs (D I J) T).length = 0 ↔ e = true := by
    rw [List.length_eq_zero_iff, runs_nil_iff]
    constructor
    · intro hn
      cases e with
      | true => rfl
      | false => exact absurd hn ((hfin.non rfl).1 I J hI hJ)
    · exact fun he x _ => (hfin.emp he).2 I J x
  have hct : cntTo m T D (m * m) = 0 ↔ e = true := by
    constructor
    · intro hn
      cases e with
      | true => rfl
      | false =>
        exfalso
        have hpos : ∀ k, 0 < k → k ≤ m * m → 0 < cntTo m T D k := fun k hk hkm => by
          obtain ⟨q, rfl⟩ : ∃ q, k = q + 1 := ⟨k - 1, by omega⟩
          have h0 : 0 < m := by omega
          have := (hfin.non rfl).1 (q / m) (q % m) (Nat.div_lt_of_lt_mul (by omega)) (Nat.mod_lt _ h0)
          rw [none_iff] at this
          simp only [cntTo]; omega
        have := hpos (m * m) (Nat.mul_pos (by omega) (by omega)) (Nat.le_refl _)
        omega
    · intro he
      have : ∀ k, cntTo m T D k = 0 := fun k => by
        induction k with
        | zero => rfl
        | succ q ih => simp only [cntTo, ih]; rw [none_iff.1 (fun x _ => (hfin.emp he).2 _ _ x)]
      exact this _
  have hle := cntTo_le (m := m) (T := T) (D := D) (m * m)
  have hle2 : m * m * T ≤ 2304 * 7200 := Nat.mul_le_mul (Nat.mul_le_mul hsz.1 hsz.1) hsz.2.2
  have HS4 := Lib.hid hS4
  have htc := fun W (hb : Below w4.heap.size w4 W) => tcount_any gt m T acts D e W (HS4.out.below hb)
  have hem := fun W (hb : Below w4.heap.size w4 W) => empty_any gt m T acts D e W (HS4.out.below hb)
  generalize cntTo m T D (m * m) = C at *
  generalize (runs (D I J) T).length = L at *
  clear hS4 hfin ho hb4
  cases e with
  | true =>
    have l0 : L = 0 := hrl.2 rfl
    have c0 : C = 0 := hct.2 rfl
    subst l0 c0
    clear hrl hct hle hle2
    go_wp2_with fail
    refine (hem _ (Below.refl _ _)).mono ?_
    rintro ex w' ⟨rfl, rfl⟩
    go_wp2_with fail
    refine (htc _ (Below.refl _ _)).mono ?_
    rintro ex w5 ⟨rfl, hb5⟩
    go_wp2_with fail
    go_ret
    exact ⟨ret_bool (by simp), HB4.out.trans (hb5.mono HB4.out.size)⟩
  | false =>
    have l0 : (((L : Nat) : Int) == 0) = false := by simp; exact fun q => by simpa using hrl.1 q
    have c0 : (((C : Nat) : Int) == 0) = false := by simp; exact fun q => by simpa using hct.1 q
    clear hrl hct hle hle2
    go_wp2_with fail
    refine (hem _ (Below.refl _ _)).mono ?_
    rintro ex w' ⟨rfl, rfl⟩
    go_wp2_with fail
    refine (htc _ (Below.refl _ _)).mono ?_
    rintro ex w5 ⟨rfl, hb5⟩
    go_wp2_with fail
    go_ret
    exact ⟨ret_bool (by simp [l0, c0]), HB4.out.trans (hb5.mono HB4.out.size)⟩

end Go.Proofs.Ytbhjnihcmfagjaa
