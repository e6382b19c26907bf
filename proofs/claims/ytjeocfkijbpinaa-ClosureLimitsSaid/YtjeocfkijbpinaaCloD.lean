/-
  Contracts of cmp.Or, closure.compare and slices.BinarySearchFunc.
-/
import Derived.Test.YtjeocfkijbpinaaCloC
import Derived.Test.YtjeocfkijbpinaaStep
import Derived.Test.YtjeocfkijbpinaaCloA
import Derived.StillTailTactics
import Derived.Shelf.SlSortCmp.QuietGrown
set_option linter.unusedVariables false
set_option linter.unusedSimpArgs false
namespace Go.Proofs.Ytjeocfkijbpinaa
open Go.RowKit RP Go.Sort

set_option maxHeartbeats 1000000 in
theorem or_any (a b : Int) (g : Nat) (w : World) (h0 : w.cell? ⟨g, 0, none⟩ = some (.int .i64 a)) (h1 : w.cell? ⟨g, 1, none⟩ = some (.int .i64 b)) :
    Calls Try.prog 38 #[.slice (some ⟨g, 0, none⟩) 2 2] w fun e w' => e = .returned (.int .i64 (if a ≠ 0 then a else b)) ∧ w' = w := by
  go_enter Try.func38, Try.ntmps38
  go_wp2_with fail
  go_loopg [5, 8] 2 (fun g s5 s8 wr => ∃ k : Nat, k ≤ 2 ∧ g = 2 - k ∧ s8 = .int .i64 k ∧ (0 < k → a = 0) ∧ (1 < k → b = 0) ∧ wr = w)
  case atStart => exact ⟨0, by omega, by omega, rfl, by omega, by omega, rfl⟩
  case round =>
    obtain ⟨k, hk, hg, rfl, ha, hb, rfl⟩ := hrel
    match k, hk with
    | 0, _ =>
      by_cases hz : a = 0
      · subst hz
        go_wp2_with fail
        go_roundg 1
        case measure => omega
        case rel => exact ⟨1, by omega, by omega, rfl, by simp, by omega, rfl⟩
      · go_wp2_with fail
        go_ret
        exact ⟨ret_int (by simp [hz]), rfl⟩
    | 1, _ =>
      have hz := ha (by omega)
      subst hz
      by_cases hz : b = 0
      · subst hz
        go_wp2_with fail
        go_roundg 0
        case measure => omega
        case rel => exact ⟨2, by omega, by omega, rfl, by simp, by simp, rfl⟩
      · go_wp2_with fail
        go_ret
        exact ⟨ret_int (by simp), rfl⟩
    | 2, _ =>
      have hz := ha (by omega)
      subst hz
      have hz := hb (by omega)
      subst hz
      go_wp2_with fail
      go_ret
      exact ⟨ret_int (by simp), rfl⟩

set_option maxHeartbeats 400000 in
theorem nan_any (a : Int) (w : World) : Calls Try.prog 47 #[.int .i64 a] w fun e w' => e = .returned (.bool false) ∧ w = w' := by
  have h : (a != a) = false := by simp
  go_enter Try.func47, Try.ntmps47
  go_wp2_with fail
  go_ret
  exact ⟨rfl, rfl⟩

def cmpI (a b : Int) : Int := if a < b then -1 else if b < a then 1 else 0
set_option maxHeartbeats 400000 in
theorem cmpInt_any (a b : Int) (w : World) : Calls Try.prog 39 #[.int .i64 a, .int .i64 b] w fun e w' => e = .returned (.int .i64 (cmpI a b)) ∧ w = w' := by
  by_cases h1 : a < b
  · go_enter Try.func39, Try.ntmps39
    go_wp2_with (go_at_call 47; refine (nan_any _ _).mono ?_; rintro e w' ⟨rfl, rfl⟩)
    go_ret
    exact ⟨ret_int (by simp [cmpI, h1]), rfl⟩
  · by_cases h2 : b < a
    · go_enter Try.func39, Try.ntmps39
      go_wp2_with (go_at_call 47; refine (nan_any _ _).mono ?_; rintro e w' ⟨rfl, rfl⟩)
      go_ret
      exact ⟨ret_int (by simp [cmpI, h1, h2]), rfl⟩
    · go_enter Try.func39, Try.ntmps39
      go_wp2_with (go_at_call 47; refine (nan_any _ _).mono ?_; rintro e w' ⟨rfl, rfl⟩)
      go_ret
      exact ⟨ret_int (by unfold cmpI; rw [if_neg (by omega), if_neg (by omega)]), rfl⟩

theorem cmpC_or (x y : Clo) : (if cmpI x.1 y.1 ≠ 0 then cmpI x.1 y.1 else cmpI x.2.1 y.2.1) = cmpC x y := by
  unfold cmpC cmpI
  by_cases h1 : x.1 < y.1
  · simp [h1]
  · by_cases h2 : y.1 < x.1 <;> simp [h1, h2]

set_option maxHeartbeats 2000000 in
theorem compare_any (x y : Clo) (W : World) : Calls Try.prog 31 #[.agg #[.int .i64 x.1, .int .i64 x.2.1, .int .i64 x.2.2], .agg #[.int .i64 y.1, .int .i64 y.2.1, .int .i64 y.2.2]] W fun e w' => e = .returned (.int .i64 (cmpC x y)) ∧ ∃ q os', w' = grow (W.drewN q) os' := by
  have hc1 := fun W' => cmpInt_any x.1 y.1 W'
  have hc2 := fun W' => cmpInt_any x.2.1 y.2.1 W'
  have HP := Lib.hid (cmpC_or x y)
  obtain ⟨x1, x2, x3⟩ := x
  obtain ⟨y1, y2, y3⟩ := y
  simp only at hc1 hc2 HP
  generalize cmpI x1 y1 = r1 at hc1 HP
  generalize cmpI x2 y2 = r2 at hc2 HP
  have k0 : ((W.alloc (.cells #[.int .i64 x1, .int .i64 x2, .int .i64 x3] 27)).alloc (.cells #[.int .i64 y1, .int .i64 y2, .int .i64 y3] 27)).cell? ⟨W.heap.size, 0, none⟩ = some (.int .i64 x1) := by
    rw [World.cell?_alloc_lt _ _ _ (by simp), World.cell?_alloc_at _ _ _ _ rfl]; rfl
  have k1 : ((W.alloc (.cells #[.int .i64 x1, .int .i64 x2, .int .i64 x3] 27)).alloc (.cells #[.int .i64 y1, .int .i64 y2, .int .i64 y3] 27)).cell? ⟨W.heap.size, 1, none⟩ = some (.int .i64 x2) := by
    rw [World.cell?_alloc_lt _ _ _ (by simp), World.cell?_alloc_at _ _ _ _ rfl]; rfl
  have k2 : ((W.alloc (.cells #[.int .i64 x1, .int .i64 x2, .int .i64 x3] 27)).alloc (.cells #[.int .i64 y1, .int .i64 y2, .int .i64 y3] 27)).cell? ⟨W.heap.size + 1, 0, none⟩ = some (.int .i64 y1) := by
    rw [World.cell?_alloc_at _ _ _ _ (by simp)]; rfl
  have k3 : ((W.alloc (.cells #[.int .i64 x1, .int .i64 x2, .int .i64 x3] 27)).alloc (.cells #[.int .i64 y1, .int .i64 y2, .int .i64 y3] 27)).cell? ⟨W.heap.size + 1, 1, none⟩ = some (.int .i64 y2) := by
    rw [World.cell?_alloc_at _ _ _ _ (by simp)]; rfl
  have hb : Below W.heap.size W ((W.alloc (.cells #[.int .i64 x1, .int .i64 x2, .int .i64 x3] 27)).alloc (.cells #[.int .i64 y1, .int .i64 y2, .int .i64 y3] 27)) := ((Below.refl _ _).alloc (by omega) _).alloc (by simp) _
  go_enter Try.func31, Try.ntmps31
  go_upto_region 1 with fail
  obtain ⟨os, hos⟩ : ∃ os, { (W.alloc (.cells #[.int .i64 x1, .int .i64 x2, .int .i64 x3] 27)).alloc (.cells #[.int .i64 y1, .int .i64 y2, .int .i64 y3] 27) with drawn := ((W.alloc (.cells #[.int .i64 x1, .int .i64 x2, .int .i64 x3] 27)).alloc (.cells #[.int .i64 y1, .int .i64 y2, .int .i64 y3] 27)).drawn + 1 } = grow (W.drewN 1) os := ⟨_, by rw [alloc_eq_grow, alloc_eq_grow, grow_grow]; rfl⟩
  generalize (W.alloc (.cells #[.int .i64 x1, .int .i64 x2, .int .i64 x3] 27)).alloc (.cells #[.int .i64 y1, .int .i64 y2, .int .i64 y3] 27) = W2 at *
  have hz := hb.size
  generalize hg1 : W.heap.size = g1 at *
  refine wp_region_still_tail 10 (by kernel_rfl) (by kernel_rfl) ?_
  simp only [List.take_succ_cons, List.take_zero, List.drop_succ_cons, List.drop_zero]
  have k0' : { W2 with drawn := W2.drawn + 1 }.cell? ⟨g1, 0, none⟩ = some (.int .i64 x1) := k0
  have k1' : { W2 with drawn := W2.drawn + 1 }.cell? ⟨g1, 1, none⟩ = some (.int .i64 x2) := k1
  have k2' : { W2 with drawn := W2.drawn + 1 }.cell? ⟨g1 + 1, 0, none⟩ = some (.int .i64 y1) := k2
  have k3' : { W2 with drawn := W2.drawn + 1 }.cell? ⟨g1 + 1, 1, none⟩ = some (.int .i64 y2) := k3
  have hb' : Below g1 W { W2 with drawn := W2.drawn + 1 } := hb.drew
  have hz' : g1 ≤ { W2 with drawn := W2.drawn + 1 }.heap.size := hz
  clear k0 k1 k2 k3 hb hz
  generalize { W2 with drawn := W2.drawn + 1 } = W3 at *
  have hor := or_any r1 r2 W3.heap.size (W3.alloc (.cells #[.int .i64 r1, .int .i64 r2] 3)) (by rw [World.cell?_alloc_at _ _ _ _ rfl]; rfl) (by rw [World.cell?_alloc_at _ _ _ _ rfl]; rfl)
  have HW := Lib.hid hos
  clear hb' hos
  generalize (if r1 ≠ 0 then r1 else r2) = r at hor HP
  still_step
  still_step
  still_step
  still_step
  still_call ((hc1 _).mono fun _ _ ⟨a, b⟩ => ⟨a, b.symm⟩)
  still_step
  still_step
  still_step
  still_step
  still_call ((hc2 _).mono fun _ _ ⟨a, b⟩ => ⟨a, b.symm⟩)
  refine wpStill_nil ?_
  go_wp2_with fail
  refine hor.mono ?_
  rintro e w' ⟨rfl, rfl⟩
  go_wp2_with fail
  go_ret
  exact ⟨ret_int HP.out, 1, _, by rw [HW.out, alloc_eq_grow, grow_grow]⟩

theorem cmp_mono {a b x : Clo} (h : leC a b) (hb : cmpC b x < 0) : cmpC a x < 0 := by
  rw [cmpC_neg] at *; unfold leC at h; omega
theorem cmp_sorted {S : List Clo} (hs : S.Pairwise leC) {x : Clo} {i j : Nat} (hi : i < S.length) (hj : j < S.length) (h : i ≤ j) (hc : cmpC S[j] x < 0) : cmpC S[i] x < 0 := by
  by_cases e : i = j
  · subst e; exact hc
  · exact cmp_mono ((List.pairwise_iff_getElem.1 hs) i j hi hj (by omega)) hc
def BsPost (S : List Clo) (x : Clo) (w : World) (e : Ending) (w' : World) : Prop :=
  ∃ (i : Nat) (b : Bool), e = .returned (.tuple #[.int .i64 i, .bool b]) ∧ i ≤ S.length ∧ (∀ k (h : k < S.length), k < i → cmpC S[k] x < 0) ∧ (∀ k (h : k < S.length), i ≤ k → ¬ cmpC S[k] x < 0) ∧ ∃ q os, w' = grow (w.drewN q) os

theorem grown_cell {w : World} {n : Nat} {os : Array Obj} {b o : Nat} {v : Value} (h : w.cell? ⟨b, o, none⟩ = some v) : (grow (w.drewN n) os).cell? ⟨b, o, none⟩ = some v := cell_grown (cell_lt h) h n os
theorem grown_grown {w : World} {n m : Nat} {os os' : Array Obj} : grow ((grow (w.drewN n) os).drewN m) os' = grow (w.drewN (n + m)) (os ++ os') := by
  show grow (grow ((w.drewN n).drewN m) os) os' = _; rw [grow_grow, World.drewN_drewN]

set_option maxHeartbeats 800000 in
theorem bsearch_any (A : Option Addr) (c : Nat) (S : List Clo) (x : Clo) (w : World) (hl : Lst encO 3 w w.heap.size A S) (hn : S.length ≤ 4611686018427387903) (hs : S.Pairwise leC) :
    Calls Try.prog 30 #[.slice A S.length c, .agg #[.int .i64 x.1, .int .i64 x.2.1, .int .i64 x.2.2], .func (.func 31) #[] #[]] w (BsPost S x w) := by
  have mixed : Try.prog.follows .mixedOrders = true := by kernel_rfl
  have HSRT := Lib.hid (fun a b (ha : a < S.length) (hb : b < S.length) h => cmp_sorted hs (x := x) ha hb (i := a) (j := b) h)
  have hcmp := fun y W => compare_any y x W
  obtain ⟨x1, x2, x3⟩ := x
  simp only at hcmp
  have k0 : (w.alloc (.cells #[.int .i64 x1, .int .i64 x2, .int .i64 x3] 27)).cell? ⟨w.heap.size, 0, none⟩ = some (.int .i64 x1) := by rw [World.cell?_alloc_at _ _ _ _ rfl]; rfl
  have k1 : (w.alloc (.cells #[.int .i64 x1, .int .i64 x2, .int .i64 x3] 27)).cell? ⟨w.heap.size, 1, none⟩ = some (.int .i64 x2) := by rw [World.cell?_alloc_at _ _ _ _ rfl]; rfl
  have k2 : (w.alloc (.cells #[.int .i64 x1, .int .i64 x2, .int .i64 x3] 27)).cell? ⟨w.heap.size, 2, none⟩ = some (.int .i64 x3) := by rw [World.cell?_alloc_at _ _ _ _ rfl]; rfl
  have hl2 := hl.below (below_refl_alloc w (.cells #[.int .i64 x1, .int .i64 x2, .int .i64 x3] 27))
  have hzx : w.heap.size < (w.alloc (.cells #[.int .i64 x1, .int .i64 x2, .int .i64 x3] 27)).heap.size := by simp
  obtain ⟨o1, ho1⟩ : ∃ os, w.alloc (.cells #[.int .i64 x1, .int .i64 x2, .int .i64 x3] 27) = grow (w.drewN 0) os := ⟨_, alloc_eq_grow _ _⟩
  have HO1 := Lib.hid ho1
  clear ho1 hs hl
  go_enter Try.func30, Try.ntmps30
  go_wp2_with fail
  generalize w.alloc (.cells #[.int .i64 x1, .int .i64 x2, .int .i64 x3] 27) = W0 at *
  generalize w.heap.size = gx at *
  go_loopg [9, 10, 11] S.length (fun gg s9 s10 s11 wr => ∃ (i j n : Nat) (os : Array Obj), i ≤ j ∧ j ≤ S.length ∧ gg = j - i ∧ s9 = .int .i64 i ∧ s10 = .int .i64 j ∧ (∀ k (hk : k < S.length), k < i → cmpC S[k] (x1, x2, x3) < 0) ∧ (∀ k (hk : k < S.length), j ≤ k → ¬ cmpC S[k] (x1, x2, x3) < 0) ∧ wr = grow (W0.drewN n) os)
  case atStart => exact ⟨0, S.length, 0, #[], by omega, by omega, rfl, rfl, rfl, fun k hk h => by omega, fun k hk h => by omega, by rw [grow_empty]; rfl⟩
  case round =>
    obtain ⟨i, j, n, os, hij, hj, hg, rfl, rfl, hlo, hhi, hwr⟩ := hrel
    have HLO := Lib.hid hlo
    have HHI := Lib.hid hhi
    have HWR := Lib.hid hwr
    have t0 : wr.cell? ⟨gx, 0, none⟩ = some (.int .i64 x1) := by rw [hwr]; exact grown_cell k0
    have t1 : wr.cell? ⟨gx, 1, none⟩ = some (.int .i64 x2) := by rw [hwr]; exact grown_cell k1
    have t2 : wr.cell? ⟨gx, 2, none⟩ = some (.int .i64 x3) := by rw [hwr]; exact grown_cell k2
    have t0' : ∀ n os, (grow (wr.drewN n) os).cell? ⟨gx, 0, none⟩ = some (.int .i64 x1) := fun n os => grown_cell t0
    have t1' : ∀ n os, (grow (wr.drewN n) os).cell? ⟨gx, 1, none⟩ = some (.int .i64 x2) := fun n os => grown_cell t1
    have t2' : ∀ n os, (grow (wr.drewN n) os).cell? ⟨gx, 2, none⟩ = some (.int .i64 x3) := fun n os => grown_cell t2
    have hlr : Lst encO 3 wr gx A S := hl2.keep fun p hp => by rw [hwr, cell?_grow _ _ _ (by show p.block < W0.heap.size; omega)]; rfl
    clear hlo hhi hwr t0 t1 t2
    by_cases hlt : i < j
    · have hm : (i + j) / 2 < S.length := by omega
      obtain ⟨b, off, rfl, hb, c0, c1, c2⟩ := hlr.oc ((i + j) / 2) hm
      obtain ⟨m, hmq⟩ : ∃ m, (i + j) / 2 = m := ⟨_, rfl⟩
      have hm1 : i ≤ m := by omega
      have hm2 : m < j := by omega
      have HMI := Lib.hid (show ((i : Int) + j) / 2 = (m : Int) by omega)
      subst hmq
      generalize hmq : (i + j) / 2 = m at *
      clear hmq
      have c0' : ∀ n os, (grow (wr.drewN n) os).cell? ⟨b, off + m * 3, none⟩ = _ := fun n os => grown_cell c0
      have c1' : ∀ n os, (grow (wr.drewN n) os).cell? ⟨b, off + m * 3 + 1, none⟩ = _ := fun n os => grown_cell c1
      have c2' : ∀ n os, (grow (wr.drewN n) os).cell? ⟨b, off + m * 3 + 2, none⟩ = _ := fun n os => grown_cell c2
      have hcm := hcmp S[m]
      have i1 : (0 : Int) ≤ (m : Int) := by omega
      have i2 : (m : Int) < (S.length : Int) := by omega
      clear c0 c1 c2
      by_cases hc : cmpC S[m] (x1, x2, x3) < 0
      · have HC := Lib.hid hc
        generalize cmpC S[m] (x1, x2, x3) = r at hcm hc
        generalize S[m] = y at c0' c1' c2' hcm
        obtain ⟨y1, y2, y3⟩ := y
        simp only at c0' c1' c2' hcm
        have hd : decide (r < 0) = true := by simpa using hc
        go_upto_region 5 with fail
        rw [HMI.out]
        go_quiet_grown (first | (go_at_call 31; refine Calls.grown_of (hcm _)))
        go_wp2_with fail
        go_roundg (j - (m + 1))
        case measure => omega
        case rel => exact ⟨m + 1, j, n + nq, os ++ osq, by omega, by omega, rfl, by go_num, rfl, fun k hk h => HSRT.out k m hk hm (by omega) HC.out, HHI.out, by rw [HWR.out]; exact grown_grown⟩
      · have HC := Lib.hid hc
        generalize cmpC S[m] (x1, x2, x3) = r at hcm hc
        generalize S[m] = y at c0' c1' c2' hcm
        obtain ⟨y1, y2, y3⟩ := y
        simp only at c0' c1' c2' hcm
        have hd : decide (r < 0) = false := by simpa using hc
        go_upto_region 5 with fail
        rw [HMI.out]
        go_quiet_grown (first | (go_at_call 31; refine Calls.grown_of (hcm _)))
        go_wp2_with fail
        go_roundg (m - i)
        case measure => omega
        case rel => exact ⟨i, m, n + nq, os ++ osq, by omega, by omega, rfl, rfl, rfl, HLO.out, fun k hk h => by (rcases Int.lt_or_le (cmpC S[k] (x1, x2, x3)) 0 with q | q; exact absurd (HSRT.out m k hm hk h q) (by have := HC.out; omega); omega), by rw [HWR.out]; exact grown_grown⟩
    · obtain rfl : i = j := by omega
      have HEND : Hid (∀ e w', (∃ b, e = Ending.returned (.tuple #[.int .i64 i, .bool b])) → (∃ nq osq, w' = grow (wr.drewN nq) osq) → BsPost S (x1, x2, x3) w e w') := fun e w' ⟨bb, he⟩ ⟨nq, osq, hw⟩ => ⟨i, bb, he, by omega, HLO.out, fun k hk h => HHI.out k hk h, 0 + (n + nq), o1 ++ (os ++ osq), by
        rw [hw, HWR.out, HO1.out, grown_grown, grown_grown]⟩
      by_cases hin : i < S.length
      · obtain ⟨b, off, rfl, hb, c0, c1, c2⟩ := hlr.oc i hin
        have c0' : ∀ n os, (grow (wr.drewN n) os).cell? ⟨b, off + i * 3, none⟩ = _ := fun n os => grown_cell c0
        have c1' : ∀ n os, (grow (wr.drewN n) os).cell? ⟨b, off + i * 3 + 1, none⟩ = _ := fun n os => grown_cell c1
        have c2' : ∀ n os, (grow (wr.drewN n) os).cell? ⟨b, off + i * 3 + 2, none⟩ = _ := fun n os => grown_cell c2
        have hcm := hcmp S[i]
        have i1 : (0 : Int) ≤ (i : Int) := by omega
        have i2 : (i : Int) < (S.length : Int) := by omega
        have hd : decide ((i : Int) < (S.length : Int)) = true := by simpa using i2
        generalize cmpC S[i] (x1, x2, x3) = r at hcm
        generalize S[i] = y at c0 c1 c2 c0' c1' c2' hcm
        obtain ⟨y1, y2, y3⟩ := y
        simp only at c0' c1' c2' hcm
        clear c0 c1 c2
        go_upto_region 8 with fail
        go_quiet_grown (first | (go_at_call 31; refine Calls.grown_of (hcm _)))
        go_wp2_with fail
        go_ret2
        exact HEND.out _ _ ⟨_, rfl⟩ ⟨nq, osq, rfl⟩
      · have hd' : decide (i < S.length) = false := by simp; omega
        have hd : decide ((i : Int) < (S.length : Int)) = false := by simp; omega
        obtain rfl : i = S.length := by omega
        clear hlr HLO HHI
        go_upto_region 8 with fail
        go_quiet (fail)
        go_wp2_with fail
        go_ret2
        exact HEND.out _ _ ⟨_, rfl⟩ ⟨nq, #[], by rw [grow_empty]⟩

end Go.Proofs.Ytjeocfkijbpinaa
