/-
  Contracts of Between, Empty, Count and of the chapter's table.
-/
import Derived.Test.YtbhjnihcmfagjaaClose
import Derived.Test.YtbhjnihcmfagjaaClone
set_option linter.unusedVariables false
set_option linter.unusedSimpArgs false
namespace Go.Proofs.Ytbhjnihcmfagjaa
open Go.RowKit Go.Shelf RP

/-- A closed table in memory. -/
structure Shut13 (w : World) (gt m T : Nat) (l : List Acy) (D : Tab) (e : Bool) : Prop where
  ex : ∃ gs M E cE A cA, Tb w gt gs M m T E cE (.slice A l.length cA) (.slice none 0 0) (.slice none 0 0) D e ∧ RowA w M A l
  fin : Fin13 m T (initT T l) D e
  net : netB T m l = true

theorem Shut13.below {w w' : World} {gt m T : Nat} {l : List Acy} {D : Tab} {e : Bool} (h : Shut13 w gt m T l D e) (hb : Below w.heap.size w w') : Shut13 w' gt m T l D e := by
  obtain ⟨⟨gs, M, E, cE, A, cA, h1, h2⟩, h3, h4⟩ := h
  exact ⟨⟨gs, M, E, cE, A, cA, h1.below hb, h2.kept (.of_below M hb)⟩, h3, h4⟩
theorem Shut13.lt {w : World} {gt m T : Nat} {l : List Acy} {D : Tab} {e : Bool} (h : Shut13 w gt m T l D e) : gt < w.heap.size := by
  obtain ⟨⟨gs, M, E, cE, A, cA, h1, h2⟩, h3, h4⟩ := h
  exact h1.gtlt
theorem Shut13.size {w : World} {gt m T : Nat} {l : List Acy} {D : Tab} {e : Bool} (h : Shut13 w gt m T l D e) : m ≤ 48 ∧ 1 ≤ T ∧ T ≤ 7200 := by
  obtain ⟨⟨gs, M, E, cE, A, cA, h1, h2⟩, h3, h4⟩ := h
  exact h1.mT
theorem shut_of_post {T m : Nat} {l : List Acy} {w w' : World} {ex : Ending} (h : ClosePost T m l w ex w') : ∃ gt D e, ex = .returned (.tuple #[.pointer (some ⟨gt, 0, none⟩), .int .i64 0]) ∧ Shut13 w' gt m T l D e ∧ Below w.heap.size w w' := by
  obtain ⟨gt, gs, M, E, cE, A, cA, D, e, h1, h2, h3, h4, _, h5, h6⟩ := h
  exact ⟨gt, D, e, h1, ⟨⟨gs, M, E, cE, A, cA, h2, h5⟩, h3, h6⟩, h4⟩

theorem empty_any (gt m T : Nat) (l : List Acy) (D : Tab) (e : Bool) (w : World) (h : Shut13 w gt m T l D e) :
    Calls Try.prog 21 #[.pointer (some ⟨gt, 0, none⟩)] w fun ex w' => ex = .returned (.bool e) ∧ w = w' := by
  obtain ⟨⟨gs, M, E, cE, A, cA, h1, h2⟩, h3, h4⟩ := h
  have c6 := h1.c6
  go_enter Try.func21, Try.ntmps21
  go_wp2_with fail
  go_ret
  exact ⟨rfl, rfl⟩

/-- What Between returns: the runs of the set, or nothing. -/
def betL (m T : Nat) (D : Tab) (i j : Int) : List Sp := if 0 ≤ i ∧ i < m ∧ 0 ≤ j ∧ j < m then runs (D i.toNat j.toNat) T else []

set_option maxRecDepth 100000 in
set_option maxHeartbeats 2000000 in
theorem betweenIn_any (gt m T : Nat) (l : List Acy) (D : Tab) (e : Bool) (i j : Nat) (w : World) (h : Shut13 w gt m T l D e) (hi : i < m) (hj : j < m) :
    Calls Try.prog 18 #[.pointer (some ⟨gt, 0, none⟩), .int .i64 i, .int .i64 j] w fun ex w' => ∃ v, ex = .returned v ∧ OwnS w' w.heap.size v (runs (D i j) T) ∧ Below w.heap.size w w' := by
  obtain ⟨⟨gs, M, E, cE, A, cA, hT, h2⟩, h3, h4⟩ := h
  have c1 := hT.c1
  have c3 := hT.c3
  obtain ⟨A1, c1', s1, s2, r1, b1, b2⟩ := hT.set i j hi hj
  have hat := fun W (k1 : W.cell? ⟨gt, 1, none⟩ = some (.slice E m cE)) => at_any gt m E cE i j W k1 hT.mT.1 hi hj
  have hix := idx_lt hi hj
  have hln := runs_len (D i j) T
  have hT7 := hT.mT.2.2
  have hm48 := hT.mT.1
  have hgt := hT.gtlt
  have hgs := hT.gslt
  generalize hmm : m * m = mm at *
  generalize hp : i * m + j = p at *
  have ip0 : (0 : Int) ≤ (p : Int) := by omega
  have ip1 : (p : Int) < (mm : Int) := by omega
  have HR := Lib.hid r1
  have HCL := Lib.hid (fun W (hb : Below w.heap.size w W) => cloneS_any A1 c1' (runs (D i j) T) W (r1.lst.belowMore hb hb.size) (by omega))
  clear hmm hp hT h2 r1 b1 b2 s2
  go_enter Try.func18, Try.ntmps18
  go_upto_region 4 with fail
  have hB : Below w.heap.size w w.drew := (Below.refl _ _).drew
  go_region_held3 (fun w' => w'.cell? ⟨gt, 1, none⟩ = some (.slice E m cE) ∧ w'.cell? ⟨gt, 3, none⟩ = some (.slice (some ⟨gs, 0, none⟩) mm mm) ∧ w'.cell? ⟨gs, p * 2, none⟩ = some (.slice A1 (runs (D i j) T).length c1'))
    (exact ⟨(hB.cell (p := ⟨gt, 1, none⟩) hgt).trans c1, (hB.cell (p := ⟨gt, 3, none⟩) hgt).trans c3, (hB.cell (p := ⟨gs, p * 2, none⟩) hgs).trans s1⟩)
    (first
      | (go_at_call 38; refine (hat _ ((hB.cell (p := ⟨gt, 1, none⟩) hgt).trans c1)).mono ?_; rintro e w' ⟨rfl, rfl⟩)
      | (go_at_call 45; refine (HCL.out _ hB).mono ?_; rintro e wx ⟨vx, rfl, hox, hbx⟩; have zb : w.heap.size ≤ _ := hB.size; have ho := hox.rebase zb; clear zb; replace hB := hB.trans (hbx.mono hB.size)))
  all_goals
    clear hox hbx HCL hat
    go_wp2_with fail
    go_ret
    exact ⟨_, rfl, ho, hB⟩

set_option maxRecDepth 100000 in
set_option maxHeartbeats 2000000 in
theorem betweenOut_any (gt m T : Nat) (l : List Acy) (D : Tab) (e : Bool) (i j : Int) (w : World) (h : Shut13 w gt m T l D e) (hno : ¬ (0 ≤ i ∧ i < m ∧ 0 ≤ j ∧ j < m)) :
    Calls Try.prog 18 #[.pointer (some ⟨gt, 0, none⟩), .int .i64 i, .int .i64 j] w fun ex w' => ex = .returned (.slice none 0 0) ∧ w = w' := by
  obtain ⟨⟨gs, M, E, cE, A, cA, hT, h2⟩, h3, h4⟩ := h
  have c1 := hT.c1
  have hm48 := hT.mT.1
  clear hT h2
  by_cases q1 : i < 0
  · go_enter Try.func18, Try.ntmps18
    go_wp2_with fail
    go_ret
    exact ⟨rfl, rfl⟩
  · by_cases q2 : (m : Int) ≤ i
    · go_enter Try.func18, Try.ntmps18
      go_wp2_with fail
      go_ret
      exact ⟨rfl, rfl⟩
    · by_cases q3 : j < 0
      · go_enter Try.func18, Try.ntmps18
        go_wp2_with fail
        go_ret
        exact ⟨rfl, rfl⟩
      · have q4 : (m : Int) ≤ j := by omega
        go_enter Try.func18, Try.ntmps18
        go_wp2_with fail
        go_ret
        exact ⟨rfl, rfl⟩

/-- Between at whatever numbers. -/
theorem between_any (gt m T : Nat) (l : List Acy) (D : Tab) (e : Bool) (i j : Int) (w : World) (h : Shut13 w gt m T l D e) :
    Calls Try.prog 18 #[.pointer (some ⟨gt, 0, none⟩), .int .i64 i, .int .i64 j] w fun ex w' => ∃ v, ex = .returned v ∧ OwnS w' w.heap.size v (betL m T D i j) ∧ Below w.heap.size w w' := by
  by_cases hin : 0 ≤ i ∧ i < m ∧ 0 ≤ j ∧ j < m
  · obtain ⟨i, rfl⟩ := Int.eq_ofNat_of_zero_le hin.1
    obtain ⟨j, rfl⟩ := Int.eq_ofNat_of_zero_le hin.2.2.1
    refine (betweenIn_any gt m T l D e i j w h (by omega) (by omega)).mono ?_
    rintro ex w' ⟨v, rfl, ho, hb⟩
    refine ⟨v, rfl, ?_, hb⟩
    rw [betL, if_pos hin]
    exact ho
  · refine (betweenOut_any gt m T l D e i j w h hin).mono ?_
    rintro ex w' ⟨rfl, rfl⟩
    refine ⟨_, rfl, ?_, Below.refl _ _⟩
    rw [betL, if_neg hin]
    exact Own.nil _ _ _ _ _

/-- Sums of the sets' sizes, in the order of the table. -/
def cntTo (m T : Nat) (D : Tab) : Nat → Nat
  | 0 => 0
  | k + 1 => cntTo m T D k + cntN (D (k / m) (k % m)) T
theorem cntTo_le {m T : Nat} {D : Tab} : ∀ k, cntTo m T D k ≤ k * T
  | 0 => by simp [cntTo]
  | k + 1 => by
    have := cntTo_le (m := m) (T := T) (D := D) k
    have := cnt_T (P := D (k / m) (k % m)) T
    rw [Nat.succ_mul]; simp only [cntTo]; omega

set_option maxRecDepth 100000 in
set_option maxHeartbeats 2000000 in
theorem tcount_any (gt m T : Nat) (l : List Acy) (D : Tab) (e : Bool) (w : World) (h : Shut13 w gt m T l D e) :
    Calls Try.prog 24 #[.pointer (some ⟨gt, 0, none⟩)] w fun ex w' => ex = .returned (.int .i64 (cntTo m T D (m * m) : Nat)) ∧ Below w.heap.size w w' := by
  obtain ⟨⟨gs, M, E, cE, A, cA, hT, h2⟩, h3, h4⟩ := h
  have c3 := hT.c3
  have HT := Lib.hid hT
  have hT7 := hT.mT.2.2
  have hm48 := hT.mT.1
  have hgs := hT.gslt
  have hm2 : m * m ≤ 2304 := Nat.mul_le_mul hm48 hm48
  clear hT h2
  generalize hmm : m * m = mm at *
  have HMM := Lib.hid hmm
  clear hmm
  go_enter Try.func24, Try.ntmps24
  go_wp2_with fail
  go_loopg [3, 5, 11] mm (fun g s3 s5 s11 wr => ∃ k : Nat, k ≤ mm ∧ g = mm - k ∧ s11 = .int .i64 k ∧ s3 = .int .i64 (cntTo m T D k : Nat) ∧ Below w.heap.size w wr)
  case atStart => exact ⟨0, by omega, by omega, rfl, rfl, Below.refl _ _⟩
  case round =>
    obtain ⟨k, hk, hg, rfl, rfl, hb⟩ := hrel
    by_cases hlt : k < mm
    · have hm0 : 0 < m := Nat.pos_of_ne_zero fun q => by have := HMM.out; subst q; simp at this; omega
      have hkm : k / m < m := Nat.div_lt_of_lt_mul (by rw [HMM.out]; exact hlt)
      have hkr : k % m < m := Nat.mod_lt _ hm0
      obtain ⟨A1, c1, s1, s2, r1, b1, b2⟩ := HT.out.set (k / m) (k % m) hkm hkr
      rw [Nat.div_add_mod' k m] at s1 s2
      replace s1 := (hb.cell (p := ⟨gs, k * 2, none⟩) hgs).trans s1
      replace s2 := (hb.cell (p := ⟨gs, k * 2 + 1, none⟩) hgs).trans s2
      have hle := cntTo_le (m := m) (T := T) (D := D) k
      have hle2 : k * T ≤ 2304 * 7200 := Nat.mul_le_mul (by omega) hT7
      have hct := cnt_T (P := D (k / m) (k % m)) T
      have HS := Lib.hid (show cntTo m T D (k + 1) = cntTo m T D k + cntN (D (k / m) (k % m)) T from rfl)
      clear r1 b1 b2
      generalize hcn : cntN (D (k / m) (k % m)) T = cn at *
      generalize hcq : cntTo m T D k = cq at *
      generalize (runs (D (k / m) (k % m)) T).length = ln at *
      clear hcn hcq
      go_wp2_with fail
      go_roundg (mm - (k + 1))
      case measure => omega
      case rel => exact ⟨k + 1, by omega, rfl, by go_num, by rw [HS.out]; go_num, hb.alloc hb.size _⟩
    · obtain rfl : mm = k := by omega
      go_wp2_with fail
      go_ret
      exact ⟨rfl, hb⟩

end Go.Proofs.Ytbhjnihcmfagjaa
