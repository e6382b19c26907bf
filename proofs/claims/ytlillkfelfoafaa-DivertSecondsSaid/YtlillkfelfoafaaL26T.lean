/-
  Walk of DivertSeconds.
-/
import Derived.Test.YtlillkfelfoafaaDivSe
import Derived.Test.YtlillkfelfoafaaDivEz
import Derived.Test.YtlillkfelfoafaaDivKj
set_option linter.unusedVariables false
set_option linter.unusedSimpArgs false
namespace Go.Proofs.Ytlillkfelfoafaa
open Go.RowKit Go.Shelf RP

/-- A block of 600 marks. -/
def HdS (w : World) (gH : Nat) (f : Nat → Bool) : Prop := ∃ (cs : Array Value) (T : TypeId), w.heap[gH]? = some (.cells cs T (0, 0)) ∧ cs.size = 600 ∧ ∀ j < 600, cs[j]? = some (.bool (f j))
theorem HdS.cell {w : World} {gH : Nat} {f : Nat → Bool} (h : HdS w gH f) {j : Nat} (hj : j < 600) : w.cell? ⟨gH, j, none⟩ = some (.bool (f j)) ∧ w.frozen? ⟨gH, j, none⟩ = false := by
  obtain ⟨cs, T, h1, _, h3⟩ := h
  exact ⟨by rw [cell_of_row w _ j _ _ _ h1]; exact h3 j hj, by simp [World.frozen?, h1]⟩
theorem HdS.set {w : World} {gH : Nat} {f f' : Nat → Bool} (h : HdS w gH f) {j : Nat} (hj : j < 600) (hf : ∀ i, f' i = (f i || decide (i = j))) : HdS (w.setCell ⟨gH, j, none⟩ (.bool true)) gH f' := by
  obtain ⟨cs, T, h1, h2, h3⟩ := h
  refine ⟨_, T, set_block' (o := j) (.bool true) h1, by rw [Array.size_setIfInBounds]; exact h2, fun i hi => ?_⟩
  rw [Array.getElem?_setIfInBounds, hf i]
  by_cases e : j = i
  · subst e; rw [if_pos rfl, if_pos (by omega)]; simp
  · rw [if_neg e, h3 i hi, decide_eq_false (fun q => e q.symm), Bool.or_false]
theorem HdS.ext {w : World} {gH : Nat} {f f' : Nat → Bool} (h : HdS w gH f) (he : ∀ j, f j = f' j) : HdS w gH f' := by
  have : f = f' := funext he
  rw [← this]; exact h
theorem HdS.below {w w' : World} {gH : Nat} {f : Nat → Bool} (h : HdS w gH f) (hb : Below w.heap.size w w') : HdS w' gH f := by
  obtain ⟨cs, T, h1, h2, h3⟩ := h
  exact ⟨cs, T, (hb.block gH (Array.getElem?_eq_some_iff.1 h1).1).trans h1, h2, h3⟩
theorem HdS.lt {w : World} {gH : Nat} {f : Nat → Bool} (h : HdS w gH f) : gH < w.heap.size := by
  obtain ⟨cs, T, h1, _⟩ := h
  exact (Array.getElem?_eq_some_iff.1 h1).1
theorem grown_at {w w' : World} {gH b o : Nat} {v : Value} (hg : w.grownBy w' (some gH)) (hne : b ≠ gH) (h : w.cell? ⟨b, o, none⟩ = some v) : w'.cell? ⟨b, o, none⟩ = some v :=
  (World.cell?_of_block (a := ⟨b, o, none⟩) (hg.block b (cell_lt h) (fun e => by injection e with e; exact hne e))).trans h
theorem zeroHeld : Try.zeroCells44 = Array.replicate 600 (.bool false) := by kernel_rfl
theorem HdS.made (w : World) : HdS (w.alloc (.cells Try.zeroCells44 44)) w.heap.size (fun _ => false) := by
  refine ⟨_, _, heap_alloc_new w _, by rw [zeroHeld]; simp, fun j hj => ?_⟩
  rw [zeroHeld]
  simp [hj]
set_option maxRecDepth 100000 in
set_option maxHeartbeats 16000000 in
theorem walkDivertSeconds (A1 : Option Addr) (c1 : Nat) (l1 : List Int) (A2 : Option Addr) (c2 : Nat) (l2 : List Int) (x y : Int) (w : World)
    (h1 : ArgI w A1 c1 l1) (h2 : ArgI w A2 c2 l2) (hx : R64 x) (hy : R64 y) :
    Calls Try.prog 5 #[.slice A1 l1.length c1, .slice A2 l2.length c2, .int .i64 x, .int .i64 y] w fun e w' => e = .returned (.bool true) ∧ Below w.heap.size w w' := by
  have s0 := pickI_range x 60 (by omega)
  have t0 := pickI_range y 60 (by omega)
  have hps := fun W => pick_any x 60 W (by omega) (by omega)
  have hpt := fun W => pick_any y 60 W (by omega) (by omega)
  generalize pickI x 60 = s at *
  generalize pickI y 60 = t at *
  go_enter Try.func5, Try.ntmps5
  go_wp2_with fail
  refine (keepOption_any A1 c1 l1 w h1).mono ?_
  rintro e w1 ⟨⟨st, os, ⟨sa, sn, sc⟩, ⟨oa, on, oc⟩⟩, rfl, ho1, hm1, hb1⟩
  have e1 : sn = st.length := own_len ho1.st
  have e2 : on = os.length := own_len ho1.oc
  subst e1 e2
  have HO1 := Lib.hid ho1.olst
  have HM1 := Lib.hid hm1
  clear ho1 hm1
  simp only [OptM.v, Sv.v]
  go_wp2_with fail
  refine (keepOption_any A2 c2 l2 w1 (h2.below hb1)).mono ?_
  rintro e w4 ⟨⟨st', os', ⟨ta, tn, tc⟩, ⟨pa, pn, pc⟩⟩, rfl, ho2, hm2, hb2⟩
  have e1 : tn = st'.length := own_len ho2.st
  have e2 : pn = os'.length := own_len ho2.oc
  subst e1 e2
  have HO2 := Lib.hid ho2.olst
  have HM2 := Lib.hid hm2
  have HB := Lib.hid (hb1.trans (hb2.mono hb1.size))
  have HO1b := Lib.hid (HO1.out.belowMore hb2 hb2.size)
  clear ho2 hm2 hb1 hb2 h1 h2 HO1
  simp only [OptM.v, Sv.v]
  go_upto_region 2 with fail
  have sz1 : ∀ (W : World) (o : Obj), (W.alloc o).heap.size = W.heap.size + 1 := fun W o => by simp
  obtain ⟨w5, hw5⟩ : ∃ V, V = (w4.alloc (.cells #[.slice sa st.length sc, .slice oa os.length oc] 28)).alloc (.cells #[.slice ta st'.length tc, .slice pa os'.length pc] 28) := ⟨_, rfl⟩
  have b45 : Below w4.heap.size w4 w5 := by rw [hw5]; exact ((Below.refl _ w4).alloc (Nat.le_refl _) _).alloc (by rw [sz1]; omega) _
  have n0 : w5.heap[w4.heap.size]? = some (.cells #[.slice sa st.length sc, .slice oa os.length oc] 28 (0, 0)) := by
    rw [hw5, Below.heap_alloc _ _ _ (by rw [sz1]; omega)]; exact heap_alloc_new w4 _
  have n1 : w5.heap[w4.heap.size + 1]? = some (.cells #[.slice ta st'.length tc, .slice pa os'.length pc] 28 (0, 0)) := by
    have := heap_alloc_new (w4.alloc (.cells #[.slice sa st.length sc, .slice oa os.length oc] 28)) (.cells #[.slice ta st'.length tc, .slice pa os'.length pc] 28)
    rw [sz1] at this; rw [hw5]; exact this
  have hz5 : w5.heap.size = w4.heap.size + 2 := by rw [hw5, sz1, sz1]
  have HB5 := Lib.hid (HB.out.trans (b45.mono HB.out.size))
  have O1 := Lib.hid (HO1b.out.belowMore b45 (Nat.le_refl _))
  have O2 := Lib.hid (HO2.out.belowMore b45 (Nat.le_refl _))
  have HWS := Lib.hid hw5
  have HZ4 := Lib.hid HB.out.size
  clear hw5 sz1 b45 HO1b HO2 HB
  rw [← HWS.out]
  clear HWS
  generalize hg1 : w4.heap.size + 1 = g1 at *
  generalize hgz : w4.heap.size = gz at *
  have m0 : w5.cell? ⟨gz, 0, none⟩ = some (.slice sa st.length sc) := by rw [cell_of_row w5 _ 0 _ _ _ n0]; rfl
  have m1 : w5.cell? ⟨gz, 1, none⟩ = some (.slice oa os.length oc) := by rw [cell_of_row w5 _ 1 _ _ _ n0]; rfl
  have m2 : w5.cell? ⟨g1, 0, none⟩ = some (.slice ta st'.length tc) := by rw [cell_of_row w5 _ 0 _ _ _ n1]; rfl
  have m3 : w5.cell? ⟨g1, 1, none⟩ = some (.slice pa os'.length pc) := by rw [cell_of_row w5 _ 1 _ _ _ n1]; rfl
  clear n0 n1
  go_upto_region 3 with (first | (go_at_call 23; first | (with_reducible refine (hps _).mono ?_; rintro _ _ ⟨rfl, rfl⟩) | (with_reducible refine (hpt _).mono ?_; rintro _ _ ⟨rfl, rfl⟩)))
  go_upto_region 4 with fail
  have hmk := HdS.made w5
  have ba := belA w5 (.cells Try.zeroCells44 44)
  rw [hz5] at hmk
  have m0' := (ba.cell (p := ⟨gz, 0, none⟩) (cell_lt m0)).trans m0
  have m1' := (ba.cell (p := ⟨gz, 1, none⟩) (cell_lt m1)).trans m1
  have m2' := (ba.cell (p := ⟨g1, 0, none⟩) (cell_lt m2)).trans m2
  have m3' := (ba.cell (p := ⟨g1, 1, none⟩) (cell_lt m3)).trans m3
  have ba2 : Below (gz + 2) w5 (w5.alloc (.cells Try.zeroCells44 44)) := by rw [← hz5]; exact ba
  have ba0 : Below gz w5 (w5.alloc (.cells Try.zeroCells44 44)) := ba2.mono (by omega)
  have P1 := Lib.hid (O1.out.belowMore ba0 (show gz ≤ gz + 2 by omega))
  have P2 := Lib.hid (O2.out.belowMore ba0 (show gz ≤ gz + 2 by omega))
  have HB6 := Lib.hid (HB5.out.trans (ba.mono HB5.out.size))
  clear m0 m1 m2 m3 ba ba0 ba2 O1 O2 HB5
  generalize w5.alloc (.cells Try.zeroCells44 44) = w6 at *
  have hl6 := hmk.lt
  have hgn1 : gz ≠ gz + 2 := by omega
  have hgn2 : g1 ≠ gz + 2 := by omega
  have HW := Lib.hid (show w.heap.size ≤ gz + 2 by have := HZ4.out; omega)
  generalize gz + 2 = gH at *
  have hol : os.length ≤ 6 := HM1.out.ol
  have hol' : os'.length ≤ 6 := HM2.out.ol
  clear hz5 hg1 hgz
  go_wp2_with fail
  go_loopg [32] os.length (fun g s32 wr => ∃ i : Nat, i ≤ os.length ∧ g = os.length - i ∧ s32 = .int .i64 i ∧ HdS wr gH (heldF (os.take i) s) ∧ w6.grownBy wr (some gH))
  case atStart => exact ⟨0, by omega, by omega, rfl, hmk, ⟨rfl, rfl, rfl, Nat.le_refl _, fun _ _ _ => rfl⟩⟩
  case round =>
    obtain ⟨i, hi, hg, rfl, hhd, hgr⟩ := hrel
    have hbH : Below gH w6 wr := below_of_grownBy hgr (Nat.le_of_lt hl6) (fun q e => by injection e with e; omega)
    clear hmk
    by_cases hlt : i < os.length
    · obtain ⟨b, off, hoA, hbl, q0, q1, q2⟩ := (P1.out.oc.belowMore hbH (Nat.le_refl _)).oc i hlt
      have hcm := HM1.out.oc os[i] (List.getElem_mem hlt)
      have HEND := Lib.hid (fun j => heldK_end hlt s j)
      generalize os[i] = c at *
      obtain ⟨ri, f, tt⟩ := c
      simp only at hcm q0 q1 q2
      obtain ⟨r, rfl⟩ : ∃ r : Nat, ri = r := ⟨ri.toNat, by omega⟩
      have hoA' : oa = some ⟨b, off, none⟩ := hoA
      subst hoA'
      have i0 : (0 : Int) ≤ (i : Int) := by omega
      have i1 : (i : Int) < (os.length : Int) := by omega
      have r0 : (0 : Int) ≤ (r : Int) := by omega
      have r1 : (r : Int) < 6 := by omega
      have hbx := belA wr (.cells #[.int .i64 r, .int .i64 f, .int .i64 tt] 46)
      have hnx := heap_alloc_new wr (.cells #[.int .i64 r, .int .i64 f, .int .i64 tt] 46)
      have hh7 := Lib.hid (hhd.below hbx)
      have hg7 := Lib.hid (hgr.trans (grownBy_of_below hbx (some gH)))
      have hltH := hhd.lt
      have sw1 : IntKind.i64.wrap (s + f) = s + f := IntWalk.i64_in _ (by omega)
      obtain ⟨kf, hkf⟩ : ∃ z, z = s + f := ⟨_, rfl⟩
      have HKF := Lib.hid hkf
      go_upto_region 7 with fail
      generalize hgx : wr.heap.size = gx at *
      have hne : gx ≠ gH := by omega
      clear q0 q1 q2 hbx hbH hhd hgr hgx
      generalize wr.alloc (.cells #[.int .i64 r, .int .i64 f, .int .i64 tt] 46) = w7 at *
      have c0 : w7.cell? ⟨gx, 0, none⟩ = some (.int .i64 r) := by rw [cell_of_row w7 _ 0 _ _ _ hnx]; rfl
      have c1 : w7.cell? ⟨gx, 1, none⟩ = some (.int .i64 f) := by rw [cell_of_row w7 _ 1 _ _ _ hnx]; rfl
      have c2 : w7.cell? ⟨gx, 2, none⟩ = some (.int .i64 tt) := by rw [cell_of_row w7 _ 2 _ _ _ hnx]; rfl
      clear hnx
      obtain ⟨W7, rfl⟩ : ∃ V : World, V = w7 := ⟨_, rfl⟩
      go_upto_region 8 with fail
      try rw [← hkf]
      clear hkf sw1
      go_loopg [16] (tt - f).toNat (fun g s16 wr => ∃ (z : Nat) (k : Int), z ≤ (tt - f).toNat ∧ g = (tt - f).toNat - z ∧ k = s + f + z ∧ s16 = .int .i64 k ∧ HdS wr gH (heldK (os.take i) ((r : Int), f, tt) s k) ∧ W7.grownBy wr (some gH))
      case atStart => exact ⟨0, kf, by omega, by omega, by have := HKF.out; omega, rfl, hh7.out.ext (fun j => by rw [HKF.out]; exact (heldK_start (os.take i) ((r : Int), f, tt) s j).symm), ⟨rfl, rfl, rfl, Nat.le_refl _, fun _ _ _ => rfl⟩⟩
      case round =>
        obtain ⟨z, k, hz, hg2, hk, rfl, hhd, hgr⟩ := hrel
        have HK := Lib.hid hk
        have x0 := grown_at hgr hne c0
        have x2 := grown_at hgr hne c2
        have hk1 : -5 ≤ k ∧ k ≤ 85 := by omega
        have sw2 : IntKind.i64.wrap (s + tt) = s + tt := IntWalk.i64_in _ (by omega)
        by_cases hlt2 : k < s + tt
        · obtain ⟨q, hq⟩ : ∃ q : Nat, (q : Int) = k + 10 := ⟨(k + 10).toNat, by omega⟩
          have hqb : q < 100 := by omega
          have hrb : r < 6 := by omega
          have hjb : r * 100 + q < 600 := by omega
          obtain ⟨y0, y1⟩ := hhd.cell hjb
          have HN := Lib.hid (hhd.set hjb (f' := heldK (os.take i) ((r : Int), f, tt) s (k + 1)) (fun j => by
            rw [heldK_step _ _ (show s + ((r : Int), f, tt).2.1 ≤ k by simp only; omega)]
            congr 1
            simp only
            rw [decide_eq_decide]
            omega))
          have HG := Lib.hid hgr
          have sw3 : IntKind.i64.wrap (k + 10) = (q : Int) := by rw [IntWalk.i64_in _ (by omega)]; omega
          have sw4 : IntKind.i64.wrap (k + 1) = k + 1 := IntWalk.i64_in _ (by omega)
          have q0 : (0 : Int) ≤ (q : Int) := by omega
          have q1 : (q : Int) < 100 := by omega
          clear hhd hgr hk hq
          go_wp2_with fail
          go_roundg ((tt - f).toNat - (z + 1))
          case measure => have := HK.out; omega
          case rel => exact ⟨z + 1, k + 1, by have := HK.out; omega, rfl, by have := HK.out; omega, rfl, HN.out, HG.out.trans (set_grown _ gH _ _)⟩
        · have hze : k = s + tt := by omega
          have HH := Lib.hid hhd
          have HG := Lib.hid (hg7.out.trans hgr)
          have HZE := Lib.hid hze
          clear hhd hgr hk hze
          go_wp2_with fail
          go_roundg (os.length - (i + 1))
          case measure => omega
          case rel => exact ⟨i + 1, by omega, rfl, by go_num, HH.out.ext (fun j => by rw [HZE.out]; exact HEND.out j), HG.out⟩
    · obtain rfl : i = os.length := by omega
      have hbz : Below w.heap.size w wr := HB6.out.grown hgr HB6.out.size (fun q e => by injection e with e; have := HW.out; omega)
      have HBW := Lib.hid hbz
      have HD := Lib.hid (hhd.ext (fun j => by rw [List.take_length]))
      have n0 := grown_at hgr hgn1 m0'
      have n1 := grown_at hgr hgn1 m1'
      have n2 := grown_at hgr hgn2 m2'
      have n3 := grown_at hgr hgn2 m3'
      have hzH : gH ≤ wr.heap.size := Nat.le_of_lt hhd.lt
      have Q1 := Lib.hid ((P1.out.belowMore hbH (Nat.le_refl _)).belowMore (Below.refl gH wr) hzH)
      have Q2 := Lib.hid ((P2.out.belowMore hbH (Nat.le_refl _)).belowMore (Below.refl gH wr) hzH)
      obtain ⟨W8, rfl⟩ : ∃ V : World, V = wr := ⟨_, rfl⟩
      clear hgr hhd hbH hbz m0' m1' m2' m3' P1 P2 HB6
      go_wp2_with fail
      go_loopg [17, 58] os'.length (fun g s17 s58 wr => ∃ i : Nat, i ≤ os'.length ∧ g = os'.length - i ∧ s58 = .int .i64 i ∧ s17 = .bool ((os'.take i).any fun d => anyN (heldF os s) (baseN d t) (lenN d)) ∧ Below W8.heap.size W8 wr)
      case atStart => exact ⟨0, by omega, by omega, rfl, rfl, Below.refl _ _⟩
      case round =>
        obtain ⟨i, hi, hg, rfl, rfl, hb⟩ := hrel
        by_cases hlt2 : i < os'.length
        · obtain ⟨b, off, hoA, hbl, q0, q1, q2⟩ := (Q2.out.oc.belowMore hb hb.size).oc i hlt2
          have hcm := HM2.out.oc os'[i] (List.getElem_mem hlt2)
          have HSN := Lib.hid (show ((os'.take (i + 1)).any fun d => anyN (heldF os s) (baseN d t) (lenN d)) = (((os'.take i).any fun d => anyN (heldF os s) (baseN d t) (lenN d)) || anyN (heldF os s) (baseN os'[i] t) (lenN os'[i])) by
            rw [List.take_succ_eq_append_getElem hlt2, List.any_append]; simp)
          generalize os'[i] = c at *
          obtain ⟨ri, f, tt⟩ := c
          simp only at hcm q0 q1 q2
          obtain ⟨r, rfl⟩ : ∃ r : Nat, ri = r := ⟨ri.toNat, by omega⟩
          have hoA' : pa = some ⟨b, off, none⟩ := hoA
          subst hoA'
          obtain ⟨acc, hacc⟩ : ∃ z, z = ((os'.take i).any fun d => anyN (heldF os s) (baseN d t) (lenN d)) := ⟨_, rfl⟩
          rw [← hacc] at HSN ⊢
          have i0 : (0 : Int) ≤ (i : Int) := by omega
          have i1 : (i : Int) < (os'.length : Int) := by omega
          have r0 : (0 : Int) ≤ (r : Int) := by omega
          have r1 : (r : Int) < 6 := by omega
          have hbx := belA wr (.cells #[.int .i64 r, .int .i64 f, .int .i64 tt] 46)
          have hnx := heap_alloc_new wr (.cells #[.int .i64 r, .int .i64 f, .int .i64 tt] 46)
          have hb9 := hb.trans (hbx.mono hb.size)
          have HB9 := Lib.hid hb9
          have HD9 := Lib.hid (HD.out.below hb9)
          have sw1 : IntKind.i64.wrap (t + f) = t + f := IntWalk.i64_in _ (by omega)
          obtain ⟨kf, hkf⟩ : ∃ z, z = t + f := ⟨_, rfl⟩
          have HKF := Lib.hid hkf
          go_upto_region 16 with fail
          generalize hgx : wr.heap.size = gx at *
          clear q0 q1 q2 hbx hgx hb hb9 hacc
          generalize wr.alloc (.cells #[.int .i64 r, .int .i64 f, .int .i64 tt] 46) = w9 at *
          have c0 : w9.cell? ⟨gx, 0, none⟩ = some (.int .i64 r) := by rw [cell_of_row w9 _ 0 _ _ _ hnx]; rfl
          have c1 : w9.cell? ⟨gx, 1, none⟩ = some (.int .i64 f) := by rw [cell_of_row w9 _ 1 _ _ _ hnx]; rfl
          have c2 : w9.cell? ⟨gx, 2, none⟩ = some (.int .i64 tt) := by rw [cell_of_row w9 _ 2 _ _ _ hnx]; rfl
          clear hnx
          obtain ⟨W9, rfl⟩ : ∃ V : World, V = w9 := ⟨_, rfl⟩
          go_upto_region 17 with fail
          try rw [← hkf]
          clear hkf sw1
          go_loopg [17, 20] (tt - f).toNat (fun g s17 s20 wr => ∃ (z : Nat) (k : Int), z ≤ (tt - f).toNat ∧ g = (tt - f).toNat - z ∧ k = t + f + z ∧ s20 = .int .i64 k ∧ s17 = .bool (acc || anyN (heldF os s) (baseN ((r : Int), f, tt) t) z) ∧ wr = W9)
          case atStart => exact ⟨0, kf, by omega, by omega, by have := HKF.out; omega, rfl, by simp [anyN], rfl⟩
          case round =>
            obtain ⟨z, k, hz, hg2, hk, rfl, rfl, hwr⟩ := hrel
            subst hwr
            have HK := Lib.hid hk
            have hk1 : -5 ≤ k ∧ k ≤ 85 := by omega
            have sw2 : IntKind.i64.wrap (t + tt) = t + tt := IntWalk.i64_in _ (by omega)
            obtain ⟨m, hm⟩ : ∃ m, m = (acc || anyN (heldF os s) (baseN ((r : Int), f, tt) t) z) := ⟨_, rfl⟩
            rw [← hm]
            by_cases hlt3 : k < t + tt
            · obtain ⟨q, hq⟩ : ∃ q : Nat, (q : Int) = k + 10 := ⟨(k + 10).toNat, by omega⟩
              have hqb : q < 100 := by omega
              have hrb : r < 6 := by omega
              have hjb : r * 100 + q < 600 := by omega
              obtain ⟨y0, y1⟩ := HD9.out.cell hjb
              have hbq : baseN ((r : Int), f, tt) t + z = r * 100 + q := by unfold baseN; simp only; omega
              have HN := Lib.hid (show (acc || anyN (heldF os s) (baseN ((r : Int), f, tt) t) (z + 1)) = (m || heldF os s (r * 100 + q)) by rw [anyN_succ, hm, hbq, Bool.or_assoc])
              have sw3 : IntKind.i64.wrap (k + 10) = (q : Int) := by rw [IntWalk.i64_in _ (by omega)]; omega
              have sw4 : IntKind.i64.wrap (k + 1) = k + 1 := IntWalk.i64_in _ (by omega)
              have q0 : (0 : Int) ≤ (q : Int) := by omega
              have q1 : (q : Int) < 100 := by omega
              generalize heldF os s (r * 100 + q) = hv at *
              clear hk hq hm hbq
              cases m with
              | true =>
                go_wp2_with fail
                go_roundg ((tt - f).toNat - (z + 1))
                case measure => have := HK.out; omega
                case rel => exact ⟨z + 1, k + 1, by have := HK.out; omega, rfl, by have := HK.out; omega, rfl, by rw [HN.out]; rfl, rfl⟩
              | false =>
                go_wp2_with fail
                go_roundg ((tt - f).toNat - (z + 1))
                case measure => have := HK.out; omega
                case rel => exact ⟨z + 1, k + 1, by have := HK.out; omega, rfl, by have := HK.out; omega, rfl, by rw [HN.out]; rfl, rfl⟩
            · have hze : z = lenN ((r : Int), f, tt) := by unfold lenN; simp only; omega
              have HV := Lib.hid (show ((os'.take (i + 1)).any fun d => anyN (heldF os s) (baseN d t) (lenN d)) = m by rw [HSN.out, hm, hze])
              clear hk hm hze
              go_wp2_with fail
              go_roundg (os'.length - (i + 1))
              case measure => omega
              case rel => exact ⟨i + 1, by omega, rfl, by go_num, by rw [HV.out], HB9.out⟩
        · have hie : i = os'.length := by omega
          have HME := Lib.hid (show ((os'.take i).any fun d => anyN (heldF os s) (baseN d t) (lenN d)) = meetB ⟨st, os⟩ s ⟨st', os'⟩ t by
            rw [hie, List.take_length]
            exact seconds_meet (a := ⟨st, os⟩) (b := ⟨st', os'⟩) HM1.out HM2.out s0 t0)
          rw [HME.out]
          have HMT := Lib.hid (fun V (b' : Below W8.heap.size W8 V) => dMeets_any sa sc st oa oc os s ta tc st' pa pc os' t V (Q1.out.st.belowMore b' b'.size) (Q1.out.oc.belowMore b' b'.size) Q1.out.sm Q1.out.om (Q2.out.st.belowMore b' b'.size) (Q2.out.oc.belowMore b' b'.size) Q2.out.sm Q2.out.om)
          have HB9 := Lib.hid hb
          have k0 := (hb.cell (p := ⟨gz, 0, none⟩) (cell_lt n0)).trans n0
          have k1 := (hb.cell (p := ⟨gz, 1, none⟩) (cell_lt n1)).trans n1
          have k2 := (hb.cell (p := ⟨g1, 0, none⟩) (cell_lt n2)).trans n2
          have k3 := (hb.cell (p := ⟨g1, 1, none⟩) (cell_lt n3)).trans n3
          generalize meetB ⟨st, os⟩ s ⟨st', os'⟩ t = mb at *
          clear hb hie n0 n1 n2 n3
          go_wp2_with fail
          refine (awake26_any _).mono ?_
          rintro e w10 ⟨rfl, hb10⟩
          replace k0 := (hb10.cell (p := ⟨gz, 0, none⟩) (cell_lt k0)).trans k0
          replace k1 := (hb10.cell (p := ⟨gz, 1, none⟩) (cell_lt k1)).trans k1
          replace k2 := (hb10.cell (p := ⟨g1, 0, none⟩) (cell_lt k2)).trans k2
          replace k3 := (hb10.cell (p := ⟨g1, 1, none⟩) (cell_lt k3)).trans k3
          have HB10 := Lib.hid (HB9.out.trans (hb10.mono HB9.out.size))
          clear hb10
          go_wp2_with fail
          refine (HMT.out w10 HB10.out).mono ?_
          rintro e w11 ⟨rfl, hb11⟩
          have HB11 := Lib.hid (HBW.out.trans ((HB10.out.trans (hb11.mono HB10.out.size)).mono HBW.out.size))
          clear hb11
          go_wp2_with fail
          go_ret
          exact ⟨ret_bool (by simp), HB11.out⟩
end Go.Proofs.Ytlillkfelfoafaa
