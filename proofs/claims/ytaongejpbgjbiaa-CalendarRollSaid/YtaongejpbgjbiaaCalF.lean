/-
  Contract of newPattern.
-/
import Derived.Test.YtaongejpbgjbiaaCalE
set_option linter.unusedVariables false
set_option linter.unusedSimpArgs false
namespace Go.Proofs.Ytaongejpbgjbiaa
open Go.RowKit RP

def PatPost (w : World) (res : Int) (dl al : List Int) (e : Ending) (w' : World) : Prop :=
  ∃ dv av, e = .returned (.tuple #[.agg #[.int .i64 res, dv, av], .bool true]) ∧ OwnN w' w.heap.size dv dl ∧ OwnN w' w.heap.size av al ∧ (∀ q, dv.ownBlock = some q → av.ownBlock ≠ some q) ∧ Below w.heap.size w w'

set_option maxRecDepth 100000 in
set_option maxHeartbeats 8000000 in
theorem newPat_any (T : Nat) (E : Option Addr) (cE : Nat) (A : Option Addr) (cA : Nat) (ev : List Evt) (l : List Acy) (B' : Option Addr) (cB : Nat) (ts : List Int) (line : Int) (R : Nat) (P Q : Nat → Nat) (D W : Nat → Int) (w : World)
    (he : Lst encE 3 w w.heap.size E ev) (hl : Lst encA 6 w w.heap.size A l) (ht : Lst encI 1 w w.heap.size B' ts) (hg : goodB T ev.length l ts = true) (hP : PatOk T ts ev l line R P Q D W) :
    Calls Try.prog 50 #[netV T E ev.length cE A l.length cA, .slice B' ts.length cB, .int .i64 line] w (PatPost w (ts.getD (P 0) 0) (depL D W R) (arrL D W R)) := by
  have hev : ev.length ≤ 48 := (netB_iff.1 (goodB_iff.1 hg).1).1.2.2.1
  have hR1 := hP.pos
  have hR2 := hP.le
  have HP := Lib.hid hP
  have HG := Lib.hid hg
  have ba := belA w (.cells #[.int .i64 T, .slice E ev.length cE, .slice A l.length cA] 43)
  have hnew := heap_alloc_new w (.cells #[.int .i64 T, .slice E ev.length cE, .slice A l.length cA] 43)
  have bb := belA (w.alloc (.cells #[.int .i64 T, .slice E ev.length cE, .slice A l.length cA] 43)) (.cells #[.int .i64 0, .slice none 0 0, .slice none 0 0] 84)
  have hnew2 := heap_alloc_new (w.alloc (.cells #[.int .i64 T, .slice E ev.length cE, .slice A l.length cA] 43)) (.cells #[.int .i64 0, .slice none 0 0, .slice none 0 0] 84)
  have z0 : (w.alloc (.cells #[.int .i64 T, .slice E ev.length cE, .slice A l.length cA] 43)).heap.size = w.heap.size + 1 := by simp
  have z1 : ((w.alloc (.cells #[.int .i64 T, .slice E ev.length cE, .slice A l.length cA] 43)).alloc (.cells #[.int .i64 0, .slice none 0 0, .slice none 0 0] 84)).heap.size = w.heap.size + 2 := by rw [World.size_alloc, z0]
  have h0 := (bb.block w.heap.size (by omega)).trans hnew
  rw [z0] at hnew2
  have hB0 := ba.trans (bb.mono ba.size)
  clear hg hP hnew ba bb
  go_enter Try.func50, Try.ntmps50
  go_wp2_with fail
  generalize (w.alloc (.cells #[.int .i64 T, .slice E ev.length cE, .slice A l.length cA] 43)).alloc (.cells #[.int .i64 0, .slice none 0 0, .slice none 0 0] 84) = w0 at *
  clear z0
  go_loopg [8] R (fun g s8 wr => ∃ k : Nat, k < R ∧ g = R - k ∧ s8 = .int .i64 k ∧ Below w0.heap.size w0 wr)
  case atStart => exact ⟨0, by omega, by omega, rfl, Below.refl _ _⟩
  case round =>
    obtain ⟨k, hk, hg', rfl, hb⟩ := hrel
    have zr := hb.size
    have hbw := hB0.trans (hb.mono (by omega))
    have n0 : wr.cell? ⟨w.heap.size, 0, none⟩ = some (.int .i64 T) := by rw [cell_of_row wr _ 0 _ _ _ ((hb.block w.heap.size (by omega)).trans h0)]; rfl
    have n1 : wr.cell? ⟨w.heap.size, 1, none⟩ = some (.slice E ev.length cE) := by rw [cell_of_row wr _ 1 _ _ _ ((hb.block w.heap.size (by omega)).trans h0)]; rfl
    have n2 : wr.cell? ⟨w.heap.size, 2, none⟩ = some (.slice A l.length cA) := by rw [cell_of_row wr _ 2 _ _ _ ((hb.block w.heap.size (by omega)).trans h0)]; rfl
    have hidx := netIdx_any 1 line ((k : Int) + 1) T E cE A l.length cA ev wr (he.belowMore hbw (by omega)) (by omega)
    have HB := Lib.hid hb
    have HH0 := Lib.hid h0
    have HH1 := Lib.hid hnew2
    have HB0 := Lib.hid hB0
    clear hb hbw h0 hnew2 hB0
    by_cases hlt : k + 1 < R
    · have hd := HP.out.dep (k + 1) hlt
      rw [show ((k + 1 : Nat) : Int) = (k : Int) + 1 by omega] at hd
      rw [hd] at hidx
      clear hd
      go_wp2_with fail
      refine hidx.mono ?_
      rintro e w1 ⟨rfl, hb1⟩
      have HB1 := Lib.hid (HB.out.trans (hb1.mono HB.out.size))
      clear hb1 hidx
      go_wp2_with fail
      go_roundg (R - (k + 1))
      case measure => omega
      case rel => exact ⟨k + 1, by omega, rfl, by go_num, HB1.out⟩
    · have hd := HP.out.stop
      rw [show ((R : Nat) : Int) = (k : Int) + 1 by omega] at hd
      rw [hd] at hidx
      clear hd
      go_wp2_with fail
      refine hidx.mono ?_
      rintro e w1 ⟨rfl, hb1⟩
      have hB1 := HB.out.trans (hb1.mono HB.out.size)
      obtain rfl : R = k + 1 := by omega
      clear hb1 hidx n0 n1 n2
      have zp := hB1.size
      have bp := belA w1 (.cells #[.int .i64 0, .slice none 0 0, .slice none 0 0] 84)
      have hpc := heap_alloc_new w1 (.cells #[.int .i64 0, .slice none 0 0, .slice none 0 0] 84)
      have hPS : PS w (w1.alloc (.cells #[.int .i64 0, .slice none 0 0, .slice none 0 0] 84)) w.heap.size w1.heap.size T E ev.length cE A l.length cA 0 (.slice none 0 0) (.slice none 0 0) [] [] :=
        ⟨((hB1.trans (bp.mono hB1.size)).block w.heap.size (by omega)).trans HH0.out, ((hB1.trans (bp.mono hB1.size)).block (w.heap.size + 1) (by omega)).trans HH1.out, hpc, Own.nil _ _ _ _ _, Own.nil _ _ _ _ _, (fun _ h => by cases h),
          HB0.out.trans ((hB1.trans (bp.mono hB1.size)).mono (by omega)), by simp, by omega⟩
      clear hB1 bp hpc HB HH0 HH1 HB0
      go_wp2_with fail
      generalize w1.alloc (.cells #[.int .i64 0, .slice none 0 0, .slice none 0 0] 84) = w2 at *
      generalize hgp : w1.heap.size = gp at *
      clear hgp
      have hP := HP.out
      go_loopg [10, 11, 12, 13, 14, 15, 16, 17, 18, 30, 57, 77] (k + 1) (fun g s10 s11 s12 s13 s14 s15 s16 s17 s18 s30 s57 s77 wr => ∃ (r : Nat) (res : Int) (dv av : Value), r ≤ k + 1 ∧ g = k + 1 - r ∧ s30 = .int .i64 r ∧ s10 = .int .i64 (nowB D W r) ∧ (0 < r → s11 = .int .i64 (Q (r - 1)) ∧ res = ts.getD (P 0) 0) ∧ PS w wr w.heap.size gp T E ev.length cE A l.length cA res dv av (depL D W r) (arrL D W r))
      case atStart => exact ⟨0, 0, _, _, by omega, by omega, rfl, rfl, by omega, hPS⟩
      case round =>
        obtain ⟨r, res, dv, av, hr, hg', rfl, rfl, hr0, hPS⟩ := hrel
        have hnb := hP.nB HG.out r hr
        by_cases hlt : r < k + 1
        · obtain ⟨⟨n0, n1, n2⟩, _⟩ := hPS.cells
          have hbw := hPS.bel
          have hid := netIdx_any 1 line r T E cE A l.length cA ev wr (he.belowMore hbw hbw.size) (by omega)
          rw [hP.dep r hlt] at hid
          have H0 := Lib.hid hr0
          have HPS := Lib.hid hPS
          clear hbw hPS hr0
          go_wp2_with fail
          refine hid.mono ?_
          rintro e w3 ⟨rfl, hb3⟩
          have hPS3 := HPS.out.below hb3
          obtain ⟨⟨m0, m1, m2⟩, _⟩ := hPS3.cells
          have hia := netIdx_any 2 line r T E cE A l.length cA ev w3 (he.belowMore hPS3.bel hPS3.bel.size) (by omega)
          rw [hP.arr r hlt] at hia
          have HPS3 := Lib.hid hPS3
          clear hb3 hid hPS3 n0 n1 n2
          go_wp2_with fail
          refine hia.mono ?_
          rintro e w4 ⟨rfl, hb4⟩
          have hPS4 := HPS3.out.below hb4
          obtain ⟨⟨n0, n1, n2⟩, p0, p1, p2, pf⟩ := hPS4.cells
          have pf0 := pf 0
          have HPS4 := Lib.hid hPS4
          clear hb4 hia hPS4 m0 m1 m2 pf
          go_upto_if 51 with fail
          go_cut [10, 15, 16, 57] (fun s10 s15 s16 s57 wx => s10 = .int .i64 (depO D W r) ∧ PS w wx w.heap.size gp T E ev.length cE A l.length cA (ts.getD (P 0) 0) dv av (depL D W r) (arrL D W r))
          case first =>
            rcases Nat.eq_zero_or_pos r with hz | hz
            · subst hz
              have hlen := (goodB_iff.1 HG.out).2.1
              have hp0 := fidx_lt (hP.dep 0 hlt)
              have htr := ht.below HPS4.out.bel
              obtain ⟨b, off, rfl, hbb, x0⟩ := htr.it (P 0) (by omega)
              have HX := Lib.hid (show ts.getD (P 0) 0 = ts[P 0]'(by omega) by simp [hlen, hp0])
              have i0 : (0 : Int) ≤ (P 0 : Int) := by omega
              have i1 : (P 0 : Int) < (ts.length : Int) := by omega
              have HDO := Lib.hid (show nowB D W 0 = depO D W 0 by simp [depO, nowB])
              have HPX := Lib.hid (HPS4.out.setRes (ts.getD (P 0) 0))
              rw [← HX.out] at x0
              clear HX hlen hp0 htr H0
              go_wp2_with fail
              go_meet
              exact ⟨by rw [HDO.out], HPX.out⟩
            · obtain ⟨r, rfl⟩ : ∃ r', r = r' + 1 := ⟨r - 1, by omega⟩
              obtain ⟨h11, hrs⟩ := H0.out (by omega)
              have h11' : u11 = .int .i64 (Q r) := h11
              clear h11 H0
              subst h11' hrs
              obtain ⟨a, ha, hda⟩ := hP.dwell r hlt
              have hcd := calDur_any T ev.length E cE A cA l B' cB ts 2 (Q r) (P (r + 1)) a w4 (hl.belowMore HPS4.out.bel HPS4.out.bel.size) (ht.belowMore HPS4.out.bel HPS4.out.bel.size) HG.out ha
              rw [hda] at hcd
              have hdb := hP.dB HG.out r hlt
              have HDO := Lib.hid (show nowB D W (r + 1) + D (r + 1) = depO D W (r + 1) by simp [depO])
              have hne : ¬ ((r : Int) + 1 = 0) := by omega
              have d1 : (((r + 1 : Nat) : Int) == 0) = false := by simp; omega
              generalize D (r + 1) = dd at *
              generalize nowB D W (r + 1) = nn at *
              clear ha hda
              go_wp2_with fail
              refine hcd.mono ?_
              rintro e w5 ⟨rfl, hb5⟩
              have HPX := Lib.hid (HPS4.out.below hb5)
              clear hb5 hcd
              go_wp2_with fail
              go_meet
              exact ⟨by rw [HDO.out], HPX.out⟩
          case rest =>
            obtain ⟨rfl, hPS5⟩ := hcut
            have hnb1 := hP.nB HG.out (r + 1) (by omega)
            have hwb := hP.wB HG.out r hlt
            have hno : depO D W r + W r = nowB D W (r + 1) := rfl
            have hd1 : -100000000 ≤ depO D W r := by omega
            have hd2 : depO D W r ≤ 100000000 := by omega
            have HNO := Lib.hid hno
            have HDL := Lib.hid (depL_succ D W r)
            have HAL := Lib.hid (arrL_succ D W r)
            have hll : (depL D W r).length ≤ 48 := by rw [depL_len]; omega
            have hla : (arrL D W r).length ≤ 48 := by rw [arrL_len]; omega
            obtain ⟨_, q0, q1, q2, qf⟩ := hPS5.cells
            have qf1 := qf 1
            have hgt := hPS5.lt
            obtain ⟨a, ha, hda⟩ := hP.run r hlt
            have hwn1 : -100000000 ≤ W r := by omega
            have hwn2 : W r ≤ 100000000 := by omega
            generalize hdv : depO D W r = dn at *
            generalize W r = wn at *
            have HPS5 := Lib.hid hPS5
            have HDA := Lib.hid hda
            clear hno hnb1 hwb qf hPS5 hdv HPS4 HPS3 HPS H0 n0 n1 n2 p0 p1 p2 pf0 hda
            go_wp2_with (at_builtin; refine Stp.put ?_)
            refine Stp.out ?_
            refine wpList_append_rec rfl _ _ 29 rfl (gp + 1) 3 8 Try.underlying29 elemN _ (depL D W r) rfl HPS5.out.dep [dn] _ rfl 1 1 rfl rfl (by simp only [Go.maxLen, List.length_cons, List.length_nil]; omega) (by simp only [List.length_cons, List.length_nil]; omega) (by omega) ?_
            intro v6 w6 ho6 hg6 hat6
            obtain ⟨k1, k2, k3, k4, k5⟩ := HPS5.out.kept hg6 (fun q e => (World.ownsRow.lt HPS5.out.dep q e).1)
            have t1 : w6.cell? ⟨gp, 1, none⟩ = some dv := by rw [cell_of_row w6 _ 1 _ _ _ k3]; rfl
            have tf : w6.frozen? ⟨gp, 1, none⟩ = false := by simp [World.frozen?, k3]
            rw [HDL.out] at ho6
            obtain ⟨A6, c6, rfl⟩ := ho6.form
            generalize hLL : (depL D W (r + 1)).length = LL at *
            have HLL := Lib.hid hLL
            clear hLL
            have hPS7 := HPS5.out.depPut hg6 ho6 (hat6.imp id fun e => ⟨_, e, by omega⟩)
            have HPS7 := Lib.hid hPS7
            clear hPS7 k1 k2 k3 k4 k5 ho6 hg6 hat6 HPS5 HDL qf1 hgt q0 q1 q2
            go_upto_region 20 with fail
            generalize w6.setCell ⟨gp, 1, none⟩ (.slice A6 LL c6) = w7 at *
            have hPS7 := HPS7.out
            obtain ⟨⟨n0, n1, n2⟩, _⟩ := hPS7.cells
            have hcd := calDur_any T ev.length E cE A cA l B' cB ts 1 (P r) (Q r) a w7 (hl.belowMore hPS7.bel hPS7.bel.size) (ht.belowMore hPS7.bel hPS7.bel.size) HG.out ha
            rw [HDA.out] at hcd
            have HCD := Lib.hid hcd
            clear hPS7 hcd ha t1 tf
            go_wp2_with fail
            refine HCD.out.mono ?_
            rintro e w8 ⟨rfl, hb8⟩
            have hPS8 := HPS7.out.below hb8
            clear hb8 HPS7 HCD n0 n1 n2
            obtain ⟨_, q0, q1, q2, qf⟩ := hPS8.cells
            have qf2 := qf 2
            have hgt := hPS8.lt
            have HPS8 := Lib.hid hPS8
            clear hPS8 qf
            go_wp2_with (at_builtin; refine Stp.put ?_)
            refine Stp.out ?_
            refine wpList_append_rec rfl _ _ 29 rfl (gp + 1) 3 8 Try.underlying29 elemN _ (arrL D W r) rfl HPS8.out.arr [dn + wn] _ rfl 1 1 rfl rfl (by simp only [Go.maxLen, List.length_cons, List.length_nil]; omega) (by simp only [List.length_cons, List.length_nil]; omega) (by omega) ?_
            intro v6 w9 ho6 hg6 hat6
            obtain ⟨k1, k2, k3, k4, k5⟩ := HPS8.out.kept hg6 (fun q e => (World.ownsRow.lt HPS8.out.arr q e).1)
            have t1 : w9.cell? ⟨gp, 2, none⟩ = some av := by rw [cell_of_row w9 _ 2 _ _ _ k3]; rfl
            have tf : w9.frozen? ⟨gp, 2, none⟩ = false := by simp [World.frozen?, k3]
            rw [HNO.out, HAL.out] at ho6
            obtain ⟨A7, c7, rfl⟩ := ho6.form
            generalize hLL : (arrL D W (r + 1)).length = LM at *
            have HLM := Lib.hid hLL
            have HPS9 := Lib.hid (HPS8.out.arrPut hg6 ho6 (hat6.imp id fun e => ⟨_, e, by omega⟩))
            have HN1 := Lib.hid (show r + 1 - 1 = r by omega)
            clear hLL k1 k2 k3 k4 k5 ho6 hg6 hat6 HPS8 HAL qf2 hgt q0 q1 q2
            go_wp2_with fail
            go_roundg (k + 1 - (r + 1))
            case measure => omega
            case rel => exact ⟨r + 1, _, _, _, by omega, rfl, by go_num, by rw [← HNO.out], fun _ => ⟨by rw [HN1.out], rfl⟩, HPS9.out⟩
        · obtain rfl : r = k + 1 := by omega
          have hres := (hr0 (by omega)).2
          subst hres
          obtain ⟨_, q0, q1, q2, qf⟩ := hPS.cells
          have hrc := hPS.rc
          have r0 : wr.cell? ⟨w.heap.size + 1, 0, none⟩ = some (.int .i64 0) := by rw [cell_of_row wr _ 0 _ _ _ hrc]; rfl
          have r1 : wr.cell? ⟨w.heap.size + 1, 1, none⟩ = some (.slice none 0 0) := by rw [cell_of_row wr _ 1 _ _ _ hrc]; rfl
          have r2 : wr.cell? ⟨w.heap.size + 1, 2, none⟩ = some (.slice none 0 0) := by rw [cell_of_row wr _ 2 _ _ _ hrc]; rfl
          have rf0 : wr.frozen? ⟨w.heap.size + 1, 0, none⟩ = false := by simp [World.frozen?, hrc]
          have rf1 : wr.frozen? ⟨w.heap.size + 1, 1, none⟩ = false := by simp [World.frozen?, hrc]
          have rf2 : wr.frozen? ⟨w.heap.size + 1, 2, none⟩ = false := by simp [World.frozen?, hrc]
          obtain ⟨A1, c1, rfl⟩ := hPS.dep.form
          obtain ⟨A2, c2, rfl⟩ := hPS.arr.form
          have HRES := Lib.hid (set_block' (o := 2) (.slice A2 (arrL D W (k + 1)).length c2) (set_block' (o := 1) (.slice A1 (depL D W (k + 1)).length c1) (set_block' (o := 0) (.int .i64 (ts.getD (P 0) 0)) hrc)))
          have HPS := Lib.hid hPS
          clear hrc hPS qf
          go_wp2_with fail
          refine bodyPost_ret (results_cell_tmp rfl _ _ (w.heap.size + 1) 84 _ _ _ rfl HRES.out Try.underlying84 rfl (by kernel_rfl) (.bool true) rfl) rfl ?_
          have hps := HPS.out
          have hgt := hps.gt
          refine ⟨_, _, rfl, ?_, ?_, hps.sep, ?_⟩
          · exact (((hps.dep.setBelow (a := ⟨w.heap.size + 1, _, none⟩) (show w.heap.size + 1 < gp + 1 by omega) _).setBelow (a := ⟨w.heap.size + 1, _, none⟩) (show w.heap.size + 1 < gp + 1 by omega) _).setBelow (a := ⟨w.heap.size + 1, _, none⟩) (show w.heap.size + 1 < gp + 1 by omega) _).rebase (by omega)
          · exact (((hps.arr.setBelow (a := ⟨w.heap.size + 1, _, none⟩) (show w.heap.size + 1 < gp + 1 by omega) _).setBelow (a := ⟨w.heap.size + 1, _, none⟩) (show w.heap.size + 1 < gp + 1 by omega) _).setBelow (a := ⟨w.heap.size + 1, _, none⟩) (show w.heap.size + 1 < gp + 1 by omega) _).rebase (by omega)
          · exact ((hps.bel.setCell (p := ⟨w.heap.size + 1, _, none⟩) (show w.heap.size ≤ w.heap.size + 1 by omega) _).setCell (p := ⟨w.heap.size + 1, _, none⟩) (show w.heap.size ≤ w.heap.size + 1 by omega) _).setCell (p := ⟨w.heap.size + 1, _, none⟩) (show w.heap.size ≤ w.heap.size + 1 by omega) _

end Go.Proofs.Ytaongejpbgjbiaa
