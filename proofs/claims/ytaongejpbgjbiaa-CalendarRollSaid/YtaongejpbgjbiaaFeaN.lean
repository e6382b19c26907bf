/-
  Contracts of network.First and Feasible.
-/
import Derived.Test.YtaongejpbgjbiaaFeaW
import Derived.Deep.RegionHeld3
import Derived.Deep.DrawnRows
set_option linter.unusedVariables false
set_option linter.unusedSimpArgs false
namespace Go.Proofs.Ytaongejpbgjbiaa
open Go.RowKit RP
attribute [local go_sem ↓] Go.wp_at_zero Go.wp_at_succ

set_option maxRecDepth 100000 in
set_option maxHeartbeats 8000000 in
theorem netFirst_any (T : Nat) (E : Option Addr) (m cE : Nat) (A : Option Addr) (cA : Nat) (l : List Acy) (B : Option Addr) (cB : Nat) (ts : List Int) (w : World) (hl : Lst encA 6 w w.heap.size A l) (hn : l.length ≤ 9223372036854775807) (ht : Lst encI 1 w w.heap.size B ts) (hn' : ts.length ≤ 9223372036854775807) :
    Calls Try.prog 59 #[netV T E m cE A l.length cA, .slice B ts.length cB] w (FirstPost (goodB T m l ts && !feasB T m l ts) w) := by
  have ba := belA w (.cells #[.int .i64 T, .slice E m cE, .slice A l.length cA] 43)
  have hnew := heap_alloc_new w (.cells #[.int .i64 T, .slice E m cE, .slice A l.length cA] 43)
  go_enter Try.func59, Try.ntmps59
  go_wp2_with fail
  refine (good_any T E m cE A cA l B cB ts _ (hl.belowMore ba (by simp)) hn (ht.belowMore ba (by simp)) hn').mono ?_
  rintro e w1 ⟨rfl, hb⟩
  rw [World.size_alloc] at hb
  have hbl := (hb.block w.heap.size (by omega)).trans hnew
  have HB := Lib.hid (ba.trans (hb.mono (by omega)))
  have z1 : w.heap.size < w1.heap.size := by have := hb.size; rw [World.size_alloc] at this; omega
  have HBL := Lib.hid hbl
  have q2 : w1.cell? ⟨w.heap.size, 2, none⟩ = some (.slice A l.length cA) := by rw [cell_of_row w1 _ 2 _ _ _ hbl]; rfl
  clear ba hb hnew hbl
  cases hg : goodB T m l ts with
  | false =>
    have HG := Lib.hid hg
    clear hg
    go_wp2_with fail
    go_ret2
    exact ⟨0, by rw [HG.out]; rfl, HB.out⟩
  | true =>
    obtain ⟨hnet, hlen, hts⟩ := goodB_iff.1 hg
    obtain ⟨⟨h1, h2, _, h3⟩, hok⟩ := netB_iff.1 hnet
    have HG := Lib.hid hg
    have HTS := Lib.hid hts
    have HLEN := Lib.hid hlen
    have HOK := Lib.hid hok
    have h48 : ts.length ≤ 48 := by omega
    clear hg hnet hlen hts hok
    go_wp2_with fail
    go_loopg [6, 7, 15] l.length (fun g s6 s7 s15 wr => ∃ k : Nat, k ≤ l.length ∧ g = l.length - k ∧ s15 = .int .i64 k ∧ okTo T ts l k = true ∧ Below w1.heap.size w1 wr)
    case atStart => exact ⟨0, by omega, by omega, rfl, rfl, Below.refl _ _⟩
    case round =>
      obtain ⟨k, hk, hg, rfl, hv, hbr⟩ := hrel
      have HV := Lib.hid hv
      clear hv
      have hblk := (hbr.block w.heap.size z1).trans HBL.out
      have n0 : wr.cell? ⟨w.heap.size, 0, none⟩ = some (.int .i64 T) := by rw [cell_of_row wr _ 0 _ _ _ hblk]; rfl
      have n1 : wr.cell? ⟨w.heap.size, 1, none⟩ = some (.slice E m cE) := by rw [cell_of_row wr _ 1 _ _ _ hblk]; rfl
      have n2 : wr.cell? ⟨w.heap.size, 2, none⟩ = some (.slice A l.length cA) := by rw [cell_of_row wr _ 2 _ _ _ hblk]; rfl
      have hzr : w.heap.size < wr.heap.size := by have := hbr.size; omega
      clear hblk
      by_cases hlt : k < l.length
      · have hlr := hl.below (HB.out.trans (hbr.mono (by omega)))
        obtain ⟨b, off, rfl, hbb, a0, a1, a2, a3, a4, a5⟩ := hlr.ac k hlt
        have hbbr : b < wr.heap.size := by omega
        have htr := ht.belowMore (HB.out.trans (hbr.mono (by omega))) (show w.heap.size ≤ wr.heap.size by omega)
        have HNO := Lib.hid (fun h => feas_no (T := T) (m := m) (ts := ts) hlt h)
        have HYES := Lib.hid (okTo_succ (T := T) (ts := ts) hlt)
        have hoka := HOK.out l[k] (List.getElem_mem hlt)
        have HBR := Lib.hid hbr
        generalize l[k] = a at *
        have hlasts := fun W (hW : Below (wr.alloc (.cells #[.int .i64 a.kind, .int .i64 a.src, .int .i64 a.dst, .int .i64 a.lo, .int .i64 a.hi, .int .i64 a.wt] 60)).heap.size (wr.alloc (.cells #[.int .i64 a.kind, .int .i64 a.src, .int .i64 a.dst, .int .i64 a.lo, .int .i64 a.hi, .int .i64 a.wt] 60)) W) => netDur_any T m E cE (some ⟨b, off, none⟩) l.length cA B cB ts a W ((htr.belowMore (belA wr _) (belA wr _).size).belowMore hW hW.size) (by omega) (by omega) HTS.out HLEN.out hoka
        have HLS := Lib.hid hlasts
        obtain ⟨dq, hdq⟩ : ∃ q : Int, a.lo + overI T ts a = q := ⟨_, rfl⟩
        rw [hdq] at hlasts HLS
        have HDQ := Lib.hid hdq
        have i0 : (0 : Int) ≤ (k : Int) := by omega
        have i1 : (k : Int) < (l.length : Int) := by omega
        clear hlasts hlr htr hbr hdq hoka ht
        have ba := belA wr (.cells #[.int .i64 a.kind, .int .i64 a.src, .int .i64 a.dst, .int .i64 a.lo, .int .i64 a.hi, .int .i64 a.wt] 60)
        have hna := heap_alloc_new wr (.cells #[.int .i64 a.kind, .int .i64 a.src, .int .i64 a.dst, .int .i64 a.lo, .int .i64 a.hi, .int .i64 a.wt] 60)
        have m0 := (ba.cell (p := ⟨w.heap.size, 0, none⟩) hzr).trans n0
        have m1 := (ba.cell (p := ⟨w.heap.size, 1, none⟩) hzr).trans n1
        have m2 := (ba.cell (p := ⟨w.heap.size, 2, none⟩) hzr).trans n2
        have hza : (wr.alloc (.cells #[.int .i64 a.kind, .int .i64 a.src, .int .i64 a.dst, .int .i64 a.lo, .int .i64 a.hi, .int .i64 a.wt] 60)).heap.size = wr.heap.size + 1 := by simp
        have HBA := Lib.hid ba
        go_upto_region 6 with fail
        generalize wr.alloc (.cells #[.int .i64 a.kind, .int .i64 a.src, .int .i64 a.dst, .int .i64 a.lo, .int .i64 a.hi, .int .i64 a.wt] 60) = wA at *
        have y0 : wA.cell? ⟨wr.heap.size, 0, none⟩ = some (.int .i64 a.kind) := by rw [cell_of_row wA _ 0 _ _ _ hna]; rfl
        have y1 : wA.cell? ⟨wr.heap.size, 1, none⟩ = some (.int .i64 a.src) := by rw [cell_of_row wA _ 1 _ _ _ hna]; rfl
        have y2 : wA.cell? ⟨wr.heap.size, 2, none⟩ = some (.int .i64 a.dst) := by rw [cell_of_row wA _ 2 _ _ _ hna]; rfl
        have y3 : wA.cell? ⟨wr.heap.size, 3, none⟩ = some (.int .i64 a.lo) := by rw [cell_of_row wA _ 3 _ _ _ hna]; rfl
        have y4 : wA.cell? ⟨wr.heap.size, 4, none⟩ = some (.int .i64 a.hi) := by rw [cell_of_row wA _ 4 _ _ _ hna]; rfl
        have y5 : wA.cell? ⟨wr.heap.size, 5, none⟩ = some (.int .i64 a.wt) := by rw [cell_of_row wA _ 5 _ _ _ hna]; rfl
        have hB : Below wA.heap.size wA wA.drew := (Below.refl _ _).drew
        have hzA : w.heap.size < wA.heap.size := by omega
        have hzB : wr.heap.size < wA.heap.size := by omega
        generalize hgr : wr.heap.size = gr at *
        have HGR := Lib.hid hgr
        clear ba hna n0 n1 n2 hgr hza
        go_cut [26] (fun s26 wx => s26 = .bool (decide (a.hi < dq)) ∧ Below wA.heap.size wA wx)
        case first =>
          go_region_held3 (fun w' => w'.cell? ⟨w.heap.size, 0, none⟩ = some (.int .i64 T) ∧ w'.cell? ⟨w.heap.size, 1, none⟩ = some (.slice E m cE) ∧ w'.cell? ⟨w.heap.size, 2, none⟩ = some (.slice (some ⟨b, off, none⟩) l.length cA) ∧ w'.cell? ⟨gr, 0, none⟩ = some (.int .i64 a.kind) ∧ w'.cell? ⟨gr, 1, none⟩ = some (.int .i64 a.src) ∧ w'.cell? ⟨gr, 2, none⟩ = some (.int .i64 a.dst) ∧ w'.cell? ⟨gr, 3, none⟩ = some (.int .i64 a.lo) ∧ w'.cell? ⟨gr, 4, none⟩ = some (.int .i64 a.hi) ∧ w'.cell? ⟨gr, 5, none⟩ = some (.int .i64 a.wt))
            (exact ⟨(hB.cell (p := ⟨w.heap.size, 0, none⟩) hzA).trans m0, (hB.cell (p := ⟨w.heap.size, 1, none⟩) hzA).trans m1, (hB.cell (p := ⟨w.heap.size, 2, none⟩) hzA).trans m2, (hB.cell (p := ⟨gr, 0, none⟩) hzB).trans y0, (hB.cell (p := ⟨gr, 1, none⟩) hzB).trans y1, (hB.cell (p := ⟨gr, 2, none⟩) hzB).trans y2, (hB.cell (p := ⟨gr, 3, none⟩) hzB).trans y3, (hB.cell (p := ⟨gr, 4, none⟩) hzB).trans y4, (hB.cell (p := ⟨gr, 5, none⟩) hzB).trans y5⟩)
            ((go_at_call 78; (with_reducible refine (HLS.out _ hB).mono ?_); rintro e w' ⟨rfl, hb'⟩; replace hB := hB.trans (hb'.mono hB.size)))
          all_goals
            go_wp2_with fail
            go_meet
            exact ⟨rfl, hB⟩
        case rest =>
          obtain ⟨rfl, hbc⟩ := hcut
          have HBC := Lib.hid (HBR.out.trans ((HBA.out.trans (hbc.mono (by omega))).mono (by have := HBR.out.size; have := HGR.out; omega)))
          clear hbc hB m0 m1 m2 a0 a1 a2 a3 a4 a5 y0 y1 y2 y3 y4 y5
          by_cases hq : a.hi < dq
          · have hd := decide_eq_true hq
            have HN := Lib.hid (HNO.out (by rw [HDQ.out, decide_eq_false_iff_not]; omega))
            go_wp2_with fail
            go_ret2
            exact ⟨k, by rw [HG.out, HN.out]; rfl, HB.out.trans (HBC.out.mono (by omega))⟩
          · have hd := decide_eq_false hq
            go_wp2_with fail
            go_roundg (l.length - (k + 1))
            case measure => omega
            case rel => exact ⟨k + 1, by omega, rfl, by go_num, by rw [HYES.out, HV.out, HDQ.out, Bool.true_and, decide_eq_true_eq]; omega, HBC.out⟩
      · have HF := Lib.hid (show feasB T m l ts = true by rw [feas_all HG.out (show l.length ≤ k by omega)]; exact HV.out)
        go_wp2_with fail
        go_ret2
        exact ⟨0, by rw [HG.out, HF.out]; rfl, HB.out.trans (hbr.mono (by omega))⟩

set_option maxRecDepth 100000 in
set_option maxHeartbeats 4000000 in
theorem netFeas_any (T : Nat) (E : Option Addr) (m cE : Nat) (A : Option Addr) (cA : Nat) (l : List Acy) (B : Option Addr) (cB : Nat) (ts : List Int) (w : World) (hl : Lst encA 6 w w.heap.size A l) (hn : l.length ≤ 9223372036854775807) (ht : Lst encI 1 w w.heap.size B ts) (hn' : ts.length ≤ 9223372036854775807) :
    Calls Try.prog 48 #[netV T E m cE A l.length cA, .slice B ts.length cB] w fun e w' => e = .returned (.bool (feasB T m l ts)) ∧ Below w.heap.size w w' := by
  have ba := belA w (.cells #[.int .i64 T, .slice E m cE, .slice A l.length cA] 43)
  have hnew := heap_alloc_new w (.cells #[.int .i64 T, .slice E m cE, .slice A l.length cA] 43)
  go_enter Try.func48, Try.ntmps48
  go_wp2_with fail
  refine (netFirst_any T E m cE A cA l B cB ts _ (hl.belowMore ba (by simp)) hn (ht.belowMore ba (by simp)) hn').mono ?_
  rintro e w1 ⟨i, rfl, hb⟩
  rw [World.size_alloc] at hb
  have hbl := (hb.block w.heap.size (by omega)).trans hnew
  have hB := ba.trans (hb.mono (show w.heap.size ≤ w.heap.size + 1 by omega))
  have z1 : w.heap.size < w1.heap.size := by have := hb.size; rw [World.size_alloc] at this; omega
  have n0 : w1.cell? ⟨w.heap.size, 0, none⟩ = some (.int .i64 T) := by rw [cell_of_row w1 _ 0 _ _ _ hbl]; rfl
  have n1 : w1.cell? ⟨w.heap.size, 1, none⟩ = some (.slice E m cE) := by rw [cell_of_row w1 _ 1 _ _ _ hbl]; rfl
  have n2 : w1.cell? ⟨w.heap.size, 2, none⟩ = some (.slice A l.length cA) := by rw [cell_of_row w1 _ 2 _ _ _ hbl]; rfl
  have HG := Lib.hid (good_any T E m cE A cA l B cB ts w1 (hl.belowMore hB (by omega)) hn (ht.belowMore hB (by omega)) hn')
  have HB := Lib.hid hB
  clear ba hb hnew hbl hB
  have hfg : feasB T m l ts = true → goodB T m l ts = true := fun h => (feas_iff.1 h).1
  obtain ⟨f, hf⟩ : ∃ q, feasB T m l ts = q := ⟨_, rfl⟩
  obtain ⟨g, hg⟩ : ∃ q, goodB T m l ts = q := ⟨_, rfl⟩
  have HF := Lib.hid hf
  have HGG := HG.out
  rw [hf, hg] at hfg ⊢
  rw [hg] at HGG
  clear HG hf hg
  have HG := Lib.hid HGG
  clear HGG
  have hfg' : g = false → f = false := fun h => by
    cases f with
    | false => rfl
    | true => rw [hfg rfl] at h; cases h
  cases g with
  | false =>
    obtain rfl := hfg' rfl
    clear hfg hfg'
    go_wp2_with fail
    refine HG.out.mono ?_
    rintro e w2 ⟨rfl, hb2⟩
    go_wp2_with fail
    go_ret
    exact ⟨ret_bool (by rw [HF.out]), HB.out.trans (hb2.mono (by omega))⟩
  | true =>
    clear hfg hfg'
    cases f with
    | false =>
      go_wp2_with fail
      go_ret
      exact ⟨ret_bool (by rw [HF.out]), HB.out⟩
    | true =>
      go_wp2_with fail
      refine HG.out.mono ?_
      rintro e w2 ⟨rfl, hb2⟩
      go_wp2_with fail
      go_ret
      exact ⟨ret_bool (by rw [HF.out]), HB.out.trans (hb2.mono (by omega))⟩

end Go.Proofs.Ytaongejpbgjbiaa
