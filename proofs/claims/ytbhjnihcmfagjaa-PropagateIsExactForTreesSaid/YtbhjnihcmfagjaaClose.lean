/-
  Contract of Close.
-/
import Derived.Test.YtbhjnihcmfagjaaCloseA
set_option linter.unusedVariables false
set_option linter.unusedSimpArgs false
namespace Go.Proofs.Ytbhjnihcmfagjaa
open Go.RowKit Go.Shelf RP

set_option maxRecDepth 100000 in
set_option maxHeartbeats 8000000 in
theorem close_any (T : Nat) (E : Option Addr) (m cE : Nat) (A : Option Addr) (cA : Nat) (ev : List Evt) (l : List Acy) (w : World) (hl : Lst encA 6 w w.heap.size A l) (he : Lst encE 3 w w.heap.size E ev) (hm : ev.length = m) (hyes : netB T m l = true) :
    Calls Try.prog 14 #[netV T E m cE A l.length cA] w (ClosePost T m l w) := by
  have hv := netB_iff.1 hyes
  have ba := belA w (.cells #[.int .i64 T, .slice E m cE, .slice A l.length cA] 25)
  have hnew := heap_alloc_new w (.cells #[.int .i64 T, .slice E m cE, .slice A l.length cA] 25)
  obtain ⟨⟨t1, t2, t3, t4⟩, hok⟩ := hv
  have HOK := Lib.hid hok
  clear hok
  go_enter Try.func14, Try.ntmps14
  go_wp2_with fail
  refine (netCheck_any T E m cE A cA l _ (hl.belowMore ba (by simp)) (by omega)).mono ?_
  rintro e w1 ⟨rfl, hb⟩
  rw [hyes]
  rw [World.size_alloc] at hb
  have hbl := (hb.block w.heap.size (by omega)).trans hnew
  have HB := Lib.hid (ba.trans (hb.mono (by omega)))
  have n0 : w1.cell? ⟨w.heap.size, 0, none⟩ = some (.int .i64 T) := by rw [cell_of_row w1 _ 0 _ _ _ hbl]; rfl
  have n1 : w1.cell? ⟨w.heap.size, 1, none⟩ = some (.slice E m cE) := by rw [cell_of_row w1 _ 1 _ _ _ hbl]; rfl
  have n2 : w1.cell? ⟨w.heap.size, 2, none⟩ = some (.slice A l.length cA) := by rw [cell_of_row w1 _ 2 _ _ _ hbl]; rfl
  have z1 : w.heap.size + 1 ≤ w1.heap.size := by have := hb.size; rw [World.size_alloc] at this; omega
  have g1 : w1.frozen? ⟨w.heap.size, 1, none⟩ = false := by simp [World.frozen?, hbl]
  have g2 : w1.frozen? ⟨w.heap.size, 2, none⟩ = false := by simp [World.frozen?, hbl]
  have HBL := Lib.hid hbl
  have HL := Lib.hid (hl.belowMore HB.out (show w.heap.size ≤ w1.heap.size by omega))
  have HE := Lib.hid (he.belowMore HB.out (show w.heap.size ≤ w1.heap.size by omega))
  have hcE : ∀ W, Below w1.heap.size w1 W → Calls Try.prog 35 #[.slice E m cE] W fun e w' => ∃ A' c', e = .returned (.slice A' m c') ∧ Below W.heap.size W w' := fun W hb => by
    have := cloneE_any E cE ev W (HE.out.belowMore hb hb.size) (by omega)
    rw [hm] at this
    refine this.mono ?_
    rintro e w' ⟨v, rfl, ho, hb⟩
    obtain ⟨A', c', rfl⟩ := ho.form
    exact ⟨A', c', by rw [hm], hb⟩
  have hcA : ∀ W, Below w1.heap.size w1 W → Calls Try.prog 36 #[.slice A l.length cA] W fun e w' => ∃ A' c', e = .returned (.slice A' l.length c') ∧ OwnA w' W.heap.size (.slice A' l.length c') l ∧ Below W.heap.size W w' := fun W hb => by
    refine (cloneA_any A cA l W (HL.out.belowMore hb hb.size) (by omega)).mono ?_
    rintro e w' ⟨v, rfl, ho, hb⟩
    obtain ⟨A', c', rfl⟩ := ho.form
    exact ⟨A', c', rfl, ho, hb⟩
  have HYES := Lib.hid hyes
  have HM := Lib.hid hm
  clear ba hb hnew hbl hl he hyes hm
  generalize hnb : w.heap.size = nb at *
  have HNB := Lib.hid hnb
  clear hnb
  go_upto_region 4 with fail
  go_cut [24, 25] (fun s24 s25 wx => ∃ E' cE' A' cA', wx.heap[nb]? = some (.cells #[.int .i64 T, .slice E' m cE', .slice A' l.length cA'] 25 (0, 0)) ∧ OwnA wx (nb + 1) (.slice A' l.length cA') l ∧ Below nb w wx)
  case first =>
    have hB : Below w1.heap.size w1 w1.drew := (Below.refl _ _).drew
    have hnlt : nb < w1.heap.size := by omega
    go_region_with (first
      | (go_at_call 35; refine (hcE _ (by assumption)).mono ?_; rintro e wx ⟨Ex, cx, rfl, hbx⟩; replace hB := hB.trans (hbx.mono hB.size); have x1 := (hB.cell (p := ⟨nb, 1, none⟩) hnlt).trans n1; have x2 := (hB.cell (p := ⟨nb, 2, none⟩) hnlt).trans n2; have x3 := (hB.frozen (p := ⟨nb, 1, none⟩) hnlt).trans g1; have x4 := (hB.frozen (p := ⟨nb, 2, none⟩) hnlt).trans g2)
      | (go_at_call 36; refine (hcA _ (by assumption)).mono ?_; rintro e wy ⟨Ay, cy, rfl, hoy, hby⟩; replace hB := hB.trans (hby.mono hB.size); have x1 := (hB.cell (p := ⟨nb, 1, none⟩) hnlt).trans n1; have x2 := (hB.cell (p := ⟨nb, 2, none⟩) hnlt).trans n2; have x3 := (hB.frozen (p := ⟨nb, 1, none⟩) hnlt).trans g1; have x4 := (hB.frozen (p := ⟨nb, 2, none⟩) hnlt).trans g2))
    all_goals
      go_wp2_with fail
      go_meet
      have hz := (hB.block nb hnlt).trans HBL.out
      have s1 : w1.heap.size ≤ w1.drew.heap.size := Nat.le_refl _
      have s2 := hbx.size
      have s3 := hby.size
      refine ⟨Ex, cx, Ay, cy, set_block _ (set_block _ hz), ?_, ((HB.out.trans (hB.mono (by omega))).setCell (p := ⟨nb, _, none⟩) (Nat.le_refl nb) _).setCell (p := ⟨nb, _, none⟩) (Nat.le_refl nb) _⟩
      first
        | exact (((hoy.below' hbx).rebase (b' := nb + 1) (by omega)).setBelow (a := ⟨nb, _, none⟩) (Nat.lt_succ_self nb) _).setBelow (a := ⟨nb, _, none⟩) (Nat.lt_succ_self nb) _
        | exact ((hoy.rebase (b' := nb + 1) (by omega)).setBelow (a := ⟨nb, _, none⟩) (Nat.lt_succ_self nb) _).setBelow (a := ⟨nb, _, none⟩) (Nat.lt_succ_self nb) _
  case rest =>
    obtain ⟨E', cE', A', cA', hblk, hoA, hbw⟩ := hcut
    clear n0 n1 n2 g1 g2 hcE hcA
    have n0 : wc.cell? ⟨nb, 0, none⟩ = some (.int .i64 T) := by rw [cell_of_row wc _ 0 _ _ _ hblk]; rfl
    have n1 : wc.cell? ⟨nb, 1, none⟩ = some (.slice E' m cE') := by rw [cell_of_row wc _ 1 _ _ _ hblk]; rfl
    have n2 : wc.cell? ⟨nb, 2, none⟩ = some (.slice A' l.length cA') := by rw [cell_of_row wc _ 2 _ _ _ hblk]; rfl
    have HBLK := Lib.hid hblk
    have HOA := Lib.hid hoA
    have HBW := Lib.hid hbw
    have hnlt : nb < wc.heap.size := (Array.getElem?_eq_some_iff.1 hblk).1
    clear hblk hoA hbw HBL HB HL HE
    have hm2 : m * m ≤ 2304 := Nat.mul_le_mul t3 t3
    have e1 : (m : Int) * m = ((m * m : Nat) : Int) := by simp
    generalize hmm : m * m = mm at *
    have e2 : IntKind.i64.wrap ((m : Int) * m) = (mm : Int) := by rw [e1]; exact IntWalk.i64_in _ (by omega)
    have HE1 := Lib.hid e1
    have HMM := Lib.hid hmm
    clear e1 hmm
    obtain ⟨i0, hi0, hz0, hz1, hz2⟩ := info_parts infoSet
    obtain ⟨i1, hi1, hy0, hy1, hy2⟩ := info_parts infoBl
    have mk1 := fun W => run_make_rowN (P := Try.prog) 69 75 i0 _ Try.underlying69 hi0 hz0 .i64 .i64 mm mm (Nat.le_refl _) (by rw [hz2]; omega) (by omega) W
    have mk2 := fun W => run_make_rowN (P := Try.prog) 70 4 i1 _ Try.underlying70 hi1 hy0 .i64 .i64 mm mm (Nat.le_refl _) (by rw [hy2]; omega) (by omega) W
    rw [hz1] at mk1
    rw [hy1] at mk2
    clear hi0 hz0 hz1 hz2 hi1 hy0 hy1 hy2
    go_upto_region 5 with fail
    go_cut [5] (fun s5 wx => ∃ gt gs gw, s5 = .pointer (some ⟨gt, 0, none⟩) ∧ gt ≠ gs ∧ gt ≠ gw ∧ gs ≠ gw ∧ wc.heap.size ≤ gt ∧ wc.heap.size ≤ gs ∧ wc.heap.size ≤ gw ∧ Below wc.heap.size wc wx ∧
      wx.heap[gt]? = some (.cells #[.int .i64 T, .slice E' m cE', .slice A' l.length cA', .slice (some ⟨gs, 0, none⟩) mm mm, .slice none 0 0, .slice (some ⟨gw, 0, none⟩) mm mm, .bool false] 73 (0, 0)) ∧
      wx.heap[gs]? = some (.cells (madeCells #[.slice none 0 0, .int .i64 0] (mm * 2)) 75 (0, 0)) ∧ wx.heap[gw]? = some (.cells (madeCells #[.bool false] mm) 4 (0, 0)))
    case first =>
      have K3 := Lib.hid (show ∀ (o1 o2 o3 : Obj) (j : Nat), (((wc.alloc o1).alloc o2).alloc o3).drew.cell? ⟨nb, j, none⟩ = wc.cell? ⟨nb, j, none⟩ from fun o1 o2 o3 j =>
        ((((Below.refl wc.heap.size wc).alloc (Nat.le_refl _) o1).alloc (by simp) o2).alloc (by simp; omega) o3).cell (p := ⟨nb, j, none⟩) hnlt)
      go_region_held3 (fun w' => w'.cell? ⟨nb, 0, none⟩ = some (.int .i64 T) ∧ w'.cell? ⟨nb, 1, none⟩ = some (.slice E' m cE') ∧ w'.cell? ⟨nb, 2, none⟩ = some (.slice A' l.length cA')) (first | exact ⟨(K3.out _ _ _ _).trans n0, (K3.out _ _ _ _).trans n1, (K3.out _ _ _ _).trans n2⟩ | go_keep) (fail)
      all_goals
        go_wp2_with fail
        go_meet
        first
          | exact ⟨wc.heap.size + 2, wc.heap.size, wc.heap.size + 1, rfl, by omega, by omega, by omega, by omega, by omega, by omega, three_below _ _ _, three_c, three_a, three_b⟩
          | exact ⟨wc.heap.size + 2, wc.heap.size + 1, wc.heap.size, rfl, by omega, by omega, by omega, by omega, by omega, by omega, three_below _ _ _, three_c, three_b, three_a⟩
    case rest =>
      obtain ⟨gt, gs, gw, rfl, d1, d2, d3, l1, l2, l3, hb5, b1, b2, b3⟩ := hcut
      have hTb : Tb wc gt gs [gt, gs, gw] m T E' cE' (.slice A' l.length cA') (.slice none 0 0) (.slice (some ⟨gw, 0, none⟩) (m * m) (m * m)) (fillT 0 0) false := by
        rw [HMM.out]
        exact tb_start (by rw [HMM.out]; exact b1) (by rw [HMM.out]; exact b2) ⟨by simp, by simp, d1⟩ ⟨t3, by omega, by omega⟩
      have hWt : Wt wc gw m [] := wt_start (by rw [HMM.out]; exact b3)
      have hRA : RowA wc [gt, gs, gw] A' l := (RowA.of_lst (Own.lst encA_len HOA.out) (fun k hk => by simp at hk; omega)).kept (.of_below _ hb5)
      have hbA := HBW.out.trans (hb5.mono (by omega))
      have k0 := (hb5.cell (p := ⟨nb, 0, none⟩) hnlt).trans n0
      have k2 := (hb5.cell (p := ⟨nb, 2, none⟩) hnlt).trans n2
      have hsz := hb5.size
      have hnlt' : nb < wc.heap.size := by omega
      have HTB := Lib.hid hTb
      have HWT := Lib.hid hWt
      have HRA := Lib.hid hRA
      have HBA := Lib.hid hbA
      have zgt := hTb.gtlt
      have zgs := hTb.gslt
      have zgw := hWt.lt
      have hTn : 1 ≤ T := by omega
      have hT7 : T ≤ 7200 := by omega
      clear mk1 mk2 n0 n1 n2 hTb hWt hRA hbA hb5 b1 b2 b3 HBLK HOA HBW e2 HE1
      obtain ⟨W1, rfl⟩ : ∃ W1 : World, W1 = wc := ⟨_, rfl⟩
      go_wp2_with fail
      go_loopg [6, 7, 38] m (fun g s6 s7 s38 wr => ∃ k : Nat, k ≤ m ∧ g = m - k ∧ s38 = .int .i64 k ∧ Tb wr gt gs [gt, gs, gw] m T E' cE' (.slice A' l.length cA') (.slice none 0 0) (.slice (some ⟨gw, 0, none⟩) (m * m) (m * m)) (fillT k 0) false ∧ Kept [gs] W1 wr)
      case atStart => exact ⟨0, by omega, by omega, rfl, HTB.out, .refl _ _⟩
      case round =>
        obtain ⟨k, hk, hg, rfl, hT, hK⟩ := hrel
        by_cases hlt : k < m
        · have HT0 := Lib.hid hT
          have HK0 := Lib.hid hK
          clear hT hK
          go_wp2_with fail
          obtain ⟨wo, rfl⟩ : ∃ wo : World, wo = wr := ⟨_, rfl⟩
          go_loopg [7, 42] m (fun g' s7 s42 wr => ∃ j : Nat, j ≤ m ∧ g' = m - j ∧ s42 = .int .i64 j ∧ Tb wr gt gs [gt, gs, gw] m T E' cE' (.slice A' l.length cA') (.slice none 0 0) (.slice (some ⟨gw, 0, none⟩) (m * m) (m * m)) (fillT k j) false ∧ Kept [gs] W1 wr)
          case atStart => exact ⟨0, by omega, by omega, rfl, HT0.out, HK0.out⟩
          case round =>
            obtain ⟨j, hj, hg', rfl, hT, hK⟩ := hrel
            by_cases hlt' : j < m
            · have HFILL := Lib.hid (fill_in (T := T) (k := k) (j := j) hTn)
              go_upto_region 12 with fail
              have hat := fun W (k1 : W.cell? ⟨gt, 1, none⟩ = some (.slice E' m cE')) => at_any gt m E' cE' k j W k1 t3 hlt hlt'
              have hix := idx_lt hlt hlt'
              obtain ⟨A2, c2, s0, s1, _⟩ := hT.set k j hlt hlt'
              have fs0 := hT.fs ((k * m + j) * 2)
              have fs1 := hT.fs ((k * m + j) * 2 + 1)
              have x0 := hT.c0
              have x1 := hT.c1
              have x3 := hT.c3
              have gX := hT.gtlt
              have sX := hT.gslt
              have y0 := (hK.cell (b := nb) (o := 0) hnlt' (by simp; omega)).trans k0
              have yz := hK.size
              have nX : nb < wr.heap.size := by omega
              have nbs : nb ≠ gs := by omega
              have HT1 := Lib.hid hT
              have HK1 := Lib.hid hK
              clear hT hK
              generalize hmm : m * m = mm at x3 hix
              generalize hp : k * m + j = p at *
              have HMM := Lib.hid hmm
              have HP := Lib.hid hp
              have ip0 : (0 : Int) ≤ (p : Int) := by omega
              have ip1 : (p : Int) < (mm : Int) := by omega
              clear hmm hp
              have hB : Below wr.heap.size wr wr.drew := (Below.refl _ _).drew
              go_region_held3 (fun w' => w'.cell? ⟨gt, 1, none⟩ = some (.slice E' m cE') ∧ w'.cell? ⟨gt, 3, none⟩ = some (.slice (some ⟨gs, 0, none⟩) mm mm) ∧ w'.cell? ⟨nb, 0, none⟩ = some (.int .i64 T))
                (first
                  | exact ⟨(hB.cell (p := ⟨gt, 1, none⟩) gX).trans x1, (hB.cell (p := ⟨gt, 3, none⟩) gX).trans x3, (hB.cell (p := ⟨nb, 0, none⟩) nX).trans y0⟩
                  | exact ⟨(cell_set_ne' d1).trans ((cell_set_ne' d1).trans ((hB.cell (p := ⟨gt, 1, none⟩) gX).trans x1)), (cell_set_ne' d1).trans ((cell_set_ne' d1).trans ((hB.cell (p := ⟨gt, 3, none⟩) gX).trans x3)), (cell_set_ne' nbs).trans ((cell_set_ne' nbs).trans ((hB.cell (p := ⟨nb, 0, none⟩) nX).trans y0))⟩)
                (first
                  | (go_at_call 38; refine (hat _ ((hB.cell (p := ⟨gt, 1, none⟩) gX).trans x1)).mono ?_; rintro e w' ⟨rfl, rfl⟩)
                  | (go_at_call 37; refine (tarc_any gt T 0 (T : Int) _ ((hB.cell (p := ⟨gt, 0, none⟩) gX).trans x0) hTn hT7 (by omega)).mono ?_; rintro e wn ⟨A3, c3, rfl, ho3, hb3⟩; have zb3 : wr.heap.size ≤ _ := hB.size; have ho4 := ho3.rebase zb3; clear zb3; replace hB := hB.trans (hb3.mono hB.size); have g0 := (hB.cell (p := ⟨gs, p * 2, none⟩) sX).trans s0; have g1 := (hB.cell (p := ⟨gs, p * 2 + 1, none⟩) sX).trans s1; have f0 := (hB.frozen (p := ⟨gs, p * 2, none⟩) sX).trans fs0; have f1 := (hB.frozen (p := ⟨gs, p * 2 + 1, none⟩) sX).trans fs1))
              all_goals (
                have hTy := HT1.out.below hB
                have st := hTy.store hlt hlt' (P := arcB T (0 % (T : Int)) (T : Int)) (Row.own ho4 (fun k hk => by simp at hk; omega)) (own_cap ho4).1 (own_cap ho4).2
                rw [HP.out] at st
                have HS := Lib.hid st
                clear st hTy ho3 ho4 g0 g1 f0 f1
                go_wp2_with fail
                have hKx := (HK1.out.trans (Kept.of_below [gs] hB) (fun k hk => .inl hk)).trans HS.out.2 (fun k hk => .inl hk)
                go_roundg (m - (j + 1))
                case measure => omega
                case rel => exact ⟨j + 1, by omega, rfl, by go_num, HS.out.1.congr (fun a b _ _ x _ => HFILL.out a b x), hKx⟩
                )
            · obtain rfl : m = j := by omega
              have HFILL := Lib.hid (fun a b hb x hx => fill_diag (T := T) (k := k) (m := m) (a := a) (b := b) (x := x) hTn hlt hb hx)
              go_upto_region 14 with fail
              have hat := fun W (k1 : W.cell? ⟨gt, 1, none⟩ = some (.slice E' m cE')) => at_any gt m E' cE' k k W k1 t3 hlt hlt
              have hix := idx_lt hlt hlt
              obtain ⟨A2, c2, s0, s1, _⟩ := hT.set k k hlt hlt
              have fs0 := hT.fs ((k * m + k) * 2)
              have fs1 := hT.fs ((k * m + k) * 2 + 1)
              have x0 := hT.c0
              have x1 := hT.c1
              have x3 := hT.c3
              have gX := hT.gtlt
              have sX := hT.gslt
              have y0 := (hK.cell (b := nb) (o := 0) hnlt' (by simp; omega)).trans k0
              have yz := hK.size
              have nX : nb < wr.heap.size := by omega
              have nbs : nb ≠ gs := by omega
              have HT1 := Lib.hid hT
              have HK1 := Lib.hid hK
              clear hT hK
              generalize hmm : m * m = mm at x3 hix
              generalize hp : k * m + k = p at *
              have HMM := Lib.hid hmm
              have HP := Lib.hid hp
              have ip0 : (0 : Int) ≤ (p : Int) := by omega
              have ip1 : (p : Int) < (mm : Int) := by omega
              clear hmm hp
              have hB : Below wr.heap.size wr wr.drew := (Below.refl _ _).drew
              go_region_held3 (fun w' => w'.cell? ⟨gt, 1, none⟩ = some (.slice E' m cE') ∧ w'.cell? ⟨gt, 3, none⟩ = some (.slice (some ⟨gs, 0, none⟩) mm mm) ∧ w'.cell? ⟨nb, 0, none⟩ = some (.int .i64 T))
                (first
                  | exact ⟨(hB.cell (p := ⟨gt, 1, none⟩) gX).trans x1, (hB.cell (p := ⟨gt, 3, none⟩) gX).trans x3, (hB.cell (p := ⟨nb, 0, none⟩) nX).trans y0⟩
                  | exact ⟨(cell_set_ne' d1).trans ((cell_set_ne' d1).trans ((hB.cell (p := ⟨gt, 1, none⟩) gX).trans x1)), (cell_set_ne' d1).trans ((cell_set_ne' d1).trans ((hB.cell (p := ⟨gt, 3, none⟩) gX).trans x3)), (cell_set_ne' nbs).trans ((cell_set_ne' nbs).trans ((hB.cell (p := ⟨nb, 0, none⟩) nX).trans y0))⟩)
                (first
                  | (go_at_call 38; refine (hat _ ((hB.cell (p := ⟨gt, 1, none⟩) gX).trans x1)).mono ?_; rintro e w' ⟨rfl, rfl⟩)
                  | (go_at_call 37; refine (tarc_any gt T 0 1 _ ((hB.cell (p := ⟨gt, 0, none⟩) gX).trans x0) hTn hT7 (by omega)).mono ?_; rintro e wn ⟨A3, c3, rfl, ho3, hb3⟩; have zb3 : wr.heap.size ≤ _ := hB.size; have ho4 := ho3.rebase zb3; clear zb3; replace hB := hB.trans (hb3.mono hB.size); have g0 := (hB.cell (p := ⟨gs, p * 2, none⟩) sX).trans s0; have g1 := (hB.cell (p := ⟨gs, p * 2 + 1, none⟩) sX).trans s1; have f0 := (hB.frozen (p := ⟨gs, p * 2, none⟩) sX).trans fs0; have f1 := (hB.frozen (p := ⟨gs, p * 2 + 1, none⟩) sX).trans fs1))
              all_goals (
                have hTy := HT1.out.below hB
                have st := hTy.store hlt hlt (P := arcB T (0 % (T : Int)) 1) (Row.own ho4 (fun k hk => by simp at hk; omega)) (own_cap ho4).1 (own_cap ho4).2
                rw [HP.out] at st
                have HS := Lib.hid st
                clear st hTy ho3 ho4 g0 g1 f0 f1
                go_wp2_with fail
                have hKx := (HK1.out.trans (Kept.of_below [gs] hB) (fun k hk => .inl hk)).trans HS.out.2 (fun k hk => .inl hk)
                go_roundg (m - (k + 1))
                case measure => omega
                case rel => exact ⟨k + 1, by omega, rfl, by go_num, HS.out.1.congr (fun a b _ hb x hx => HFILL.out a b hb x hx), hKx⟩
                )
        · have HT2 := Lib.hid hT
          have HK2 := Lib.hid hK
          obtain rfl : m = k := by omega
          have c2 := (hK.cell (b := nb) (o := 2) hnlt' (by simp; omega)).trans k2
          clear hT hK
          go_wp2_with fail
          obtain ⟨W2, rfl⟩ : ∃ W2 : World, W2 = wr := ⟨_, rfl⟩
          have HT3 := Lib.hid (HT2.out.congr (D' := baseT) (fun a b ha hb x _ => fill_end a b ha hb x))
          have zK2 := HK2.out.size
          have HRA2 := Lib.hid (HRA.out.kept (HK2.out.more (M' := [gt, gs, gw]) (fun k hk => .inl (by rw [List.mem_singleton.1 hk]; simp))))
          clear HT2
          go_loopg [9, 74] l.length (fun g s9 s74 wr => ∃ (k : Nat) (e : Bool), k ≤ l.length ∧ g = l.length - k ∧ s74 = .int .i64 k ∧ Tb wr gt gs [gt, gs, gw] m T E' cE' (.slice A' l.length cA') (.slice none 0 0) (.slice (some ⟨gw, 0, none⟩) (m * m) (m * m)) (initT T (l.take k)) e ∧ Ini m T (initT T (l.take k)) e ∧ Kept [gt, gs] W2 wr)
          case atStart => exact ⟨0, false, by omega, by omega, rfl, HT3.out, Ini.base hTn, .refl _ _⟩
          case round =>
            obtain ⟨k, e, hk, hg, rfl, hT, hI, hK⟩ := hrel
            by_cases hlt : k < l.length
            · have hS := (congrArg (initT T) (take_snoc l k hlt)).trans (initT_snoc T _ _)
              have hx := HOK.out l[k] (List.getElem_mem hlt)
              obtain ⟨b, off, hA, hbb, a0, a1, a2, a3, a4, a5⟩ := (HRA2.out.kept (hK.more (fun k hk => .inl (by simp at hk; rcases hk with rfl | rfl <;> simp)))).lst.ac k hlt
              generalize l[k] = x at *
              obtain ⟨ki, sr, ds, lo, hi, wt⟩ := x
              obtain ⟨o1, o2, o3, o4, o5, o6, o7, o8, o9, _⟩ := hx
              simp only at o1 o2 o3 o4 o5 o6 o7 o8 o9 a0 a1 a2 a3 a4 a5 hS
              obtain ⟨si, rfl⟩ := Int.eq_ofNat_of_zero_le o1
              obtain ⟨di, rfl⟩ := Int.eq_ofNat_of_zero_le o3
              have HT := Lib.hid hT
              have HI := Lib.hid hI
              have HK := Lib.hid hK
              have HA := Lib.hid hA
              clear hT hI hK
              simp only [Int.toNat_natCast] at hS
              have HS := Lib.hid hS
              clear hS
              have hs1 : si < m := by omega
              have hd1 : di < m := by omega
              have hsd : si ≠ di := by omega
              clear o1 o2 o3 o4 o5
              subst hA
              go_upto_region 19 with fail
              have hbV : Below wr.heap.size wr (wr.alloc (.cells #[.int .i64 ki, .int .i64 si, .int .i64 di, .int .i64 lo, .int .i64 hi, .int .i64 wt] 30)) := belA wr _
              have vblk := heap_alloc_new wr (.cells #[.int .i64 ki, .int .i64 si, .int .i64 di, .int .i64 lo, .int .i64 hi, .int .i64 wt] 30)
              have zV : wr.heap.size < (wr.alloc (.cells #[.int .i64 ki, .int .i64 si, .int .i64 di, .int .i64 lo, .int .i64 hi, .int .i64 wt] 30)).heap.size := by simp
              generalize wr.alloc (.cells #[.int .i64 ki, .int .i64 si, .int .i64 di, .int .i64 lo, .int .i64 hi, .int .i64 wt] 30) = V at *
              have v1 : V.cell? ⟨wr.heap.size, 1, none⟩ = some (.int .i64 si) := by rw [cell_of_row V _ 1 _ _ _ vblk]; rfl
              have v2 : V.cell? ⟨wr.heap.size, 2, none⟩ = some (.int .i64 di) := by rw [cell_of_row V _ 2 _ _ _ vblk]; rfl
              have v3 : V.cell? ⟨wr.heap.size, 3, none⟩ = some (.int .i64 lo) := by rw [cell_of_row V _ 3 _ _ _ vblk]; rfl
              have v4 : V.cell? ⟨wr.heap.size, 4, none⟩ = some (.int .i64 hi) := by rw [cell_of_row V _ 4 _ _ _ vblk]; rfl
              have HTV := Lib.hid (HT.out.below hbV)
              have HKV := Lib.hid (HK.out.trans (Kept.of_below [gt, gs] hbV) (fun k hk => .inl hk))
              have zkv := HKV.out.size
              have gV := HTV.out.gtlt
              have x0 := HTV.out.c0
              have s1 : IntKind.i64.wrap (hi - lo) = hi - lo := IntWalk.i64_in _ (by omega)
              have s2 : IntKind.i64.wrap (hi - lo + 1) = hi - lo + 1 := IntWalk.i64_in _ (by omega)
              have ng1 : wr.heap.size ≠ gt := by have := HT.out.gtlt; omega
              have ng2 : wr.heap.size ≠ gs := by have := HT.out.gslt; omega
              clear a0 a1 a2 a3 a4 a5 vblk hbV HT HK
              have hB : Below V.heap.size V V.drew := (Below.refl _ _).drew
              have hfd := field_set
              go_region_held3 (fun w' => w'.cell? ⟨wr.heap.size, 1, none⟩ = some (.int .i64 si) ∧ w'.cell? ⟨wr.heap.size, 2, none⟩ = some (.int .i64 di) ∧ w'.cell? ⟨wr.heap.size, 3, none⟩ = some (.int .i64 lo) ∧ w'.cell? ⟨wr.heap.size, 4, none⟩ = some (.int .i64 hi))
                (first
                  | exact ⟨(hB.cell (p := ⟨wr.heap.size, 1, none⟩) zV).trans v1, (hB.cell (p := ⟨wr.heap.size, 2, none⟩) zV).trans v2, (hB.cell (p := ⟨wr.heap.size, 3, none⟩) zV).trans v3, (hB.cell (p := ⟨wr.heap.size, 4, none⟩) zV).trans v4⟩
                  | exact ⟨r1, r2, r3, r4⟩)
                (first
                  | (go_at_call 37; refine (tarc_any gt T lo (hi - lo + 1) _ ((hB.cell (p := ⟨gt, 0, none⟩) gV).trans x0) hTn hT7 (by omega)).mono ?_; rintro e wn ⟨A3, c3, rfl, ho3, hb3⟩; have zb3 : V.heap.size ≤ _ := hB.size; have ho4 := ho3.rebase zb3; clear zb3; replace hB := hB.trans (hb3.mono hB.size))
                  | (go_at_call 39; refine (restrict_ini gt gs [gt, gs, gw] m T E' cE' _ _ _ (initT T (l.take k)) e si di _ A3 c3 _ (HTV.out.below hB) HI.out hs1 hd1 hsd (Row.own ho4 (fun k hk => by simp at hk; omega)) (own_cap ho4).1 (own_cap ho4).2 (fun k hk => by have := hB.size; simp at hk; omega)).mono ?_; rintro ex wz ⟨bz, ez, rfl, hTz, hIz, hKz⟩; have hB1 := hB.size; have r1 := (hKz.cell (b := wr.heap.size) (o := 1) (by omega) (by simp; omega)).trans ((hB.cell (p := ⟨wr.heap.size, 1, none⟩) zV).trans v1); have r2 := (hKz.cell (b := wr.heap.size) (o := 2) (by omega) (by simp; omega)).trans ((hB.cell (p := ⟨wr.heap.size, 2, none⟩) zV).trans v2); have r3 := (hKz.cell (b := wr.heap.size) (o := 3) (by omega) (by simp; omega)).trans ((hB.cell (p := ⟨wr.heap.size, 3, none⟩) zV).trans v3); have r4 := (hKz.cell (b := wr.heap.size) (o := 4) (by omega) (by simp; omega)).trans ((hB.cell (p := ⟨wr.heap.size, 4, none⟩) zV).trans v4)))
              all_goals
                rw [← HS.out] at hTz hIz
                have hKq := (HKV.out.trans (Kept.of_below [gt, gs] hB) (fun k hk => .inl hk)).trans hKz (fun k hk => .inl hk)
                have HTZ := Lib.hid hTz
                have HIZ := Lib.hid hIz
                have HKZ := Lib.hid hKq
                clear hTz hIz hKz hKq r1 r2 r3 r4 s1 s2 hfd
                go_wp2_with fail
                go_roundg (l.length - (k + 1))
                case measure => omega
                case rel => exact ⟨k + 1, ez, by omega, rfl, by go_num, HTZ.out, HIZ.out, HKZ.out⟩
            · have hfull : l.take k = l := List.take_of_length_le (by omega)
              rw [hfull] at hT hI
              have HT4 := Lib.hid hT
              have HI4 := Lib.hid hI
              have HK4 := Lib.hid hK
              have zK4 := hK.size
              clear hT hI hK hfull
              go_wp2_with fail
              obtain ⟨W3, rfl⟩ : ∃ W3 : World, W3 = wr := ⟨_, rfl⟩
              have HW4 := Lib.hid ((HWT.out.kept (HK2.out.block gw zgw (by simp; omega))).kept (HK4.out.block gw (by omega) (by simp; omega)))
              have HS4 := Lib.hid (show St W3 gt gs gw [gt, gs, gw] m T E' cE' (.slice A' l.length cA') (initT T l) e [] from
                ⟨⟨_, HT4.out, .inl ⟨rfl, rfl⟩⟩, HW4.out, ⟨List.nodup_nil, by simp⟩, ⟨by simp, by omega, by omega⟩, fun k hk => by simp at hk; omega⟩)
              clear HT4 HW4
              go_loopg [10, 11, 97] m (fun g s10 s11 s97 wr => ∃ (k : Nat) (M1 : List Nat) (q : List (Nat × Nat)), k ≤ m ∧ g = m - k ∧ s97 = .int .i64 k ∧ St wr gt gs gw M1 m T E' cE' (.slice A' l.length cA') (initT T l) e q ∧ (∀ a b, a < b → b < k → (a, b) ∈ q) ∧ Kept [gt, gs, gw] W3 wr ∧ (∀ k ∈ [gt, gs, gw], k ∈ M1) ∧ (∀ k ∈ M1, k ∈ [gt, gs, gw] ∨ W3.heap.size ≤ k))
              case atStart => exact ⟨0, [gt, gs, gw], [], by omega, by omega, rfl, HS4.out, fun _ _ _ h => absurd h (by omega), .refl _ _, fun _ h => h, fun _ h => .inl h⟩
              case round =>
                obtain ⟨k, M1, q, hk, hg, rfl, hS5, hq5, hK5, hM5, hN5⟩ := hrel
                have HS5 := Lib.hid hS5
                have HQ5 := Lib.hid hq5
                have HK5 := Lib.hid hK5
                have HM5 := Lib.hid hM5
                have HN5 := Lib.hid hN5
                clear hS5 hq5 hK5 hM5 hN5 HS4
                by_cases hlt : k < m
                · go_wp2_with fail
                  obtain ⟨wo, rfl⟩ : ∃ wo : World, wo = wr := ⟨_, rfl⟩
                  go_loopg [11, 101] k (fun g' s11 s101 wr => ∃ (j : Nat) (M1 : List Nat) (q : List (Nat × Nat)), j ≤ k ∧ g' = k - j ∧ s101 = .int .i64 j ∧ St wr gt gs gw M1 m T E' cE' (.slice A' l.length cA') (initT T l) e q ∧ (∀ a b, a < b → (b < k ∨ b = k ∧ a < j) → (a, b) ∈ q) ∧ Kept [gt, gs, gw] W3 wr ∧ (∀ k ∈ [gt, gs, gw], k ∈ M1) ∧ (∀ k ∈ M1, k ∈ [gt, gs, gw] ∨ W3.heap.size ≤ k))
                  case atStart => exact ⟨0, M1, q, by omega, by omega, rfl, HS5.out, fun a b h h' => HQ5.out a b h (by omega), HK5.out, HM5.out, HN5.out⟩
                  case round =>
                    obtain ⟨j, M2, q2, hj, hg', rfl, hS6, hq6, hK6, hM6, hN6⟩ := hrel
                    have HS6 := Lib.hid hS6
                    have HQ6 := Lib.hid hq6
                    have HK6 := Lib.hid hK6
                    have HM6 := Lib.hid hM6
                    have HN6 := Lib.hid hN6
                    clear hS6 hq6 hK6 hM6 hN6
                    by_cases hlt' : j < k
                    · go_wp2_with fail
                      refine (enter_any gt gs gw M2 m T E' cE' _ _ _ q2 j k wr HS6.out (by omega) hlt (by omega)).mono ?_
                      rintro ex w7 ⟨⟨v7, rfl⟩, M7, hS7, hk7, hm7, hn7⟩
                      have hpr : pr j k = (j, k) := by unfold pr; rw [Nat.min_eq_left (by omega), Nat.max_eq_right (by omega)]
                      rw [hpr] at hS7
                      have HS7 := Lib.hid hS7
                      have HQ7 := Lib.hid (show ∀ a b, a < b → (b < k ∨ b = k ∧ a < j + 1) → (a, b) ∈ addQ q2 (j, k) from fun a b h h' => by
                        by_cases q3 : a = j ∧ b = k
                        · obtain ⟨rfl, rfl⟩ := q3
                          unfold addQ; split
                          · assumption
                          · simp
                        · have := HQ6.out a b h (by omega)
                          unfold addQ; split
                          · exact this
                          · exact List.mem_append_left _ this)
                      have HK7 := Lib.hid (HK6.out.trans hk7 (fun k hk => HN6.out k hk))
                      have HM7 := Lib.hid (fun k hk => hm7 k (HM6.out k hk))
                      have HN7 := Lib.hid (show ∀ k ∈ M7, k ∈ [gt, gs, gw] ∨ W3.heap.size ≤ k from fun k hk => by
                        rcases hn7 k hk with q | q
                        · exact HN6.out k q
                        · exact .inr (Nat.le_trans HK6.out.size q))
                      clear hS7 hk7 hm7 hn7 hpr
                      go_wp2_with fail
                      go_roundg (k - (j + 1))
                      case measure => omega
                      case rel => exact ⟨j + 1, M7, _, by omega, rfl, by go_num, HS7.out, HQ7.out, HK7.out, HM7.out, HN7.out⟩
                    · obtain rfl : k = j := by omega
                      go_wp2_with fail
                      go_roundg (m - (k + 1))
                      case measure => omega
                      case rel => exact ⟨k + 1, M2, q2, by omega, rfl, by go_num, HS6.out, fun a b h h' => HQ6.out a b h (by omega), HK6.out, HM6.out, HN6.out⟩
                · obtain rfl : m = k := by omega
                  go_wp2_with fail
                  refine (run_any gt gs gw M1 m T E' cE' _ (initT T l) (initT T l) e q wr HS5.out (HI4.out.start (fun i j h h' => HQ5.out i j h h'))).mono ?_
                  rintro ex w8 ⟨⟨v8, rfl⟩, M8, D8, e8, hT8, hF8, hK8, hM8, hN8⟩
                  have HT8 := Lib.hid hT8
                  have HF8 := Lib.hid hF8
                  have HK8 := Lib.hid hK8
                  have HM8 := Lib.hid hM8
                  have HN8 := Lib.hid hN8
                  clear hT8 hF8 hK8 hM8 hN8
                  go_wp2_with fail
                  go_ret2
                  have zK5 := HK5.out.size
                  have hN9 : ∀ k ∈ M8, k ∈ [gt, gs, gw] ∨ W3.heap.size ≤ k := fun k hk => by
                    rcases HN8.out k hk with q | q
                    · exact HN5.out k q
                    · exact .inr (by omega)
                  have hA3 : RowA W3 [gt, gs, gw] A' l := HRA2.out.kept (HK4.out.more (fun k hk => .inl (by simp at hk; rcases hk with rfl | rfl <;> simp)))
                  have hK9 : Kept [gt, gs, gw] W3 w8 := HK5.out.trans HK8.out (fun k hk => HN5.out k hk)
                  have hW : Kept [gt, gs, gw] W1 w8 := ((HK2.out.more (fun k hk => .inl (by rw [List.mem_singleton.1 hk]; simp))).trans HK4.out (fun k hk => .inl (by simp at hk; rcases hk with rfl | rfl <;> simp))).trans hK9 (fun k hk => .inl hk)
                  refine ⟨gt, gs, M8, E', cE', A', cA', D8, e8, rfl, HT8.out, HF8.out, ?_, fun k hk => ?_, ?_, HYES.out⟩
                  · rw [HNB.out]
                    exact HBA.out.trans (hW.below (fun k hk => by simp at hk; omega) (by omega))
                  · rw [HNB.out]
                    rcases hN9 k hk with q | q
                    · simp at q; omega
                    · omega
                  · exact (hA3.swap hN9).kept (hK9.more (fun k hk => .inl (HM8.out k (HM5.out k hk))))

end Go.Proofs.Ytbhjnihcmfagjaa
