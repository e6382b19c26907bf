/-
  Contract of the table's restrict.
-/
import Derived.Test.YtbhjnihcmfagjaaTabAB
import Derived.StillTailTactics
import Derived.Deep.RegionHeld3
import Derived.Deep.DeepCutAuto
set_option linter.unusedVariables false
set_option linter.unusedSimpArgs false
namespace Go.Proofs.Ytbhjnihcmfagjaa
open Go.RowKit Go.Shelf RP

theorem cell_set_ne' {w : World} {B o' b o : Nat} {v : Value} (h : b ≠ B) : (w.setCell ⟨B, o', none⟩ v).cell? ⟨b, o, none⟩ = w.cell? ⟨b, o, none⟩ := World.cell?_setCell_far w ⟨B, o', none⟩ ⟨b, o, none⟩ v (Ne.symm h)

theorem own_cap {w : World} {base : Nat} {A : Option Addr} {c : Nat} {l : List Sp} (h : OwnS w base (.slice A l.length c) l) : l.length ≤ c ∧ c ≤ maxLen := by
  rcases h.2 with ⟨h0, h1⟩ | ⟨g, cap, cur, h0, _, _, h1, h2, _⟩
  · injection h0 with _ _ h3; subst h3; exact ⟨by omega, by simp [maxLen]⟩
  · injection h0 with _ _ h3; subst h3; exact ⟨h1, h2⟩

set_option maxRecDepth 100000 in
set_option maxHeartbeats 4000000 in
theorem restrict_any (gt gs : Nat) (M : List Nat) (m T : Nat) (E : Option Addr) (cE : Nat) (va vq vw : Value) (D : Tab) (e : Bool) (i j : Nat) (P : Nat → Bool) (A : Option Addr) (c : Nat) (w : World)
    (h : Tb w gt gs M m T E cE va vq vw D e) (hi : i < m) (hj : j < m) (hij : i ≠ j) (hr : Row w M A (runs P T)) (hc : (runs P T).length ≤ c) (hc' : c ≤ maxLen) (hM : ∀ k ∈ M, k < w.heap.size) :
    Calls Try.prog 39 #[.pointer (some ⟨gt, 0, none⟩), .int .i64 i, .int .i64 j, .slice A (runs P T).length c] w fun ex w' =>
      (cntN (fun x => D i j x && P x) T = cntN (D i j) T ∧ ex = .returned (.bool false) ∧ Below w.heap.size w w') ∨
      (cntN (fun x => D i j x && P x) T ≠ cntN (D i j) T ∧ ex = .returned (.bool true) ∧ Tb w' gt gs M m T E cE va vq vw (resT T D i j P) (e || decide (cntN (fun x => D i j x && P x) T = 0)) ∧ Kept [gt, gs] w w') := by
  obtain ⟨A0, c0, s0, s1, r0, b0, b1⟩ := h.set i j hi hj
  have hat := fun W (k1 : W.cell? ⟨gt, 1, none⟩ = some (.slice E m cE)) => at_any gt m E cE i j W k1 h.mT.1 hi hj
  have hix := idx_lt hi hj
  have k3 := h.c3
  have k1 := h.c1
  have hatj := fun W (k1 : W.cell? ⟨gt, 1, none⟩ = some (.slice E m cE)) => at_any gt m E cE j i W k1 h.mT.1 hj hi
  have hixj := idx_lt hj hi
  generalize hmm : m * m = mm at *
  have HMM := Lib.hid hmm
  clear hmm
  generalize hp : i * m + j = p at *
  generalize hpj : j * m + i = pj at *
  have HPJ := Lib.hid hpj
  clear hpj
  have jp0 : (0 : Int) ≤ (pj : Int) := by omega
  have jp1 : (pj : Int) < (mm : Int) := by omega
  have ip0 : (0 : Int) ≤ (p : Int) := by omega
  have ip1 : (p : Int) < (mm : Int) := by omega
  have HP := Lib.hid hp
  clear hp
  have hgt := h.gtlt
  have hgs := h.gslt
  have HH := Lib.hid h
  clear h
  have HRES := Lib.hid (inter_runs HH.out.mT.2.1 HH.out.mT.2.2 (D i j) P)
  generalize hPC : (fun x => D i j x && P x) = PC at *
  have HPC := Lib.hid hPC
  clear hPC
  go_enter Try.func39, Try.ntmps39
  go_upto_region 1 with fail
  go_cut [9] (fun s9 wx => s9 = .pointer (some ⟨w.heap.size, 0, none⟩) ∧ wx = (w.alloc (.cells #[.slice A0 (runs (D i j) T).length c0, .int .i64 (cntN (D i j) T)] 75)).drew)
  case first =>
    have k1d : w.drew.cell? ⟨gt, 1, none⟩ = some (.slice E m cE) := k1
    have k3d : w.drew.cell? ⟨gt, 3, none⟩ = some (.slice (some ⟨gs, 0, none⟩) mm mm) := k3
    have s0d : w.drew.cell? ⟨gs, p * 2, none⟩ = some (.slice A0 (runs (D i j) T).length c0) := s0
    have s1d : w.drew.cell? ⟨gs, p * 2 + 1, none⟩ = some (.int .i64 (cntN (D i j) T)) := s1
    go_region_held3 (fun w' => w'.cell? ⟨gt, 1, none⟩ = some (.slice E m cE) ∧ w'.cell? ⟨gt, 3, none⟩ = some (.slice (some ⟨gs, 0, none⟩) mm mm) ∧ w'.cell? ⟨gs, p * 2, none⟩ = some (.slice A0 (runs (D i j) T).length c0) ∧ w'.cell? ⟨gs, p * 2 + 1, none⟩ = some (.int .i64 (cntN (D i j) T)))
      (first | exact ⟨k1d, k3d, s0d, s1d⟩ | exact ⟨al k1d, al k3d, al s0d, al s1d⟩ | go_keep)
      (first
        | (go_at_call 38; refine (hat _ k1d).mono ?_; rintro e w' ⟨rfl, rfl⟩)
        | (go_at_call 38; refine (hat _ (al k1d)).mono ?_; rintro e w' ⟨rfl, rfl⟩))
    all_goals (go_wp2_with fail; go_meet; exact ⟨rfl, rfl⟩)
  case rest =>
    obtain ⟨rfl, rfl⟩ := hcut
    have bW : Below w.heap.size w (w.alloc (.cells #[.slice A0 (runs (D i j) T).length c0, .int .i64 (cntN (D i j) T)] 75)).drew := ((Below.refl _ w).alloc (Nat.le_refl _) _).drew
    have hblk : (w.alloc (.cells #[.slice A0 (runs (D i j) T).length c0, .int .i64 (cntN (D i j) T)] 75)).drew.heap[w.heap.size]? = some (.cells #[.slice A0 (runs (D i j) T).length c0, .int .i64 (cntN (D i j) T)] 75 (0, 0)) := heap_alloc_new w _
    have zW : w.heap.size < (w.alloc (.cells #[.slice A0 (runs (D i j) T).length c0, .int .i64 (cntN (D i j) T)] 75)).drew.heap.size := by show w.heap.size < (w.alloc _).heap.size; simp
    generalize (w.alloc (.cells #[.slice A0 (runs (D i j) T).length c0, .int .i64 (cntN (D i j) T)] 75)).drew = W at *
    have q0 : W.cell? ⟨w.heap.size, 0, none⟩ = some (.slice A0 (runs (D i j) T).length c0) := by rw [cell_of_row W _ 0 _ _ _ hblk]; rfl
    have q1 : W.cell? ⟨w.heap.size, 1, none⟩ = some (.int .i64 (cntN (D i j) T)) := by rw [cell_of_row W _ 1 _ _ _ hblk]; rfl
    have HW := Lib.hid (HH.out.below bW)
    have qT := HW.out.c0
    have zT := HW.out.gtlt
    have hT1 := HW.out.mT.2.1
    have hT2 := HW.out.mT.2.2
    have HR0 := Lib.hid (r0.kept (.of_below M bW))
    have HR := Lib.hid (hr.kept (.of_below M bW))
    have l0 := runs_len (D i j) T
    have l1 := runs_len P T
    have HIN := Lib.hid (fun W' (hb : Below W.heap.size W W') => intersect_any T A0 A c0 c (runs (D i j) T) (runs P T) W' (HR0.out.kept (.of_below M hb)).lst (HR.out.kept (.of_below M hb)).lst b0 hc (by have := b1; simp only [maxLen] at this; omega) (by have := hc'; simp only [maxLen] at this; omega))
    go_upto_region 2 with fail
    have hB : Below W.heap.size W W.drew := (Below.refl _ _).drew
    go_region_held3 (fun w' => w'.cell? ⟨w.heap.size, 0, none⟩ = some (.slice A0 (runs (D i j) T).length c0) ∧ w'.cell? ⟨gt, 0, none⟩ = some (.int .i64 T))
      (exact ⟨(hB.cell (p := ⟨w.heap.size, 0, none⟩) zW).trans q0, (hB.cell (p := ⟨gt, 0, none⟩) zT).trans qT⟩)
      ((go_at_call 66; refine (HIN.out _ hB).mono ?_; rintro e wx ⟨vx, rfl, hox, hbx⟩; replace hB := hB.trans (hbx.mono hB.size)))
    rw [HRES.out] at hox
    generalize badI T (runs (D i j) T) (runs P T) = er at *
    obtain ⟨A1, c1, rfl⟩ := hox.form
    have zx : W.heap.size ≤ wx.heap.size := hB.size
    have HX := Lib.hid (HW.out.below hB)
    have HRX := Lib.hid (show Row wx M A1 (runs PC T) from Row.own hox (fun k hk => Nat.lt_of_lt_of_le (hM k hk) (Nat.le_of_lt zW)))
    have HOX := Lib.hid (show (runs PC T).length ≤ c1 ∧ c1 ≤ maxLen from own_cap hox)
    have x0 := (hB.cell (p := ⟨w.heap.size, 0, none⟩) zW).trans q0
    have x1 := (hB.cell (p := ⟨w.heap.size, 1, none⟩) zW).trans q1
    have HBX := Lib.hid (bW.trans (hB.mono (Nat.le_of_lt zW)))
    clear hox hbx hB HIN HR HR0 HW q0 q1 qT zT hblk bW s0 s1 k1 k3
    rename_i hdrop
    clear hdrop
    go_wp2_with fail
    refine (tset_any gt T PC A1 c1 wx HX.out.c0 hT1 hT2 HRX.out.lst).mono ?_
    rintro e w3 ⟨rfl, hb3⟩
    have y0 := (hb3.cell (p := ⟨w.heap.size, 0, none⟩) (show w.heap.size < wx.heap.size by omega)).trans x0
    have y1 := (hb3.cell (p := ⟨w.heap.size, 1, none⟩) (show w.heap.size < wx.heap.size by omega)).trans x1
    have H3 := Lib.hid (HX.out.below hb3)
    have HR3 := Lib.hid (HRX.out.kept (.of_below M hb3))
    have z3 := hb3.size
    have HB3 := Lib.hid (HBX.out.trans (hb3.mono (by omega)))
    clear hb3 x0 x1 HX HRX HBX
    go_upto_region 4 with fail
    have bV := (Below.refl w3.heap.size w3).alloc (Nat.le_refl _) (.cells #[.slice A1 (runs PC T).length c1, .int .i64 (cntN PC T)] 75)
    have vblk := heap_alloc_new w3 (.cells #[.slice A1 (runs PC T).length c1, .int .i64 (cntN PC T)] 75)
    have zV : w3.heap.size < (w3.alloc (.cells #[.slice A1 (runs PC T).length c1, .int .i64 (cntN PC T)] 75)).heap.size := by simp
    have v1 := al (x := .cells #[.slice A1 (runs PC T).length c1, .int .i64 (cntN PC T)] 75) y1
    generalize w3.alloc (.cells #[.slice A1 (runs PC T).length c1, .int .i64 (cntN PC T)] 75) = V at *
    have t0 : V.cell? ⟨w3.heap.size, 0, none⟩ = some (.slice A1 (runs PC T).length c1) := by rw [cell_of_row V _ 0 _ _ _ vblk]; rfl
    have t1 : V.cell? ⟨w3.heap.size, 1, none⟩ = some (.int .i64 (cntN PC T)) := by rw [cell_of_row V _ 1 _ _ _ vblk]; rfl
    have HV := Lib.hid (H3.out.below bV)
    have HRV := Lib.hid (HR3.out.kept (.of_below M bV))
    have HBV := Lib.hid (HB3.out.trans (bV.mono (by omega)))
    clear H3 HR3 HB3 bV vblk y0 y1
    by_cases hq : cntN PC T = cntN (D i j) T
    · have dq : (((cntN PC T : Nat) : Int) == ((cntN (D i j) T : Nat) : Int)) = true := by simp [hq]
      have HQ := Lib.hid hq
      clear hq
      go_wp2_with fail
      go_ret
      exact .inl ⟨HQ.out, rfl, HBV.out⟩
    · have dq : (((cntN PC T : Nat) : Int) == ((cntN (D i j) T : Nat) : Int)) = false := by simp; omega
      have HQ := Lib.hid hq
      clear hq
      go_upto_region 6 with fail
      clear v1
      have HVd := Lib.hid (show Tb { V with drawn := V.drawn + 1 } gt gs M m T E cE va vq vw D e from HV.out.below ((Below.refl _ V).drew))
      have HRVd := Lib.hid (show Row { V with drawn := V.drawn + 1 } M A1 (runs PC T) from HRV.out.kept (.of_below M ((Below.refl _ V).drew)))
      have HBVd := Lib.hid (show Below w.heap.size w { V with drawn := V.drawn + 1 } from HBV.out.drew)
      have t0d : { V with drawn := V.drawn + 1 }.cell? ⟨w3.heap.size, 0, none⟩ = some (.slice A1 (runs PC T).length c1) := t0
      have t1d : { V with drawn := V.drawn + 1 }.cell? ⟨w3.heap.size, 1, none⟩ = some (.int .i64 (cntN PC T)) := t1
      have zVd : w3.heap.size < { V with drawn := V.drawn + 1 }.heap.size := zV
      refine wp_region_still_tail 10 (by kernel_rfl) (by kernel_rfl) ?_
      simp only [List.take_succ_cons, List.take_zero, List.drop_succ_cons, List.drop_zero]
      clear HV HRV HBV t0 t1 zV
      generalize { V with drawn := V.drawn + 1 } = V1 at *
      have k1 := HVd.out.c1
      have k3 := HVd.out.c3
      rw [HMM.out] at k3
      obtain ⟨A2, c2, s0, s1, _⟩ := HVd.out.set i j hi hj
      rw [HP.out] at s0 s1
      have fs0 := HVd.out.fs (p * 2)
      have fs1 := HVd.out.fs (p * 2 + 1)
      still_step
      still_step
      still_step
      still_step
      still_step
      still_step
      still_step
      still_call (hat _ k1)
      still_step
      still_step
      refine wpStill_nil ?_
      go_upto_region 7 with fail
      have HST := Lib.hid (HVd.out.store hi hj (P := PC) HRVd.out HOX.out.1 HOX.out.2)
      have HRS := Lib.hid (HRVd.out.kept (HST.out.2.more (fun k hk => .inl (by rw [List.mem_singleton.1 hk]; exact HVd.out.inM.2.1))))
      rw [HP.out] at HST HRS
      have hne3 : w3.heap.size ≠ gs := by omega
      have t1s := (cell_set_ne' (w := V1.setCell ⟨gs, p * 2, none⟩ (.slice A1 (runs PC T).length c1)) (B := gs) (o' := p * 2 + 1) (v := .int .i64 (cntN PC T)) hne3).trans ((cell_set_ne' (v := .slice A1 (runs PC T).length c1) (o' := p * 2) hne3).trans t1d)
      have zX : w3.heap.size < ((V1.setCell ⟨gs, p * 2, none⟩ (.slice A1 (runs PC T).length c1)).setCell ⟨gs, p * 2 + 1, none⟩ (.int .i64 (cntN PC T))).heap.size := by simpa [World.setCell] using zVd
      clear t0d t1d fs0 fs1 s0 s1 k1 k3
      generalize (V1.setCell ⟨gs, p * 2, none⟩ (.slice A1 (runs PC T).length c1)).setCell ⟨gs, p * 2 + 1, none⟩ (.int .i64 (cntN PC T)) = X at *
      have k1 := HST.out.1.c1
      have k3 := HST.out.1.c3
      have k0 := HST.out.1.c0
      rw [HMM.out] at k3
      have gX := HST.out.1.gtlt
      have sX := HST.out.1.gslt
      obtain ⟨A2, c2, s0, s1, _⟩ := HST.out.1.set j i hj hi
      rw [HPJ.out] at s0 s1
      have hgg := HST.out.1.inM.2.2
      have HF := Lib.hid HST.out.1.fs
      have HNG := Lib.hid (fun W' (hb : Below X.heap.size X W') => tneg_any gt T PC A1 c1 W' ((hb.cell (p := ⟨gt, 0, none⟩) gX).trans k0) hT1 hT2 (HRS.out.kept (.of_below M hb)).lst)
      have HLT := Lib.hid (show w.heap.size < X.heap.size by omega)
      go_cut [] (fun wy => Tb wy gt gs M m T E cE va vq vw (putT (putT D i j PC) j i (negB T PC)) e ∧ Kept [gs] X wy ∧ wy.cell? ⟨w3.heap.size, 1, none⟩ = some (.int .i64 (cntN PC T)))
      case first =>
        have hB : Below X.heap.size X X.drew := (Below.refl _ _).drew
        go_region_held3 (fun w' => w'.cell? ⟨gt, 1, none⟩ = some (.slice E m cE) ∧ w'.cell? ⟨gt, 3, none⟩ = some (.slice (some ⟨gs, 0, none⟩) mm mm))
          (first
            | exact ⟨(hB.cell (p := ⟨gt, 1, none⟩) gX).trans k1, (hB.cell (p := ⟨gt, 3, none⟩) gX).trans k3⟩
            | exact ⟨(cell_set_ne' hgg).trans ((cell_set_ne' hgg).trans ((hB.cell (p := ⟨gt, 1, none⟩) gX).trans k1)), (cell_set_ne' hgg).trans ((cell_set_ne' hgg).trans ((hB.cell (p := ⟨gt, 3, none⟩) gX).trans k3))⟩)
          (first
            | (go_at_call 38; refine (hatj _ ((hB.cell (p := ⟨gt, 1, none⟩) gX).trans k1)).mono ?_; rintro e w' ⟨rfl, rfl⟩)
            | (go_at_call 67; refine (HNG.out _ hB).mono ?_; rintro e wn ⟨A3, c3, rfl, ho3, hb3⟩; replace hB := hB.trans (hb3.mono hB.size))
            | (go_at_call 65; refine (tset_any gt T (negB T PC) A3 c3 _ ((hB.cell (p := ⟨gt, 0, none⟩) gX).trans k0) hT1 hT2 (Own.lst encS_len ho3)).mono ?_; rintro e wy ⟨rfl, hb4⟩; have ho4 := ho3.below' hb4; replace hB := hB.trans (hb4.mono hB.size); have g0 := (hB.cell (p := ⟨gs, pj * 2, none⟩) sX).trans s0; have g1 := (hB.cell (p := ⟨gs, pj * 2 + 1, none⟩) sX).trans s1; have f0 := (hB.frozen (p := ⟨gs, pj * 2, none⟩) sX).trans (HF.out _); have f1 := (hB.frozen (p := ⟨gs, pj * 2 + 1, none⟩) sX).trans (HF.out _)))
        all_goals (
          have hTy := HST.out.1.below hB
          have st := hTy.store hj hi (P := negB T PC) (Row.own ho4 (fun k hk => Nat.lt_trans (hM k hk) HLT.out)) (own_cap ho4).1 (own_cap ho4).2
          rw [HPJ.out] at st
          have HS := Lib.hid st
          have HC := Lib.hid ((hB.cell (p := ⟨w3.heap.size, 1, none⟩) zX).trans t1s)
          clear st hTy ho3 ho4 g0 g1 f0 f1
          go_wp2_with fail
          go_meet
          exact ⟨HS.out.1, (Kept.of_below [gs] hB).trans HS.out.2 (fun k hk => .inl hk), (cell_set_ne' hne3).trans ((cell_set_ne' hne3).trans HC.out)⟩)
      case rest =>
        obtain ⟨hTc, hKc, hcc⟩ := hcut
        have c6 := hTc.c6
        have f6 := hTc.fz 6
        have HT := Lib.hid hTc
        have HK := Lib.hid (show Kept [gt, gs] w wc from ((Kept.of_below [gt, gs] HBVd.out).trans HST.out.2 (fun k hk => .inl (by simp at hk; simp [hk]))).trans hKc (fun k hk => .inl (by simp at hk; simp [hk])))
        have HEQ := Lib.hid (show ∀ a b, a < m → b < m → ∀ x, x < T → putT (putT D i j PC) j i (negB T PC) a b x = resT T D i j P a b x from fun a b _ _ x _ => by
          have e1 := HPC.out
          unfold putT resT negB
          rw [← e1]
          by_cases h1 : a = j ∧ b = i
          · obtain ⟨rfl, rfl⟩ := h1
            have : ¬ (a = b ∧ b = a) := fun q => hij q.2
            simp [this]
          · by_cases h2 : a = i ∧ b = j
            · obtain ⟨rfl, rfl⟩ := h2
              simp [h1]
            · simp [h1, h2])
        clear hTc hKc
        cases e with
        | true =>
          go_wp2_with fail
          go_ret
          obtain ⟨g1, g2⟩ := HT.out.flag true
          exact .inr ⟨HQ.out, rfl, (by simpa using g1.congr HEQ.out), HK.out.trans g2 (fun k hk => .inl (by simp at hk; simp [hk]))⟩
        | false =>
          by_cases hz : cntN PC T = 0
          · have dz : (((cntN PC T : Nat) : Int) == 0) = true := by simp [hz]
            have HZ := Lib.hid hz
            clear hz
            go_wp2_with fail
            go_ret
            obtain ⟨g1, g2⟩ := HT.out.flag true
            exact .inr ⟨HQ.out, rfl, (by rw [HZ.out]; exact g1.congr HEQ.out), HK.out.trans g2 (fun k hk => .inl (by simp at hk; simp [hk]))⟩
          · have dz : (((cntN PC T : Nat) : Int) == 0) = false := by simp [hz]
            have HZ := Lib.hid hz
            clear hz
            go_wp2_with fail
            go_ret
            obtain ⟨g1, g2⟩ := HT.out.flag false
            exact .inr ⟨HQ.out, rfl, (by rw [decide_eq_false HZ.out]; exact g1.congr HEQ.out), HK.out.trans g2 (fun k hk => .inl (by simp at hk; simp [hk]))⟩

end Go.Proofs.Ytbhjnihcmfagjaa
