/-
  Contract of headway.Windows.
-/
import Derived.Test.YtdijhhfmicafjaaWinP
import Derived.Test.YtdijhhfmicafjaaQ
set_option linter.unusedVariables false
set_option linter.unusedSimpArgs false
namespace Go.Proofs.Ytdijhhfmicafjaa
open Go.RowKit RP

abbrev OwnW (w : World) (base : Nat) (v : Value) (l : List Sp) : Prop := Own encS 2 50 w base v l
theorem infoWin : (Try.prog.info? 50).map (fun i => (i.zero, i.size, i.bytes)) = some (some (.agg #[.int .i64 0, .int .i64 0]), 2, 16) := by kernel_rfl
theorem elemW : ElemOk Try.prog encS 2 50 16 :=
  ⟨fun _ => rfl, by omega, encS_one, by
    obtain ⟨i, hi, h0, h1, h2⟩ := info_parts infoWin
    exact ⟨i, _, hi, h0, h1, h2, rfl⟩⟩

def winErr (t : Int) (a b : List Occ) : Int := if forbErr t a b = 0 then (if countL t (forbL t a b) = t then 13 else 0) else forbErr t a b
def winR (t : Int) (a b : List Occ) : List Sp := if winErr t a b = 0 then winL t (forbL t a b) else []
def win1 (t : Int) (u : Sp) : Sp := (u.2, u.1 + t - 1)

theorem Lst.drop1 {α : Type} {enc : α → List Value} {k : Nat} {w : World} {B b off : Nat} {l : List α} (h : Lst enc k w B (some ⟨b, off, none⟩) l) (hl : 0 < l.length) : Lst enc k w B (some ⟨b, off + k, none⟩) (l.drop 1) := by
  cases l with
  | nil => simp at hl
  | cons x xs => exact h.tail
theorem wrap_no {t : Int} {s : List Sp} (h : ¬ (1 < s.length ∧ (s.getD 0 (0, 0)).1 = 0 ∧ (s.getD (s.length - 1) (0, 0)).2 = t)) : wrapL t s = s := by rw [wrapL, if_neg h]

set_option maxHeartbeats 4000000 in
set_option maxRecDepth 100000 in
theorem windows_any (t : Int) (A B : Option Addr) (c d : Nat) (a b : List Occ) (w : World) (ha : Lst encO 3 w w.heap.size A a) (hb : Lst encO 3 w w.heap.size B b) (hac : a.length ≤ c) (hcm : c ≤ 9223372036854775807) (hbc : b.length ≤ d) (hdm : d ≤ 9223372036854775807) :
    Calls Try.prog 21 #[.int .i64 t, .slice A a.length c, .slice B b.length d] w fun e w' =>
      ∃ v, e = .returned (.tuple #[v, .int .i64 (winErr t a b)]) ∧ OwnW w' w.heap.size v (winR t a b) ∧ Below w.heap.size w w' := by
  have hfb := forbidden_any t A B c d a b w ha hb hac hcm hbc hdm
  by_cases h0 : forbErr t a b = 0
  · have hr : inRange t = true ∧ validO (-1) a = true ∧ validO (-1) b = true := by
      unfold forbErr at h0
      split at h0
      · rename_i q; split at h0
        · rename_i q'; simp at q'; exact ⟨q, q'.1, q'.2⟩
        · simp at h0
      · simp at h0
    have ht : 1 ≤ t ∧ t ≤ 7200 := by simpa [inRange] using hr.1
    obtain ⟨T, rfl⟩ := Int.eq_ofNat_of_zero_le (show 0 ≤ t by omega)
    obtain ⟨t1, t2⟩ : 1 ≤ T ∧ T ≤ 7200 := by omega
    have hsv : validFrom T (-1) (forbL T a b) = true := by rw [forbL_ok t1 t2 hr.2.1 hr.2.2]; exact runs_valid _ _
    have hlen := valid_length hsv (by omega)
    have htot := total_bound hsv (by omega)
    have hcl : countL T (forbL T a b) = total (forbL T a b) := by simp [countL, validL, hr.1, hsv]
    have htot2 : total (forbL T a b) ≤ T := by rw [forbL_ok t1 t2 hr.2.1 hr.2.2, total_runs]; exact_mod_cast cntN_le _ _
    have HEq : winErr T a b = (if total (forbL T a b) = T then 13 else 0) := by rw [winErr, if_pos h0, hcl]
    have HRq : winR T a b = (if total (forbL T a b) = T then [] else winL T (forbL T a b)) := by rw [winR, HEq]; split <;> simp
    rw [h0] at hfb
    generalize forbL T a b = s at *
    clear hr h0
    have hcn := fun A0 c0 W h => countPub_any T A0 c0 s W h (by omega)
    rw [hcl] at hcn
    by_cases hfull : total s = T
    · rw [if_pos hfull] at HEq HRq
      have HE := Lib.hid HEq
      have HR := Lib.hid HRq
      have HC := Lib.hid hcn
      rw [hfull] at HC
      have dd : ((T : Int) == (T : Int)) = true := by simp
      clear hcl hcn hfull HEq HRq hsv
      go_enter Try.func21, Try.ntmps21
      go_wp2_with fail
      refine hfb.mono ?_
      rintro e w1 ⟨v1, rfl, ho1, hb1⟩
      clear hfb
      obtain ⟨A1, c1, rfl⟩ := ho1.form
      go_wp2_with fail
      refine (HC.out A1 c1 w1 (ho1.lst encS_len)).mono ?_
      rintro e w2 ⟨rfl, hb2⟩
      go_wp2_with fail
      go_ret2
      exact ⟨_, by rw [HE.out]; rfl, by rw [HR.out]; exact Own.nil _ _ _ _ _, hb1.trans (hb2.mono hb1.size)⟩
    · rw [if_neg hfull] at HEq HRq
      have HE := Lib.hid HEq
      have HC := Lib.hid hcn
      have HW := Lib.hid (wrap_len hsv (by omega))
      have HVL := Lib.hid hsv
      have HR0 := Lib.hid HRq
      have dd : (total s == (T : Int)) = false := by simp [hfull]
      generalize total s = S at *
      clear hcl hcn hfull HEq HRq hsv
      by_cases c1 : 1 < s.length ∧ (s.getD 0 (0, 0)).1 = 0 ∧ (s.getD (s.length - 1) (0, 0)).2 = T
      · have g0 : s.getD 0 (0, 0) = s[0] := by simp [List.getD, List.getElem?_eq_getElem (show 0 < s.length by omega)]
        have g1 : s.getD (s.length - 1) (0, 0) = s[s.length - 1] := by simp [List.getD, List.getElem?_eq_getElem (show s.length - 1 < s.length by omega)]
        have HWR : wrapL T s = (s.set (s.length - 1) (s[s.length - 1].1, s[s.length - 1].2 + s[0].2)).drop 1 := by rw [wrapL, if_pos c1, g0, g1]
        rw [g0, g1] at c1
        obtain ⟨x0, hx0⟩ : ∃ x, s[0] = x := ⟨_, rfl⟩
        obtain ⟨xn, hxn⟩ : ∃ x, s[s.length - 1] = x := ⟨_, rfl⟩
        have vx0 := valid_elt HVL.out x0 (by rw [← hx0]; exact List.getElem_mem _)
        have vxn := valid_elt HVL.out xn (by rw [← hxn]; exact List.getElem_mem _)
        rw [hx0, hxn] at c1 HWR
        have HX0 := Lib.hid (show s[0]? = some x0 by rw [List.getElem?_eq_getElem (by omega), hx0])
        have HXN := Lib.hid (show s[s.length - 1]? = some xn by rw [List.getElem?_eq_getElem (by omega), hxn])
        have HXS := Lib.hid hxn
        clear g0 g1 hx0 hxn
        obtain ⟨x0f, x0e⟩ := x0
        obtain ⟨xnf, xne⟩ := xn
        simp only at c1 HWR vx0 vxn
        obtain ⟨c2, rfl, rfl⟩ := c1
        have HR := Lib.hid (show winR T a b = ((s.set (s.length - 1) (xnf, (T : Int) + x0e)).drop 1).map (win1 T) by rw [HR0.out, winL, HWR]; rfl)
        have HUB : Hid (∀ u ∈ (s.set (s.length - 1) (xnf, (T : Int) + x0e)).drop 1, 0 ≤ u.1 ∧ u.1 < T ∧ 1 ≤ u.2 - u.1 ∧ u.2 - u.1 < T) := by rw [HWR] at HW; exact HW
        clear HWR HW HR0
        obtain ⟨vx1, vx2, vx3⟩ := vx0
        obtain ⟨vn1, vn2, vn3⟩ := vxn
        go_enter Try.func21, Try.ntmps21
        go_wp2_with fail
        refine hfb.mono ?_
        rintro e w1 ⟨v1, rfl, ho1, hb1⟩
        clear hfb
        obtain ⟨A1, c1, rfl⟩ := ho1.form
        have hl1 := ho1.lst encS_len
        have z1 := hb1.size
        go_wp2_with fail
        refine (HC.out A1 c1 w1 hl1).mono ?_
        rintro e w2 ⟨rfl, hb2⟩
        have z2 := hb2.size
        have ho2 := ho1.below' hb2
        have hB := hb1.trans (hb2.mono z1)
        obtain ⟨g, cq, hq, hg1, hg2, hg3, hcc, hfr⟩ := ho2.at_ encS_len (by rintro rfl; simp at c2)
        injection hq with hq1 _ hq2
        subst hq1 hq2
        have k0 := hcc 0 _ HX0.out 0 _ rfl
        have k01 := hcc 0 _ HX0.out 1 _ rfl
        have k1 := hcc (s.length - 1) _ HXN.out 1 _ rfl
        have kf := hfr ((s.length - 1) * 2 + 1)
        simp only [Nat.zero_mul, Nat.add_zero, Nat.zero_add] at k0 k01 k1
        have hst := ho2.stored encS_len (s.length - 1) 1 (.int .i64 ((T : Int) + x0e)) (xnf, (T : Int) + x0e) (by omega) (by omega) (by rw [HXS.out]; rfl)
        clear hcc hfr
        go_wp2_with fail
        go_region
        go_wp2_with fail
        have ho3 : OwnS (w2.setCell ⟨g, (s.length - 1) * 2 + 1, none⟩ (.int .i64 ((T : Int) + x0e))).drew w.heap.size (.slice (some ⟨g, 0, none⟩) s.length c1) (s.set (s.length - 1) (xnf, (T : Int) + x0e)) := (hst.1.drew).rebase (by omega)
        have hB3 : Below w.heap.size w (w2.setCell ⟨g, (s.length - 1) * 2 + 1, none⟩ (.int .i64 ((T : Int) + x0e))).drew := (hB.setCell (p := ⟨g, (s.length - 1) * 2 + 1, none⟩) (by show w.heap.size ≤ g; omega) _).drew
        have hu0 := ho3.lst encS_len
        clear hst k0 k01 k1 kf ho2 hB
        generalize (w2.setCell ⟨g, (s.length - 1) * 2 + 1, none⟩ (.int .i64 ((T : Int) + x0e))).drew = W3 at *
        have hu := hu0.drop1 (by simp; omega)
        rw [Nat.zero_add] at hu
        have hUL : ((s.set (s.length - 1) (xnf, (T : Int) + x0e)).drop 1).length = s.length - 1 := by simp
        have hul2 : ((s.set (s.length - 1) (xnf, (T : Int) + x0e)).drop 1).length ≤ 7200 := by rw [hUL]; omega
        generalize (s.set (s.length - 1) (xnf, (T : Int) + x0e)).drop 1 = u at *
        rw [← hUL]
        have hz3 := hB3.size
        clear hUL hu0 ho3 HX0 HXN HXS
        go_loopg [11, 13, 67] u.length (fun g s11 s13 s67 wr => ∃ k : Nat, k ≤ u.length ∧ g = u.length - k ∧ s67 = .int .i64 k ∧ OwnW wr W3.heap.size s11 ((u.take k).map (win1 T)) ∧ Below W3.heap.size W3 wr)
        case atStart => exact ⟨0, by omega, by omega, rfl, Own.nil _ _ _ _ _, Below.refl _ _⟩
        case round =>
          obtain ⟨k, hk, hg, rfl, ho11, hbw⟩ := hrel
          have hz := hbw.size
          by_cases hlt : k < u.length
          · obtain ⟨bq, oq, hA, hbqw, b0, b1⟩ := (hu.below hbw).sp k hlt
            first
              | subst hA
              | (injection hA with hA; injection hA with q1 q2; subst q1 q2)
            obtain ⟨u1, u2, u3, u4⟩ := HUB.out u[k] (List.getElem_mem hlt)
            have HS := Lib.hid (show (u.take (k + 1)).map (win1 T) = (u.take k).map (win1 T) ++ [win1 T u[k]] by rw [take_snoc u k hlt, List.map_append]; rfl)
            obtain ⟨A11, c11, rfl⟩ := ho11.form
            have hml : ((u.take k).map (win1 T)).length ≤ k := by simp; omega
            obtain ⟨L, hL⟩ : ∃ L, (u.take k).map (win1 T) = L := ⟨_, rfl⟩
            rw [hL] at ho11 HS hml ⊢
            clear hL
            generalize u[k] = x at *
            obtain ⟨xf, xe⟩ := x
            simp only at u1 u2 u3 u4 b0 b1
            have kb0 : (wr.alloc (.cells #[.int .i64 xf, .int .i64 xe] 47)).cell? ⟨wr.heap.size, 0, none⟩ = some (.int .i64 xf) := by rw [World.cell?_alloc_at _ _ _ _ rfl]; rfl
            have kb1 : (wr.alloc (.cells #[.int .i64 xf, .int .i64 xe] 47)).cell? ⟨wr.heap.size, 1, none⟩ = some (.int .i64 xe) := by rw [World.cell?_alloc_at _ _ _ _ rfl]; rfl
            have hbW := hbw.alloc hz (.cells #[.int .i64 xf, .int .i64 xe] 47)
            have hoW := ho11.alloc (.cells #[.int .i64 xf, .int .i64 xe] 47)
            go_upto_region 14 with fail
            generalize wr.alloc (.cells #[.int .i64 xf, .int .i64 xe] 47) = W0 at *
            clear hbw hz ho11
            have hz := hbW.size
            go_wp2_with (at_builtin; refine wpList_append_rec rfl _ _ 42 rfl W3.heap.size 50 16 Try.underlying42 elemW _ L rfl hoW [(xe, xf + T - 1)] _ rfl 1 1 rfl rfl (by simp only [Go.maxLen, List.length_cons, List.length_nil]; omega) (by simp only [List.length_cons, List.length_nil]; omega) hz ?_; intro v1 w5 ho5 hg5 hat5)
            go_roundg (u.length - (k + 1))
            case measure => omega
            case rel => exact ⟨k + 1, by omega, rfl, by go_num, by rw [HS.out]; exact ho5, hbW.grown hg5 hz (hoW.le (Nat.le_refl _))⟩
          · go_wp2_with fail
            go_ret2
            refine ⟨_, by rw [HE.out]; rfl, ?_, hB3.trans (hbw.mono (by omega))⟩
            rw [HR.out]
            have e : u.take k = u := List.take_of_length_le (by omega)
            rw [e] at ho11
            exact ho11.rebase (by omega)
      · have hwr := wrap_no c1
        have HR := Lib.hid (show winR T a b = s.map (win1 T) by rw [HR0.out, winL, hwr]; rfl)
        have HUB : Hid (∀ u ∈ s, 0 ≤ u.1 ∧ u.1 < T ∧ 1 ≤ u.2 - u.1 ∧ u.2 - u.1 < T) := by rw [hwr] at HW; exact HW
        clear hwr HW HR0
        by_cases c2 : 1 < s.length
        · have g0 : s.getD 0 (0, 0) = s[0] := by simp [List.getD, List.getElem?_eq_getElem (show 0 < s.length by omega)]
          have g1 : s.getD (s.length - 1) (0, 0) = s[s.length - 1] := by simp [List.getD, List.getElem?_eq_getElem (show s.length - 1 < s.length by omega)]
          rw [g0, g1] at c1
          obtain ⟨x0, hx0⟩ : ∃ x, s[0] = x := ⟨_, rfl⟩
          obtain ⟨xn, hxn⟩ : ∃ x, s[s.length - 1] = x := ⟨_, rfl⟩
          rw [hx0, hxn] at c1
          have HX0 := Lib.hid (show s[0]? = some x0 by rw [List.getElem?_eq_getElem (by omega), hx0])
          have HXN := Lib.hid (show s[s.length - 1]? = some xn by rw [List.getElem?_eq_getElem (by omega), hxn])
          clear g0 g1 hx0 hxn
          obtain ⟨x0f, x0e⟩ := x0
          obtain ⟨xnf, xne⟩ := xn
          simp only at c1
          by_cases c3 : x0f = 0
          · have d3 : (x0f == 0) = true := by simp [c3]
            have d4 : (xne == (T : Int)) = false := by simp; intro h; exact c1 ⟨c2, c3, h⟩
            clear c1 c3
            go_enter Try.func21, Try.ntmps21
            go_wp2_with fail
            refine hfb.mono ?_
            rintro e w1 ⟨v1, rfl, ho1, hb1⟩
            clear hfb
            obtain ⟨A1, c1, rfl⟩ := ho1.form
            have hl1 := ho1.lst encS_len
            have z1 := hb1.size
            go_wp2_with fail
            refine (HC.out A1 c1 w1 hl1).mono ?_
            rintro e w2 ⟨rfl, hb2⟩
            have z2 := hb2.size
            have hu := hl1.belowMore hb2 z2
            have hB := hb1.trans (hb2.mono z1)
            obtain ⟨bb, boff, rfl, hbbw, hcc⟩ := hu (by rintro rfl; simp at c2)
            have k0 := hcc 0 _ HX0.out 0 _ rfl
            have k1 := hcc (s.length - 1) _ HXN.out 1 _ rfl
            simp only [Nat.zero_mul, Nat.add_zero] at k0 k1
            clear hcc
            go_wp2_with fail
            clear k0 k1
            go_loopg [11, 13, 67] s.length (fun g s11 s13 s67 wr => ∃ k : Nat, k ≤ s.length ∧ g = s.length - k ∧ s67 = .int .i64 k ∧ OwnW wr w2.heap.size s11 ((s.take k).map (win1 T)) ∧ Below w2.heap.size w2 wr)
            case atStart => exact ⟨0, by omega, by omega, rfl, Own.nil _ _ _ _ _, Below.refl _ _⟩
            case round =>
              obtain ⟨k, hk, hg, rfl, ho11, hbw⟩ := hrel
              have hz := hbw.size
              by_cases hlt : k < s.length
              · obtain ⟨bq, oq, hA, hbqw, b0, b1⟩ := (hu.below hbw).sp k hlt
                first
                  | subst hA
                  | (injection hA with hA; injection hA with q1 q2; subst q1 q2)
                obtain ⟨u1, u2, u3, u4⟩ := HUB.out s[k] (List.getElem_mem hlt)
                have HS := Lib.hid (show (s.take (k + 1)).map (win1 T) = (s.take k).map (win1 T) ++ [win1 T s[k]] by rw [take_snoc s k hlt, List.map_append]; rfl)
                obtain ⟨A11, c11, rfl⟩ := ho11.form
                have hml : ((s.take k).map (win1 T)).length ≤ k := by simp; omega
                obtain ⟨L, hL⟩ : ∃ L, (s.take k).map (win1 T) = L := ⟨_, rfl⟩
                rw [hL] at ho11 HS hml ⊢
                clear hL
                generalize s[k] = x at *
                obtain ⟨xf, xe⟩ := x
                simp only at u1 u2 u3 u4 b0 b1
                have kb0 : (wr.alloc (.cells #[.int .i64 xf, .int .i64 xe] 47)).cell? ⟨wr.heap.size, 0, none⟩ = some (.int .i64 xf) := by rw [World.cell?_alloc_at _ _ _ _ rfl]; rfl
                have kb1 : (wr.alloc (.cells #[.int .i64 xf, .int .i64 xe] 47)).cell? ⟨wr.heap.size, 1, none⟩ = some (.int .i64 xe) := by rw [World.cell?_alloc_at _ _ _ _ rfl]; rfl
                have hbW := hbw.alloc hz (.cells #[.int .i64 xf, .int .i64 xe] 47)
                have hoW := ho11.alloc (.cells #[.int .i64 xf, .int .i64 xe] 47)
                go_upto_region 14 with fail
                generalize wr.alloc (.cells #[.int .i64 xf, .int .i64 xe] 47) = W0 at *
                clear hbw hz ho11
                have hz := hbW.size
                go_wp2_with (at_builtin; refine wpList_append_rec rfl _ _ 42 rfl w2.heap.size 50 16 Try.underlying42 elemW _ L rfl hoW [(xe, xf + T - 1)] _ rfl 1 1 rfl rfl (by simp only [Go.maxLen, List.length_cons, List.length_nil]; omega) (by simp only [List.length_cons, List.length_nil]; omega) hz ?_; intro v1 w5 ho5 hg5 hat5)
                go_roundg (s.length - (k + 1))
                case measure => omega
                case rel => exact ⟨k + 1, by omega, rfl, by go_num, by rw [HS.out]; exact ho5, hbW.grown hg5 hz (hoW.le (Nat.le_refl _))⟩
              · go_wp2_with fail
                go_ret2
                refine ⟨_, by rw [HE.out]; rfl, ?_, hB.trans (hbw.mono (by omega))⟩
                rw [HR.out]
                have e : s.take k = s := List.take_of_length_le (by omega)
                rw [e] at ho11
                exact ho11.rebase (by omega)
          · have d3 : (x0f == 0) = false := by simp [c3]
            clear c1 c3
            go_enter Try.func21, Try.ntmps21
            go_wp2_with fail
            refine hfb.mono ?_
            rintro e w1 ⟨v1, rfl, ho1, hb1⟩
            clear hfb
            obtain ⟨A1, c1, rfl⟩ := ho1.form
            have hl1 := ho1.lst encS_len
            have z1 := hb1.size
            go_wp2_with fail
            refine (HC.out A1 c1 w1 hl1).mono ?_
            rintro e w2 ⟨rfl, hb2⟩
            have z2 := hb2.size
            have hu := hl1.belowMore hb2 z2
            have hB := hb1.trans (hb2.mono z1)
            obtain ⟨bb, boff, rfl, hbbw, hcc⟩ := hu (by rintro rfl; simp at c2)
            have k0 := hcc 0 _ HX0.out 0 _ rfl
            have k1 := hcc (s.length - 1) _ HXN.out 1 _ rfl
            simp only [Nat.zero_mul, Nat.add_zero] at k0 k1
            clear hcc
            go_wp2_with fail
            clear k0 k1
            go_loopg [11, 13, 67] s.length (fun g s11 s13 s67 wr => ∃ k : Nat, k ≤ s.length ∧ g = s.length - k ∧ s67 = .int .i64 k ∧ OwnW wr w2.heap.size s11 ((s.take k).map (win1 T)) ∧ Below w2.heap.size w2 wr)
            case atStart => exact ⟨0, by omega, by omega, rfl, Own.nil _ _ _ _ _, Below.refl _ _⟩
            case round =>
              obtain ⟨k, hk, hg, rfl, ho11, hbw⟩ := hrel
              have hz := hbw.size
              by_cases hlt : k < s.length
              · obtain ⟨bq, oq, hA, hbqw, b0, b1⟩ := (hu.below hbw).sp k hlt
                first
                  | subst hA
                  | (injection hA with hA; injection hA with q1 q2; subst q1 q2)
                obtain ⟨u1, u2, u3, u4⟩ := HUB.out s[k] (List.getElem_mem hlt)
                have HS := Lib.hid (show (s.take (k + 1)).map (win1 T) = (s.take k).map (win1 T) ++ [win1 T s[k]] by rw [take_snoc s k hlt, List.map_append]; rfl)
                obtain ⟨A11, c11, rfl⟩ := ho11.form
                have hml : ((s.take k).map (win1 T)).length ≤ k := by simp; omega
                obtain ⟨L, hL⟩ : ∃ L, (s.take k).map (win1 T) = L := ⟨_, rfl⟩
                rw [hL] at ho11 HS hml ⊢
                clear hL
                generalize s[k] = x at *
                obtain ⟨xf, xe⟩ := x
                simp only at u1 u2 u3 u4 b0 b1
                have kb0 : (wr.alloc (.cells #[.int .i64 xf, .int .i64 xe] 47)).cell? ⟨wr.heap.size, 0, none⟩ = some (.int .i64 xf) := by rw [World.cell?_alloc_at _ _ _ _ rfl]; rfl
                have kb1 : (wr.alloc (.cells #[.int .i64 xf, .int .i64 xe] 47)).cell? ⟨wr.heap.size, 1, none⟩ = some (.int .i64 xe) := by rw [World.cell?_alloc_at _ _ _ _ rfl]; rfl
                have hbW := hbw.alloc hz (.cells #[.int .i64 xf, .int .i64 xe] 47)
                have hoW := ho11.alloc (.cells #[.int .i64 xf, .int .i64 xe] 47)
                go_upto_region 14 with fail
                generalize wr.alloc (.cells #[.int .i64 xf, .int .i64 xe] 47) = W0 at *
                clear hbw hz ho11
                have hz := hbW.size
                go_wp2_with (at_builtin; refine wpList_append_rec rfl _ _ 42 rfl w2.heap.size 50 16 Try.underlying42 elemW _ L rfl hoW [(xe, xf + T - 1)] _ rfl 1 1 rfl rfl (by simp only [Go.maxLen, List.length_cons, List.length_nil]; omega) (by simp only [List.length_cons, List.length_nil]; omega) hz ?_; intro v1 w5 ho5 hg5 hat5)
                go_roundg (s.length - (k + 1))
                case measure => omega
                case rel => exact ⟨k + 1, by omega, rfl, by go_num, by rw [HS.out]; exact ho5, hbW.grown hg5 hz (hoW.le (Nat.le_refl _))⟩
              · go_wp2_with fail
                go_ret2
                refine ⟨_, by rw [HE.out]; rfl, ?_, hB.trans (hbw.mono (by omega))⟩
                rw [HR.out]
                have e : s.take k = s := List.take_of_length_le (by omega)
                rw [e] at ho11
                exact ho11.rebase (by omega)
        · go_enter Try.func21, Try.ntmps21
          go_wp2_with fail
          refine hfb.mono ?_
          rintro e w1 ⟨v1, rfl, ho1, hb1⟩
          clear hfb c1
          obtain ⟨A1, c1, rfl⟩ := ho1.form
          have hl1 := ho1.lst encS_len
          have z1 := hb1.size
          go_wp2_with fail
          refine (HC.out A1 c1 w1 hl1).mono ?_
          rintro e w2 ⟨rfl, hb2⟩
          have z2 := hb2.size
          have hu := hl1.belowMore hb2 z2
          have hB := hb1.trans (hb2.mono z1)
          go_wp2_with fail
          go_loopg [11, 13, 67] s.length (fun g s11 s13 s67 wr => ∃ k : Nat, k ≤ s.length ∧ g = s.length - k ∧ s67 = .int .i64 k ∧ OwnW wr w2.heap.size s11 ((s.take k).map (win1 T)) ∧ Below w2.heap.size w2 wr)
          case atStart => exact ⟨0, by omega, by omega, rfl, Own.nil _ _ _ _ _, Below.refl _ _⟩
          case round =>
            obtain ⟨k, hk, hg, rfl, ho11, hbw⟩ := hrel
            have hz := hbw.size
            by_cases hlt : k < s.length
            · obtain ⟨bq, oq, hA, hbqw, b0, b1⟩ := (hu.below hbw).sp k hlt
              first
                | subst hA
                | (injection hA with hA; injection hA with q1 q2; subst q1 q2)
              obtain ⟨u1, u2, u3, u4⟩ := HUB.out s[k] (List.getElem_mem hlt)
              have HS := Lib.hid (show (s.take (k + 1)).map (win1 T) = (s.take k).map (win1 T) ++ [win1 T s[k]] by rw [take_snoc s k hlt, List.map_append]; rfl)
              obtain ⟨A11, c11, rfl⟩ := ho11.form
              have hml : ((s.take k).map (win1 T)).length ≤ k := by simp; omega
              obtain ⟨L, hL⟩ : ∃ L, (s.take k).map (win1 T) = L := ⟨_, rfl⟩
              rw [hL] at ho11 HS hml ⊢
              clear hL
              generalize s[k] = x at *
              obtain ⟨xf, xe⟩ := x
              simp only at u1 u2 u3 u4 b0 b1
              have kb0 : (wr.alloc (.cells #[.int .i64 xf, .int .i64 xe] 47)).cell? ⟨wr.heap.size, 0, none⟩ = some (.int .i64 xf) := by rw [World.cell?_alloc_at _ _ _ _ rfl]; rfl
              have kb1 : (wr.alloc (.cells #[.int .i64 xf, .int .i64 xe] 47)).cell? ⟨wr.heap.size, 1, none⟩ = some (.int .i64 xe) := by rw [World.cell?_alloc_at _ _ _ _ rfl]; rfl
              have hbW := hbw.alloc hz (.cells #[.int .i64 xf, .int .i64 xe] 47)
              have hoW := ho11.alloc (.cells #[.int .i64 xf, .int .i64 xe] 47)
              go_upto_region 14 with fail
              generalize wr.alloc (.cells #[.int .i64 xf, .int .i64 xe] 47) = W0 at *
              clear hbw hz ho11
              have hz := hbW.size
              go_wp2_with (at_builtin; refine wpList_append_rec rfl _ _ 42 rfl w2.heap.size 50 16 Try.underlying42 elemW _ L rfl hoW [(xe, xf + T - 1)] _ rfl 1 1 rfl rfl (by simp only [Go.maxLen, List.length_cons, List.length_nil]; omega) (by simp only [List.length_cons, List.length_nil]; omega) hz ?_; intro v1 w5 ho5 hg5 hat5)
              go_roundg (s.length - (k + 1))
              case measure => omega
              case rel => exact ⟨k + 1, by omega, rfl, by go_num, by rw [HS.out]; exact ho5, hbW.grown hg5 hz (hoW.le (Nat.le_refl _))⟩
            · go_wp2_with fail
              go_ret2
              refine ⟨_, by rw [HE.out]; rfl, ?_, hB.trans (hbw.mono (by omega))⟩
              rw [HR.out]
              have e : s.take k = s := List.take_of_length_le (by omega)
              rw [e] at ho11
              exact ho11.rebase (by omega)
  · have hne : (forbErr t a b != 0) = true := by simp [h0]
    have HE := Lib.hid (show winErr t a b = forbErr t a b by simp [winErr, h0])
    have HR := Lib.hid (show winR t a b = [] by rw [winR, HE.out]; simp [h0])
    have HR' := Lib.hid (show forbL t a b = [] by simp [forbL, h0])
    clear h0
    generalize forbErr t a b = E at *
    go_enter Try.func21, Try.ntmps21
    go_wp2_with (go_at_call 18; refine hfb.mono ?_; rintro e w1 ⟨v1, rfl, ho1, hb1⟩)
    go_ret2
    exact ⟨_, by rw [HE.out]; rfl, by rw [HR.out]; exact Own.nil _ _ _ _ _, hb1⟩

end Go.Proofs.Ytdijhhfmicafjaa
