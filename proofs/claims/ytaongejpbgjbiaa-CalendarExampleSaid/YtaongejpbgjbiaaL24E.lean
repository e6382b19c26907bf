/-
  The walk of CalendarExample.
-/
import Derived.Test.YtaongejpbgjbiaaCalEx
import Derived.Test.YtaongejpbgjbiaaCalCnt
set_option linter.unusedVariables false
set_option linter.unusedSimpArgs false
namespace Go.Proofs.Ytaongejpbgjbiaa
open Go.RowKit RP

/-- As ExPost, and the activities are a row of the call's own. -/
def ExPost2 (w : World) (e : Ending) (w' : World) : Prop :=
  ∃ gE gA gT : Nat, e = .returned (.tuple #[netV 600 (some ⟨gE, 0, none⟩) xEv.length 2 (some ⟨gA, 0, none⟩) xAc.length 1, .slice (some ⟨gT, 0, none⟩) 2 2]) ∧ Lst encE 3 w' w'.heap.size (some ⟨gE, 0, none⟩) xEv ∧ Own encA 6 60 w' w.heap.size (.slice (some ⟨gA, 0, none⟩) 1 1) xAc ∧ gE < gA ∧ Lst encI 1 w' w'.heap.size (some ⟨gT, 0, none⟩) [100, 190] ∧ Below w.heap.size w w'
set_option maxRecDepth 100000 in
set_option maxHeartbeats 2000000 in
theorem example2_any (w : World) : Calls Try.prog 24 #[] w (ExPost2 w) := by
  have hz := fun (cs : Array Value) => heap_alloc_new w (.cells cs 43)
  have hown : ∀ (o n : Obj) (q1 q2 q3 : Array Value), q2.toList = xAc.flatMap encA → Own encA 6 60 (((((w.alloc o).alloc (.cells q1 54)).alloc (.cells q2 60)).alloc n).alloc (.cells q3 3)) w.heap.size (.slice (some ⟨w.heap.size + 1 + 1, 0, none⟩) 1 1) xAc := fun o n q1 q2 q3 h2 => by
    have z2 : ((w.alloc o).alloc (.cells q1 54)).heap.size = w.heap.size + 1 + 1 := by simp
    have l2 := Own.lit ((w.alloc o).alloc (.cells q1 54)) 60 w.heap.size q2 xAc 1 rfl encA_len h2 (by omega) (by unfold maxLen; decide)
    rw [z2] at l2
    exact (l2.alloc _).alloc _
  go_enter Try.func24, Try.ntmps24
  go_wp2_with fail
  refine bodyPost_ret (results_cell_tmp rfl _ _ w.heap.size 43 _ _ _ rfl (((belA _ _).block _ (by simp; omega)).trans (((belA _ _).block _ (by simp; omega)).trans (((belA _ _).block _ (by simp; omega)).trans (((belA _ _).block _ (by simp)).trans (hz _))))) Try.underlying43 rfl (by kernel_rfl) (.slice (some ⟨w.heap.size + 1 + 1 + 1 + 1, 0, none⟩) 2 2) rfl) rfl ?_
  obtain ⟨h1, h2, h3, h4⟩ := ex_lsts w _ _ _ _ _ rfl rfl rfl
  exact ⟨w.heap.size + 1, w.heap.size + 1 + 1, w.heap.size + 1 + 1 + 1 + 1, rfl, h1, hown _ _ _ _ _ rfl, by omega, h3, h4⟩

theorem lst_bound {α : Type} {enc : α → List Value} {k B B' g : Nat} {w : World} {l : List α} (h : Lst enc k w B (some ⟨g, 0, none⟩) l) (hg : g < B') : Lst enc k w B' (some ⟨g, 0, none⟩) l := fun hl => by
  obtain ⟨b, off, e, hb, hc⟩ := h hl
  injection e with e
  injection e with e1 e2
  subst e1
  subst e2
  exact ⟨_, _, rfl, hg, hc⟩
theorem y_d : ∀ a ∈ ySv, R64 a.days := by
  intro a ha
  rw [List.mem_singleton.1 ha]
  exact ⟨by decide, by decide⟩
set_option maxRecDepth 100000 in
set_option maxHeartbeats 8000000 in
theorem walkCalendarExample (w : World) : Calls Try.prog 9 #[] w fun e w' => e = .returned (.bool true) ∧ Below w.heap.size w w' := by
  go_enter Try.func9, Try.ntmps9
  go_wp2_with fail
  refine (example2_any w).mono ?_
  rintro ex w1 ⟨gE, gA, gT, rfl, hE, hA, hEA, hT, hb1⟩
  obtain ⟨net, hnet⟩ : ∃ o, o = Obj.cells #[.int .i64 600, .slice (some ⟨gE, 0, none⟩) xEv.length 2, .slice (some ⟨gA, 0, none⟩) xAc.length 1] 43 := ⟨_, rfl⟩
  have ba := belA w1 net
  have bb := belA (w1.alloc net) (.cells #[.int .i64 0, .int .i64 5, .int .i64 0, .int .i64 1300] 34)
  have bc := belA ((w1.alloc net).alloc (.cells #[.int .i64 0, .int .i64 5, .int .i64 0, .int .i64 1300] 34)) (.cells #[.int .i64 0, .int .i64 2, .bool false] 36)
  have hS := Own.lst encV_len (Own.lit (w1.alloc net) 34 0 #[.int .i64 0, .int .i64 5, .int .i64 0, .int .i64 1300] xSv 1 rfl encV_len rfl (Nat.zero_le _) (by unfold maxLen; decide))
  have hX := Own.lst encX_len (Own.lit ((w1.alloc net).alloc (.cells #[.int .i64 0, .int .i64 5, .int .i64 0, .int .i64 1300] 34)) 36 0 #[.int .i64 0, .int .i64 2, .bool false] [⟨0, 2, false⟩] 1 rfl encX_len rfl (Nat.zero_le _) (by unfold maxLen; decide))
  have hAl := Own.lst encA_len hA
  have hro := roll_any 600 (some ⟨gE, 0, none⟩) 2 (some ⟨gA, 0, none⟩) 1 xEv xAc (some ⟨gT, 0, none⟩) 2 [100, 190] 3 (some ⟨(w1.alloc net).heap.size, 0, none⟩) 1 xSv (some ⟨((w1.alloc net).alloc (.cells #[.int .i64 0, .int .i64 5, .int .i64 0, .int .i64 1300] 34)).heap.size, 0, none⟩) 1 [⟨0, 2, false⟩] xPf _
    (((hE.belowMore ba ba.size).belowMore bb bb.size).belowMore bc bc.size) (((hAl.belowMore ba ba.size).belowMore bb bb.size).belowMore bc bc.size) (((hT.belowMore ba ba.size).belowMore bb bb.size).belowMore bc bc.size) (hS.belowMore bc bc.size) hX x_feas xx_check (fun a ha => by rw [List.mem_singleton.1 ha]; exact x_pat) x_r (by omega) (by decide) (by decide) x_ok x_d
  have hB3 := (ba.trans (bb.mono ba.size)).trans (bc.mono (by simp; omega))
  have HB3 := Lib.hid hB3
  have HE := Lib.hid hE
  have HA := Lib.hid hA
  have HT := Lib.hid hT
  have HB1 := Lib.hid hb1
  have zx : (w1.alloc net).heap.size = w1.heap.size + 1 := by simp
  have zy : ((w1.alloc net).alloc (.cells #[.int .i64 0, .int .i64 5, .int .i64 0, .int .i64 1300] 34)).heap.size = w1.heap.size + 1 + 1 := by simp
  have hk : (((w1.alloc net).alloc (.cells #[.int .i64 0, .int .i64 5, .int .i64 0, .int .i64 1300] 34)).alloc (.cells #[.int .i64 0, .int .i64 2, .bool false] 36)).heap[w1.heap.size]? = some net := (bc.block _ (by simp; omega)).trans ((bb.block _ (by simp)).trans (heap_alloc_new w1 net))
  have HK := Lib.hid hk
  rw [zx, zy] at hro
  subst hnet
  clear hB3 ba bb bc hS hX hE hA hT hb1 zx zy hAl hk
  go_wp2_with fail
  refine hro.mono ?_
  rintro ex w3 ⟨hb3, ⟨hc, _⟩ | ⟨hc, A, c, L, rfl, hTr, hp, hsrt⟩⟩
  · rw [xx_cnt] at hc; omega
  · have hlen : L.length = 3 := by have := hp.length_eq; rw [xx_all] at this; simpa using this
    have HL := Lib.hid hlen
    have hk3 := (hb3.block _ (by simp; omega)).trans HK.out
    have n0 : w3.cell? ⟨w1.heap.size, 0, none⟩ = some (.int .i64 600) := by rw [cell_of_row w3 _ 0 _ _ _ hk3]; rfl
    have n1 : w3.cell? ⟨w1.heap.size, 1, none⟩ = some (.slice (some ⟨gE, 0, none⟩) xEv.length 2) := by rw [cell_of_row w3 _ 1 _ _ _ hk3]; rfl
    have n2 : w3.cell? ⟨w1.heap.size, 2, none⟩ = some (.slice (some ⟨gA, 0, none⟩) xAc.length 1) := by rw [cell_of_row w3 _ 2 _ _ _ hk3]; rfl
    have hBw := HB3.out.trans (hb3.mono HB3.out.size)
    have hA3 := HA.out.below' hBw
    have hE3 := HE.out.belowMore hBw hBw.size
    have f0 : w3.frozen? ⟨w1.heap.size, 0, none⟩ = false := by simp [World.frozen?, hk3]
    have hgA : gA < w1.heap.size := (World.ownsRow.lt HA.out gA rfl).2
    have hgA3 : w3.cell? ⟨gA, 3, none⟩ = some (.int .i64 90) ∧ w3.cell? ⟨gA, 4, none⟩ = some (.int .i64 90) ∧ w3.frozen? ⟨gA, 3, none⟩ = false ∧ w3.frozen? ⟨gA, 4, none⟩ = false := by
      obtain ⟨g', c', hv, _, _, _, hcl, hf⟩ := hA3.at_ encA_len (by decide)
      injection hv with hv
      injection hv with hv
      injection hv with h8 _
      subst h8
      exact ⟨hcl 0 _ rfl 3 _ rfl, hcl 0 _ rfl 4 _ rfl, hf 3, hf 4⟩
    obtain ⟨c3, c4, f3, f4⟩ := hgA3
    have HA3 := Lib.hid hA3
    have HE3 := Lib.hid hE3
    have HBW := Lib.hid hBw
    have HK3 := Lib.hid hk3
    rw [hlen]
    have hgn := HA.out
    have hA4 := hA3.kept (set_grown w3 w1.heap.size 0 (.int .i64 2)) (.inr (by simp [Value.ownBlock]; omega))
    have hA5 := (hA4.stored encA_len 0 3 (.int .i64 90) ⟨1, 0, 1, 90, 90, 0⟩ (by decide) (by omega) rfl).1
    have hA6 := (hA5.stored encA_len 0 4 (.int .i64 91) ⟨1, 0, 1, 90, 91, 0⟩ (by decide) (by omega) rfl).1
    have hA7 : Own encA 6 60 (((w3.setCell ⟨w1.heap.size, 0, none⟩ (.int .i64 2)).setCell ⟨gA, 3, none⟩ (.int .i64 90)).setCell ⟨gA, 4, none⟩ (.int .i64 91)) w.heap.size (.slice (some ⟨gA, 0, none⟩) 1 1) yAc := hA6
    have hE7 : Lst encE 3 (((w3.setCell ⟨w1.heap.size, 0, none⟩ (.int .i64 2)).setCell ⟨gA, 3, none⟩ (.int .i64 90)).setCell ⟨gA, 4, none⟩ (.int .i64 91)) (((w3.setCell ⟨w1.heap.size, 0, none⟩ (.int .i64 2)).setCell ⟨gA, 3, none⟩ (.int .i64 90)).setCell ⟨gA, 4, none⟩ (.int .i64 91)).heap.size (some ⟨gE, 0, none⟩) xEv := by
      have b4 := (((Below.refl gA w3).setCell (p := ⟨w1.heap.size, 0, none⟩) (Nat.le_of_lt hgA) (.int .i64 2)).setCell (p := ⟨gA, 3, none⟩) (Nat.le_refl _) (.int .i64 90)).setCell (p := ⟨gA, 4, none⟩) (Nat.le_refl _) (.int .i64 91)
      have hz := (World.ownsRow.lt hA7 gA rfl).2
      exact (lst_bound hE3 hEA).belowMore b4 (by omega)
    have zz : (((w3.setCell ⟨w1.heap.size, 0, none⟩ (.int .i64 2)).setCell ⟨gA, 3, none⟩ (.int .i64 90)).setCell ⟨gA, 4, none⟩ (.int .i64 91)).heap.size = w3.heap.size := by rw [set_size, set_size, set_size]
    clear hgn hA4 hA5 hA6
    have hk7 : (((w3.setCell ⟨w1.heap.size, 0, none⟩ (.int .i64 2)).setCell ⟨gA, 3, none⟩ (.int .i64 90)).setCell ⟨gA, 4, none⟩ (.int .i64 91)).heap[w1.heap.size]? = _ := (set_other _ (by omega)).trans ((set_other _ (by omega)).trans (set_block' (.int .i64 2) hk3))
    have HK7 := Lib.hid hk7
    have hga0 := (World.ownsRow.lt HA.out gA rfl).1
    have HBV := Lib.hid ((((HB1.out.trans (hBw.mono HB1.out.size)).setCell (p := ⟨w1.heap.size, 0, none⟩) HB1.out.size (.int .i64 2)).setCell (p := ⟨gA, 3, none⟩) hga0 (.int .i64 90)).setCell (p := ⟨gA, 4, none⟩) hga0 (.int .i64 91))
    have hz37 : w1.heap.size < w3.heap.size := by have := hBw.size; have := HK3.out; exact (Array.getElem?_eq_some_iff.1 HK3.out).1
    have HB7 := Lib.hid (((hBw.setCell (p := ⟨w1.heap.size, 0, none⟩) (Nat.le_refl _) (.int .i64 2))))
    clear hlen hTr hp hsrt hro hA3 hE3 hBw hk3 hb3 hk7
    go_wp2_with fail
    generalize (((w3.setCell ⟨w1.heap.size, 0, none⟩ (.int .i64 2)).setCell ⟨gA, 3, none⟩ (.int .i64 90)).setCell ⟨gA, 4, none⟩ (.int .i64 91)) = W7 at *
    have hAl7 := Own.lst encA_len hA7
    have ca := belA W7 (.cells #[.int .i64 0, .int .i64 0] 3)
    have cb := belA (W7.alloc (.cells #[.int .i64 0, .int .i64 0] 3)) (.cells #[.int .i64 0, .int .i64 1, .int .i64 0, .int .i64 2100] 34)
    have hT7 := Own.lst encI_len (Own.lit W7 3 0 #[.int .i64 0, .int .i64 0] [0, 0] 2 rfl encI_len rfl (Nat.zero_le _) (by unfold maxLen; decide))
    have hS7 := Own.lst encV_len (Own.lit (W7.alloc (.cells #[.int .i64 0, .int .i64 0] 3)) 34 0 #[.int .i64 0, .int .i64 1, .int .i64 0, .int .i64 2100] ySv 1 rfl encV_len rfl (Nat.zero_le _) (by unfold maxLen; decide))
    have z8 : (W7.alloc (.cells #[.int .i64 0, .int .i64 0] 3)).heap.size = w3.heap.size + 1 := by rw [World.size_alloc, zz]
    rw [zz] at hT7
    rw [z8] at hS7
    have hro2 := roll_any 2 (some ⟨gE, 0, none⟩) 2 (some ⟨gA, 0, none⟩) 1 xEv yAc (some ⟨w3.heap.size, 0, none⟩) 2 [0, 0] 1 (some ⟨w3.heap.size + 1, 0, none⟩) 1 ySv none 0 [] yPf _
      ((hE7.belowMore ca ca.size).belowMore cb cb.size) ((hAl7.belowMore ca ca.size).belowMore cb cb.size) (Lst.belowMore (by rw [← zz] at hT7; rw [← zz]; exact hT7) cb cb.size) (by rw [← z8] at hS7; rw [← z8]; exact hS7) Lst.nil y_feas y_check (fun a ha => by rw [List.mem_singleton.1 ha]; exact y_pat) x_r (by omega) (by decide) (by decide) y_ok y_d
    refine hro2.mono ?_
    rintro ex w5 ⟨hb5, ⟨hc5, rfl⟩ | ⟨hc5, _⟩⟩
    rotate_left
    · rw [y_cnt] at hc5; omega
    have z9 : ((W7.alloc (.cells #[.int .i64 0, .int .i64 0] 3)).alloc (.cells #[.int .i64 0, .int .i64 1, .int .i64 0, .int .i64 2100] 34)).heap.size = w3.heap.size + 1 + 1 := by rw [World.size_alloc, z8]
    have hk5 := (hb5.block w1.heap.size (by omega)).trans ((cb.block w1.heap.size (by omega)).trans ((ca.block w1.heap.size (by omega)).trans HK7.out))
    have m0 : w5.cell? ⟨w1.heap.size, 0, none⟩ = some (.int .i64 2) := by rw [cell_of_row w5 _ 0 _ _ _ hk5]; rfl
    have m1 : w5.cell? ⟨w1.heap.size, 1, none⟩ = some (.slice (some ⟨gE, 0, none⟩) xEv.length 2) := by rw [cell_of_row w5 _ 1 _ _ _ hk5]; rfl
    have m2 : w5.cell? ⟨w1.heap.size, 2, none⟩ = some (.slice (some ⟨gA, 0, none⟩) yAc.length 1) := by rw [cell_of_row w5 _ 2 _ _ _ hk5]; rfl
    have bz := (ca.trans (cb.mono ca.size)).trans (hb5.mono (by omega))
    have hE5 := hE7.belowMore bz bz.size
    have hA5 := hAl7.belowMore bz bz.size
    have HBV5 := HBV.out.trans (bz.mono HBV.out.size)
    have da := belA w5 (.cells #[.int .i64 0, .int .i64 0] 3)
    have db := belA (w5.alloc (.cells #[.int .i64 0, .int .i64 0] 3)) (.cells #[.int .i64 0, .int .i64 1, .int .i64 0, .int .i64 2100] 34)
    have hT5 := Own.lst encI_len (Own.lit w5 3 0 #[.int .i64 0, .int .i64 0] [0, 0] 2 rfl encI_len rfl (Nat.zero_le _) (by unfold maxLen; decide))
    have hS5 := Own.lst encV_len (Own.lit (w5.alloc (.cells #[.int .i64 0, .int .i64 0] 3)) 34 0 #[.int .i64 0, .int .i64 1, .int .i64 0, .int .i64 2100] ySv 1 rfl encV_len rfl (Nat.zero_le _) (by unfold maxLen; decide))
    have y8 : (w5.alloc (.cells #[.int .i64 0, .int .i64 0] 3)).heap.size = w5.heap.size + 1 := by rw [World.size_alloc]
    have hcn := countAll_any 2 (some ⟨gE, 0, none⟩) 2 (some ⟨gA, 0, none⟩) 1 xEv yAc (some ⟨w5.heap.size, 0, none⟩) 2 [0, 0] 1 (some ⟨(w5.alloc (.cells #[.int .i64 0, .int .i64 0] 3)).heap.size, 0, none⟩) 1 ySv none 0 [] yPf _
      ((hE5.belowMore da da.size).belowMore db db.size) ((hA5.belowMore da da.size).belowMore db db.size) (hT5.belowMore db db.size) hS5 Lst.nil y_feas y_check (fun a ha => by rw [List.mem_singleton.1 ha]; exact y_pat) x_r (by omega) (by decide) (by decide) y_ok y_d
    rw [y8, y_cnt] at hcn
    have HBW5 := Lib.hid (HBV5.trans ((da.trans (db.mono da.size)).mono HBV5.size))
    clear da db hT5 hS5 y8 hE5 hA5 HBV5 bz hk5 z9 hro2 hb5 hc5 ca cb hT7 hS7 z8 hAl7 hA7 hE7 zz
    go_wp2_with fail
    refine hcn.mono ?_
    rintro ex w6 ⟨rfl, hb6⟩
    have HB6 := Lib.hid (HBW5.out.trans (hb6.mono HBW5.out.size))
    clear hb6 hcn m0 m1 m2
    go_wp2_with fail
    refine (awake_any _).mono ?_
    rintro ex w7 ⟨rfl, hb7⟩
    have HB8 := Lib.hid (HB6.out.trans (hb7.mono HB6.out.size))
    clear hb7
    go_wp2_with fail
    go_ret
    exact ⟨ret_bool (by simp), HB8.out⟩
end Go.Proofs.Ytaongejpbgjbiaa
