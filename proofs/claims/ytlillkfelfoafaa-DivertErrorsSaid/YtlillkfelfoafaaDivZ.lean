/-
  Contract of Plan, for at most 19 jobs.
-/
import Derived.Test.YtlillkfelfoafaaDivY
set_option linter.unusedVariables false
set_option linter.unusedSimpArgs false
namespace Go.Proofs.Ytlillkfelfoafaa
open Go.RowKit Go.Shelf RP

attribute [local go_sem] Oper.semAt_some

def PlanPost (w : World) (L : List JobM) (cl : List Clo) (ow : List OWy) (M B : Int) (e : Ending) (w' : World) : Prop :=
  ∃ (l : List Cho) (n err : Int) (A : Option Addr) (c : Nat), e = .returned (.tuple #[.slice A l.length c, .int .i64 n, .int .i64 err]) ∧ PlanIs (L.map JobM.p) cl ow M B l n err ∧ Own encK 2 55 w' w.heap.size (.slice A l.length c) l ∧ Below w.heap.size w w'
theorem plan_err {w w' : World} {L : List JobM} {cl : List Clo} {ow : List OWy} {M B : Int} {err : Int} {e : Ending} (he : e = .returned (.tuple #[.slice none 0 0, .int .i64 0, .int .i64 err])) (hp : PlanIs (L.map JobM.p) cl ow M B [] 0 err) (hb : Below w.heap.size w w') : PlanPost w L cl ow M B e w' :=
  ⟨[], 0, err, none, 0, he, hp, Own.nil _ _ _ _ _, hb⟩
set_option maxRecDepth 100000 in
set_option maxHeartbeats 16000000 in
theorem plan_wide (A : Option Addr) (c : Nat) (L : List JobM) (CA : Option Addr) (cc : Nat) (cl : List Clo) (WA : Option Addr) (wc : Nat) (ow : List OWy) (M B : Int) (w : World)
    (hj : Jbs w w.heap.size A L) (hcl : Lst encO 3 w w.heap.size CA cl) (how : Lst encW 4 w w.heap.size WA ow) (hR : JobsR L) (hL6 : L.length ≤ 19) (hrc : ∀ x ∈ cl, R64 x.1) (hrw : ∀ x ∈ ow, R64 x.1) (hcb : cl.length * 24 ≤ 140737488355328) (hwb : ow.length * 32 ≤ 140737488355328) :
    Calls Try.prog 25 #[.slice A L.length c, .slice CA cl.length cc, .slice WA ow.length wc, .int .i64 M, .int .i64 B] w (PlanPost w L cl ow M B) := by
  have hmm := @run_makeMap Try.prog
  have hNc : cl.length ≤ 5864062014805 := by omega
  have hNw : ow.length ≤ 4398046511104 := by omega
  clear hcb hwb
  have HN16 := Lib.hid (show cl.length + ow.length ≤ 13000000000000 by omega)
  have hb0 := belA w (.cells #[.slice A L.length c] 22)
  have hbx := heap_alloc_new w (.cells #[.slice A L.length c] 22)
  have hz0 : (w.alloc (.cells #[.slice A L.length c] 22)).heap.size = w.heap.size + 1 := by simp
  have hck := dcheck_any A c L _ (hj.belowMore hb0 hb0.size)
  have HJ := Lib.hid hj
  have HCL := Lib.hid hcl
  have HOW := Lib.hid how
  have HRJ := Lib.hid hR
  have HRC := Lib.hid hrc
  have HRW := Lib.hid hrw
  clear hj hcl how hR hrc hrw
  go_enter Try.func25, Try.ntmps25
  go_upto_region 1 with fail
  generalize w.alloc (.cells #[.slice A L.length c] 22) = w0 at *
  have c0 : w0.cell? ⟨w.heap.size, 0, none⟩ = some (.slice A L.length c) := by rw [cell_of_row w0 _ 0 _ _ _ hbx]; rfl
  cases hcj : checkJ (L.map JobM.p) with
  | false =>
    rw [hcj] at hck
    have HCK := Lib.hid hcj
    have HB0 := Lib.hid hb0
    clear hcj hbx hz0 hb0
    go_wp2_with (go_at_call 14; refine hck.mono ?_; rintro e w1 ⟨rfl, hb1⟩)
    go_ret3
    exact plan_err rfl (.inl ⟨HCK.out, rfl, rfl, rfl⟩) (HB0.out.trans (hb1.mono HB0.out.size))
  | true =>
    rw [hcj] at hck
    have HCK := Lib.hid hcj
    have HBX := Lib.hid hbx
    clear hcj hbx
    go_upto_region 3 with (go_at_call 14; refine hck.mono ?_; rintro e w1 ⟨rfl, hb1⟩)
    have HB1 := Lib.hid (hb0.trans (hb1.mono hb0.size))
    have HBX1 := Lib.hid ((hb1.block w.heap.size (by omega)).trans HBX.out)
    have hz1 : w.heap.size < w1.heap.size := by have := hb1.size; omega
    clear HBX hb0 hb1 hck c0 hz0
    by_cases q0 : M < 0
    · go_wp2_with fail
      go_ret3
      exact plan_err rfl (.inr (.inl ⟨HCK.out, by omega, rfl, rfl, rfl⟩)) HB1.out
    · by_cases q1 : 3600 < M
      · go_wp2_with fail
        go_ret3
        exact plan_err rfl (.inr (.inl ⟨HCK.out, by omega, rfl, rfl, rfl⟩)) HB1.out
      · by_cases q2 : B < 1
        · go_wp2_with fail
          go_ret3
          exact plan_err rfl (.inr (.inl ⟨HCK.out, by omega, rfl, rfl, rfl⟩)) HB1.out
        · by_cases q3 : 1048576 < B
          · go_wp2_with fail
            go_ret3
            exact plan_err rfl (.inr (.inl ⟨HCK.out, by omega, rfl, rfl, rfl⟩)) HB1.out
          · have hM : 0 ≤ M ∧ M ≤ 3600 := by omega
            have hB : 1 ≤ B ∧ B ≤ 1048576 := by omega
            have c1 : w1.cell? ⟨w.heap.size, 0, none⟩ = some (.slice A L.length c) := by rw [cell_of_row w1 _ 0 _ _ _ HBX1.out]; rfl
            obtain ⟨W2, hW2⟩ : ∃ V, V = ((w1.alloc (.map #[] 0)).alloc (.map #[] 0)).alloc (.cells #[.slice A L.length c, .map (some w1.heap.size), .map (some (w1.heap.size + 1)), .slice none 0 0] 88) := ⟨_, rfl⟩
            have s1 : ∀ (W : World) (o : Obj), (W.alloc o).heap.size = W.heap.size + 1 := fun W o => by simp
            have HPS : Hid (PS0 w W2 w.heap.size (w1.heap.size + 1 + 1) w1.heap.size (w1.heap.size + 1) A c L 0 0 (fun r => ((cl.take 0).filter fun x => decide (x.1 = r))) (fun _ => []) none 0 0) := by
              rw [hW2]
              refine ⟨?_, ?_, ?_, ?_, ?_, by omega⟩
              · rw [Below.heap_alloc _ _ _ (by simp only [s1]; omega), Below.heap_alloc _ _ _ (by simp only [s1]; omega), Below.heap_alloc _ _ _ (by omega)]
                exact HBX1.out
              · have := heap_alloc_new ((w1.alloc (.map #[] 0)).alloc (.map #[] 0)) (.cells #[.slice A L.length c, .map (some w1.heap.size), .map (some (w1.heap.size + 1)), .slice none 0 0] 88)
                rwa [s1, s1] at this
              · exact ((IdxE.made w1 (w1.heap.size + 1 + 1 + 1) (by omega)).alloc _).alloc _
              · have := (IdxE.made (enc := encW) (k := 4) (e := 70) (w1.alloc (.map #[] 0)) (w1.heap.size + 1 + 1 + 1) (by rw [s1]; omega)).alloc (.cells #[.slice A L.length c, .map (some w1.heap.size), .map (some (w1.heap.size + 1)), .slice none 0 0] 88)
                rwa [s1] at this
              · exact ((HB1.out.alloc (by omega) _).alloc (by rw [s1]; omega) _).alloc (by simp only [s1]; omega) _
            have HW2 := Lib.hid hW2
            clear hW2
            go_upto_region 6 with fail
            rw [← HW2.out]
            clear HW2 s1 c1
            have HZ := Lib.hid (show w.heap.size < w1.heap.size from hz1)
            generalize h2 : w1.heap.size + 1 + 1 = gp at *
            generalize h1 : w1.heap.size + 1 = gw at *
            generalize hc : w1.heap.size = gc at *
            generalize hgz : w.heap.size = gz at *
            have HGZ := Lib.hid hgz
            clear h1 h2 hc hgz HBX1 HB1 hz1
            go_wp2_with fail
            go_loopg [47] cl.length (fun g s47 wr => ∃ i : Nat, i ≤ cl.length ∧ g = cl.length - i ∧ s47 = .int .i64 i ∧ PS0 w wr gz gp gc gw A c L i 0 (fun r => ((cl.take i).filter fun x => decide (x.1 = r))) (fun _ => []) none 0 0)
            case atStart => exact ⟨0, by omega, by omega, rfl, HPS.out⟩
            case round =>
              obtain ⟨i, hi, hg, rfl, hst⟩ := hrel
              by_cases hlt : i < cl.length
              · obtain ⟨xb, xo, rfl, hxb, e0, e1, e2⟩ := (HCL.out.below hst.bel).oc i hlt
                have HFS := Lib.hid (filt_step (fun x : Clo => x.1) cl hlt)
                have r1 := HRC.out cl[i] (List.getElem_mem hlt)
                have hb2 := belA wr (.cells #[.int .i64 cl[i].1, .int .i64 cl[i].2.1, .int .i64 cl[i].2.2] 82)
                have hnx := heap_alloc_new wr (.cells #[.int .i64 cl[i].1, .int .i64 cl[i].2.1, .int .i64 cl[i].2.2] 82)
                generalize cl[i] = x at *
                obtain ⟨r, f, t⟩ := x
                simp only at e0 e1 e2 r1 hb2 hnx HFS
                have hst5 := hst.below hb2
                have hz5 : gp < wr.heap.size := hst.lt
                obtain ⟨_, F, hm0, hoF0, hdj⟩ := id hst.clo
                have HFG : Hid (∀ q, (F r).ownBlock = some q → q < wr.heap.size) := fun q hq => (World.ownsRow.lt (hoF0 r r1) q hq).2
                have hb3 : Below wr.heap.size wr (wr.alloc (.cells #[.int .i64 r, .int .i64 f, .int .i64 t] 82)).drew := hb2.drew
                have hm := hm0.below hb3
                have hoF := fun y hy => (hoF0 y hy).below' hb3
                clear hm0 hoF0 hb3
                have i0 : (0 : Int) ≤ (i : Int) := by omega
                have i1 : (i : Int) < (cl.length : Int) := by omega
                have hzx : wr.heap.size < (wr.alloc (.cells #[.int .i64 r, .int .i64 f, .int .i64 t] 82)).heap.size := by simp
                go_upto_region 9 with fail
                clear e0 e1 e2 hst
                have hstd := hst5.below (Below.refl _ _).drew
                have hnxd : (wr.alloc (.cells #[.int .i64 r, .int .i64 f, .int .i64 t] 82)).drew.heap[wr.heap.size]? = some (.cells #[.int .i64 r, .int .i64 f, .int .i64 t] 82 (0, 0)) := hnx
                have hzxd : wr.heap.size < (wr.alloc (.cells #[.int .i64 r, .int .i64 f, .int .i64 t] 82)).drew.heap.size := hzx
                clear hst5 hnx hzx hb2
                have hor : Own encO 3 82 (wr.alloc (.cells #[.int .i64 r, .int .i64 f, .int .i64 t] 82)).drew (gp + 1) (F r) ((cl.take i).filter fun x => decide (x.1 = r)) := hoF r r1
                have hlf1 : ((cl.take i).filter fun x => decide (x.1 = r)).length + 1 ≤ cl.length := by
                  have h1 := List.length_filter_le (fun x : Clo => decide (x.1 = r)) (cl.take i)
                  rw [List.length_take] at h1; omega
                have hlf : ((cl.take i).filter fun x => decide (x.1 = r)).length ≤ cl.length := by
                  have h1 := List.length_filter_le (fun x : Clo => decide (x.1 = r)) (cl.take i)
                  rw [List.length_take] at h1; omega
                have hk1 : (((cl.take i).filter fun x => decide (x.1 = r)).length + 1 ≤ Go.maxLen) := by unfold Go.maxLen; omega
                have hk2 : (((cl.take i).filter fun x => decide (x.1 = r)).length + 1) * 24 ≤ 140737488355328 := by omega
                obtain ⟨A7, c7, hv⟩ := hor.form
                have hrun := hm.lookup (t := 85) Try.underlying85 (zeroSlC _) r1
                rw [hv] at hrun
                generalize hlq : (cl.take i).filter (fun x => decide (x.1 = r)) = lf at *
                have HM := Lib.hid hm
                have HOF := Lib.hid hoF
                have HDJ := Lib.hid hdj
                have HST := Lib.hid hstd
                have HOR := Lib.hid hor
                have HV := Lib.hid hv
                have HK12 := Lib.hid (And.intro hk1 hk2)
                clear hlq hm hoF hdj hor hv hk1 hk2
                generalize wr.alloc (.cells #[.int .i64 r, .int .i64 f, .int .i64 t] 82) = Wq at *
                generalize wr.heap.size = gx at *
                refine wp_region_until (S := fun w' => w'.cell? ⟨gp, 1, none⟩ = some (.map (some gc)) ∧ w'.cell? ⟨gx, 0, none⟩ = some (.int .i64 r) ∧ w'.cell? ⟨gx, 1, none⟩ = some (.int .i64 f) ∧ w'.cell? ⟨gx, 2, none⟩ = some (.int .i64 t) ∧ (Instr.lookup 85 (.map (some gc)) (.int .i64 r) false).run Try.prog w' = .ok (.slice A7 lf.length c7) w') 16 (by kernel_rfl) ?_
                have g1 := hstd.cells
                have h0 := And.intro (g1.2.1) (And.intro ((show Wq.drew.cell? ⟨gx, 0, none⟩ = some (.int .i64 r) by rw [cell_of_row _ _ 0 _ _ _ hnxd]; rfl)) (And.intro ((show Wq.drew.cell? ⟨gx, 1, none⟩ = some (.int .i64 f) by rw [cell_of_row _ _ 1 _ _ _ hnxd]; rfl)) (And.intro ((show Wq.drew.cell? ⟨gx, 2, none⟩ = some (.int .i64 t) by rw [cell_of_row _ _ 2 _ _ _ hnxd]; rfl)) (hrun))))
                clear hrun g1 hstd
                generalize Wq.drew = Wd at *
                have HNP : Hid (some gp ≠ (F r).ownBlock) := fun e => by have := (World.ownsRow.lt HOR.out gp e.symm).1; omega
                have HNX : Hid (some gx ≠ (F r).ownBlock) := fun e => by have := HFG.out gx e.symm; omega
                clear hnxd
                refine until_take (i := 0) (v := ?_) rfl (by kernel_rfl) (by kernel_rfl) (by kernel_rfl) (by kernel_rfl) (fun _ _ _ h => h) (Or.inl ⟨by rfl, ?_⟩) h0 ?_
                rotate_left
                · intro u hSu
                  (try dsimp only at hSu)
                  go_simp
                  try rfl
                simp only [Act.put, List.setIfInBounds_toArray, List.set_cons_zero, List.set_cons_succ]
                refine until_take (i := 1) (v := ?_) rfl (by kernel_rfl) (by kernel_rfl) (by kernel_rfl) (by kernel_rfl) (fun _ _ _ h => h) (Or.inl ⟨by rfl, ?_⟩) h0 ?_
                rotate_left
                · intro u hSu
                  (try dsimp only at hSu)
                  go_simp
                  try rfl
                simp only [Act.put, List.setIfInBounds_toArray, List.set_cons_zero, List.set_cons_succ]
                refine until_take (i := 2) (v := ?_) rfl (by kernel_rfl) (by kernel_rfl) (by kernel_rfl) (by kernel_rfl) (fun _ _ _ h => h) (Or.inl ⟨by rfl, ?_⟩) h0 ?_
                rotate_left
                · intro u hSu
                  (try dsimp only at hSu)
                  go_simp
                  try rfl
                simp only [Act.put, List.setIfInBounds_toArray, List.set_cons_zero, List.set_cons_succ]
                refine until_take (i := 3) (v := ?_) rfl (by kernel_rfl) (by kernel_rfl) (by kernel_rfl) (by kernel_rfl) (fun _ _ _ h => h) (Or.inl ⟨by rfl, ?_⟩) h0 ?_
                rotate_left
                · intro u hSu
                  (try dsimp only at hSu)
                  go_simp
                  try rfl
                simp only [Act.put, List.setIfInBounds_toArray, List.set_cons_zero, List.set_cons_succ]
                refine until_take (i := 4) (v := ?_) rfl (by kernel_rfl) (by kernel_rfl) (by kernel_rfl) (by kernel_rfl) (fun _ _ _ h => h) (Or.inl ⟨by rfl, ?_⟩) h0 ?_
                rotate_left
                · intro u hSu
                  (try dsimp only at hSu)
                  go_simp
                  try rfl
                simp only [Act.put, List.setIfInBounds_toArray, List.set_cons_zero, List.set_cons_succ]
                refine until_take (i := 5) (v := ?_) rfl (by kernel_rfl) (by kernel_rfl) (by kernel_rfl) (by kernel_rfl) (fun _ _ _ h => h) (Or.inl ⟨by rfl, ?_⟩) h0 ?_
                rotate_left
                · intro u hSu
                  (try dsimp only at hSu)
                  go_simp
                  try rfl
                simp only [Act.put, List.setIfInBounds_toArray, List.set_cons_zero, List.set_cons_succ]
                refine until_take (i := 6) (v := ?_) rfl (by kernel_rfl) (by kernel_rfl) (by kernel_rfl) (by kernel_rfl) (fun _ _ _ h => h) (Or.inl ⟨by rfl, ?_⟩) h0 ?_
                rotate_left
                · intro u hSu
                  (try dsimp only at hSu)
                  go_simp
                  try rfl
                simp only [Act.put, List.setIfInBounds_toArray, List.set_cons_zero, List.set_cons_succ]
                refine until_take (i := 7) (v := ?_) rfl (by kernel_rfl) (by kernel_rfl) (by kernel_rfl) (by kernel_rfl) (fun _ _ _ h => h) (Or.inl ⟨by rfl, ?_⟩) h0 ?_
                rotate_left
                · intro u hSu
                  (try dsimp only at hSu)
                  go_simp
                  try rfl
                simp only [Act.put, List.setIfInBounds_toArray, List.set_cons_zero, List.set_cons_succ]
                refine until_take (i := 8) (v := ?_) rfl (by kernel_rfl) (by kernel_rfl) (by kernel_rfl) (by kernel_rfl) (fun _ _ _ h => h) (Or.inl ⟨by rfl, ?_⟩) h0 ?_
                rotate_left
                · intro u hSu
                  (try dsimp only at hSu)
                  go_simp
                  try rfl
                simp only [Act.put, List.setIfInBounds_toArray, List.set_cons_zero, List.set_cons_succ]
                refine until_take (i := 9) (v := ?_) rfl (by kernel_rfl) (by kernel_rfl) (by kernel_rfl) (by kernel_rfl) (fun _ _ _ h => h) (Or.inl ⟨by rfl, ?_⟩) h0 ?_
                rotate_left
                · intro u hSu
                  (try dsimp only at hSu)
                  go_simp
                  try rfl
                simp only [Act.put, List.setIfInBounds_toArray, List.set_cons_zero, List.set_cons_succ]
                refine until_take (i := 10) (v := ?_) rfl (by kernel_rfl) (by kernel_rfl) (by kernel_rfl) (by kernel_rfl) (fun _ _ _ h => h) (Or.inl ⟨by rfl, ?_⟩) h0 ?_
                rotate_left
                · intro u hSu
                  (try dsimp only at hSu)
                  go_simp
                  try rfl
                simp only [Act.put, List.setIfInBounds_toArray, List.set_cons_zero, List.set_cons_succ]
                refine until_take (i := 11) (v := ?_) rfl (by kernel_rfl) (by kernel_rfl) (by kernel_rfl) (by kernel_rfl) (fun _ _ _ h => h) (Or.inl ⟨by rfl, ?_⟩) h0 ?_
                rotate_left
                · intro u hSu
                  (try dsimp only at hSu)
                  go_simp
                  try rfl
                simp only [Act.put, List.setIfInBounds_toArray, List.set_cons_zero, List.set_cons_succ]
                refine until_take (i := 12) (v := ?_) rfl (by kernel_rfl) (by kernel_rfl) (by kernel_rfl) (by kernel_rfl) (fun _ _ _ h => h) (Or.inl ⟨by rfl, ?_⟩) h0 ?_
                rotate_left
                · intro u hSu
                  (try dsimp only at hSu)
                  go_simp
                  try rfl
                simp only [Act.put, List.setIfInBounds_toArray, List.set_cons_zero, List.set_cons_succ]
                refine until_take (i := 13) (v := ?_) rfl (by kernel_rfl) (by kernel_rfl) (by kernel_rfl) (by kernel_rfl) (fun _ _ _ h => h) (Or.inl ⟨by rfl, ?_⟩) h0 ?_
                rotate_left
                · intro u hSu
                  (try dsimp only at hSu)
                  go_simp
                  try rfl
                simp only [Act.put, List.setIfInBounds_toArray, List.set_cons_zero, List.set_cons_succ]
                refine until_one (i := 14) rfl (by kernel_rfl) (fun K hK => ?_)
                go_simp
                have bX := belA Wd (.cells #[.int .i64 r, .int .i64 f, .int .i64 t] 82)
                have h1 := And.intro ((bX.cell (p := ⟨gp, 1, none⟩) (cell_lt h0.1)).trans h0.1) (And.intro ((bX.cell (p := ⟨gx, 0, none⟩) (cell_lt h0.2.1)).trans h0.2.1) (And.intro ((bX.cell (p := ⟨gx, 1, none⟩) (cell_lt h0.2.2.1)).trans h0.2.2.1) (And.intro ((bX.cell (p := ⟨gx, 2, none⟩) (cell_lt h0.2.2.2.1)).trans h0.2.2.2.1) (((HM.out.alloc (.cells #[.int .i64 r, .int .i64 f, .int .i64 t] 82)).lookup (t := 85) Try.underlying85 (zeroSlC _) r1).trans (by rw [HV.out])))))
                have hblk := heap_alloc_new Wd (.cells #[.int .i64 r, .int .i64 f, .int .i64 t] 82)
                refine hK.out _ _ (fun _ => h1) ?_
                clear hK K
                replace h0 := h1
                try simp only [Act.put, List.setIfInBounds_toArray, List.set_cons_zero, List.set_cons_succ]
                clear h1 bX
                have ha : Own encO 3 82 (Wd.alloc (.cells #[.int .i64 r, .int .i64 f, .int .i64 t] 82)) (gp + 1) (.slice A7 lf.length c7) lf := by have h := HOR.out; rw [HV.out] at h; exact h.alloc _
                have hk3 : gp + 1 ≤ (Wd.alloc (.cells #[.int .i64 r, .int .i64 f, .int .i64 t] 82)).heap.size := Nat.le_trans HST.out.lt (by rw [World.size_alloc]; exact Nat.le_succ _)
                refine until_one (i := 15) rfl (by kernel_rfl) (fun K hK => ?_)
                refine step_append_blk (by rfl) _ _ 23 (by rfl) (gp + 1) 82 24 Try.underlying23 elemC (.slice A7 lf.length c7) lf (by rfl) ha [(r, f, t)] Wd.heap.size 1 1 (by rfl) (by rfl) 82 hblk HK12.out.1 HK12.out.2 hk3 ?_
                intro v5 w5 ho5 hg5 hat5
                rw [← HV.out] at hg5 hat5
                obtain ⟨A5, c5, rfl⟩ := ho5.form
                generalize (lf ++ [(r, f, t)]).length = LM at *
                have hgd : Wd.grownBy w5 (F r).ownBlock := (World.grownBy_alloc Wd _ _).trans hg5
                have HM5 := Lib.hid ((HM.out.alloc (.cells #[.int .i64 r, .int .i64 f, .int .i64 t] 82)).kept hg5 (fun e => by have := (World.ownsRow.lt HOR.out gc e.symm).1; have := HST.out.ord; omega))
                have h2 := And.intro (hg5.cell h0.1 HNP.out) (And.intro (hg5.cell h0.2.1 HNX.out) (And.intro (hg5.cell h0.2.2.1 HNX.out) (And.intro (hg5.cell h0.2.2.2.1 HNX.out) ((HM5.out.lookup (t := 85) Try.underlying85 (zeroSlC _) r1).trans (by rw [HV.out])))))
                refine hK.out _ _ (fun _ => h2) ?_
                clear hK K
                replace h0 := h2
                try simp only [Act.put, List.setIfInBounds_toArray, List.set_cons_zero, List.set_cons_succ]
                clear h2 ha hblk
                obtain ⟨w6, hrunU, hm6, hg6⟩ := HM5.out.update (t := 85) Try.underlying85 (by simp only [Go.maxLen]; omega) r1 (.slice A5 LM c5)
                refine until_one (i := 16) rfl (by kernel_rfl) (fun K hK => ?_)
                go_simp
                refine hK.out _ _ (fun q => absurd rfl q) ?_
                have HP6 := Lib.hid (HST.out.pushC HM.out HOF.out HDJ.out r1 hgd ho5 (by
                  rcases hat5 with q | q
                  · exact .inl q
                  · refine .inr fun p hp => ?_
                    rw [q] at hp
                    injection hp with hp
                    rw [← hp]; simp) hm6 hg6)
                clear hK K h0 hrunU hm6 hg6 hgd hg5 hat5 ho5
                refine until_done (by kernel_rfl) ?_ _
                go_wp2_with fail
                go_roundg (cl.length - (i + 1))
                case measure => omega
                case rel => exact ⟨i + 1, by omega, rfl, by go_num, by rw [HFS.out]; exact HP6.out⟩
              · have hiE : i = cl.length := by omega
                have HPS1 : Hid (PS0 w wr gz gp gc gw A c L cl.length 0 (fun r => (cl.filter fun x => decide (x.1 = r))) (fun r => ((ow.take 0).filter fun x => decide (x.1 = r))) none 0 0) := by
                  have h := hst
                  rw [hiE, List.take_length] at h
                  exact h
                clear hst hiE
                go_wp2_with fail
                go_loopg [70] ow.length (fun g s70 wr => ∃ i : Nat, i ≤ ow.length ∧ g = ow.length - i ∧ s70 = .int .i64 i ∧ PS0 w wr gz gp gc gw A c L cl.length i (fun r => (cl.filter fun x => decide (x.1 = r))) (fun r => ((ow.take i).filter fun x => decide (x.1 = r))) none 0 0)
                case atStart => exact ⟨0, by omega, by omega, rfl, HPS1.out⟩
                case round =>
                  obtain ⟨i, hi, hg, rfl, hst⟩ := hrel
                  by_cases hlt : i < ow.length
                  · obtain ⟨xb, xo, rfl, hxb, e0, e1, e2, e3⟩ := (HOW.out.below hst.bel).owy i hlt
                    have HFS := Lib.hid (filt_step (fun x : OWy => x.1) ow hlt)
                    have r1 := HRW.out ow[i] (List.getElem_mem hlt)
                    have hb2 := belA wr (.cells #[.int .i64 ow[i].1, .int .i64 ow[i].2.1, .int .i64 ow[i].2.2.1, .int .i64 ow[i].2.2.2] 70)
                    have hnx := heap_alloc_new wr (.cells #[.int .i64 ow[i].1, .int .i64 ow[i].2.1, .int .i64 ow[i].2.2.1, .int .i64 ow[i].2.2.2] 70)
                    generalize ow[i] = x at *
                    obtain ⟨r, d, f, t⟩ := x
                    simp only at e0 e1 e2 e3 r1 hb2 hnx HFS
                    have hst5 := hst.below hb2
                    have hz5 : gp < wr.heap.size := hst.lt
                    obtain ⟨_, F, hm0, hoF0, hdj⟩ := id hst.oww
                    have HFG : Hid (∀ q, (F r).ownBlock = some q → q < wr.heap.size) := fun q hq => (World.ownsRow.lt (hoF0 r r1) q hq).2
                    have hb3 : Below wr.heap.size wr (wr.alloc (.cells #[.int .i64 r, .int .i64 d, .int .i64 f, .int .i64 t] 70)).drew := hb2.drew
                    have hm := hm0.below hb3
                    have hoF := fun y hy => (hoF0 y hy).below' hb3
                    clear hm0 hoF0 hb3
                    have i0 : (0 : Int) ≤ (i : Int) := by omega
                    have i1 : (i : Int) < (ow.length : Int) := by omega
                    have hzx : wr.heap.size < (wr.alloc (.cells #[.int .i64 r, .int .i64 d, .int .i64 f, .int .i64 t] 70)).heap.size := by simp
                    go_upto_region 14 with fail
                    clear e0 e1 e2 e3 hst
                    have hstd := hst5.below (Below.refl _ _).drew
                    have hnxd : (wr.alloc (.cells #[.int .i64 r, .int .i64 d, .int .i64 f, .int .i64 t] 70)).drew.heap[wr.heap.size]? = some (.cells #[.int .i64 r, .int .i64 d, .int .i64 f, .int .i64 t] 70 (0, 0)) := hnx
                    have hzxd : wr.heap.size < (wr.alloc (.cells #[.int .i64 r, .int .i64 d, .int .i64 f, .int .i64 t] 70)).drew.heap.size := hzx
                    clear hst5 hnx hzx hb2
                    have hor : Own encW 4 70 (wr.alloc (.cells #[.int .i64 r, .int .i64 d, .int .i64 f, .int .i64 t] 70)).drew (gp + 1) (F r) ((ow.take i).filter fun x => decide (x.1 = r)) := hoF r r1
                    have hlf1 : ((ow.take i).filter fun x => decide (x.1 = r)).length + 1 ≤ ow.length := by
                      have h1 := List.length_filter_le (fun x : OWy => decide (x.1 = r)) (ow.take i)
                      rw [List.length_take] at h1; omega
                    have hlf : ((ow.take i).filter fun x => decide (x.1 = r)).length ≤ ow.length := by
                      have h1 := List.length_filter_le (fun x : OWy => decide (x.1 = r)) (ow.take i)
                      rw [List.length_take] at h1; omega
                    have hk1 : (((ow.take i).filter fun x => decide (x.1 = r)).length + 1 ≤ Go.maxLen) := by unfold Go.maxLen; omega
                    have hk2 : (((ow.take i).filter fun x => decide (x.1 = r)).length + 1) * 32 ≤ 140737488355328 := by omega
                    obtain ⟨A7, c7, hv⟩ := hor.form
                    have hrun := hm.lookup (t := 86) Try.underlying86 (zeroSlW _) r1
                    rw [hv] at hrun
                    generalize hlq : (ow.take i).filter (fun x => decide (x.1 = r)) = lf at *
                    have HM := Lib.hid hm
                    have HOF := Lib.hid hoF
                    have HDJ := Lib.hid hdj
                    have HST := Lib.hid hstd
                    have HOR := Lib.hid hor
                    have HV := Lib.hid hv
                    have HK12 := Lib.hid (And.intro hk1 hk2)
                    clear hlq hm hoF hdj hor hv hk1 hk2
                    generalize wr.alloc (.cells #[.int .i64 r, .int .i64 d, .int .i64 f, .int .i64 t] 70) = Wq at *
                    generalize wr.heap.size = gx at *
                    refine wp_region_until (S := fun w' => w'.cell? ⟨gp, 2, none⟩ = some (.map (some gw)) ∧ w'.cell? ⟨gx, 0, none⟩ = some (.int .i64 r) ∧ w'.cell? ⟨gx, 1, none⟩ = some (.int .i64 d) ∧ w'.cell? ⟨gx, 2, none⟩ = some (.int .i64 f) ∧ w'.cell? ⟨gx, 3, none⟩ = some (.int .i64 t) ∧ (Instr.lookup 86 (.map (some gw)) (.int .i64 r) false).run Try.prog w' = .ok (.slice A7 lf.length c7) w') 16 (by kernel_rfl) ?_
                    have g1 := hstd.cells
                    have h0 := And.intro (g1.2.2.1) (And.intro ((show Wq.drew.cell? ⟨gx, 0, none⟩ = some (.int .i64 r) by rw [cell_of_row _ _ 0 _ _ _ hnxd]; rfl)) (And.intro ((show Wq.drew.cell? ⟨gx, 1, none⟩ = some (.int .i64 d) by rw [cell_of_row _ _ 1 _ _ _ hnxd]; rfl)) (And.intro ((show Wq.drew.cell? ⟨gx, 2, none⟩ = some (.int .i64 f) by rw [cell_of_row _ _ 2 _ _ _ hnxd]; rfl)) (And.intro ((show Wq.drew.cell? ⟨gx, 3, none⟩ = some (.int .i64 t) by rw [cell_of_row _ _ 3 _ _ _ hnxd]; rfl)) (hrun)))))
                    clear hrun g1 hstd
                    generalize Wq.drew = Wd at *
                    have HNP : Hid (some gp ≠ (F r).ownBlock) := fun e => by have := (World.ownsRow.lt HOR.out gp e.symm).1; omega
                    have HNX : Hid (some gx ≠ (F r).ownBlock) := fun e => by have := HFG.out gx e.symm; omega
                    clear hnxd
                    refine until_take (i := 0) (v := ?_) rfl (by kernel_rfl) (by kernel_rfl) (by kernel_rfl) (by kernel_rfl) (fun _ _ _ h => h) (Or.inl ⟨by rfl, ?_⟩) h0 ?_
                    rotate_left
                    · intro u hSu
                      (try dsimp only at hSu)
                      go_simp
                      try rfl
                    simp only [Act.put, List.setIfInBounds_toArray, List.set_cons_zero, List.set_cons_succ]
                    refine until_take (i := 1) (v := ?_) rfl (by kernel_rfl) (by kernel_rfl) (by kernel_rfl) (by kernel_rfl) (fun _ _ _ h => h) (Or.inl ⟨by rfl, ?_⟩) h0 ?_
                    rotate_left
                    · intro u hSu
                      (try dsimp only at hSu)
                      go_simp
                      try rfl
                    simp only [Act.put, List.setIfInBounds_toArray, List.set_cons_zero, List.set_cons_succ]
                    refine until_take (i := 2) (v := ?_) rfl (by kernel_rfl) (by kernel_rfl) (by kernel_rfl) (by kernel_rfl) (fun _ _ _ h => h) (Or.inl ⟨by rfl, ?_⟩) h0 ?_
                    rotate_left
                    · intro u hSu
                      (try dsimp only at hSu)
                      go_simp
                      try rfl
                    simp only [Act.put, List.setIfInBounds_toArray, List.set_cons_zero, List.set_cons_succ]
                    refine until_take (i := 3) (v := ?_) rfl (by kernel_rfl) (by kernel_rfl) (by kernel_rfl) (by kernel_rfl) (fun _ _ _ h => h) (Or.inl ⟨by rfl, ?_⟩) h0 ?_
                    rotate_left
                    · intro u hSu
                      (try dsimp only at hSu)
                      go_simp
                      try rfl
                    simp only [Act.put, List.setIfInBounds_toArray, List.set_cons_zero, List.set_cons_succ]
                    refine until_take (i := 4) (v := ?_) rfl (by kernel_rfl) (by kernel_rfl) (by kernel_rfl) (by kernel_rfl) (fun _ _ _ h => h) (Or.inl ⟨by rfl, ?_⟩) h0 ?_
                    rotate_left
                    · intro u hSu
                      (try dsimp only at hSu)
                      go_simp
                      try rfl
                    simp only [Act.put, List.setIfInBounds_toArray, List.set_cons_zero, List.set_cons_succ]
                    refine until_take (i := 5) (v := ?_) rfl (by kernel_rfl) (by kernel_rfl) (by kernel_rfl) (by kernel_rfl) (fun _ _ _ h => h) (Or.inl ⟨by rfl, ?_⟩) h0 ?_
                    rotate_left
                    · intro u hSu
                      (try dsimp only at hSu)
                      go_simp
                      try rfl
                    simp only [Act.put, List.setIfInBounds_toArray, List.set_cons_zero, List.set_cons_succ]
                    refine until_take (i := 6) (v := ?_) rfl (by kernel_rfl) (by kernel_rfl) (by kernel_rfl) (by kernel_rfl) (fun _ _ _ h => h) (Or.inl ⟨by rfl, ?_⟩) h0 ?_
                    rotate_left
                    · intro u hSu
                      (try dsimp only at hSu)
                      go_simp
                      try rfl
                    simp only [Act.put, List.setIfInBounds_toArray, List.set_cons_zero, List.set_cons_succ]
                    refine until_take (i := 7) (v := ?_) rfl (by kernel_rfl) (by kernel_rfl) (by kernel_rfl) (by kernel_rfl) (fun _ _ _ h => h) (Or.inl ⟨by rfl, ?_⟩) h0 ?_
                    rotate_left
                    · intro u hSu
                      (try dsimp only at hSu)
                      go_simp
                      try rfl
                    simp only [Act.put, List.setIfInBounds_toArray, List.set_cons_zero, List.set_cons_succ]
                    refine until_take (i := 8) (v := ?_) rfl (by kernel_rfl) (by kernel_rfl) (by kernel_rfl) (by kernel_rfl) (fun _ _ _ h => h) (Or.inl ⟨by rfl, ?_⟩) h0 ?_
                    rotate_left
                    · intro u hSu
                      (try dsimp only at hSu)
                      go_simp
                      try rfl
                    simp only [Act.put, List.setIfInBounds_toArray, List.set_cons_zero, List.set_cons_succ]
                    refine until_take (i := 9) (v := ?_) rfl (by kernel_rfl) (by kernel_rfl) (by kernel_rfl) (by kernel_rfl) (fun _ _ _ h => h) (Or.inl ⟨by rfl, ?_⟩) h0 ?_
                    rotate_left
                    · intro u hSu
                      (try dsimp only at hSu)
                      go_simp
                      try rfl
                    simp only [Act.put, List.setIfInBounds_toArray, List.set_cons_zero, List.set_cons_succ]
                    refine until_take (i := 10) (v := ?_) rfl (by kernel_rfl) (by kernel_rfl) (by kernel_rfl) (by kernel_rfl) (fun _ _ _ h => h) (Or.inl ⟨by rfl, ?_⟩) h0 ?_
                    rotate_left
                    · intro u hSu
                      (try dsimp only at hSu)
                      go_simp
                      try rfl
                    simp only [Act.put, List.setIfInBounds_toArray, List.set_cons_zero, List.set_cons_succ]
                    refine until_take (i := 11) (v := ?_) rfl (by kernel_rfl) (by kernel_rfl) (by kernel_rfl) (by kernel_rfl) (fun _ _ _ h => h) (Or.inl ⟨by rfl, ?_⟩) h0 ?_
                    rotate_left
                    · intro u hSu
                      (try dsimp only at hSu)
                      go_simp
                      try rfl
                    simp only [Act.put, List.setIfInBounds_toArray, List.set_cons_zero, List.set_cons_succ]
                    refine until_take (i := 12) (v := ?_) rfl (by kernel_rfl) (by kernel_rfl) (by kernel_rfl) (by kernel_rfl) (fun _ _ _ h => h) (Or.inl ⟨by rfl, ?_⟩) h0 ?_
                    rotate_left
                    · intro u hSu
                      (try dsimp only at hSu)
                      go_simp
                      try rfl
                    simp only [Act.put, List.setIfInBounds_toArray, List.set_cons_zero, List.set_cons_succ]
                    refine until_take (i := 13) (v := ?_) rfl (by kernel_rfl) (by kernel_rfl) (by kernel_rfl) (by kernel_rfl) (fun _ _ _ h => h) (Or.inl ⟨by rfl, ?_⟩) h0 ?_
                    rotate_left
                    · intro u hSu
                      (try dsimp only at hSu)
                      go_simp
                      try rfl
                    simp only [Act.put, List.setIfInBounds_toArray, List.set_cons_zero, List.set_cons_succ]
                    refine until_one (i := 14) rfl (by kernel_rfl) (fun K hK => ?_)
                    go_simp
                    have bX := belA Wd (.cells #[.int .i64 r, .int .i64 d, .int .i64 f, .int .i64 t] 70)
                    have h1 := And.intro ((bX.cell (p := ⟨gp, 2, none⟩) (cell_lt h0.1)).trans h0.1) (And.intro ((bX.cell (p := ⟨gx, 0, none⟩) (cell_lt h0.2.1)).trans h0.2.1) (And.intro ((bX.cell (p := ⟨gx, 1, none⟩) (cell_lt h0.2.2.1)).trans h0.2.2.1) (And.intro ((bX.cell (p := ⟨gx, 2, none⟩) (cell_lt h0.2.2.2.1)).trans h0.2.2.2.1) (And.intro ((bX.cell (p := ⟨gx, 3, none⟩) (cell_lt h0.2.2.2.2.1)).trans h0.2.2.2.2.1) (((HM.out.alloc (.cells #[.int .i64 r, .int .i64 d, .int .i64 f, .int .i64 t] 70)).lookup (t := 86) Try.underlying86 (zeroSlW _) r1).trans (by rw [HV.out]))))))
                    have hblk := heap_alloc_new Wd (.cells #[.int .i64 r, .int .i64 d, .int .i64 f, .int .i64 t] 70)
                    refine hK.out _ _ (fun _ => h1) ?_
                    clear hK K
                    replace h0 := h1
                    try simp only [Act.put, List.setIfInBounds_toArray, List.set_cons_zero, List.set_cons_succ]
                    clear h1 bX
                    have ha : Own encW 4 70 (Wd.alloc (.cells #[.int .i64 r, .int .i64 d, .int .i64 f, .int .i64 t] 70)) (gp + 1) (.slice A7 lf.length c7) lf := by have h := HOR.out; rw [HV.out] at h; exact h.alloc _
                    have hk3 : gp + 1 ≤ (Wd.alloc (.cells #[.int .i64 r, .int .i64 d, .int .i64 f, .int .i64 t] 70)).heap.size := Nat.le_trans HST.out.lt (by rw [World.size_alloc]; exact Nat.le_succ _)
                    refine until_one (i := 15) rfl (by kernel_rfl) (fun K hK => ?_)
                    refine step_append_blk (by rfl) _ _ 24 (by rfl) (gp + 1) 70 32 Try.underlying24 elemW (.slice A7 lf.length c7) lf (by rfl) ha [(r, d, f, t)] Wd.heap.size 1 1 (by rfl) (by rfl) 70 hblk HK12.out.1 HK12.out.2 hk3 ?_
                    intro v5 w5 ho5 hg5 hat5
                    rw [← HV.out] at hg5 hat5
                    obtain ⟨A5, c5, rfl⟩ := ho5.form
                    generalize (lf ++ [(r, d, f, t)]).length = LM at *
                    have hgd : Wd.grownBy w5 (F r).ownBlock := (World.grownBy_alloc Wd _ _).trans hg5
                    have HM5 := Lib.hid ((HM.out.alloc (.cells #[.int .i64 r, .int .i64 d, .int .i64 f, .int .i64 t] 70)).kept hg5 (fun e => by have := (World.ownsRow.lt HOR.out gw e.symm).1; have := HST.out.ord; omega))
                    have h2 := And.intro (hg5.cell h0.1 HNP.out) (And.intro (hg5.cell h0.2.1 HNX.out) (And.intro (hg5.cell h0.2.2.1 HNX.out) (And.intro (hg5.cell h0.2.2.2.1 HNX.out) (And.intro (hg5.cell h0.2.2.2.2.1 HNX.out) ((HM5.out.lookup (t := 86) Try.underlying86 (zeroSlW _) r1).trans (by rw [HV.out]))))))
                    refine hK.out _ _ (fun _ => h2) ?_
                    clear hK K
                    replace h0 := h2
                    try simp only [Act.put, List.setIfInBounds_toArray, List.set_cons_zero, List.set_cons_succ]
                    clear h2 ha hblk
                    obtain ⟨w6, hrunU, hm6, hg6⟩ := HM5.out.update (t := 86) Try.underlying86 (by simp only [Go.maxLen]; omega) r1 (.slice A5 LM c5)
                    refine until_one (i := 16) rfl (by kernel_rfl) (fun K hK => ?_)
                    go_simp
                    refine hK.out _ _ (fun q => absurd rfl q) ?_
                    have HP6 := Lib.hid (HST.out.pushW HM.out HOF.out HDJ.out r1 hgd ho5 (by
                      rcases hat5 with q | q
                      · exact .inl q
                      · refine .inr fun p hp => ?_
                        rw [q] at hp
                        injection hp with hp
                        rw [← hp]; simp) hm6 hg6)
                    clear hK K h0 hrunU hm6 hg6 hgd hg5 hat5 ho5
                    refine until_done (by kernel_rfl) ?_ _
                    go_wp2_with fail
                    go_roundg (ow.length - (i + 1))
                    case measure => omega
                    case rel => exact ⟨i + 1, by omega, rfl, by go_num, by rw [HFS.out]; exact HP6.out⟩
                  · have hiE : i = ow.length := by omega
                    have HPS2 : Hid (PS0 w wr gz gp gc gw A c L cl.length ow.length (fun r => (cl.filter fun x => decide (x.1 = r))) (fun r => (ow.filter fun x => decide (x.1 = r))) none 0 0) := by
                      have h := hst
                      rw [hiE, List.take_length] at h
                      exact h
                    obtain ⟨b0, _, _, _⟩ := HPS2.out.cells
                    clear hst hiE
                    go_wp2_with fail
                    clear b0
                    go_loopg [18, 93] L.length (fun g s18 s93 wr => ∃ (i : Nat) (OA : Option Addr) (oc : Nat) (KA : Option Addr) (kc : Nat), i ≤ L.length ∧ g = L.length - i ∧ s93 = .int .i64 i ∧ s18 = .slice OA i oc ∧ OwnN wr (gp + 1) (.slice OA i oc) (natI (List.range i)) ∧ PS0 w wr gz gp gc gw A c L cl.length ow.length (fun r => (cl.filter fun x => decide (x.1 = r))) (fun r => (ow.filter fun x => decide (x.1 = r))) KA i kc ∧ Own encK 2 55 wr (gp + 1) (.slice KA i kc) (List.replicate i (-1, 0)))
                    case atStart => exact ⟨0, none, 0, none, 0, by omega, by omega, rfl, rfl, Own.nil _ _ _ _ _, HPS2.out, Own.nil _ _ _ _ _⟩
                    case round =>
                      obtain ⟨i, OA, oc, KA, kc, hi, hg, rfl, rfl, hon, hps, hok⟩ := hrel
                      have HON := Lib.hid hon
                      have HPS := Lib.hid hps
                      have HOK := Lib.hid hok
                      have hgp := hps.lt
                      clear hon hps hok
                      by_cases hlt : i < L.length
                      · have hli : (natI (List.range i)).length = i := by rw [natI_len, List.length_range]
                        have hlk : (List.replicate i ((-1, 0) : Cho)).length = i := List.length_replicate
                        have HLI := Lib.hid hli
                        have HLK := Lib.hid hlk
                        clear hli hlk
                        go_wp2_with (at_builtin; refine Hld.put ?_)
                        refine Hld.out ?_
                        refine wpList_append_rec rfl _ _ 34 rfl (gp + 1) 3 8 Try.underlying34 elemN _ (natI (List.range i)) rfl HON.out [(i : Int)] _ rfl 1 1 rfl rfl (by rw [HLI.out]; simp only [Go.maxLen, List.length_cons, List.length_nil]; omega) (by rw [HLI.out]; simp only [List.length_cons, List.length_nil]; omega) hgp ?_
                        intro v5 w5 ho5 hg5 hat5
                        obtain ⟨A5, c5, rfl⟩ := ho5.form
                        have HPS5 := Lib.hid (HPS.out.grown HON.out (by decide) (by decide) hg5)
                        have HOK5 := Lib.hid (own_other HOK.out HON.out (by decide) hg5)
                        have hn5 : (natI (List.range i) ++ [(i : Int)]).length = i + 1 := by rw [List.length_append, HLI.out]; rfl
                        rw [hn5, ← natI_succ] at ho5
                        rw [hn5]
                        have HO5 := Lib.hid ho5
                        have hgp5 := HPS5.out.lt
                        obtain ⟨_, _, _, b3⟩ := HPS5.out.cells
                        clear ho5 hg5 hat5 hn5
                        go_wp2_with (at_builtin; refine Hld.put ?_)
                        refine Hld.out ?_
                        refine wpList_append_rec rfl _ _ 49 rfl (gp + 1) 55 16 Try.underlying49 elemK _ (List.replicate i (-1, 0)) rfl HOK5.out [((-1, 0) : Cho)] _ rfl 1 1 rfl rfl (by rw [HLK.out]; simp only [Go.maxLen, List.length_cons, List.length_nil]; omega) (by rw [HLK.out]; simp only [List.length_cons, List.length_nil]; omega) hgp5 ?_
                        intro v7 w7 ho7 hg7 hat7
                        obtain ⟨A7, c7, rfl⟩ := ho7.form
                        have HPS7 := Lib.hid (HPS5.out.grown HOK5.out (by decide) (by decide) hg7)
                        have HO7 := Lib.hid (own_other HO5.out HOK5.out (by decide) hg7)
                        have hn7 : (List.replicate i ((-1, 0) : Cho) ++ [((-1, 0) : Cho)]).length = i + 1 := by rw [List.length_append, HLK.out]; rfl
                        rw [hn7, ← List.replicate_succ'] at ho7
                        rw [hn7]
                        have HK7 := Lib.hid ho7
                        obtain ⟨_, _, _, e3⟩ := HPS7.out.cells
                        have f3 : w7.frozen? ⟨gp, 3, none⟩ = false := by unfold World.frozen?; rw [HPS7.out.blk]; simp
                        have HP8 := Lib.hid (HPS7.out.store A7 (i + 1) c7)
                        have HO8 := Lib.hid (HO7.out.setBelow (a := ⟨gp, 3, none⟩) (Nat.lt_succ_self gp) (.slice A7 (i + 1) c7))
                        have HK8 := Lib.hid (ho7.setBelow (a := ⟨gp, 3, none⟩) (Nat.lt_succ_self gp) (.slice A7 (i + 1) c7))
                        clear ho7 hg7 hat7 hn7
                        go_wp2_with fail
                        go_roundg (L.length - (i + 1))
                        case measure => omega
                        case rel => exact ⟨i + 1, A5, c5, A7, c7, by omega, rfl, by go_num, rfl, HO8.out, HP8.out, HK8.out⟩
                      · obtain rfl : i = L.length := by omega
                        obtain ⟨b0, _, _, _⟩ := HPS.out.cells
                        have hord3 := HPS.out.ord
                        have HJW := Lib.hid (HJ.out.belowMore HPS.out.bel (Nat.le_refl _))
                        have hsort : Calls Try.prog 43 #[.slice OA L.length oc, .func (.func 44) #[] #[.pointer (some ⟨gz, 0, none⟩)]] wr fun e w' => e = .returned (.tuple #[]) ∧ ∃ ord, OrdTo (L.map JobM.p) L.length ord ∧ OwnN w' (gp + 1) (.slice OA L.length oc) (natI ord) ∧ wr.grownBy w' (Value.slice OA L.length oc).ownBlock := by
                          refine sortStable_of OA L.length oc _ wr (fun w' => ∃ ord, OrdTo (L.map JobM.p) L.length ord ∧ OwnN w' (gp + 1) (.slice OA L.length oc) (natI ord) ∧ wr.grownBy w' (Value.slice OA L.length oc).ownBlock) hL6 ?_
                          have h := HON.out
                          cases hLn : L.length with
                          | zero =>
                            rw [hLn] at h
                            exact (insI_none OA oc _ wr).mono fun e w' ⟨h1, h2⟩ => ⟨h1, [], OrdTo.nil _, by rw [h2]; exact h, by rw [h2]; exact World.grownBy.refl _ _⟩
                          | succ m =>
                            rw [hLn] at h
                            obtain ⟨g, cc', hq, _⟩ := Own.at_ (enc := encI) (k := 1) encI_len h (by rw [natI_succ]; simp)
                            injection hq with h1 _ h2
                            subst h1
                            exact (insI_any gz A c gz L m hLn (gp + 1) g oc wr ⟨by omega, by omega⟩ b0 HJW.out.lst h (by omega)).mono fun e w' ⟨h1, ord, h2, h3, h4⟩ => ⟨h1, ord, h2, h3, h4⟩
                        clear b0
                        obtain ⟨M', rfl⟩ : ∃ m : Nat, M = m := ⟨M.toNat, by omega⟩
                        go_wp2_with (go_at_call 43; refine hsort.mono ?_; rintro e w9 ⟨rfl, ord, hord, hno9, hgr9⟩)
                        have HIO : Hid (InOrd (L.map JobM.p) ord) := ⟨by rw [List.length_map]; exact hord.perm, hord.inc⟩
                        have HPS9 := Lib.hid (HPS.out.grown HON.out (by decide) (by decide) hgr9)
                        have HPL9 := Lib.hid (HPS9.out.done HJ.out (own_other HOK.out HON.out (by decide) hgr9) List.length_replicate.symm)
                        have HNO9 := Lib.hid hno9
                        have HE0 := Lib.hid (show (planF (L.map JobM.p) cl ow M' (ord.take 0)).1 = List.replicate L.length (-1, 0) by unfold planF; simp)
                        clear hsort hord hno9 hgr9
                        go_wp2_with fail
                        go_loopg [20, 116] L.length (fun g s20 s116 wr => ∃ k : Nat, k ≤ L.length ∧ g = L.length - k ∧ s116 = .int .i64 k ∧ s20 = .int .i64 ((planF (L.map JobM.p) cl ow M' (ord.take k)).2 : Nat) ∧ (((planF (L.map JobM.p) cl ow M' (ord.take k)).2 : Nat) : Int) ≤ B ∧ PlS wr gz gp A c L (gp + 1) gc gw cl.length ow.length cl ow KA kc (planF (L.map JobM.p) cl ow M' (ord.take k)).1 ∧ OwnN wr (gp + 1) (.slice OA L.length oc) (natI ord) ∧ Below gz w wr)
                        case atStart => exact ⟨0, by omega, by omega, rfl, rfl, show (0 : Int) ≤ B by omega, by rw [HE0.out]; exact HPL9.out, HNO9.out, HPS9.out.bel⟩
                        case round =>
                          obtain ⟨k, hk, hg, rfl, rfl, hle, hpl, hno, hb⟩ := hrel
                          have hon : ord.length = L.length := by rw [HIO.out.len, List.length_map]
                          by_cases hlt : k < L.length
                          · have hko : k < ord.length := by omega
                            obtain ⟨ob, oo, hOA, hob, c0⟩ := (Own.lst encI_len hno).num k (by rw [natI_len]; exact hko)
                            subst hOA
                            have hnk : (natI ord)[k]'(by rw [natI_len]; exact hko) = (ord[k] : Int) := by simp [natI]
                            rw [hnk] at c0
                            have hol : ord[k] < L.length := by have := HIO.out.mem.1 (List.getElem_mem hko); rwa [List.length_map] at this
                            have hnm : ord[k] ∉ ord.take k := fun hm => by
                              obtain ⟨x, hx, e⟩ := List.mem_take_iff_getElem.1 hm
                              have := (List.getElem_inj HIO.out.nodup).1 e
                              omega
                            have HCC := Lib.hid (choose_any gz gp A c L (gp + 1) gc gw cl.length ow.length cl ow KA kc _ wr hpl HCK.out HRJ.out ord[k] hol M' (by omega) (chgood_plan HCK.out cl ow (by omega) (ord.take k)) (by rw [planF_len, List.length_map]) (planF_not _ _ _ _ _ (by rw [List.length_map]; exact hol) hnm) HN16.out)
                            have HSN := Lib.hid (planF_snoc (L.map JobM.p) cl ow M' hko)
                            have hfb : (foundC (jobAt (L.map JobM.p) ord[k]) M' (placeN (L.map JobM.p) cl ow M' (planF (L.map JobM.p) cl ow M' (ord.take k)).1 ord[k])).2 ≤ 3601 * 8 := by
                              refine Nat.le_trans foundC_le ?_
                              obtain ⟨_, h1, _⟩ := okJob_iff.1 ((checkJ_iff.1 HCK.out).2 (jobAt (L.map JobM.p) ord[k]) (getD_mem' (by rw [List.length_map]; exact hol) _))
                              exact Nat.mul_le_mul (by omega) h1.2
                            have HMO := Lib.hid (planF_mono (L.map JobM.p) cl ow M' ord (k + 1) (by omega))
                            rw [HSN.out] at HMO
                            unfold placeStep at HSN HMO
                            have HPLK := Lib.hid hpl
                            have HNOK := Lib.hid hno
                            have HBK := Lib.hid hb
                            clear hpl hno hb hnk hnm
                            generalize foundC (jobAt (L.map JobM.p) ord[k]) M' (placeN (L.map JobM.p) cl ow M' (planF (L.map JobM.p) cl ow M' (ord.take k)).1 ord[k]) = fc at *
                            generalize planF (L.map JobM.p) cl ow M' (ord.take k) = st at *
                            generalize ord[k] = ok at *
                            obtain ⟨fc1, fc2⟩ := fc
                            obtain ⟨st1, used⟩ := st
                            simp only at HSN HMO hfb HCC HPLK hle
                            have i0 : (0 : Int) ≤ (k : Int) := by omega
                            have i1 : (k : Int) < (L.length : Int) := by omega
                            have sw : IntKind.i64.wrap ((used : Int) + (fc2 : Int)) = (used : Int) + (fc2 : Int) := IntWalk.i64_in _ (by omega)
                            by_cases hbud : B < (used : Int) + (fc2 : Int)
                            · go_wp2_with (go_at_call 46; refine HCC.out.mono ?_; rintro e w5 ⟨rfl, hpl5, hgr5⟩)
                              go_ret3
                              have hbf : Below gz w w5 := HBK.out.grown hgr5 (by have := HPLK.out.bw; omega) (fun q hq => by have := (World.ownsRow.lt HPLK.out.own q hq).1; omega)
                              exact plan_err rfl (.inr (.inr ⟨HCK.out, by omega, by omega, hB.1, hB.2, ord, HIO.out, .inl ⟨by have := HMO.out; rw [Int.toNat_natCast]; omega, rfl, rfl, rfl⟩⟩)) (by rw [HGZ.out]; exact hbf)
                            · have hbd : decide (B < (used : Int) + (fc2 : Int)) = false := decide_eq_false hbud
                              have HBU := Lib.hid hbud
                              clear hbud
                              go_wp2_with (go_at_call 46; refine HCC.out.mono ?_; rintro e w5 ⟨rfl, hpl5, hgr5⟩)
                              have HP5 := Lib.hid hpl5
                              have HB5 := Lib.hid (show Below gz w w5 from HBK.out.grown hgr5 (by have := HPLK.out.bw; omega) (fun q hq => by have := (World.ownsRow.lt HPLK.out.own q hq).1; omega))
                              have HN5 := Lib.hid (own_other HNOK.out HPLK.out.own (by decide) hgr5)
                              clear hpl5 hgr5
                              go_wp2_with fail
                              go_roundg (L.length - (k + 1))
                              case measure => omega
                              case rel => exact ⟨k + 1, by omega, rfl, by go_num, by rw [HSN.out]; go_num, by rw [HSN.out]; show ((used + fc2 : Nat) : Int) ≤ B; have := HBU.out; omega, by rw [HSN.out]; exact HP5.out, HN5.out, HB5.out⟩
                          · have hkE : ord.take k = ord := List.take_of_length_le (by omega)
                            rw [hkE] at hle hpl ⊢
                            obtain ⟨_, _, _, y3, _⟩ := hpl.ok.cells
                            have HPLK := Lib.hid hpl
                            have HBK := Lib.hid hb
                            clear hpl hno hb hkE
                            generalize hpf : planF (L.map JobM.p) cl ow M' ord = st at *
                            have HPF := Lib.hid hpf
                            clear hpf
                            go_wp2_with fail
                            go_ret3
                            exact ⟨st.1, st.2, 0, KA, kc, rfl, .inr (.inr ⟨HCK.out, by omega, by omega, hB.1, hB.2, ord, HIO.out, .inr ⟨by rw [Int.toNat_natCast, HPF.out]; exact hle, by rw [Int.toNat_natCast, HPF.out], by rw [Int.toNat_natCast, HPF.out], rfl⟩⟩), HPLK.out.own.rebase (by rw [HGZ.out]; omega), by rw [HGZ.out]; exact HBK.out⟩
theorem plan_any (A : Option Addr) (c : Nat) (L : List JobM) (CA : Option Addr) (cc : Nat) (cl : List Clo) (WA : Option Addr) (wc : Nat) (ow : List OWy) (M B : Int) (w : World)
    (hj : Jbs w w.heap.size A L) (hcl : Lst encO 3 w w.heap.size CA cl) (how : Lst encW 4 w w.heap.size WA ow) (hR : JobsR L) (hL6 : L.length ≤ 19) (hrc : ∀ x ∈ cl, R64 x.1) (hrw : ∀ x ∈ ow, R64 x.1) (hbytes : (cl.length + ow.length + 7000) * 32 ≤ 140737488355328) :
    Calls Try.prog 25 #[.slice A L.length c, .slice CA cl.length cc, .slice WA ow.length wc, .int .i64 M, .int .i64 B] w (PlanPost w L cl ow M B) :=
  plan_wide A c L CA cc cl WA wc ow M B w hj hcl how hR hL6 hrc hrw (by omega) (by omega)
end Go.Proofs.Ytlillkfelfoafaa
