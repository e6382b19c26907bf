/-
  Contract of newIndex.
-/
import Derived.Test.YtjeocfkijbpinaaCloS
import Derived.Test.YtjeocfkijbpinaaStep
set_option linter.unusedVariables false
set_option linter.unusedSimpArgs false
namespace Go.Proofs.Ytjeocfkijbpinaa
open Go.RowKit RP

def IdxPost (l : List Clo) (w : World) (e : Ending) (w' : World) : Prop :=
  ∃ gm n S, e = .returned (.map (some gm)) ∧ S.Perm l ∧ (S.Pairwise fun x y => x.2.1 ≤ y.2.1) ∧ Idx w' (gm + 1) gm n (idxOf S) ∧ w.heap.size ≤ gm ∧ Below w.heap.size w w'

theorem zeroSl (W : World) : (zeroValue 23).run Try.prog W = .ok (.slice none 0 0) W := by kernel_rfl

set_option maxHeartbeats 4000000 in
/-- The loop over the sorted closures. -/
theorem newIndex_any (A : Option Addr) (c : Nat) (l : List Clo) (w : World) (hl : Lst encO 3 w w.heap.size A l) (hn : l.length * 24 ≤ 140737488355328) (hrng : ∀ x ∈ l, R64 x.1 ∧ R64 x.2.1 ∧ R64 x.2.2) :
    Calls Try.prog 34 #[.slice A l.length c] w (IdxPost l w) := by
  have hmm := @run_makeMap Try.prog
  go_enter Try.func34, Try.ntmps34
  go_wp2_with fail
  refine (cloneC_any A c l w hl hn).mono ?_
  rintro e w1 ⟨v1, rfl, ho1, hb1⟩
  have z1 := hb1.size
  obtain ⟨A1, c1, rfl⟩ := ho1.form
  have hsort : Calls Try.prog 43 #[.slice A1 l.length c1, .func (.func 44) #[] #[]] w1 fun e w' =>
      e = .returned (.tuple #[]) ∧ ∃ S : List Clo, S.Perm l ∧ S.Pairwise (fun x y => x.2.1 ≤ y.2.1) ∧ OwnC w' w.heap.size (.slice A1 l.length c1) S ∧ Below w.heap.size w1 w' := by
    by_cases h0 : l = []
    · subst h0
      exact (sortCloNone A1 c1 _ w1).mono fun e w' ⟨he, hw⟩ => ⟨he, [], List.Perm.nil, List.Pairwise.nil, by rw [hw]; exact ho1, by rw [hw]; exact Below.refl _ _⟩
    · obtain ⟨g, cc, hq, hgb, hgl, _, _, _⟩ := ho1.at_ encO_len h0
      injection hq with hq1 _ hq2
      subst hq1 hq2
      exact (sortClo l w.heap.size g l.length c1 w1 h0 ho1 (by omega)).mono fun e w' ⟨he, S, h1, h2, h3, h4⟩ => ⟨he, S, h1, h2, h3, below_of_grownBy h4 z1 (fun k hk => by injection hk with hk; omega)⟩
  go_wp2_with fail
  refine hsort.mono ?_
  rintro e w2 ⟨rfl, S, hperm, hsrt, ho2, hb2⟩
  clear hsort
  have hlen := hperm.length_eq
  have HRNG : Hid (∀ x ∈ S, R64 x.1 ∧ R64 x.2.1 ∧ R64 x.2.2) := fun x hx => hrng x (hperm.mem_iff.1 hx)
  have HP := Lib.hid hperm
  have HSR := Lib.hid hsrt
  have z2 := hb2.size
  have hbw2 := hb1.trans hb2
  have hsl := ho2.lst encO_len
  have hS : S.length * 24 ≤ 140737488355328 := by rw [hlen]; exact hn
  rw [← hlen]
  clear hperm hsrt hlen hrng hn ho2 ho1
  have hidx0 := Idx.made w2
  go_wp2_with fail
  have hbm : Below w2.heap.size w2 (w2.alloc (.map #[] 0)) := below_refl_alloc w2 _
  have hbB : Below w.heap.size w (w2.alloc (.map #[] 0)) := (hbw2).alloc (by omega) _
  have hgz : w2.heap.size < (w2.alloc (.map #[] 0)).heap.size := by simp
  replace hsl := hsl.below hbm
  generalize w2.alloc (.map #[] 0) = w3 at *
  have hgm : w.heap.size ≤ w2.heap.size := by omega
  generalize w2.heap.size = gm at *
  clear hbm hb2 hbw2 z2
  go_loopg [6, 7, 8, 16] S.length (fun g s6 s7 s8 s16 wr => ∃ k n : Nat, k ≤ S.length ∧ n ≤ k ∧ g = S.length - k ∧ s16 = .int .i64 k ∧ Idx wr (gm + 1) gm n (idxOf (S.take k)) ∧ Below gm w3 wr)
  case atStart => exact ⟨0, 0, by omega, by omega, by omega, rfl, hidx0, Below.refl _ _⟩
  case round =>
    obtain ⟨k, n, hk, hnk, hg, rfl, hidx, hb⟩ := hrel
    have hz := hb.size
    by_cases hlt : k < S.length
    · obtain ⟨bb, off, rfl, hbw, c0, c1', c2⟩ := (hsl.below hb).oc k hlt
      obtain ⟨r1, r2, r3⟩ := HRNG.out S[k] (List.getElem_mem hlt)
      have HS := Lib.hid (show idxOf (S.take (k + 1)) = idxStep (idxOf (S.take k)) S[k] by rw [take_snoc S k hlt, idxOf_snoc])
      have hgl := idx_len (S.take k) S[k].1
      rw [List.length_take] at hgl
      generalize S[k] = x at *
      obtain ⟨r, f, e⟩ := x
      simp only at c0 c1' c2 r1 r2 r3 HS hgl
      have hne : bb ≠ wr.heap.size := by omega
      by_cases hfe : f < e
      · have k0 : (wr.alloc (.cells #[.int .i64 r, .int .i64 f, .int .i64 e] 27)).cell? ⟨wr.heap.size, 0, none⟩ = some (.int .i64 r) := by rw [World.cell?_alloc_at _ _ _ _ rfl]; rfl
        have k1 : (wr.alloc (.cells #[.int .i64 r, .int .i64 f, .int .i64 e] 27)).cell? ⟨wr.heap.size, 1, none⟩ = some (.int .i64 f) := by rw [World.cell?_alloc_at _ _ _ _ rfl]; rfl
        have k2 : (wr.alloc (.cells #[.int .i64 r, .int .i64 f, .int .i64 e] 27)).cell? ⟨wr.heap.size, 2, none⟩ = some (.int .i64 e) := by rw [World.cell?_alloc_at _ _ _ _ rfl]; rfl
        have hbW := hb.alloc (show gm ≤ wr.heap.size by omega) (.cells #[.int .i64 r, .int .i64 f, .int .i64 e] 27)
        have hiW := hidx.alloc (.cells #[.int .i64 r, .int .i64 f, .int .i64 e] 27)
        obtain ⟨_, F, hm0, hoF0, hdj⟩ := id hidx
        have hm := hm0.alloc (.cells #[.int .i64 r, .int .i64 f, .int .i64 e] 27)
        have hoF : ∀ y, R64 y → OwnC (wr.alloc (.cells #[.int .i64 r, .int .i64 f, .int .i64 e] 27)) (gm + 1) (F y) (idxOf (S.take k) y) := fun y hy => (hoF0 y hy).alloc _
        have HFG : Hid (∀ q, (F r).ownBlock = some q → q < wr.heap.size) := fun q hq => (World.ownsRow.lt (hoF0 r r1) q hq).2
        clear hm0 hoF0
        have hzW : wr.heap.size < (wr.alloc (.cells #[.int .i64 r, .int .i64 f, .int .i64 e] 27)).heap.size := by simp
        have hbk : (wr.alloc (.cells #[.int .i64 r, .int .i64 f, .int .i64 e] 27)).heap[wr.heap.size]? = some (.cells #[.int .i64 r, .int .i64 f, .int .i64 e] 27 (0, 0)) := heap_alloc_new wr _
        have hgl' : gm < wr.heap.size := hidx.lt
        go_upto_region 8 with fail
        generalize wr.alloc (.cells #[.int .i64 r, .int .i64 f, .int .i64 e] 27) = W at *
        clear hidx hb c0 c1' c2
        generalize wr.heap.size = gc at *
        have HIW := Lib.hid hiW
        clear hiW
        have hrun := hm.lookup (t := 53) Try.underlying53 (zeroSl W) r1
        have hor := hoF r r1
        have HM := Lib.hid hm
        have HOF := Lib.hid hoF
        have HDJ := Lib.hid hdj
        clear hm hoF hdj
        rcases snoc_cases (idxOf (S.take k) r) with h0 | ⟨q, u, h0⟩
        · rw [h0] at hor
          obtain ⟨A7, c7, hv⟩ := hor.form
          rw [hv] at hrun hor
          have HV := Lib.hid hv
          have H0 := Lib.hid h0
          clear hv h0
          simp only [List.length_nil] at hrun hor HV
          go_upto_region 10 with fail
          go_quiet (fail)
          clear hrun
          go_wp2_with fail
          have HG := Lib.hid (stepC_nil (r, f, e))
          have k0' : (W.drewN nq).cell? ⟨gc, 0, none⟩ = some (.int .i64 r) := k0
          have k1' : (W.drewN nq).cell? ⟨gc, 1, none⟩ = some (.int .i64 f) := k1
          have k2' : (W.drewN nq).cell? ⟨gc, 2, none⟩ = some (.int .i64 e) := k2
          have hor' := hor.drewN nq
          have HM' := Lib.hid (HM.out.drewN nq)
          have hzW' : gc < (W.drewN nq).heap.size := hzW
          have hbW' := below_drewN hbW nq
          have HIW' := Lib.hid (HIW.out.drewN nq)
          have HOF' : Hid (∀ y, R64 y → OwnC (W.drewN nq) (gm + 1) (F y) (idxOf (S.take k) y)) := HOF.out
          clear k0 k1 k2 hor HM hzW hbW HIW HOF
          generalize W.drewN nq = W2 at *
          have ha : OwnC (W2.alloc (.cells #[.int .i64 r, .int .i64 f, .int .i64 e] 27)).drew (gm + 1) (.slice A7 0 c7) [] := (hor'.alloc _).drew
          have hblk : (W2.alloc (.cells #[.int .i64 r, .int .i64 f, .int .i64 e] 27)).drew.heap[W2.heap.size]? = some (.cells #[.int .i64 r, .int .i64 f, .int .i64 e] 27 (0, 0)) := heap_alloc_new W2 _
          have hgrow : ∀ w1 row, (W2.alloc (.cells #[.int .i64 r, .int .i64 f, .int .i64 e] 27)).drew.grownBy w1 row → W2.grownBy w1 row := fun w1 row h => ⟨h.os, h.tape, h.output, Nat.le_trans (by show _ ≤ (W2.alloc _).heap.size; simp) h.size, fun q hq hn => (h.block q (by show q < (W2.alloc _).heap.size; simp; omega) hn).trans (Below.heap_alloc _ _ _ hq)⟩
          have HGW := Lib.hid hgrow
          clear hgrow
          go_region_held3 (fun w' => w'.cell? ⟨gc, 0, none⟩ = some (.int .i64 r) ∧ w'.cell? ⟨gc, 1, none⟩ = some (.int .i64 f) ∧ w'.cell? ⟨gc, 2, none⟩ = some (.int .i64 e)) (first | exact ⟨hg6.cell j0 hgmne, hg6.cell j1 hgmne, hg6.cell j2 hgmne⟩ | exact ⟨j0, j1, j2⟩ | go_keep)
            ((refine step_append_blk (by rfl) _ _ 23 (by rfl) (gm + 1) 27 24 Try.underlying23 elemC _ [] (by rfl) ha [(r, f, e)] W2.heap.size 1 1 (by rfl) (by rfl) 27 hblk (by simp only [Go.maxLen, List.length_append, List.length_cons, List.length_nil]; omega) (by simp only [List.length_append, List.length_cons, List.length_nil]; omega) (by show gm + 1 ≤ (W2.alloc _).heap.size; simp; omega) ?_; intro v5 w5 ho5 hg5 hat5
              have hgW : W2.grownBy w5 (F r).ownBlock := by rw [HV.out]; exact HGW.out _ _ hg5
              have hgne : some gc ≠ (F r).ownBlock := fun q => Nat.lt_irrefl _ (HFG.out gc q.symm)
              have j0 := hgW.cell k0' hgne
              have j1 := hgW.cell k1' hgne
              have j2 := hgW.cell k2' hgne
              obtain ⟨w6, hrunU, hm6, hg6⟩ := (HM'.out.kept hgW (fun q => by have := (World.ownsRow.lt (HOF'.out r r1) gm q.symm).1; omega)).update (t := 53) Try.underlying53 (by simp only [Go.maxLen]; omega) r1 v5
              have hgmne : some gc ≠ some gm := by intro q; injection q with q; omega))
          have HI6 := Lib.hid (HIW'.out.push HM'.out HOF'.out HDJ.out r1 hgW ho5 (by
            rcases hat5 with q | q
            · exact .inl (by rw [HV.out]; exact q)
            · refine .inr fun p hp => ?_
              rw [q] at hp
              injection hp with hp
              rw [← hp]
              show W2.heap.size ≤ (W2.alloc _).heap.size
              simp) hm6 hg6)
          have HB6 := Lib.hid ((hbW'.grown hgW (by omega) (fun p hp => by have := (World.ownsRow.lt (HOF'.out r r1) p hp).1; omega)).grown hg6 (by have := hgW.size; omega) (fun p hp => by injection hp with hp; omega))
          clear hrunU hgW hg5 hat5 hg6 hm6 ho5 j0 j1 j2 k0' k1' k2' ha hblk hor'
          go_wp2_with fail
          go_roundg (S.length - (k + 1))
          case measure => omega
          case rel =>
            refine ⟨k + 1, n + 1, by omega, by omega, rfl, by go_num, ?_, HB6.out⟩
            have e1 : idxOf (S.take (k + 1)) = fun y => if y = r then [] ++ [(r, f, e)] else idxOf (S.take k) y := by
              rw [HS.out]
              funext y
              simp only [idxStep]
              by_cases ey : y = r
              · subst ey
                rw [if_pos ⟨hfe, rfl⟩, if_pos rfl, H0.out, HG.out]; try rfl
              · rw [if_neg (fun h => ey h.2), if_neg ey]
            rw [e1]
            exact HI6.out
        · rw [h0] at hor hgl
          obtain ⟨g, c7, hv, hge, hgw, hcc7, hcell, hfz⟩ := hor.at_ encO_len (by simp)
          have cu := hcell q.length u (by simp) 2 (.int .i64 u.2.2) rfl
          have fu := hfz (q.length * 3 + 2)
          obtain ⟨ur, uf, ue⟩ := u
          simp only at cu
          rw [hv] at hrun hor
          have hql : (q ++ [(ur, uf, ue)]).length = q.length + 1 := by simp
          rw [hql] at hrun hor hv hgl hcc7
          have HV := Lib.hid hv
          have H0 := Lib.hid h0
          have hgne : g ≠ gc := fun e' => by have := HFG.out g (by rw [HV.out]; rfl); omega
          clear hv h0 hcell hfz hql
          have hq2 : (q.length : Int) < ((q.length + 1 : Nat) : Int) := by omega
          have hq0 : (0 : Int) ≤ (q.length : Int) := by omega
          by_cases near : f ≤ ue
          · have HG := Lib.hid (stepC_near q (ur, uf, ue) (r, f, e) near)
            have dn : decide (f ≤ ue) = true := by simpa using near
            go_upto_region 10 with fail
            go_quiet (fail)
            clear hrun
            go_wp2_with fail
            go_region
            have hst := (hor.drewN (nq + 1)).stored encO_len q.length 2 (.int .i64 (max ue e)) (ur, uf, max ue e) (by simp) (by omega) (by simp [encO])
            rw [← HV.out] at hst
            have HI6 := Lib.hid ((HIW.out.drewN (nq + 1)).setRow (HM.out.drewN (nq + 1)) (fun y hy => (HOF.out y hy).drewN (nq + 1)) HDJ.out r1 (g := g) (by rw [HV.out]; rfl) hst.2 hst.1)
            have HB6 := Lib.hid ((below_drewN hbW (nq + 1)).setCell (p := ⟨g, q.length * 3 + 2, none⟩) (by show gm ≤ g; omega) (.int .i64 (max ue e)))
            clear hst
            go_wp2_with fail
            go_roundg (S.length - (k + 1))
            case measure => omega
            case rel =>
              refine ⟨k + 1, n, by omega, by omega, rfl, by go_num, ?_, HB6.out⟩
              have e1 : idxOf (S.take (k + 1)) = fun y => if y = r then (q ++ [(ur, uf, ue)]).set q.length (ur, uf, max ue e) else idxOf (S.take k) y := by
                rw [HS.out]
                funext y
                simp only [idxStep]
                by_cases ey : y = r
                · subst ey
                  rw [if_pos ⟨hfe, rfl⟩, if_pos rfl, H0.out, HG.out]
                  simp
                · rw [if_neg (fun h => ey h.2), if_neg ey]
              rw [e1]
              exact HI6.out
          · have HG := Lib.hid (stepC_far q (ur, uf, ue) (r, f, e) near)
            have dn : decide (f ≤ ue) = false := by simpa using near
            go_upto_region 10 with fail
            go_quiet (fail)
            clear hrun
            go_wp2_with fail
            have k0' : (W.drewN nq).cell? ⟨gc, 0, none⟩ = some (.int .i64 r) := k0
            have k1' : (W.drewN nq).cell? ⟨gc, 1, none⟩ = some (.int .i64 f) := k1
            have k2' : (W.drewN nq).cell? ⟨gc, 2, none⟩ = some (.int .i64 e) := k2
            have hor' := hor.drewN nq
            have HM' := Lib.hid (HM.out.drewN nq)
            have hzW' : gc < (W.drewN nq).heap.size := hzW
            have hbW' := below_drewN hbW nq
            have HIW' := Lib.hid (HIW.out.drewN nq)
            have HOF' : Hid (∀ y, R64 y → OwnC (W.drewN nq) (gm + 1) (F y) (idxOf (S.take k) y)) := HOF.out
            clear k0 k1 k2 hor HM hzW hbW HIW HOF
            generalize W.drewN nq = W2 at *
            have ha : OwnC (W2.alloc (.cells #[.int .i64 r, .int .i64 f, .int .i64 e] 27)).drew (gm + 1) (.slice (some ⟨g, 0, none⟩) (q.length + 1) c7) (q ++ [(ur, uf, ue)]) := (hor'.alloc _).drew
            have hblk : (W2.alloc (.cells #[.int .i64 r, .int .i64 f, .int .i64 e] 27)).drew.heap[W2.heap.size]? = some (.cells #[.int .i64 r, .int .i64 f, .int .i64 e] 27 (0, 0)) := heap_alloc_new W2 _
            have hgrow : ∀ w1 row, (W2.alloc (.cells #[.int .i64 r, .int .i64 f, .int .i64 e] 27)).drew.grownBy w1 row → W2.grownBy w1 row := fun w1 row h => ⟨h.os, h.tape, h.output, Nat.le_trans (by show _ ≤ (W2.alloc _).heap.size; simp) h.size, fun q hq hn => (h.block q (by show q < (W2.alloc _).heap.size; simp; omega) hn).trans (Below.heap_alloc _ _ _ hq)⟩
            have HGW := Lib.hid hgrow
            clear hgrow
            go_region_held3 (fun w' => w'.cell? ⟨gc, 0, none⟩ = some (.int .i64 r) ∧ w'.cell? ⟨gc, 1, none⟩ = some (.int .i64 f) ∧ w'.cell? ⟨gc, 2, none⟩ = some (.int .i64 e)) (first | exact ⟨hg6.cell j0 hgmne, hg6.cell j1 hgmne, hg6.cell j2 hgmne⟩ | exact ⟨j0, j1, j2⟩ | go_keep)
              ((refine step_append_blk (by rfl) _ _ 23 (by rfl) (gm + 1) 27 24 Try.underlying23 elemC _ (q ++ [(ur, uf, ue)]) (by rfl) ha [(r, f, e)] W2.heap.size 1 1 (by rfl) (by rfl) 27 hblk (by simp only [Go.maxLen, List.length_append, List.length_cons, List.length_nil]; omega) (by simp only [List.length_append, List.length_cons, List.length_nil]; omega) (by show gm + 1 ≤ (W2.alloc _).heap.size; simp; omega) ?_; intro v5 w5 ho5 hg5 hat5
                have hgW : W2.grownBy w5 (F r).ownBlock := by rw [HV.out]; exact HGW.out _ _ hg5
                have hgne : some gc ≠ (F r).ownBlock := fun q => Nat.lt_irrefl _ (HFG.out gc q.symm)
                have j0 := hgW.cell k0' hgne
                have j1 := hgW.cell k1' hgne
                have j2 := hgW.cell k2' hgne
                obtain ⟨w6, hrunU, hm6, hg6⟩ := (HM'.out.kept hgW (fun q => by have := (World.ownsRow.lt (HOF'.out r r1) gm q.symm).1; omega)).update (t := 53) Try.underlying53 (by simp only [Go.maxLen]; omega) r1 v5
                have hgmne : some gc ≠ some gm := by intro q; injection q with q; omega))
            have HI6 := Lib.hid (HIW'.out.push HM'.out HOF'.out HDJ.out r1 hgW ho5 (by
              rcases hat5 with q | q
              · exact .inl (by rw [HV.out]; exact q)
              · refine .inr fun p hp => ?_
                rw [q] at hp
                injection hp with hp
                rw [← hp]
                show W2.heap.size ≤ (W2.alloc _).heap.size
                simp) hm6 hg6)
            have HB6 := Lib.hid ((hbW'.grown hgW (by omega) (fun p hp => by have := (World.ownsRow.lt (HOF'.out r r1) p hp).1; omega)).grown hg6 (by have := hgW.size; omega) (fun p hp => by injection hp with hp; omega))
            clear hrunU hgW hg5 hat5 hg6 hm6 ho5 j0 j1 j2 k0' k1' k2' ha hblk hor'
            go_wp2_with fail
            go_roundg (S.length - (k + 1))
            case measure => omega
            case rel =>
              refine ⟨k + 1, n + 1, by omega, by omega, rfl, by go_num, ?_, HB6.out⟩
              have e1 : idxOf (S.take (k + 1)) = fun y => if y = r then (q ++ [(ur, uf, ue)]) ++ [(r, f, e)] else idxOf (S.take k) y := by
                rw [HS.out]
                funext y
                simp only [idxStep]
                by_cases ey : y = r
                · subst ey
                  rw [if_pos ⟨hfe, rfl⟩, if_pos rfl, H0.out, HG.out]; try rfl
                · rw [if_neg (fun h => ey h.2), if_neg ey]
              rw [e1]
              exact HI6.out
      · have HS2 := Lib.hid (show idxOf (S.take (k + 1)) = idxOf (S.take k) by rw [HS.out]; funext y; simp only [idxStep]; rw [if_neg (fun h => hfe h.1)])
        go_wp2_with fail
        go_roundg (S.length - (k + 1))
        case measure => omega
        case rel => exact ⟨k + 1, n, by omega, by omega, rfl, by go_num, by rw [HS2.out]; exact hidx.alloc _, hb.alloc (by omega) _⟩
    · rw [List.take_of_length_le (show S.length ≤ k by omega)] at hidx
      have HI := Lib.hid hidx
      clear hidx
      go_wp2_with fail
      go_ret
      exact ⟨gm, n, S, rfl, HP.out, HSR.out, HI.out, hgm, hbB.trans (hb.mono hgm)⟩

end Go.Proofs.Ytjeocfkijbpinaa
