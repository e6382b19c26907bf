/-
  Contract of closure.Merge.
-/
import Derived.Test.YtjeocfkijbpinaaIns
set_option linter.unusedVariables false
set_option linter.unusedSimpArgs false
namespace Go.Proofs.Ytjeocfkijbpinaa
open Go.RowKit RP Go.Sort

theorem below_grow (w : World) (n : Nat) (os : Array Obj) : Below w.heap.size w (grow (w.drewN n) os) :=
  ⟨rfl, rfl, rfl, by show w.heap.size ≤ (w.heap ++ os).size; simp, fun b hb => by show (w.heap ++ os)[b]? = _; rw [Array.getElem?_append_left hb]⟩

/-- What Merge answers. -/
def mergeTo (l g : List Clo) : Prop := (checkC l = true → MergeC l g ∧ g.length ≤ l.length) ∧ (checkC l = false → g = [])
theorem mergeTo.unique {l g h : List Clo} (a : mergeTo l g) (b : mergeTo l h) : g = h := by
  cases hc : checkC l with
  | true => exact (a.1 hc).1.unique (b.1 hc).1
  | false => rw [a.2 hc, b.2 hc]
def MergePost (l : List Clo) (w : World) (e : Ending) (w' : World) : Prop := ∃ v g, e = .returned v ∧ OwnC w' w.heap.size v g ∧ mergeTo l g ∧ Below w.heap.size w w'

set_option maxHeartbeats 8000000 in
theorem merge_any (A : Option Addr) (c : Nat) (l : List Clo) (w : World) (hl : Lst encO 3 w w.heap.size A l) (hn : l.length ≤ 9223372036854775807) :
    Calls Try.prog 15 #[.slice A l.length c] w (MergePost l w) := by
  have hck := check_any A c l w hl hn
  cases hcl : checkC l with
  | false =>
    rw [hcl] at hck
    have HC : Hid (mergeTo l []) := ⟨(fun h => by rw [hcl] at h; cases h), fun _ => rfl⟩
    clear hcl
    go_enter Try.func15, Try.ntmps15
    go_wp2_with (go_at_call 13; refine hck.mono ?_; rintro e w1 ⟨rfl, hb1⟩)
    go_ret
    exact ⟨_, [], rfl, Own.nil _ _ _ _ _, HC.out, hb1⟩
  | true =>
    rw [hcl] at hck
    have HCL := Lib.hid hcl
    obtain ⟨h32, hok⟩ := checkC_iff.1 hcl
    have HOK := Lib.hid hok
    clear hcl hok
    go_enter Try.func15, Try.ntmps15
    go_wp2_with (go_at_call 13; refine hck.mono ?_; rintro e w1 ⟨rfl, hb1⟩)
    clear hck
    have z1 := hb1.size
    have hl1 := hl.belowMore hb1 z1
    go_loopg [3, 5, 6, 7, 17] l.length (fun g s3 s5 s6 s7 s17 wr => ∃ (k : Nat) (S : List Clo), k ≤ l.length ∧ g = l.length - k ∧ s17 = .int .i64 k ∧ OwnC wr w1.heap.size s3 S ∧ S.Perm (l.take k) ∧ S.Pairwise leC ∧ Below w1.heap.size w1 wr)
    case atStart => exact ⟨0, [], by omega, by omega, rfl, Own.nil _ _ _ _ _, by rw [List.take_zero], List.Pairwise.nil, Below.refl _ _⟩
    case round =>
      obtain ⟨k, S, hk, hg, rfl, ho, hp, hs, hb⟩ := hrel
      have hz := hb.size
      have hlen : S.length = k := by rw [hp.length_eq, List.length_take]; omega
      have HLEN := Lib.hid hlen
      have hS32 : S.length ≤ 32 := by omega
      clear hlen
      by_cases hlt : k < l.length
      · obtain ⟨bb, off, rfl, hbw, c0, c1', c2⟩ := (hl1.below hb).oc k hlt
        have HP : Hid (∀ i, (S.take i ++ l[k] :: S.drop i).Perm (l.take (k + 1))) := fun i => by
          rw [take_snoc l k hlt]
          exact (insert_perm S l[k] i).trans (hp.append_right _)
        have HS := Lib.hid hs
        generalize l[k] = x at *
        clear hp
        obtain ⟨A3, c3, rfl⟩ := ho.form
        have hbs := fun W (hl' : Lst encO 3 W W.heap.size A3 S) => bsearch_any A3 c3 S x W hl' (by omega) HS.out
        obtain ⟨r, f, e⟩ := x
        simp only at c0 c1' c2 hbs
        have k0 : (wr.alloc (.cells #[.int .i64 r, .int .i64 f, .int .i64 e] 27)).cell? ⟨wr.heap.size, 0, none⟩ = some (.int .i64 r) := by rw [World.cell?_alloc_at _ _ _ _ rfl]; rfl
        have k1 : (wr.alloc (.cells #[.int .i64 r, .int .i64 f, .int .i64 e] 27)).cell? ⟨wr.heap.size, 1, none⟩ = some (.int .i64 f) := by rw [World.cell?_alloc_at _ _ _ _ rfl]; rfl
        have k2 : (wr.alloc (.cells #[.int .i64 r, .int .i64 f, .int .i64 e] 27)).cell? ⟨wr.heap.size, 2, none⟩ = some (.int .i64 e) := by rw [World.cell?_alloc_at _ _ _ _ rfl]; rfl
        have hbW := hb.alloc hz (.cells #[.int .i64 r, .int .i64 f, .int .i64 e] 27)
        have hoW := ho.alloc (.cells #[.int .i64 r, .int .i64 f, .int .i64 e] 27)
        clear hs
        go_upto_region 7 with fail
        generalize wr.alloc (.cells #[.int .i64 r, .int .i64 f, .int .i64 e] 27) = W at *
        generalize wr.heap.size = gc at *
        have HBS := Lib.hid hbs
        clear hbs ho c0 c1' c2
        go_wp2_with fail
        refine (HBS.out W (hoW.lst encO_len)).mono ?_
        rintro e' w2 ⟨i, b, rfl, hi, hlo, hhi, q, os, rfl⟩
        have HSI := Lib.hid (insert_sorted HS.out hlo (fun k hk h => by have := hhi k hk h; omega))
        clear hlo hhi HBS
        have hbg := below_grow W q os
        have k0' := grown_cell (n := q) (os := os) k0
        have k1' := grown_cell (n := q) (os := os) k1
        have k2' := grown_cell (n := q) (os := os) k2
        have ho2 := hoW.below' hbg
        have hzW := hbW.size
        have hb2 := hbW.trans (hbg.mono hzW)
        generalize grow (W.drewN q) os = W2 at *
        clear k0 k1 k2 hoW hbg hbW
        have hz2 := hb2.size
        have hins := insert_any A3 c3 i S (r, f, e) w1.heap.size W2.heap.size (W2.alloc (.cells #[.int .i64 r, .int .i64 f, .int .i64 e] 27)) 27 (ho2.alloc _) (heap_alloc_new W2 _) (by omega) hi (by simp; omega) (fun g hg => by have := (World.ownsRow.lt ho2 g hg).2; omega)
        go_wp2_with fail
        refine hins.mono ?_
        rintro e' w3 ⟨v', rfl, ho3, hg3, hat3⟩
        have HB3 := Lib.hid ((hb2.alloc hz2 (.cells #[.int .i64 r, .int .i64 f, .int .i64 e] 27)).grown hg3 (by simp; omega) (fun g hg => (World.ownsRow.lt ho2 g hg).1))
        clear hins hg3 hat3
        go_wp2_with fail
        go_roundg (l.length - (k + 1))
        case measure => omega
        case rel => exact ⟨k + 1, _, by omega, by omega, by go_num, ho3, HP.out i, HSI.out, HB3.out⟩
      · obtain rfl : k = l.length := by omega
        rw [List.take_length] at hp
        have HP := Lib.hid hp
        have HS := Lib.hid hs
        clear hp hs
        obtain ⟨A3, c3, rfl⟩ := ho.form
        have hsl := ho.lst encO_len
        have HB0 := Lib.hid (hb1.trans (hb.mono z1))
        go_wp2_with fail
        clear ho hb
        generalize wr = W0 at *
        go_loopg [8, 10, 11, 35] S.length (fun g s8 s10 s11 s35 wr => ∃ k : Nat, k ≤ S.length ∧ g = S.length - k ∧ s35 = .int .i64 k ∧ OwnC wr W0.heap.size s8 (mergeOf (S.take k)) ∧ Below W0.heap.size W0 wr)
        case atStart => exact ⟨0, by omega, by omega, rfl, by rw [List.take_zero]; exact Own.nil _ _ _ _ _, Below.refl _ _⟩
        case round =>
          obtain ⟨k, hk, hg, rfl, hm, hb2⟩ := hrel
          have hz2 := hb2.size
          by_cases hlt : k < S.length
          · obtain ⟨bb, off, rfl, hbw, c0, c1', c2⟩ := (hsl.below hb2).oc k hlt
            have HST := Lib.hid (show mergeOf (S.take (k + 1)) = stepM (mergeOf (S.take k)) S[k] by rw [take_snoc S k hlt, mergeOf_snoc])
            have hml := mergeOf_len (S.take k)
            rw [List.length_take] at hml
            generalize S[k] = x at *
            obtain ⟨r, f, e⟩ := x
            simp only at c0 c1' c2
            have k0 : (wr.alloc (.cells #[.int .i64 r, .int .i64 f, .int .i64 e] 27)).cell? ⟨wr.heap.size, 0, none⟩ = some (.int .i64 r) := by rw [World.cell?_alloc_at _ _ _ _ rfl]; rfl
            have k1 : (wr.alloc (.cells #[.int .i64 r, .int .i64 f, .int .i64 e] 27)).cell? ⟨wr.heap.size, 1, none⟩ = some (.int .i64 f) := by rw [World.cell?_alloc_at _ _ _ _ rfl]; rfl
            have k2 : (wr.alloc (.cells #[.int .i64 r, .int .i64 f, .int .i64 e] 27)).cell? ⟨wr.heap.size, 2, none⟩ = some (.int .i64 e) := by rw [World.cell?_alloc_at _ _ _ _ rfl]; rfl
            have hbW := hb2.alloc hz2 (.cells #[.int .i64 r, .int .i64 f, .int .i64 e] 27)
            have hoW := hm.alloc (.cells #[.int .i64 r, .int .i64 f, .int .i64 e] 27)
            generalize mergeOf (S.take k) = M at *
            rcases snoc_cases M with rfl | ⟨q, u, rfl⟩
            · have HG := Lib.hid (stepM_nil (r, f, e))
              obtain ⟨A8, c8, rfl⟩ := hm.form
              simp only [List.length_nil] at hoW hm
              go_upto_region 15 with fail
              generalize wr.alloc (.cells #[.int .i64 r, .int .i64 f, .int .i64 e] 27) = W at *
              generalize wr.heap.size = gc at *
              clear c0 c1' c2 hm
              go_quiet (fail)
              have k0' : (W.drewN nq).cell? ⟨gc, 0, none⟩ = some (.int .i64 r) := k0
              have k1' : (W.drewN nq).cell? ⟨gc, 1, none⟩ = some (.int .i64 f) := k1
              have k2' : (W.drewN nq).cell? ⟨gc, 2, none⟩ = some (.int .i64 e) := k2
              have hoW' := hoW.drewN nq
              have hbW' := below_drewN hbW nq
              clear k0 k1 k2 hoW hbW
              generalize W.drewN nq = W2 at *
              have hzW := hbW'.size
              go_wp2_with (at_builtin; refine wpList_append_rec rfl _ _ 23 rfl W0.heap.size 27 24 Try.underlying23 elemC _ [] rfl hoW' [(r, f, e)] _ rfl 1 1 rfl rfl (by simp only [Go.maxLen, List.length_append, List.length_cons, List.length_nil]; omega) (by simp only [List.length_append, List.length_cons, List.length_nil]; omega) (by omega) ?_; intro v6 w6 ho6 hg6 hat6)
              have HB6 := Lib.hid (hbW'.grown hg6 (by omega) (fun g hg => (World.ownsRow.lt hoW' g hg).1))
              clear hg6 hat6
              go_roundg (S.length - (k + 1))
              case measure => omega
              case rel => exact ⟨k + 1, by omega, rfl, by go_num, by rw [HST.out, HG.out]; exact ho6, HB6.out⟩
            · obtain ⟨g, c8, rfl, hge, hgw, hcc8, hcell, hfz⟩ := hm.at_ encO_len (by simp)
              have cu := (World.grownBy.cell (grownBy_of_below (below_refl_alloc wr (.cells #[.int .i64 r, .int .i64 f, .int .i64 e] 27)) none) (hcell q.length u (by simp) 2 (.int .i64 u.2.2) rfl) (by simp))
              have cr := (World.grownBy.cell (grownBy_of_below (below_refl_alloc wr (.cells #[.int .i64 r, .int .i64 f, .int .i64 e] 27)) none) (hcell q.length u (by simp) 0 (.int .i64 u.1) rfl) (by simp))
              have fu : (wr.alloc (.cells #[.int .i64 r, .int .i64 f, .int .i64 e] 27)).frozen? ⟨g, q.length * 3 + 2, none⟩ = false := ((below_refl_alloc wr _).frozen (p := ⟨g, q.length * 3 + 2, none⟩) hgw).trans (hfz (q.length * 3 + 2))
              obtain ⟨ur, uf, ue⟩ := u
              simp only [Nat.add_zero] at cu cr
              have hql : (q ++ [(ur, uf, ue)]).length = q.length + 1 := by simp
              rw [hql] at hoW hml
              have hgne : g ≠ wr.heap.size := by omega
              have hq2 : (q.length : Int) < ((q.length + 1 : Nat) : Int) := by omega
              have hq0 : (0 : Int) ≤ (q.length : Int) := by omega
              clear hcell hfz hm
              rw [hql]
              clear hql
              by_cases hr : ur = r
              · by_cases near : f ≤ ue
                · have HG := Lib.hid (stepM_near q (ur, uf, ue) (r, f, e) ⟨hr, near⟩)
                  have dr : (ur == r) = true := by simp [hr]
                  have dn : decide (f ≤ ue) = true := by simpa using near
                  clear hr
                  by_cases hme : ue < e
                  · have HMX := Lib.hid (Int.max_eq_right (show ue ≤ e by omega))
                    go_upto_region 15 with fail
                    generalize wr.alloc (.cells #[.int .i64 r, .int .i64 f, .int .i64 e] 27) = W at *
                    generalize wr.heap.size = gc at *
                    clear c0 c1' c2
                    go_quiet (fail)
                    go_wp2_with fail
                    go_region
                    have hst := (hoW.drewN (nq + 1)).stored encO_len q.length 2 (.int .i64 (e)) (ur, uf, e) (by simp) (by omega) (by simp [encO])
                    have HO6 := Lib.hid hst.1
                    have HB6 := Lib.hid ((below_drewN hbW (nq + 1)).setCell (p := ⟨g, q.length * 3 + 2, none⟩) (by show W0.heap.size ≤ g; omega) (.int .i64 (e)))
                    clear hst
                    go_wp2_with fail
                    go_roundg (S.length - (k + 1))
                    case measure => omega
                    case rel =>
                      refine ⟨k + 1, by omega, rfl, by go_num, ?_, HB6.out⟩
                      rw [HST.out, HG.out, HMX.out]
                      have := HO6.out
                      rw [show (q ++ [(ur, uf, ue)]).set q.length (ur, uf, e) = q ++ [(ur, uf, e)] by simp] at this
                      exact this
                  · have HMX := Lib.hid (Int.max_eq_left (show e ≤ ue by omega))
                    go_upto_region 15 with fail
                    generalize wr.alloc (.cells #[.int .i64 r, .int .i64 f, .int .i64 e] 27) = W at *
                    generalize wr.heap.size = gc at *
                    clear c0 c1' c2
                    go_quiet (fail)
                    go_wp2_with fail
                    go_region
                    have hst := (hoW.drewN (nq + 1)).stored encO_len q.length 2 (.int .i64 (ue)) (ur, uf, ue) (by simp) (by omega) (by simp [encO])
                    have HO6 := Lib.hid hst.1
                    have HB6 := Lib.hid ((below_drewN hbW (nq + 1)).setCell (p := ⟨g, q.length * 3 + 2, none⟩) (by show W0.heap.size ≤ g; omega) (.int .i64 (ue)))
                    clear hst
                    go_wp2_with fail
                    go_roundg (S.length - (k + 1))
                    case measure => omega
                    case rel =>
                      refine ⟨k + 1, by omega, rfl, by go_num, ?_, HB6.out⟩
                      rw [HST.out, HG.out, HMX.out]
                      have := HO6.out
                      rw [show (q ++ [(ur, uf, ue)]).set q.length (ur, uf, ue) = q ++ [(ur, uf, ue)] by simp] at this
                      exact this
                · have HG := Lib.hid (stepM_far q (ur, uf, ue) (r, f, e) (fun h => near h.2))
                  have dr : (ur == r) = true := by simp [hr]
                  have dn : decide (f ≤ ue) = false := by simpa using near
                  clear hr
                  go_upto_region 15 with fail
                  generalize wr.alloc (.cells #[.int .i64 r, .int .i64 f, .int .i64 e] 27) = W at *
                  generalize wr.heap.size = gc at *
                  clear c0 c1' c2
                  go_quiet (fail)
                  have k0' : (W.drewN nq).cell? ⟨gc, 0, none⟩ = some (.int .i64 r) := k0
                  have k1' : (W.drewN nq).cell? ⟨gc, 1, none⟩ = some (.int .i64 f) := k1
                  have k2' : (W.drewN nq).cell? ⟨gc, 2, none⟩ = some (.int .i64 e) := k2
                  have hoW' := hoW.drewN nq
                  have hbW' := below_drewN hbW nq
                  clear k0 k1 k2 hoW hbW
                  generalize W.drewN nq = W2 at *
                  have hzW := hbW'.size
                  go_wp2_with (at_builtin; refine wpList_append_rec rfl _ _ 23 rfl W0.heap.size 27 24 Try.underlying23 elemC _ (q ++ [(ur, uf, ue)]) rfl hoW' [(r, f, e)] _ rfl 1 1 rfl rfl (by simp only [Go.maxLen, List.length_append, List.length_cons, List.length_nil]; omega) (by simp only [List.length_append, List.length_cons, List.length_nil]; omega) (by omega) ?_; intro v6 w6 ho6 hg6 hat6)
                  have HB6 := Lib.hid (hbW'.grown hg6 (by omega) (fun g hg => (World.ownsRow.lt hoW' g hg).1))
                  clear hg6 hat6
                  go_roundg (S.length - (k + 1))
                  case measure => omega
                  case rel => exact ⟨k + 1, by omega, rfl, by go_num, by rw [HST.out, HG.out]; exact ho6, HB6.out⟩
              · have HG := Lib.hid (stepM_far q (ur, uf, ue) (r, f, e) (fun h => hr h.1))
                have dr : (ur == r) = false := by simp [hr]
                clear hr
                go_upto_region 15 with fail
                generalize wr.alloc (.cells #[.int .i64 r, .int .i64 f, .int .i64 e] 27) = W at *
                generalize wr.heap.size = gc at *
                clear c0 c1' c2
                go_quiet (fail)
                have k0' : (W.drewN nq).cell? ⟨gc, 0, none⟩ = some (.int .i64 r) := k0
                have k1' : (W.drewN nq).cell? ⟨gc, 1, none⟩ = some (.int .i64 f) := k1
                have k2' : (W.drewN nq).cell? ⟨gc, 2, none⟩ = some (.int .i64 e) := k2
                have hoW' := hoW.drewN nq
                have hbW' := below_drewN hbW nq
                clear k0 k1 k2 hoW hbW
                generalize W.drewN nq = W2 at *
                have hzW := hbW'.size
                go_wp2_with (at_builtin; refine wpList_append_rec rfl _ _ 23 rfl W0.heap.size 27 24 Try.underlying23 elemC _ (q ++ [(ur, uf, ue)]) rfl hoW' [(r, f, e)] _ rfl 1 1 rfl rfl (by simp only [Go.maxLen, List.length_append, List.length_cons, List.length_nil]; omega) (by simp only [List.length_append, List.length_cons, List.length_nil]; omega) (by omega) ?_; intro v6 w6 ho6 hg6 hat6)
                have HB6 := Lib.hid (hbW'.grown hg6 (by omega) (fun g hg => (World.ownsRow.lt hoW' g hg).1))
                clear hg6 hat6
                go_roundg (S.length - (k + 1))
                case measure => omega
                case rel => exact ⟨k + 1, by omega, rfl, by go_num, by rw [HST.out, HG.out]; exact ho6, HB6.out⟩
          · rw [List.take_of_length_le (by omega)] at hm
            have HM : Hid (mergeTo l (mergeOf S)) := ⟨fun _ => merge_spec HP.out HS.out (fun c hc => by have := HOK.out c hc; unfold okC at this; omega), (fun h => by rw [HCL.out] at h; cases h)⟩
            have HO := Lib.hid (hm.rebase (show w.heap.size ≤ W0.heap.size by omega))
            clear hm
            go_wp2_with fail
            go_ret
            exact ⟨_, _, rfl, HO.out, HM.out, HB0.out.trans (hb2.mono (by omega))⟩

end Go.Proofs.Ytjeocfkijbpinaa
