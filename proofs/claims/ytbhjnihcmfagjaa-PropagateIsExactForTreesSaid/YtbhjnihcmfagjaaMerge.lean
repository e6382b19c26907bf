/-
  Contract of merge: the valid list of the union of spans, which it sorts.
-/
import Derived.Test.YtbhjnihcmfagjaaSortKit
import Derived.Test.YtbhjnihcmfagjaaSortLay
import Derived.Test.YtbhjnihcmfagjaaPlain
import Derived.Test.YtbhjnihcmfagjaaBasics
set_option linter.unusedVariables false
set_option linter.unusedSimpArgs false
namespace Go.Proofs.Ytbhjnihcmfagjaa
open Go.RowKit RP Go.Sort Go.Lib Go.Shelf

set_option maxHeartbeats 1000000 in
/-- The comparison of merge: in whatever world. -/
theorem mergeCmp (x y : Sp) (W : World) : Calls Try.prog 90 #[.agg #[.int .i64 x.1, .int .i64 x.2], .agg #[.int .i64 y.1, .int .i64 y.2]] W fun e w' => e = .returned (.int .i64 (Lib.compareInt x.1 y.1)) ∧ ∃ q os', w' = grow (W.drewN q) os' := by
  have hcon := fun W' => AnyG.cmp_Compare_int Try.cmpInt x.1 y.1 W'
  change ∀ W', Calls Try.prog 91 _ _ _ at hcon
  generalize Lib.compareInt x.1 y.1 = r at hcon ⊢
  go_enter Try.func90, Try.ntmps90
  go_wp2_with (go_at_call 91; refine (hcon _).mono ?_; rintro e w' ⟨rfl, rfl⟩)
  go_ret
  exact ⟨rfl, 0, _, by rw [alloc_eq_grow, alloc_eq_grow, grow_grow]; rfl⟩

theorem ltFrom (x y : Sp) : ltOf (fun x y : Sp => Lib.compareInt x.1 y.1) x y = decide (x.1 < y.1) := by
  unfold ltOf Lib.compareInt
  by_cases h1 : x.1 < y.1
  · simp [h1]
  · by_cases h2 : y.1 < x.1 <;> simp [h1, h2]

theorem swoFrom : SWO (ltOf fun x y : Sp => Lib.compareInt x.1 y.1) where
  irrefl x := by rw [ltFrom]; simp
  trans x y z h1 h2 := by rw [ltFrom] at *; simp at *; omega
  ntrans x y z h1 h2 := by rw [ltFrom] at *; simp at *; omega

/-- The sort of merge, at a row of the caller's own. -/
theorem sortSpans (l : List Sp) (base g n cap : Nat) (w : World) (hl : l ≠ []) (ho : OwnS w base (.slice (some ⟨g, 0, none⟩) n cap) l) (hsz : l.length < 4611686018427387904) :
    Calls Try.prog 89 #[.slice (some ⟨g, 0, none⟩) n cap, .func (.func 90) #[] #[]] w fun e w' =>
      e = .returned (.tuple #[]) ∧ ∃ S : List Sp, S.Perm l ∧ S.Pairwise (fun x y => x.1 ≤ y.1) ∧ OwnS w' base (.slice (some ⟨g, 0, none⟩) n cap) S ∧ w.grownBy w' (some g) := by
  have hn : n = l.length := by
    obtain ⟨A, c', hv⟩ := ho.form
    injection hv
  subst hn
  have eg : ∀ args w, (callFunc 90 args).run Try.prog w = .ok (.enter 90 args) w := enters_of Try.func90 (by kernel_rfl) rfl
  have hcon := AnyQ.slices_SortFunc Try.sortS 2 Try.isAgg46 Try.sizeOf46 encS encS_len encS_one (fun x y => Lib.compareInt x.1 y.1) swoFrom 90 #[] g 0 cap l.toArray w eg
    (fun _ _ _ _ x y => mergeCmp x y _) (ho.holdsK encS_len (by omega)) (World.ownsRow.lt ho g rfl).2 (by simpa using hsz)
  change Calls Try.prog 89 _ _ _ at hcon
  have e0 : l.toArray.size = l.length := by simp
  rw [e0] at hcon
  refine hcon.mono fun e w' ⟨he, d', m, os, hp, hs, hw⟩ => ⟨he, d'.toList, ?_⟩
  subst hw
  obtain ⟨p1, p2, p3⟩ := perm_sorted (by rw [e0]; exact hp) (by rw [e0]; exact hs)
  obtain ⟨q1, q2⟩ := ho.sorted encS_len (by omega) m d' p2 os
  refine ⟨p1, p3.imp fun h => ?_, q1, q2⟩
  rw [ltFrom] at h
  simpa using h

theorem sortNone (p : Option Addr) (cap : Nat) (fv : Value) (w : World) :
    Calls Try.prog 89 #[.slice p 0 cap, fv] w fun e w' => e = .returned (.tuple #[]) ∧ w' = w :=
  AnyF.slices_SortFunc_none (P := Try.prog) (ρ := Try.sortS_ren) Try.sortS p cap fv w


set_option maxHeartbeats 4000000 in
theorem merge_any (T : Nat) (base : Nat) (v : Value) (l : List Sp) (w : World) (ho : OwnS w base v l) (hlen : l.length ≤ 4294967296) (hbase : base ≤ w.heap.size) (hT : T ≤ 7200)
    (hl : ∀ s ∈ l, 0 ≤ s.1 ∧ s.1 < s.2 ∧ s.2 ≤ T) :
    Calls Try.prog 86 #[v] w fun e w' => ∃ v', e = .returned v' ∧ OwnS w' w.heap.size v' (runs (memN l) T) ∧ w.grownBy w' v.ownBlock := by
  by_cases h0 : l = []
  · subst h0
    obtain ⟨A, c, rfl⟩ := ho.form
    simp only [List.length_nil]
    have hs := sortNone A c (.func (.func 90) #[] #[]) w
    go_enter Try.func86, Try.ntmps86
    go_wp2_with (go_at_call 89; refine hs.mono ?_; rintro e w' ⟨rfl, rfl⟩)
    refine wp_loop_rounds 1 ?_
    rw [rounds_succ]
    go_wp2
    go_ret
    have e1 : ([] : List Sp) = runs (memN []) T := eq_runs rfl fun x _ => rfl
    exact ⟨_, rfl, by rw [← e1]; exact Own.nil _ _ _ _ _, grownBy_refl _ _⟩
  · obtain ⟨g, c, rfl, hg1, hg2, hc, _, _⟩ := ho.at_ encS_len h0
    have hs := sortSpans l base g l.length c w h0 ho (by omega)
    have HL := Lib.hid hl
    clear hl h0
    go_enter Try.func86, Try.ntmps86
    go_wp2_with (go_at_call 89; refine hs.mono ?_; rintro e w1 ⟨rfl, S, hp, hsort, ho1, hgr⟩)
    have hSl : ∀ s ∈ S, 0 ≤ s.1 ∧ s.1 < s.2 ∧ s.2 ≤ (T : Int) := fun s hs => HL.out s (hp.mem_iff.1 hs)
    have HS := Lib.hid hSl
    have HSpec := Lib.hid (mergeL_spec hSl hsort)
    have HP := Lib.hid (fun x => mem_perm hp x)
    have hpl := hp.length_eq
    have hSle : S.length ≤ l.length := by omega
    have hlS : l.length ≤ S.length := by omega
    have hz1 := hgr.size
    have hlst := ho1.lst encS_len
    clear hSl hsort hp hpl hs
    go_loopg [3, 11] S.length (fun gg s3 s11 wr => ∃ k : Nat, k ≤ S.length ∧ gg = S.length - k ∧ s11 = .int .i64 k ∧ OwnS wr w1.heap.size s3 (mergeL (S.take k)) ∧ Below w1.heap.size w1 wr)
    case atStart => exact ⟨0, by omega, by omega, rfl, Own.nil _ _ _ _ _, Below.refl _ _⟩
    case round =>
      obtain ⟨k, hk, hg, rfl, hox, hb⟩ := hrel
      have hz := hb.size
      by_cases hlt : k < S.length
      · obtain ⟨b, off, hA, hbw, c0, c1⟩ := (hlst.below hb).sp k hlt
        injection hA with hA
        injection hA with hA1 hA2
        subst hA1 hA2
        have HM := Lib.hid (show mergeL (S.take (k + 1)) = mergeStep (mergeL (S.take k)) S[k] by rw [take_snoc S k hlt, mergeL_snoc])
        have hml : (mergeL (S.take k)).length ≤ k := Nat.le_trans (mergeL_len _) (by rw [List.length_take]; omega)
        generalize S[k] = s at *
        obtain ⟨sf, se⟩ := s
        simp only [Nat.zero_add] at c0 c1
        have kb0 : (wr.alloc (.cells #[.int .i64 sf, .int .i64 se] 46)).cell? ⟨wr.heap.size, 0, none⟩ = some (.int .i64 sf) := by rw [World.cell?_alloc_at _ _ _ _ rfl]; rfl
        have kb1 : (wr.alloc (.cells #[.int .i64 sf, .int .i64 se] 46)).cell? ⟨wr.heap.size, 1, none⟩ = some (.int .i64 se) := by rw [World.cell?_alloc_at _ _ _ _ rfl]; rfl
        have hbW := hb.alloc hz (.cells #[.int .i64 sf, .int .i64 se] 46)
        have hoW := hox.alloc (.cells #[.int .i64 sf, .int .i64 se] 46)
        rcases snoc_cases (mergeL (S.take k)) with h0 | ⟨r, u, h0⟩
        · rw [h0] at hoW HM
          rw [mergeStep_nil] at HM
          clear hml
          obtain ⟨A', c', rfl⟩ := hox.form
          rw [h0] at hoW ⊢
          simp only [List.length_nil] at hoW ⊢
          have hd : decide ((0 : Int) ≤ -1) = false := by decide
          clear h0 hox
          go_wp2_with fail
          generalize wr.alloc (.cells #[.int .i64 sf, .int .i64 se] 46) = W at *
          clear hb hz
          have hz := hbW.size
          go_quiet (fail)
          replace kb0 : (W.drewN nq).cell? ⟨wr.heap.size, 0, none⟩ = some (.int .i64 sf) := kb0
          replace kb1 : (W.drewN nq).cell? ⟨wr.heap.size, 1, none⟩ = some (.int .i64 se) := kb1
          replace hbW := below_drewN hbW nq
          replace hoW := hoW.drewN nq
          replace hz : w1.heap.size ≤ (W.drewN nq).heap.size := hz
          generalize W.drewN nq = W at *
          go_wp2_with (at_builtin; refine wpList_append_rec rfl _ _ 40 rfl w1.heap.size 46 16 Try.underlying40 elemS _ [] rfl hoW [(sf, se)] _ rfl 1 1 rfl rfl (by simp only [Go.maxLen, List.length_cons, List.length_nil]; omega) (by simp only [List.length_cons, List.length_nil]; omega) hz ?_; intro v1 w2 ho2 hg2 hat2)
          go_roundg (S.length - (k + 1))
          case measure => omega
          case rel =>
            refine ⟨k + 1, by omega, rfl, by go_num, by rw [HM.out]; exact ho2, ?_⟩
            exact hbW.grown hg2 hz (hoW.le (Nat.le_refl _))
        · rw [h0] at hox HM hml hoW
          clear h0
          obtain ⟨gg, c', rfl, hge, _, hcc, hcell, hfz⟩ := hoW.at_ encS_len (by simp)
          have hgl := (World.ownsRow.lt hox gg rfl).2
          have hr1 : r.length + 1 ≤ 4294967296 := by simp at hml; omega
          have cu := hcell r.length u (by simp) 1 (.int .i64 u.2) rfl
          have fu := hfz (r.length * 2 + 1)
          obtain ⟨uf, ue⟩ := u
          simp only at cu
          have hne : gg ≠ wr.heap.size := by omega
          clear hcell hfz hml hox
          by_cases hc : sf ≤ ue
          · rw [mergeStep_near r (uf, ue) (sf, se) hc] at HM
            have hst := Lib.hid (hoW.stored encS_len r.length 1 (.int .i64 (max ue se)) (uf, max ue se) (by simp) (by omega) (by simp [encS]))
            go_wp2_with fail
            generalize wr.alloc (.cells #[.int .i64 sf, .int .i64 se] 46) = W at *
            clear hb hz
            have hz := hbW.size
            have hr2 : (r.length : Int) < ((r.length + 1 : Nat) : Int) := by omega
            replace hst : (Own encS 2 46 ((W.drewN 0).setCell ⟨gg, r.length * 2 + 1, none⟩ (.int .i64 (max ue se))) w1.heap.size (.slice (some ⟨gg, 0, none⟩) (r ++ [(uf, ue)]).length c') ((r ++ [(uf, ue)]).set r.length (uf, max ue se))) := hst.out.1
            have HST := Lib.hid hst
            clear hst
            go_quiet (fail)
            go_wp2_with fail
            go_region
            all_goals go_wp2
            all_goals go_roundg (S.length - (k + 1))
            case measure => omega
            case rel =>
              refine ⟨k + 1, by omega, rfl, by go_num, ?_, ?_⟩
              · rw [HM.out]
                have := HST.out
                simp only [List.set_append_right _ _ (Nat.le_refl _), Nat.sub_self, List.set_cons_zero, List.length_append, List.length_cons, List.length_nil, Nat.zero_add] at this
                exact this
              · exact (below_drewN hbW nq).drew.setCell hge _
          · rw [mergeStep_far r (uf, ue) (sf, se) hc] at HM
            have hd : decide (sf ≤ ue) = false := by simpa using hc
            rw [show (r ++ [(uf, ue)]).length = r.length + 1 by simp] at hoW ⊢
            go_wp2_with fail
            generalize wr.alloc (.cells #[.int .i64 sf, .int .i64 se] 46) = W at *
            clear hb hz
            have hz := hbW.size
            have hr2 : (r.length : Int) < ((r.length + 1 : Nat) : Int) := by omega
            go_quiet (fail)
            replace kb0 : (W.drewN nq).cell? ⟨wr.heap.size, 0, none⟩ = some (.int .i64 sf) := kb0
            replace kb1 : (W.drewN nq).cell? ⟨wr.heap.size, 1, none⟩ = some (.int .i64 se) := kb1
            replace hbW := below_drewN hbW nq
            replace hoW := hoW.drewN nq
            replace hz : w1.heap.size ≤ (W.drewN nq).heap.size := hz
            generalize W.drewN nq = W at *
            clear cu fu
            go_wp2_with (at_builtin; refine wpList_append_rec rfl _ _ 40 rfl w1.heap.size 46 16 Try.underlying40 elemS _ (r ++ [(uf, ue)]) rfl hoW [(sf, se)] _ rfl 1 1 rfl rfl (by simp only [Go.maxLen, List.length_cons, List.length_nil, List.length_append]; omega) (by simp only [List.length_cons, List.length_nil, List.length_append]; omega) hz ?_; intro v1 w2 ho2 hg2 hat2)
            go_roundg (S.length - (k + 1))
            case measure => omega
            case rel =>
              refine ⟨k + 1, by omega, rfl, by go_num, by rw [HM.out]; exact ho2, ?_⟩
              exact hbW.grown hg2 hz (hoW.le (Nat.le_refl _))
      · go_wp2
        go_ret
        obtain ⟨v1, v2⟩ := HSpec.out
        rw [List.take_of_length_le (by omega)] at hox
        have e1 : mergeL S = runs (memN l) T := eq_runs v1 fun x _ => by rw [v2, HP.out]; rfl
        rw [e1] at hox
        refine ⟨_, rfl, hox.rebase hz1, ⟨hb.os.trans hgr.os, hb.tape.trans hgr.tape, hb.output.trans hgr.output, by omega, fun i hi hne => (hb.block i (by omega)).trans (hgr.block i hi hne)⟩⟩

end Go.Proofs.Ytbhjnihcmfagjaa
