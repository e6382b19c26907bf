/-
  Contract of the reference's Windows.
-/
import Derived.Test.YtdijhhfmicafjaaRef9D
import Derived.Test.YtdijhhfmicafjaaWin
set_option linter.unusedVariables false
set_option linter.unusedSimpArgs false
namespace Go.Proofs.Ytdijhhfmicafjaa
open Go.RowKit RP

/-- The runs that begin before f. -/
def upTo (f : Nat) (l : List Sp) : List Sp := l.filter fun u => decide (u.1 < (f : Int))
theorem upTo_yes {f : Nat} {l : List Sp} (hp : l.Pairwise fun x y => x.1 < y.1) {u : Sp} (hu : u ∈ l) (e : u.1 = f) : upTo (f + 1) l = upTo f l ++ [u] := by
  obtain ⟨l1, l2, rfl⟩ := List.append_of_mem hu
  rw [List.pairwise_append] at hp
  obtain ⟨h1, h2, h3⟩ := hp
  rw [List.pairwise_cons] at h2
  unfold upTo
  rw [List.filter_append, List.filter_append, List.filter_cons, List.filter_cons]
  have a1 : ∀ k : Int, (f : Int) ≤ k → l1.filter (fun u => decide (u.1 < k)) = l1 := fun k hk => List.filter_eq_self.2 fun x hx => by
    have := h3 x hx u (by simp); simp; omega
  have a2 : ∀ k : Int, k ≤ (f : Int) + 1 → l2.filter (fun u => decide (u.1 < k)) = [] := fun k hk => List.filter_eq_nil_iff.2 fun x hx => by
    have := h2.1 x hx; simp; omega
  rw [a1 _ (by omega), a1 _ (Int.le_refl _), a2 _ (by omega), a2 _ (by omega)]
  rw [if_pos (by simp; omega), if_neg (by simp; omega)]
  simp
theorem upTo_no {f : Nat} {l : List Sp} (h : ∀ u ∈ l, u.1 ≠ f) : upTo (f + 1) l = upTo f l := List.filter_congr fun u hu => by
  have := h u hu
  simp
  omega
theorem upTo_all {f : Nat} {l : List Sp} (h : ∀ u ∈ l, u.1 < f) : upTo f l = l := List.filter_eq_self.2 fun x hx => by have := h x hx; simpa using this
theorem upTo_zero {l : List Sp} (h : ∀ u ∈ l, 0 ≤ u.1) : upTo 0 l = [] := List.filter_eq_nil_iff.2 fun x hx => by have := h x hx; simp; omega
theorem cntN_succ (P : Nat → Bool) (k : Nat) : cntN P (k + 1) = if P k then cntN P k + 1 else cntN P k := by
  cases h : P k <;> simp [cntN, h]

set_option maxHeartbeats 8000000 in
set_option maxRecDepth 100000 in
theorem refWindows_any (t : Int) (A B : Option Addr) (c d : Nat) (a b : List Occ) (w : World) (ha : Lst encO 3 w w.heap.size A a) (hb : Lst encO 3 w w.heap.size B b) (hn : a.length ≤ 9223372036854775807) (hn' : b.length ≤ 9223372036854775807) :
    Calls Try.prog 38 #[.int .i64 t, .slice A a.length c, .slice B b.length d] w fun e w' =>
      ∃ v, e = .returned (.tuple #[v, .int .i64 (winErr t a b)]) ∧ OwnW w' w.heap.size v (winR t a b) ∧ Below w.heap.size w w' := by
  have hfb := forbRef_any t A B c d a b w ha hb hn hn'
  by_cases h0 : forbErr t a b = 0
  · have hr : inRange t = true := by
      unfold forbErr at h0
      split at h0
      · rename_i q; exact q
      · simp at h0
    have ht : 1 ≤ t ∧ t ≤ 7200 := by simpa [inRange] using hr
    obtain ⟨T, rfl⟩ := Int.eq_ofNat_of_zero_le (show 0 ≤ t by omega)
    obtain ⟨t1, t2⟩ : 1 ≤ T ∧ T ≤ 7200 := by omega
    have hL : forbL T a b = runs (forbB T (pairsO a b)) T := by simp [forbL, h0]
    have HEq : winErr T a b = (if cntN (forbB T (pairsO a b)) T = T then 13 else 0) := by
      rw [winErr, if_pos h0, hL, count_runs t1 t2]
      split <;> rename_i q <;> split <;> rename_i q' <;> omega
    have HRq : winR T a b = (if cntN (forbB T (pairsO a b)) T = T then [] else winL T (runs (forbB T (pairsO a b)) T)) := by rw [winR, HEq, hL]; split <;> simp
    rw [h0] at hfb
    rw [Int.toNat_natCast] at hfb
    clear h0 hr ht hL
    have hcle := cntN_le (forbB T (pairsO a b)) T
    generalize forbB T (pairsO a b) = P at *
    replace HEq := Lib.hid HEq
    replace HRq := Lib.hid HRq
    go_enter Try.func38, Try.ntmps38
    go_wp2_with fail
    refine hfb.mono ?_
    rintro e w1 ⟨vm, rfl, hm, hb1⟩
    obtain ⟨gm, rfl, hom⟩ := hm (by trivial)
    clear hm hfb
    have z1 := hb1.size
    have gl := (World.ownsRow.lt hom gm rfl).2
    have HM := Lib.hid (fun i hi => hom.bit i hi)
    clear hom
    go_wp2_with fail
    go_loop [10, 11] (fun s10 s11 => ∃ k : Nat, k ≤ T ∧ s11 = .int .i64 k ∧ s10 = .int .i64 (cntN P k : Nat)) (fun _ i => T - (intOf i).toNat)
    case atStart => exact ⟨0, by omega, rfl, rfl⟩
    case round =>
      obtain ⟨k, hk, rfl, rfl⟩ := hrel
      have hck := cntN_le P k
      by_cases hlt : k < T
      · have c0 := HM.out k hlt
        have i1 : (0 : Int) ≤ (k : Int) := by omega
        have HS := Lib.hid (cntN_succ P k)
        cases hbit : P k with
        | false =>
          rw [hbit] at c0 HS
          clear hbit
          go_wp2_with fail
          go_round
          case rel => exact ⟨k + 1, by omega, by go_num, by rw [HS.out]; simp⟩
          case measure => simp [intOf]; omega
        | true =>
          rw [hbit] at c0 HS
          clear hbit
          go_wp2_with fail
          go_round
          case rel => exact ⟨k + 1, by omega, by go_num, by rw [HS.out]; simp⟩
          case measure => simp [intOf]; omega
      · obtain rfl : k = T := by omega
        by_cases hfull : cntN P k = k
        · have dd : ((cntN P k : Int) == (k : Int)) = true := by simp [hfull]
          have HE := Lib.hid (show winErr k a b = 13 by rw [HEq.out, if_pos hfull])
          have HR := Lib.hid (show winR k a b = [] by rw [HRq.out, if_pos hfull])
          clear hfull
          generalize cntN P k = C at *
          go_wp2_with fail
          go_ret2
          exact ⟨_, by rw [HE.out]; rfl, by rw [HR.out]; exact Own.nil _ _ _ _ _, hb1⟩
        · have dd : ((cntN P k : Int) == (k : Int)) = false := by simp; omega
          have HE := Lib.hid (show winErr k a b = 0 by rw [HEq.out, if_neg hfull])
          have HR := Lib.hid (show winR k a b = (wrapL k (runs P k)).map (win1 k) by rw [HRq.out, if_neg hfull]; rfl)
          have htot : total (runs P k) < k := by rw [total_runs]; omega
          have hv := runs_valid P k
          have hm : ∀ x : Nat, x < k → RP.mem (runs P k) (x : Int) = P x := fun x hx => mem_runs_nat P hx
          have HW := Lib.hid (wrap_len hv htot)
          have HPW := Lib.hid (wrap_pairwise hv)
          have HST := Lib.hid (fun f f0 f1 => wrap_start hv htot (f := f) f0 f1)
          have HRUN := Lib.hid (fun u hu => wrap_run hv htot (u := u) hu)
          have HMM := Lib.hid hm
          clear hm hv htot hfull HEq HRq
          generalize cntN P k = C at *
          have hLL : (wrapL k (runs P k)).length ≤ k := by
            have h1 := runs_len P k
            rcases wrap_cases k (runs P k) with ⟨q, _⟩ | ⟨x, r, z, q1, _, _, q2⟩
            · rw [q]; exact h1
            · rw [q2]; rw [q1] at h1; simp at h1 ⊢; omega
          generalize wrapL k (runs P k) = L at *
          go_wp2_with fail
          go_loopg [12, 13, 14] k (fun g s12 s13 s14 wr => ∃ f : Nat, f ≤ k ∧ g = k - f ∧ s13 = .int .i64 f ∧ OwnW wr w1.heap.size s12 ((upTo f L).map (win1 k)) ∧ Below w1.heap.size w1 wr)
          case atStart => exact ⟨0, by omega, by omega, rfl, by rw [upTo_zero (fun u hu => (HW.out u hu).1)]; exact Own.nil _ _ _ _ _, Below.refl _ _⟩
          case round =>
            obtain ⟨f, hf, hg, rfl, ho, hb⟩ := hrel
            have hz := hb.size
            by_cases hlt2 : f < k
            · have c0 := (hb.cell (p := ⟨gm, f, none⟩) gl).trans (HM.out f hlt2)
              have i1 : (0 : Int) ≤ (f : Int) := by omega
              have hst := HST.out f i1 (by omega)
              rw [HMM.out f hlt2] at hst
              have x0 := Int.emod_nonneg ((f : Int) - 1) (show (k : Int) ≠ 0 by omega)
              have x1 := Int.emod_lt_of_pos ((f : Int) - 1) (show 0 < (k : Int) by omega)
              have hmod := fun Wm => refMod_any ((f : Int) - 1) k Wm (by omega) (by omega)
              rw [modI, if_neg (by omega)] at hmod
              obtain ⟨X, hX⟩ := Int.eq_ofNat_of_zero_le x0
              rw [hX] at hmod x1 hst
              clear hX x0
              have x2 : X < k := by omega
              have x3 : (0 : Int) ≤ (X : Int) := by omega
              rw [HMM.out X x2] at hst
              have c1 := (hb.cell (p := ⟨gm, X, none⟩) gl).trans (HM.out X x2)
              cases hpf : P f with
              | false =>
                rw [hpf] at c0 hst
                have HU := Lib.hid (upTo_no (f := f) (l := L) (fun u hu e => by have := (hst.1 ⟨u, hu, e⟩).1; cases this))
                clear hst hpf
                go_wp2_with fail
                go_roundg (k - (f + 1))
                case measure => omega
                case rel => exact ⟨f + 1, by omega, rfl, by go_num, by rw [HU.out]; exact ho, hb⟩
              | true =>
                rw [hpf] at c0 hst
                cases hpx : P X with
                | true =>
                  rw [hpx] at c1 hst
                  have HU := Lib.hid (upTo_no (f := f) (l := L) (fun u hu e => by have := (hst.1 ⟨u, hu, e⟩).2; cases this))
                  clear hst hpf hpx
                  go_wp2_with (go_at_call 26; refine (hmod _).mono ?_; rintro e w' ⟨rfl, rfl⟩)
                  go_roundg (k - (f + 1))
                  case measure => omega
                  case rel => exact ⟨f + 1, by omega, rfl, by go_num, by rw [HU.out]; exact ho, hb⟩
                | false =>
                  rw [hpx] at c1 hst
                  obtain ⟨u, hu, ue⟩ := hst.2 ⟨rfl, rfl⟩
                  have HU := Lib.hid (upTo_yes HPW.out hu ue)
                  obtain ⟨u0, u1, u2, u3⟩ := HW.out u hu
                  have hrun := HRUN.out u hu
                  clear hst hpf hpx
                  obtain ⟨uf, un⟩ := u
                  simp only at ue u0 u1 u2 u3 hrun
                  subst ue
                  obtain ⟨N, hN⟩ : ∃ N : Nat, un = (f : Int) + N := ⟨(un - f).toNat, by omega⟩
                  subst hN
                  have n1 : 1 ≤ N := by omega
                  have n2 : N < k := by omega
                  have HY : Hid (∀ i : Nat, i < N → P ((f + i) % k) = true) := by
                    intro i hi
                    have h1 := hrun.1 i (by omega) (by omega)
                    rw [show ((f : Int) + i) % k = ((f + i) % k : Nat) by simp, HMM.out _ (Nat.mod_lt _ (by omega))] at h1
                    exact h1
                  have HX : Hid (P ((f + N) % k) = false) := by
                    have h1 := hrun.2
                    rw [show ((f : Int) + N) % k = ((f + N) % k : Nat) by simp, HMM.out _ (Nat.mod_lt _ (by omega))] at h1
                    exact h1
                  clear hrun u1 u2 u3 u0
                  go_wp2_with (go_at_call 26; refine (hmod _).mono ?_; rintro e w' ⟨rfl, rfl⟩)
                  clear hmod c1
                  have hul : ((upTo f L).map (win1 k)).length ≤ k := by rw [List.length_map]; exact Nat.le_trans (List.length_filter_le _ _) hLL
                  have HUM := Lib.hid (show (upTo (f + 1) L).map (win1 k) = (upTo f L).map (win1 k) ++ [win1 k ((f : Int), (f : Int) + N)] by rw [HU.out, List.map_append]; rfl)
                  generalize (upTo f L).map (win1 k) = Z at *
                  obtain ⟨Az, cz, rfl⟩ := ho.form
                  go_loop [14] (fun s14 => ∃ j : Nat, j ≤ N ∧ s14 = .int .i64 j) (fun i => N - (intOf i).toNat)
                  case atStart => exact ⟨0, by omega, rfl⟩
                  case round =>
                    obtain ⟨j, hj, rfl⟩ := hrel
                    have y0 : (f + j) % k < k := Nat.mod_lt _ (by omega)
                    have y1 := Int.emod_nonneg ((f : Int) + j) (show (k : Int) ≠ 0 by omega)
                    have y2 := Int.emod_lt_of_pos ((f : Int) + j) (show 0 < (k : Int) by omega)
                    have c2 := (hb.cell (p := ⟨gm, (f + j) % k, none⟩) gl).trans (HM.out _ y0)
                    by_cases hjN : j < N
                    · rw [HY.out j hjN] at c2
                      go_wp2_with fail
                      go_round
                      case rel => exact ⟨j + 1, by omega, by go_num⟩
                      case measure => simp [intOf]; omega
                    · obtain rfl : j = N := by omega
                      rw [HX.out] at c2
                      go_wp2_with (at_builtin; refine wpList_append_rec rfl _ _ 42 rfl w1.heap.size 50 16 Try.underlying42 elemW _ Z rfl ho [((f : Int) + j, (f : Int) + k - 1)] _ rfl 1 1 rfl rfl (by simp only [Go.maxLen, List.length_cons, List.length_nil]; omega) (by simp only [List.length_cons, List.length_nil]; omega) hz ?_; intro v1 w5 ho5 hg5 hat5)
                      go_roundg (k - (f + 1))
                      case measure => omega
                      case rel => exact ⟨f + 1, by omega, rfl, by go_num, by rw [HUM.out]; exact ho5, hb.grown hg5 hz (ho.le (Nat.le_refl _))⟩
            · obtain rfl : f = k := by omega
              rw [upTo_all (fun u hu => (HW.out u hu).2.1)] at ho
              go_wp2_with fail
              go_ret2
              exact ⟨_, by rw [HE.out]; rfl, by rw [HR.out]; exact ho.rebase z1, hb1.trans (hb.mono z1)⟩
  · have hne : (forbErr t a b != 0) = true := by simp [h0]
    have HE := Lib.hid (show winErr t a b = forbErr t a b by simp [winErr, h0])
    have HR := Lib.hid (show winR t a b = [] by rw [winR, HE.out]; simp [h0])
    clear h0
    generalize hE : forbErr t a b = E at *
    go_enter Try.func38, Try.ntmps38
    go_wp2_with fail
    refine hfb.mono ?_
    rintro e w1 ⟨v1, rfl, _, hb1⟩
    clear hfb
    go_wp2_with fail
    go_ret2
    exact ⟨_, by rw [HE.out]; rfl, by rw [HR.out]; exact Own.nil _ _ _ _ _, hb1⟩

end Go.Proofs.Ytdijhhfmicafjaa
