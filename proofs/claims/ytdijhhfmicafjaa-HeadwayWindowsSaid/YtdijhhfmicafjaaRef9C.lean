/-
  Contracts of the reference's forbidden and Forbidden.
-/
import Derived.Test.YtdijhhfmicafjaaRef9B
import Derived.Test.YtdijhhfmicafjaaHeadP
import Derived.Deep.RegionHeld3
set_option linter.unusedVariables false
set_option linter.unusedSimpArgs false
namespace Go.Proofs.Ytdijhhfmicafjaa
open Go.RowKit RP

theorem bitsOf_at {T : Nat} {P Q : Nat → Bool} (h : bitsOf T P = bitsOf T Q) {x : Nat} (hx : x < T) : P x = Q x := by
  have h1 : (bitsOf T P)[x]? = some (P x) := by simp [bitsOf, hx]
  have h2 : (bitsOf T Q)[x]? = some (Q x) := by simp [bitsOf, hx]
  rw [h, h2] at h1
  injection h1 with h1
  exact h1.symm
/-- What is marked while a pair's arc is run through. -/
def orArc (T : Nat) (P : Nat → Bool) (f n : Int) (x : Nat) : Bool := P x || arcB T f n x
theorem orArc_zero {T : Nat} {P : Nat → Bool} {f : Int} (h : 1 ≤ T) : bitsOf T P = bitsOf T (orArc T P f ((0 : Nat) : Int)) :=
  bitsOf_congr fun x hx => by
    have := bitsOf_at (arcB_zero T f h) hx
    simp only [orArc, this, Bool.or_false]
theorem orArc_step {T : Nat} {P : Nat → Bool} {f : Int} {k : Nat} (h2 : 0 ≤ f) (h3 : f < T) (hk : k < T) : (bitsOf T (orArc T P f k)).set ((f + k) % T).toNat true = bitsOf T (orArc T P f ((k : Int) + 1)) := by
  have hs := arcB_step (t := T) (f := f) (k := k) h2 h3 hk
  rw [bitsOf_set] at hs ⊢
  refine bitsOf_congr fun x hx => ?_
  have := bitsOf_at hs hx
  simp only [orArc]
  rw [← this]
  split
  · simp
  · rfl
theorem orArc_last {T : Nat} {P : Nat → Bool} {f n : Int} {k : Nat} (h : 1 ≤ T) (hk : (k : Int) ≤ max n 0) (hkT : k ≤ T) (he : ¬ ((k : Int) < n ∧ k < T)) : bitsOf T (orArc T P f k) = bitsOf T (orArc T P f n) := by
  have e : bitsOf T (arcB T f k) = bitsOf T (arcB T f n) := by
    by_cases h0 : n ≤ 0
    · obtain rfl : k = 0 := by omega
      exact (arcB_none h h0).symm
    · by_cases h1 : (k : Int) < n
      · obtain rfl : k = T := by omega
        exact (arcB_full h (by omega)).symm
      · rw [show n = (k : Int) by omega]
  refine bitsOf_congr fun x hx => ?_
  simp only [orArc, bitsOf_at e hx]
theorem forb_step {T : Nat} {l : List (Occ × Occ)} {q : Occ × Occ} : bitsOf T (orArc T (forbB T l) (modI (qFirst q) T) (qLen q)) = bitsOf T (forbB T (l ++ [q])) :=
  bitsOf_congr fun x _ => by simp [orArc, forbB, hitB, List.any_append]
theorem modI_add {T : Nat} {f : Int} {k : Int} (h : 1 ≤ T) : modI (f + k) T = (modI f T + k) % T := by
  unfold modI
  rw [if_neg (by omega), if_neg (by omega), Int.emod_add_emod]

set_option maxHeartbeats 4000000 in
set_option maxRecDepth 100000 in
theorem forbRef_any (t : Int) (A B : Option Addr) (c d : Nat) (a b : List Occ) (w : World) (ha : Lst encO 3 w w.heap.size A a) (hb : Lst encO 3 w w.heap.size B b) (hn : a.length ≤ 9223372036854775807) (hn' : b.length ≤ 9223372036854775807) :
    Calls Try.prog 41 #[.int .i64 t, .slice A a.length c, .slice B b.length d] w fun e w' =>
      ∃ v, e = .returned (.tuple #[v, .int .i64 (forbErr t a b)]) ∧ (forbErr t a b = 0 → ∃ g, v = .slice (some ⟨g, 0, none⟩) t.toNat t.toNat ∧ Own encB 1 4 w' w.heap.size v (bitsOf t.toNat (forbB t.toNat (pairsO a b)))) ∧ Below w.heap.size w w' := by
  have hin := fun W => in9_any t 1 7200 W
  cases hr : inRange t with
  | false =>
    have hr' : (decide (1 ≤ t) && decide (t ≤ 7200)) = false := hr
    rw [hr'] at hin
    have H := Lib.hid (show forbErr t a b = 4 by simp [forbErr, hr])
    clear hr hr'
    go_enter Try.func41, Try.ntmps41
    go_wp2_with (go_at_call 51; refine (hin _).mono ?_; rintro e w1 ⟨rfl, rfl⟩)
    go_ret2
    exact ⟨_, by rw [H.out]; rfl, (by rw [H.out]; intro h; cases h), Below.refl _ _⟩
  | true =>
    have hr' : (decide (1 ≤ t) && decide (t ≤ 7200)) = true := hr
    rw [hr'] at hin
    have ht : 1 ≤ t ∧ t ≤ 7200 := by simpa [inRange] using hr
    have hva := validList_any A c a w ha hn
    cases h1 : validO (-1) a with
    | false =>
      rw [h1] at hva
      have H := Lib.hid (show forbErr t a b = 1 by simp [forbErr, hr, h1])
      clear hr hr' h1
      go_enter Try.func41, Try.ntmps41
      go_wp2_with (first | (go_at_call 51; refine (hin _).mono ?_; rintro e w1 ⟨rfl, rfl⟩) | (go_at_call 39; refine hva.mono ?_; rintro e w1 ⟨rfl, hb1⟩))
      go_ret2
      exact ⟨_, by rw [H.out]; rfl, (by rw [H.out]; intro h; cases h), hb1⟩
    | true =>
      rw [h1] at hva
      have hvb := fun W (hW : Below w.heap.size w W) => validList_any B d b W (hb.belowMore hW hW.size) hn'
      cases h2 : validO (-1) b with
      | false =>
        rw [h2] at hvb
        have H := Lib.hid (show forbErr t a b = 1 by simp [forbErr, hr, h2])
        clear hr hr' h1 h2
        go_enter Try.func41, Try.ntmps41
        go_wp2_with fail
        refine (hin _).mono ?_
        rintro e w' ⟨rfl, rfl⟩
        go_wp2_with fail
        refine hva.mono ?_
        rintro e w1 ⟨rfl, hb1⟩
        go_wp2_with fail
        refine (hvb _ hb1).mono ?_
        rintro e w2 ⟨rfl, hb2⟩
        go_wp2_with fail
        go_ret2
        exact ⟨_, by rw [H.out]; rfl, (by rw [H.out]; intro h; cases h), hb1.trans (hb2.mono hb1.size)⟩
      | true =>
        rw [h2] at hvb
        obtain ⟨T, rfl⟩ := Int.eq_ofNat_of_zero_le (show 0 ≤ t by omega)
        have H := Lib.hid (show forbErr T a b = 0 by simp [forbErr, hr, h1, h2])
        have H1 := Lib.hid h1
        have H2 := Lib.hid h2
        obtain ⟨t1, t2⟩ : 1 ≤ T ∧ T ≤ 7200 := by omega
        clear hr hr' h1 h2 ht
        have hmk := makeBools T (by omega)
        go_enter Try.func41, Try.ntmps41
        go_wp2_with fail
        refine (hin _).mono ?_
        rintro e w' ⟨rfl, rfl⟩
        go_wp2_with fail
        refine hva.mono ?_
        rintro e w1 ⟨rfl, hb1⟩
        go_wp2_with fail
        refine (hvb _ hb1).mono ?_
        rintro e w2 ⟨rfl, hb2⟩
        have hb3 := hb1.trans (hb2.mono hb1.size)
        have z3 := hb3.size
        clear hva hvb hb1 hb2 hin
        have hown0 := Own.bools w2 T (by omega)
        go_wp2_with fail
        clear hmk
        go_loopg [9, 10, 11, 12, 13] a.length (fun g s9 s10 s11 s12 s13 wr => ∃ k : Nat, k ≤ a.length ∧ g = a.length - k ∧ s9 = .int .i64 k ∧
          Own encB 1 4 wr w2.heap.size (.slice (some ⟨w2.heap.size, 0, none⟩) T T) (bitsOf T (forbB T (pairsO (a.take k) b))) ∧ Below w2.heap.size w2 wr)
        case atStart => exact ⟨0, by omega, by omega, rfl, hown0, below_refl_alloc w2 _⟩
        case round =>
          obtain ⟨k, hk, hg, rfl, hox, hbw2⟩ := hrel
          have hbw := hb3.trans (hbw2.mono z3)
          have hz := hbw.size
          have hz2 := hbw2.size
          by_cases hlt : k < a.length
          · obtain ⟨ab, aoff, rfl, habw, a0, a1, a2⟩ := (ha.below hbw).oc k hlt
            obtain ⟨v1, v2, v3, v4⟩ := validO_get H1.out hlt
            have hfb := find_bound H2.out a[k].1
            have HS := Lib.hid (pairs_step (b := b) hlt)
            have HQ := Lib.hid (fun q => forb_step (T := T) (l := pairsO (a.take k) b) (q := q))
            have hfd := find9_any B d b a[k].1 wr (hb.belowMore hbw hz) hn'
            generalize a[k] = x at *
            obtain ⟨r, f, e⟩ := x
            simp only at v1 v2 v3 v4 a0 a1 a2 hfb HS hfd
            generalize findV b r = y at *
            obtain ⟨⟨r', f', e'⟩, ok⟩ := y
            simp only at hfb HS hfd
            obtain ⟨fb1, fb2, fb3, fb4⟩ := hfb
            have i1 : (0 : Int) ≤ (k : Int) := by omega
            have i2 : (k : Int) < (a.length : Int) := by omega
            go_wp2_with fail
            refine hfd.mono ?_
            rintro e0 w4 ⟨rfl, hb4⟩
            clear hfd
            have z4 := hb4.size
            have hbw4 := (hbw2.trans (hb4.mono hz2))
            have HB := Lib.hid (hbw4.alloc (show w2.heap.size ≤ w4.heap.size by omega) (.cells #[.int .i64 r', .int .i64 f', .int .i64 e'] 41))
            have hox4 := (hox.below' hb4).alloc (.cells #[.int .i64 r', .int .i64 f', .int .i64 e'] 41)
            replace a0 := (hb4.cell (p := ⟨ab, aoff + k * 3, none⟩) (by show ab < _; omega)).trans a0
            replace a1 := (hb4.cell (p := ⟨ab, aoff + k * 3 + 1, none⟩) (by show ab < _; omega)).trans a1
            replace a2 := (hb4.cell (p := ⟨ab, aoff + k * 3 + 2, none⟩) (by show ab < _; omega)).trans a2
            have ne1 : ab ≠ w4.heap.size := by omega
            cases ok with
            | false =>
              go_wp2_with fail
              go_roundg (a.length - (k + 1))
              case measure => omega
              case rel => exact ⟨k + 1, by omega, rfl, by go_num, by rw [HS.out, if_neg (by simp)]; exact hox4, HB.out⟩
            | true =>
              have k1 : (w4.alloc (.cells #[.int .i64 r', .int .i64 f', .int .i64 e'] 41)).cell? ⟨w4.heap.size, 1, none⟩ = some (.int .i64 f') := by rw [World.cell?_alloc_at _ _ _ _ rfl]; rfl
              have k2 : (w4.alloc (.cells #[.int .i64 r', .int .i64 f', .int .i64 e'] 41)).cell? ⟨w4.heap.size, 2, none⟩ = some (.int .i64 e') := by rw [World.cell?_alloc_at _ _ _ _ rfl]; rfl
              replace a1 := (World.cell?_alloc_lt w4 (.cells #[.int .i64 r', .int .i64 f', .int .i64 e'] 41) ⟨ab, aoff + k * 3 + 1, none⟩ (by show ab < _; omega)).trans a1
              replace a2 := (World.cell?_alloc_lt w4 (.cells #[.int .i64 r', .int .i64 f', .int .i64 e'] 41) ⟨ab, aoff + k * 3 + 2, none⟩ (by show ab < _; omega)).trans a2
              have hszW : (w4.alloc (.cells #[.int .i64 r', .int .i64 f', .int .i64 e'] 41)).heap.size = w4.heap.size + 1 := by simp
              have HSW := Lib.hid hszW
              clear hszW
              replace HS := HS.out
              rw [if_pos (by trivial)] at HS
              have HQ2 := Lib.hid ((HQ.out ((r, f, e), (r', f', e'))).trans (by rw [← HS]))
              have HSS := Lib.hid HS
              clear HS HQ
              have hqf : qFirst ((r, f, e), (r', f', e')) = f - e' + 1 := rfl
              have hql : qLen ((r, f, e), (r', f', e')) = e - f + e' - f' - 1 := by simp only [qLen, qFirst]; omega
              rw [hqf, hql] at HQ2
              clear hqf hql
              have hF := modI_range (f - e' + 1) T (by omega)
              have HM := Lib.hid (fun k => modI_add (T := T) (f := f - e' + 1) (k := k) t1)
              have hz0 := Lib.hid (orArc_zero (T := T) (P := forbB T (pairsO (a.take k) b)) (f := modI (f - e' + 1) T) t1)
              generalize modI (f - e' + 1) T = F at *
              obtain ⟨F0, F1⟩ := hF
              go_wp2_with fail
              generalize w4.alloc (.cells #[.int .i64 r', .int .i64 f', .int .i64 e'] 41) = W at *
              clear a0
              have s1 : IntKind.i64.wrap (e - f) = e - f := IntWalk.i64_in _ (by omega)
              have s2 : IntKind.i64.wrap (e - f + e') = e - f + e' := IntWalk.i64_in _ (by omega)
              have s3 : IntKind.i64.wrap (e - f + e' - f') = e - f + e' - f' := IntWalk.i64_in _ (by omega)
              have s4 : IntKind.i64.wrap (e - f + e' - f' - 1) = e - f + e' - f' - 1 := IntWalk.i64_in _ (by omega)
              go_quiet (fail)
              clear s1 s2 s3 s4
              have hoxW := hox4.drewN nq
              have hbW := below_drewN HB.out nq
              replace k2 : (W.drewN nq).cell? ⟨w4.heap.size, 2, none⟩ = some (.int .i64 e') := k2
              replace a1 : (W.drewN nq).cell? ⟨ab, aoff + k * 3 + 1, none⟩ = some (.int .i64 f) := a1
              have hWs : w4.heap.size < (W.drewN nq).heap.size := by show _ < W.heap.size; rw [HSW.out]; omega
              clear k1 a2 HB hox4 HSW
              generalize W.drewN nq = W5 at *
              rw [hz0.out] at hoxW
              clear hz0
              obtain ⟨N, hN⟩ : ∃ N, e - f + e' - f' - 1 = N := ⟨_, rfl⟩
              have hN1 : N ≤ 300000 := by omega
              have HN := Lib.hid hN
              go_wp2_with fail
              rw [hN]
              rw [hN] at HQ2
              clear hN
              obtain ⟨Wo, hWo⟩ : ∃ Wo : World, Wo = wr := ⟨_, rfl⟩
              clear hWo
              go_loopg [13] T (fun g' s13 wr' => ∃ j : Nat, j ≤ T ∧ (j : Int) ≤ max N 0 ∧ g' = T - j ∧ s13 = .int .i64 j ∧
                Own encB 1 4 wr' w2.heap.size (.slice (some ⟨w2.heap.size, 0, none⟩) T T) (bitsOf T (orArc T (forbB T (pairsO (a.take k) b)) F j)) ∧ Off (oneB w2.heap.size) W5 wr')
              case atStart => exact ⟨0, by omega, by omega, rfl, rfl, hoxW, Off.refl _ _⟩
              case round =>
                obtain ⟨j, hj, hjn, hg', rfl, hoj, hoff⟩ := hrel
                have b1 := (hoff.cell (p := ⟨ab, aoff + k * 3 + 1, none⟩) (by show ab < _; omega) (by intro h; have h' : ab = w2.heap.size := h; omega)).trans a1
                have b2 := (hoff.cell (p := ⟨w4.heap.size, 2, none⟩) hWs (by intro h; have h' : w4.heap.size = w2.heap.size := h; have := (World.ownsRow.lt hox w2.heap.size rfl).2; omega)).trans k2
                by_cases hc : (j : Int) < N ∧ j < T
                · obtain ⟨hc1, hc2⟩ := hc
                  have HS := Lib.hid (orArc_step (T := T) (P := forbB T (pairsO (a.take k) b)) (f := F) (k := j) F0 F1 hc2)
                  have hmod := fun Wm => refMod_any (f - e' + 1 + j) T Wm (by omega) (by omega)
                  rw [HM.out j] at hmod
                  have x0 := Int.emod_nonneg (F + j) (show (T : Int) ≠ 0 by omega)
                  have x1 := Int.emod_lt_of_pos (F + j) (show 0 < (T : Int) by omega)
                  obtain ⟨X, hX⟩ := Int.eq_ofNat_of_zero_le x0
                  rw [hX] at hmod x1 HS
                  rw [Int.toNat_natCast] at HS
                  clear hX x0
                  have x2 : X < T := by omega
                  have x3 : (0 : Int) ≤ (X : Int) := by omega
                  obtain ⟨m0, mf, ho'⟩ := hoj.boAt X (by rw [bitsOf_length]; omega) true
                  have HO := Lib.hid ho'
                  clear ho'
                  have j0 : (0 : Int) ≤ (j : Int) := by omega
                  have ne2 : ab ≠ w2.heap.size := by omega
                  have ne3 : w4.heap.size ≠ w2.heap.size := by have := (World.ownsRow.lt hox w2.heap.size rfl).2; omega
                  have s1 : IntKind.i64.wrap (f - e') = f - e' := IntWalk.i64_in _ (by omega)
                  have s2 : IntKind.i64.wrap (f - e' + 1) = f - e' + 1 := IntWalk.i64_in _ (by omega)
                  have s3 : IntKind.i64.wrap (f - e' + 1 + j) = f - e' + 1 + j := IntWalk.i64_in _ (by omega)
                  have q1 : (wr.setCell ⟨w2.heap.size, X, none⟩ (.bool true)).drew.cell? ⟨ab, aoff + k * 3 + 1, none⟩ = some (.int .i64 f) := (World.cell?_setCell_other _ ⟨w2.heap.size, X, none⟩ ⟨ab, aoff + k * 3 + 1, none⟩ (.bool true) (fun h => ne2 (by injection h with h; first | exact h | exact h.symm))).trans b1
                  have q2 : (wr.setCell ⟨w2.heap.size, X, none⟩ (.bool true)).drew.cell? ⟨w4.heap.size, 2, none⟩ = some (.int .i64 e') := (World.cell?_setCell_other _ ⟨w2.heap.size, X, none⟩ ⟨w4.heap.size, 2, none⟩ (.bool true) (fun h => ne3 (by injection h with h; first | exact h | exact h.symm))).trans b2
                  have Q1 := Lib.hid q1
                  have Q2 := Lib.hid q2
                  clear q1 q2
                  generalize (bitsOf T (orArc T (forbB T (pairsO (a.take k) b)) F j))[X]'(by rw [bitsOf_length]; omega) = bv at *
                  go_wp2_with fail
                  go_region_held3 (fun w' => w'.cell? ⟨ab, aoff + k * 3 + 1, none⟩ = some (.int .i64 f) ∧ w'.cell? ⟨w4.heap.size, 2, none⟩ = some (.int .i64 e')) (first | exact And.intro Q1.out Q2.out | exact And.intro b1 b2 | go_keep)
                    ((go_at_call 26; refine (hmod _).mono ?_; rintro e0 w' ⟨rfl, rfl⟩))
                  clear s1 s2 s3
                  go_wp2_with fail
                  go_roundg (T - (j + 1))
                  case measure => omega
                  case rel =>
                    refine ⟨j + 1, by omega, by omega, rfl, by go_num, ?_, ?_⟩
                    · have := HO.out
                      rw [HS.out] at this
                      exact this.drew
                    · exact (hoff.setCell (p := ⟨w2.heap.size, X, none⟩) rfl _).drew
                · have HL := Lib.hid (orArc_last (T := T) (P := forbB T (pairsO (a.take k) b)) (f := F) (n := N) (k := j) t1 hjn hj hc)
                  rw [HL.out, HQ2.out] at hoj
                  have HB := Lib.hid (hbW.trans (hoff.below (B := w2.heap.size) (by omega) (fun q hq h => by have h' : q = w2.heap.size := h; omega)))
                  by_cases hc1 : (j : Int) < N
                  · have hd : decide ((j : Int) < (T : Int)) = false := by simp; omega
                    go_wp2_with fail
                    go_roundg (a.length - (k + 1))
                    case measure => omega
                    case rel => exact ⟨k + 1, by omega, rfl, by go_num, hoj, HB.out⟩
                  · go_wp2_with fail
                    go_roundg (a.length - (k + 1))
                    case measure => omega
                    case rel => exact ⟨k + 1, by omega, rfl, by go_num, hoj, HB.out⟩
          · rw [List.take_of_length_le (show a.length ≤ k by omega)] at hox
            go_wp2_with fail
            go_ret2
            exact ⟨_, by rw [H.out]; rfl, fun _ => ⟨_, rfl, hox.rebase (by omega)⟩, hbw⟩

end Go.Proofs.Ytdijhhfmicafjaa
