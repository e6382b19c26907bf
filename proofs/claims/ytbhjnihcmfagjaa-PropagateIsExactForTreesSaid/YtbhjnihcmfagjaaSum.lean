/-
  Contract of Sum.
-/
import Derived.Test.YtbhjnihcmfagjaaSumD
set_option linter.unusedVariables false
set_option linter.unusedSimpArgs false
namespace Go.Proofs.Ytbhjnihcmfagjaa
open Go.RowKit RP

def sumI (t : Int) (a b : List Sp) : List Sp := if badI t a b = 0 then runs (marked t.toNat (arcsOf a b)) t.toNat else []
theorem sumI_nat (T : Nat) (a b : List Sp) : sumI T a b = sumL T a b := by simp [sumI, sumL]

theorem sum_spans {T : Nat} {a b : List Sp} (h1 : 1 ≤ T) : runs (memN (arcSpans T (arcsOf a b))) T = runs (marked T (arcsOf a b)) T :=
  runs_congr fun _ hx => arcSpans_mem h1 _ hx
theorem runs_none {P : Nat → Bool} : ∀ T, (∀ x, x < T → P x = false) → runs P T = []
  | 0, _ => rfl
  | T + 1, h => by
    simp only [runs, h T (by omega), Bool.false_eq_true, if_false]
    exact runs_none T fun x hx => h x (by omega)
theorem runs_all' {P : Nat → Bool} : ∀ T, (∀ x, x < T + 1 → P x = true) → runs P (T + 1) = [(0, (T : Int) + 1)]
  | 0, h => by simp [runs, h 0 (by omega), stepRun]
  | T + 1, h => by
    have ih := runs_all' T fun x hx => h x (by omega)
    have e : ((T + 1 : Nat) : Int) = (T : Int) + 1 := by omega
    rw [runs, h (T + 1) (by omega), if_pos rfl, ih, e]
    simp [stepRun]
theorem runs_all {P : Nat → Bool} {T : Nat} (h1 : 1 ≤ T) (h : ∀ x, x < T → P x = true) : runs P T = [(0, (T : Int))] := by
  obtain ⟨K, rfl⟩ : ∃ K, T = K + 1 := ⟨T - 1, by omega⟩
  rw [runs_all' K h]
  simp

set_option maxHeartbeats 4000000 in
set_option maxRecDepth 100000 in
theorem sum_any (t : Int) (A B : Option Addr) (c d : Nat) (a b : List Sp) (w : World) (ha : Lst encS 2 w w.heap.size A a) (hb : Lst encS 2 w w.heap.size B b)
    (hn : a.length ≤ 9223372036854775807) (hn' : b.length ≤ 9223372036854775807) :
    Calls Try.prog 81 #[.int .i64 t, .slice A a.length c, .slice B b.length d] w fun e w' =>
      ∃ v, e = .returned (.tuple #[v, .int .i64 (badI t a b)]) ∧ OwnS w' w.heap.size v (sumI t a b) ∧ Below w.heap.size w w' := by
  have hba : Below w.heap.size w (w.alloc (.cells #[.slice A a.length c, .slice B b.length d] 40)) := (Below.refl _ _).alloc (Nat.le_refl _) _
  have g0 : (w.alloc (.cells #[.slice A a.length c, .slice B b.length d] 40)).cell? ⟨w.heap.size, 0, none⟩ = some (.slice A a.length c) := by rw [World.cell?_alloc_at _ _ _ _ rfl]; rfl
  have g1 : (w.alloc (.cells #[.slice A a.length c, .slice B b.length d] 40)).cell? ⟨w.heap.size, 1, none⟩ = some (.slice B b.length d) := by rw [World.cell?_alloc_at _ _ _ _ rfl]; rfl
  have hch := check2_any t A B c d a b w.heap.size 2 (w.alloc (.cells #[.slice A a.length c, .slice B b.length d] 40)) g0 g1 (by simp) (ha.belowMore hba (by simp)) (hb.belowMore hba (by simp)) hn hn'
  clear g0 g1
  by_cases h0 : badI t a b = 0
  · obtain ⟨va, vb⟩ := badI_zero h0
    obtain ⟨u1, u2⟩ := badI_range h0
    obtain ⟨T, rfl⟩ := Int.eq_ofNat_of_zero_le (show 0 ≤ t by omega)
    have la := valid_length va (by omega)
    have lb := valid_length vb (by omega)
    have H := Lib.hid h0
    have HE := Lib.hid (show sumI T a b = runs (marked T (arcsOf a b)) T by simp [sumI, h0])
    rw [h0] at hch
    clear h0
    have hne : ∀ l : List Sp, l ≠ [] → ((l.length : Int) == 0) = false := fun l hl => by
      rw [beq_eq_false_iff_ne]
      cases l with
      | nil => exact absurd rfl hl
      | cons s l => simp only [List.length_cons]; omega
    by_cases ea : a = []
    · subst ea
      have HN := Lib.hid (show runs (marked T (arcsOf [] b)) T = [] from runs_none T fun x _ => by simp [marked, arcsOf])
      clear hne va vb
      simp only [List.length_nil] at *
      go_enter Try.func81, Try.ntmps81
      go_wp2_with (go_at_call 78; refine hch.mono ?_; rintro e w1 ⟨rfl, hb1⟩)
      go_ret2
      exact ⟨_, by rw [H.out]; rfl, by rw [HE.out, HN.out]; exact Own.nil _ _ _ _ _, hba.trans (hb1.mono (by simp))⟩
    · have ea' := hne a ea
      by_cases eb : b = []
      · subst eb
        have HN := Lib.hid (show runs (marked T (arcsOf a [])) T = [] from runs_none T fun x _ => by simp [marked, arcsOf, rowArcs])
        clear hne va vb
        simp only [List.length_nil] at *
        go_enter Try.func81, Try.ntmps81
        go_wp2_with (go_at_call 78; refine hch.mono ?_; rintro e w1 ⟨rfl, hb1⟩)
        go_ret2
        exact ⟨_, by rw [H.out]; rfl, by rw [HE.out, HN.out]; exact Own.nil _ _ _ _ _, hba.trans (hb1.mono (by simp))⟩
      · have eb' := hne b eb
        have HVa := Lib.hid va
        have HVb := Lib.hid vb
        have t1 := total_bound va (by omega)
        have t2 := total_bound vb (by omega)
        have HF := Lib.hid (fun h => marked_full (by omega) va vb (valid_all va (by omega)) (valid_all vb (by omega)) h)
        have hca := fun W (h : Below w.heap.size w W) => count_any T A c a W ((ha.below h).more h.size) u2 va (by omega)
        have hcb := fun W (h : Below w.heap.size w W) => count_any T B d b W ((hb.below h).more h.size) u2 vb (by omega)
        clear hne va vb
        generalize total a = na at *
        generalize total b = nb at *
        by_cases c1 : (T : Int) < na + nb
        · have c1' : na + nb > (T : Int) := c1
          have HN := Lib.hid (show runs (marked T (arcsOf a b)) T = [(0, (T : Int))] from runs_all (by omega) fun x _ => HF.out c1 x)
          clear HF
          go_enter Try.func81, Try.ntmps81
          go_wp2_with fail
          refine hch.mono ?_
          rintro e w1 ⟨rfl, hb1⟩
          have hw1 := hba.trans (hb1.mono (by simp))
          clear hch hba hb1
          go_wp2_with fail
          refine (hca w1 hw1).mono ?_
          rintro e w2 ⟨rfl, hb2⟩
          have hw2 := hw1.trans (hb2.mono hw1.size)
          go_wp2_with fail
          refine (hcb w2 hw2).mono ?_
          rintro e w3 ⟨rfl, hb3⟩
          have hw3 := hw2.trans (hb3.mono hw2.size)
          clear hb2 hb3
          go_wp2
          go_ret2
          refine ⟨_, by rw [H.out]; rfl, ?_, hw3.alloc hw3.size _⟩
          rw [HE.out, HN.out]
          exact Own.lit w3 _ _ _ _ 1 rfl encS_len rfl hw3.size (by simp [Go.maxLen])
        · have c1' : ¬ na + nb > (T : Int) := c1
          clear HF
          by_cases c2 : T < a.length * b.length
          · have HN := Lib.hid (sum_spans (a := a) (b := b) (show 1 ≤ T by omega))
            have hsc := fun W (h : Below w.heap.size w W) => sumByCounts_any T A B c d a b W ((ha.below h).more h.size) ((hb.below h).more h.size) (by omega) (by omega) HVa.out HVb.out
            have hM : (a.length : Int) * (b.length : Int) = ((a.length * b.length : Nat) : Int) := by simp
            have hM2 : a.length * b.length ≤ 7200 * 7200 := Nat.mul_le_mul (by omega) (by omega)
            generalize a.length * b.length = M at *
            go_enter Try.func81, Try.ntmps81
            go_wp2_with fail
            refine hch.mono ?_
            rintro e w1 ⟨rfl, hb1⟩
            have z1 : w.heap.size + 1 ≤ w1.heap.size := by have := hb1.size; simpa using this
            have hw1 := hba.trans (hb1.mono (by simp))
            clear hch hba hb1
            go_wp2_with fail
            refine (hca w1 hw1).mono ?_
            rintro e w2 ⟨rfl, hb2⟩
            have hw2 := hw1.trans (hb2.mono hw1.size)
            go_wp2_with fail
            refine (hcb w2 hw2).mono ?_
            rintro e w3 ⟨rfl, hb3⟩
            have hw3 := hw2.trans (hb3.mono hw2.size)
            clear hb2 hb3
            clear hca hcb
            go_wp2_with fail
            clear c1 c1' t1 t2
            refine (hsc w3 hw3).mono ?_
            rintro e w4 ⟨v4, rfl, ho4, hb4⟩
            go_wp2
            go_ret2
            exact ⟨_, by rw [H.out]; rfl, by rw [HE.out, ← HN.out]; exact ho4.rebase hw3.size, hw3.trans (hb4.mono hw3.size)⟩
          · have HN := Lib.hid (sum_spans (a := a) (b := b) (show 1 ≤ T by omega))
            have hM : (a.length : Int) * (b.length : Int) = ((a.length * b.length : Nat) : Int) := by simp
            have hM2 : a.length * b.length ≤ 7200 * 7200 := Nat.mul_le_mul (by omega) (by omega)
            have HL := Lib.hid (show ∀ i j, i ≤ a.length → j ≤ b.length → (i < a.length ∨ j = 0) → ∀ s : Sp, (arcSpans T (arcsOf (a.take i) b ++ rowArcs (b.take j) s)).length ≤ 103680000 from fun i j hi hj hij s => by
              have e1 := arcSpans_len T (arcsOf (a.take i) b ++ rowArcs (b.take j) s)
              have e2 : (arcsOf (a.take i) b ++ rowArcs (b.take j) s).length ≤ 7200 * 7200 := by
                rw [List.length_append, arcsOf_len, rowArcs, List.length_map, List.length_take, List.length_take, Nat.min_eq_left (by omega), Nat.min_eq_left (by omega)]
                have e3 : i * b.length + j ≤ (i + 1) * b.length := by rw [Nat.add_mul, Nat.one_mul]; omega
                have e4 : (i + 1) * b.length ≤ 7200 * 7200 := Nat.mul_le_mul (by omega) (by omega)
                omega
              omega)
            generalize a.length * b.length = M at *
            go_enter Try.func81, Try.ntmps81
            go_wp2_with fail
            refine hch.mono ?_
            rintro e w1 ⟨rfl, hb1⟩
            have z1 : w.heap.size + 1 ≤ w1.heap.size := by have := hb1.size; simpa using this
            have hw1 := hba.trans (hb1.mono (by simp))
            clear hch hba hb1
            go_wp2_with fail
            refine (hca w1 hw1).mono ?_
            rintro e w2 ⟨rfl, hb2⟩
            have hw2 := hw1.trans (hb2.mono hw1.size)
            go_wp2_with fail
            refine (hcb w2 hw2).mono ?_
            rintro e w3 ⟨rfl, hb3⟩
            have hw3 := hw2.trans (hb3.mono hw2.size)
            clear hb2 hb3
            clear hca hcb
            go_wp2_with fail
            clear c1 c1' t1 t2
            go_loopg [9, 53, 59] a.length (fun g s9 s53 s59 wr => ∃ i : Nat, i ≤ a.length ∧ g = a.length - i ∧ s53 = .int .i64 i ∧ OwnS wr w.heap.size s9 (arcSpans T (arcsOf (a.take i) b)) ∧ Below w.heap.size w wr)
            case atStart => exact ⟨0, by omega, by omega, rfl, Own.nil _ _ _ _ _, hw3⟩
            case round =>
              obtain ⟨i, hi, hg, rfl, hox, hbr⟩ := hrel
              by_cases hlt : i < a.length
              · have HA := Lib.hid (arcs_step (b := b) hlt)
                obtain ⟨ba, oa, rfl, hba, ca0, ca1⟩ := ha.sp i hlt
                obtain ⟨va1, va2, va3⟩ := valid_at HVa.out hlt (by omega)
                generalize a[i] = s at *
                obtain ⟨sf, se⟩ := s
                simp only at ca0 ca1 va1 va2 va3
                have da0 := (hbr.cell (p := ⟨ba, oa + i * 2, none⟩) hba).trans ca0
                have da1 := (hbr.cell (p := ⟨ba, oa + i * 2 + 1, none⟩) hba).trans ca1
                have hz := hbr.size
                have hoW := hox.alloc (.cells #[.int .i64 sf, .int .i64 se] 46)
                have hbW := hbr.alloc hz (.cells #[.int .i64 sf, .int .i64 se] 46)
                have k0 : (wr.alloc (.cells #[.int .i64 sf, .int .i64 se] 46)).cell? ⟨wr.heap.size, 0, none⟩ = some (.int .i64 sf) := by rw [World.cell?_alloc_at _ _ _ _ rfl]; rfl
                have k1 : (wr.alloc (.cells #[.int .i64 sf, .int .i64 se] 46)).cell? ⟨wr.heap.size, 1, none⟩ = some (.int .i64 se) := by rw [World.cell?_alloc_at _ _ _ _ rfl]; rfl
                have hzW : wr.heap.size < (wr.alloc (.cells #[.int .i64 sf, .int .i64 se] 46)).heap.size := by simp
                have hnb : u9.ownBlock ≠ some wr.heap.size := fun e => by have := (World.ownsRow.lt hox _ e).2; omega
                go_wp2_with fail
                generalize wr.alloc (.cells #[.int .i64 sf, .int .i64 se] 46) = W at *
                clear da0 da1 hox hbr
                generalize wr.heap.size = gs at *
                clear wr
                go_loopg [9, 59] b.length (fun g s9 s59 wr => ∃ j : Nat, j ≤ b.length ∧ g = b.length - j ∧ s59 = .int .i64 j ∧ OwnS wr w.heap.size s9 (arcSpans T (arcsOf (a.take i) b ++ rowArcs (b.take j) (sf, se))) ∧ Below w.heap.size w wr ∧
                  wr.cell? ⟨gs, 0, none⟩ = some (.int .i64 sf) ∧ wr.cell? ⟨gs, 1, none⟩ = some (.int .i64 se) ∧ gs < wr.heap.size ∧ s9.ownBlock ≠ some gs)
                case atStart => exact ⟨0, by omega, by omega, rfl, by simpa [rowArcs] using hoW, hbW, k0, k1, hzW, hnb⟩
                case round =>
                  obtain ⟨j, hj, hg', rfl, hox, hbr, k0', k1', hzr, hnb'⟩ := hrel
                  clear k0 k1 hzW hnb
                  by_cases hlt' : j < b.length
                  · have HR := Lib.hid (row_step (s := (sf, se)) hlt')
                    have lS := HL.out i j (by omega) (by omega) (by omega) (sf, se)
                    obtain ⟨bb, ob, rfl, hbb, cb0, cb1⟩ := hb.sp j hlt'
                    obtain ⟨vb1, vb2, vb3⟩ := valid_at HVb.out hlt' (by omega)
                    generalize b[j] = u at *
                    obtain ⟨uf, ue⟩ := u
                    simp only at cb0 cb1 vb1 vb2 vb3
                    have db0 := (hbr.cell (p := ⟨bb, ob + j * 2, none⟩) hbb).trans cb0
                    have db1 := (hbr.cell (p := ⟨bb, ob + j * 2 + 1, none⟩) hbb).trans cb1
                    have hz' := hbr.size
                    have hoX := (hox.alloc (.cells #[.int .i64 uf, .int .i64 ue] 46)).drew
                    have hbX := (hbr.alloc hz' (.cells #[.int .i64 uf, .int .i64 ue] 46)).drew
                    have m0 : (wr.alloc (.cells #[.int .i64 uf, .int .i64 ue] 46)).cell? ⟨wr.heap.size, 0, none⟩ = some (.int .i64 uf) := by rw [World.cell?_alloc_at _ _ _ _ rfl]; rfl
                    have m1 : (wr.alloc (.cells #[.int .i64 uf, .int .i64 ue] 46)).cell? ⟨wr.heap.size, 1, none⟩ = some (.int .i64 ue) := by rw [World.cell?_alloc_at _ _ _ _ rfl]; rfl
                    have n0 : (wr.alloc (.cells #[.int .i64 uf, .int .i64 ue] 46)).cell? ⟨gs, 0, none⟩ = some (.int .i64 sf) := (((Below.refl wr.heap.size wr).alloc (Nat.le_refl _) _).cell (p := ⟨gs, 0, none⟩) hzr).trans k0'
                    have n1 : (wr.alloc (.cells #[.int .i64 uf, .int .i64 ue] 46)).cell? ⟨gs, 1, none⟩ = some (.int .i64 se) := (((Below.refl wr.heap.size wr).alloc (Nat.le_refl _) _).cell (p := ⟨gs, 1, none⟩) hzr).trans k1'
                    have hzW : wr.heap.size < (wr.alloc (.cells #[.int .i64 uf, .int .i64 ue] 46)).heap.size := by simp
                    have hnu : u9.ownBlock ≠ some wr.heap.size := fun e => by have := (World.ownsRow.lt hox _ e).2; omega
                    go_wp2_with fail
                    generalize wr.alloc (.cells #[.int .i64 uf, .int .i64 ue] 46) = W2 at *
                    clear db0 db1 k0' k1' hox hbr
                    generalize wr.heap.size = gu at *
                    clear wr
                    have HP := Lib.hid (show arcSpans T (arcsOf (a.take i) b ++ rowArcs (b.take (j + 1)) (sf, se)) = arcSpans T (arcsOf (a.take i) b ++ rowArcs (b.take j) (sf, se)) ++ arc T ((sf + uf) % T) (se - sf + (ue - uf) - 1) by
                      rw [HR.out, ← List.append_assoc, arcSpans_append, arcSpans_one]
                      simp only [pairArc]
                      rw [show se - sf + (ue - uf) - 1 = se - sf + ue - uf - 1 by omega])
                    generalize arcSpans T (arcsOf (a.take i) b ++ rowArcs (b.take j) (sf, se)) = S at *
                    have q1 : IntKind.i64.wrap (sf + uf) = sf + uf := IntWalk.i64_in _ (by omega)
                    have q2 : IntKind.i64.wrap (se - sf + (ue - uf)) = se - sf + (ue - uf) := IntWalk.i64_in _ (by omega)
                    have q3 : IntKind.i64.wrap (se - sf + (ue - uf) - 1) = se - sf + (ue - uf) - 1 := IntWalk.i64_in _ (by omega)
                    have htm : (sf + uf).tmod (T : Int) = (sf + uf) % T := Int.tmod_eq_emod_of_nonneg (by omega)
                    have htz : ((T : Int) == 0) = false := by rw [beq_eq_false_iff_ne]; omega
                    have hT0 : ¬ T = 0 := by omega
                    have hT0' : ¬ (T : Int) = 0 := by omega
                    have x1 := Int.emod_nonneg (sf + uf) (show (T : Int) ≠ 0 by omega)
                    have x2 := Int.emod_lt_of_pos (sf + uf) (show 0 < (T : Int) by omega)
                    have hl1 : ∀ W, _ := fun W => length_any sf se W (by omega) (by omega) (by omega) (by omega)
                    have hl2 : ∀ W, _ := fun W => length_any uf ue W (by omega) (by omega) (by omega) (by omega)
                    have hap : ∀ W, OwnS W w.heap.size u9 S → w.heap.size ≤ W.heap.size → _ := fun W h h' => appendArc_at w.heap.size u9 S T ((sf + uf) % T) (se - sf + (ue - uf) - 1) W h h' (by omega) (by omega) (by omega) x1 x2 (by omega)
                    have hzs : gs < W2.drew.heap.size := Nat.lt_trans hzr hzW
                    have hzu : gu < W2.drew.heap.size := hzW
                    go_region_held3 (fun w' => w'.cell? ⟨gs, 0, none⟩ = some (.int .i64 sf) ∧ w'.cell? ⟨gs, 1, none⟩ = some (.int .i64 se) ∧ w'.cell? ⟨gu, 0, none⟩ = some (.int .i64 uf) ∧ w'.cell? ⟨gu, 1, none⟩ = some (.int .i64 ue))
                      (exact ⟨n0, n1, m0, m1⟩)
                      (first
                        | (go_at_call 88; (first | refine (hl1 _).mono ?_ | refine (hl2 _).mono ?_); rintro e w1 ⟨rfl, hb1⟩
                           have n0 := (hb1.cell (p := ⟨gs, 0, none⟩) hzs).trans n0
                           have n1 := (hb1.cell (p := ⟨gs, 1, none⟩) hzs).trans n1
                           have m0 := (hb1.cell (p := ⟨gu, 0, none⟩) hzu).trans m0
                           have m1 := (hb1.cell (p := ⟨gu, 1, none⟩) hzu).trans m1
                           have hoX := hoX.below' hb1
                           have hbX := hbX.trans (hb1.mono hbX.size)
                           have hzs := Nat.lt_of_lt_of_le hzs hb1.size
                           have hzu := Nat.lt_of_lt_of_le hzu hb1.size)
                        | (go_at_call 75; refine (hap _ hoX hbX.size).mono ?_; rintro e w4 ⟨v4, rfl, ho4, hg4, hat4⟩
                           have n0 := hg4.cell n0 (fun e => hnb' e.symm)
                           have n1 := hg4.cell n1 (fun e => hnb' e.symm)
                           have m0 := hg4.cell m0 (fun e => hnu e.symm)
                           have m1 := hg4.cell m1 (fun e => hnu e.symm)
                           have hb4 := hbX.grown hg4 hbX.size (hoX.le (Nat.le_refl _))
                           have hnv : v4.ownBlock ≠ some gs := fun e => (hat4 _ e).elim hnb' (fun h => absurd hzs (by omega))
                           have hzs := Nat.lt_of_lt_of_le hzs hg4.size))
                    clear hl1 hl2 hap q1 q2 q3 htm htz hT0 hT0' hat4
                    go_wp2
                    go_roundg (b.length - (j + 1))
                    case measure => omega
                    case rel => exact ⟨j + 1, by omega, rfl, by go_num, by rw [HP.out]; exact ho4, hb4, n0, n1, hzs, hnv⟩
                  · go_wp2
                    go_roundg (a.length - (i + 1))
                    case measure => omega
                    case rel =>
                      rw [List.take_of_length_le (l := b) (by omega), ← HA.out] at hox
                      exact ⟨i + 1, by omega, rfl, by go_num, hox, hbr⟩
              · rw [List.take_of_length_le (by omega)] at hox
                have hlen := HL.out a.length 0 (by omega) (by omega) (by omega) (0, 0)
                rw [List.take_of_length_le (by omega)] at hlen
                simp only [List.take_zero, rowArcs, List.map_nil, List.append_nil] at hlen
                have hz := hbr.size
                have hm := merge_any T w.heap.size u9 _ wr hox (by omega) hz (by omega) (arcSpans_bounds (by omega) _)
                rw [HN.out] at hm
                go_wp2_with (go_at_call 86; refine hm.mono ?_; rintro e w4 ⟨v4, rfl, ho4, hg4⟩)
                go_ret2
                exact ⟨_, by rw [H.out]; rfl, by rw [HE.out]; exact ho4.rebase hz, hbr.grown hg4 hz (hox.le (Nat.le_refl _))⟩
  · have hne : (badI t a b != 0) = true := by simp [h0]
    have HE := Lib.hid (show sumI t a b = [] by simp [sumI, h0])
    clear h0
    generalize badI t a b = E at *
    go_enter Try.func81, Try.ntmps81
    go_wp2_with (go_at_call 78; refine hch.mono ?_; rintro e w1 ⟨rfl, hb1⟩)
    go_ret2
    exact ⟨_, rfl, by rw [HE.out]; exact Own.nil _ _ _ _ _, hba.trans (hb1.mono (by simp))⟩

end Go.Proofs.Ytbhjnihcmfagjaa
