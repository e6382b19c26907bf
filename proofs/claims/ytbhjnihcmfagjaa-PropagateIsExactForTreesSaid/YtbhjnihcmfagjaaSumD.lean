/-
  Contract of sumByCounts: the walk.
-/
import Derived.Test.YtbhjnihcmfagjaaSumC
import Derived.Test.YtbhjnihcmfagjaaQ
set_option linter.unusedVariables false
set_option linter.unusedSimpArgs false
namespace Go.Proofs.Ytbhjnihcmfagjaa
open Go.RowKit RP

theorem cell_of_heap {w w' : World} {p : Addr} (h : w'.heap[p.block]? = w.heap[p.block]?) : w'.cell? p = w.cell? p := by unfold World.cell?; rw [h]

/-- The state while spans are counted: the changes of S, and the array. -/
def CInv (w : World) (T : Nat) (S : List Sp) (wr : World) : Prop :=
  OwnI wr w.heap.size w.heap.size (T + 1) (intsOf (T + 1) (chg S)) ∧ Arr2 wr (w.heap.size + 1) ∧ Below w.heap.size w wr ∧ w.heap.size + 2 ≤ wr.heap.size
section
variable {w : World} {T : Nat} {S : List Sp} {wr wr' : World}
theorem Arr2.heap {g : Nat} (h : Arr2 wr g) (e : wr'.heap[g]? = wr.heap[g]?) : Arr2 wr' g := by
  obtain ⟨a, b, c, d, h4⟩ := h
  exact ⟨a, b, c, d, e.trans h4⟩
theorem CInv.below (h : CInv w T S wr) (hb : Below wr.heap.size wr wr') : CInv w T S wr' :=
  ⟨h.1.below' hb, h.2.1.heap (hb.block _ (by have := h.2.2.2; omega)), h.2.2.1.trans (hb.mono h.2.2.1.size), Nat.le_trans h.2.2.2 hb.size⟩
theorem CInv.alloc (h : CInv w T S wr) (o : Obj) : CInv w T S (wr.alloc o) := h.below ((Below.refl _ _).alloc (Nat.le_refl _) _)
theorem CInv.drew (h : CInv w T S wr) : CInv w T S wr.drew := ⟨h.1.drew, h.2.1, h.2.2.1.drew, h.2.2.2⟩
theorem CInv.arc (h : CInv w T S wr) (hg : wr.grownBy wr' (some (w.heap.size + 1))) (ha : Arr2 wr' (w.heap.size + 1)) : CInv w T S wr' :=
  ⟨h.1.kept hg (Or.inr (fun e => by simp [Value.ownBlock] at e)), ha, h.2.2.1.grown hg (by have := h.2.2.2; omega) (fun k hk => by injection hk with hk; omega), Nat.le_trans h.2.2.2 hg.size⟩
end

theorem arcSpans_le {T : Nat} {a b : List Sp} (ha : a.length ≤ 7200) (hb : b.length ≤ 7200) : (arcSpans T (arcsOf a b)).length ≤ 103680000 := by
  have h1 := arcSpans_len T (arcsOf a b)
  rw [arcsOf_len] at h1
  have := Nat.mul_le_mul ha hb
  omega

theorem dep_facts {S : List Sp} (h : ∀ s ∈ S, 0 ≤ s.1 ∧ s.1 < s.2) (k : Nat) : 0 ≤ dep S k ∧ dep S k ≤ S.length ∧ (0 < dep S k ↔ was (memN S) k = true) := by
  cases k with
  | zero => simp [dep, was]
  | succ k =>
    rw [dep_cover h]
    have h1 := cover_nonneg S k
    have h2 := cover_pos S k
    exact ⟨h1.1, h1.2, h2⟩

set_option maxHeartbeats 4000000 in
set_option maxRecDepth 100000 in
theorem sumByCounts_any (T : Nat) (A B : Option Addr) (c d : Nat) (a b : List Sp) (w : World) (ha : Lst encS 2 w w.heap.size A a) (hb : Lst encS 2 w w.heap.size B b) (h1 : 1 ≤ T) (h2 : T ≤ 7200)
    (va : validFrom T (-1) a = true) (vb : validFrom T (-1) b = true) :
    Calls Try.prog 87 #[.int .i64 T, .slice A a.length c, .slice B b.length d] w fun e w' =>
      ∃ v, e = .returned v ∧ OwnS w' w.heap.size v (runs (memN (arcSpans T (arcsOf a b))) T) ∧ Below w.heap.size w w' := by
  have la := valid_length va (by omega)
  have lb := valid_length vb (by omega)
  have HVa := Lib.hid va
  have HVb := Lib.hid vb
  clear va vb
  have hmk := makeInts (T + 1) (by omega)
  rw [show ((T + 1 : Nat) : Int) = (T : Int) + 1 by omega] at hmk
  have hinv0 : CInv w T [] ((w.alloc (.cells (madeCells #[.int .i64 0] (T + 1)) 3)).alloc (.cells #[.int .i64 0, .int .i64 0, .int .i64 0, .int .i64 0] 122)) :=
    ⟨(Own.ints w (T + 1) (by omega)).alloc _, by have := arr0 (w.alloc (.cells (madeCells #[.int .i64 0] (T + 1)) 3)); simpa using this, ((Below.refl _ _).alloc (Nat.le_refl _) _).alloc (by simp) _, by simp⟩
  go_enter Try.func87, Try.ntmps87
  go_wp2_with fail
  generalize (w.alloc (.cells (madeCells #[.int .i64 0] (T + 1)) 3)).alloc (.cells #[.int .i64 0, .int .i64 0, .int .i64 0, .int .i64 0] 122) = w0 at *
  go_loopg [25, 31, 52] a.length (fun g s25 s31 s52 wr => ∃ i : Nat, i ≤ a.length ∧ g = a.length - i ∧ s25 = .int .i64 i ∧ CInv w T (arcSpans T (arcsOf (a.take i) b)) wr)
  case atStart => exact ⟨0, by omega, by omega, rfl, by simpa [arcsOf, arcSpans] using hinv0⟩
  case round =>
    obtain ⟨i, hi, hg, rfl, hinv⟩ := hrel
    by_cases hlt : i < a.length
    · have HA := Lib.hid (arcs_step (b := b) hlt)
      obtain ⟨ba, oa, rfl, hba, ca0, ca1⟩ := ha.sp i hlt
      obtain ⟨va1, va2, va3⟩ := valid_at HVa.out hlt (by omega)
      generalize a[i] = s at *
      obtain ⟨sf, se⟩ := s
      simp only at ca0 ca1 va1 va2 va3
      have da0 := (hinv.2.2.1.cell (p := ⟨ba, oa + i * 2, none⟩) hba).trans ca0
      have da1 := (hinv.2.2.1.cell (p := ⟨ba, oa + i * 2 + 1, none⟩) hba).trans ca1
      have hz := hinv.2.2.2
      have hW := hinv.alloc (.cells #[.int .i64 sf, .int .i64 se] 46)
      have k0 : (wr.alloc (.cells #[.int .i64 sf, .int .i64 se] 46)).cell? ⟨wr.heap.size, 0, none⟩ = some (.int .i64 sf) := by rw [World.cell?_alloc_at _ _ _ _ rfl]; rfl
      have k1 : (wr.alloc (.cells #[.int .i64 sf, .int .i64 se] 46)).cell? ⟨wr.heap.size, 1, none⟩ = some (.int .i64 se) := by rw [World.cell?_alloc_at _ _ _ _ rfl]; rfl
      have hzW : wr.heap.size < (wr.alloc (.cells #[.int .i64 sf, .int .i64 se] 46)).heap.size := by simp
      go_wp2_with fail
      generalize wr.alloc (.cells #[.int .i64 sf, .int .i64 se] 46) = W at *
      clear da0 da1 hinv
      generalize wr.heap.size = gs at *
      clear wr
      go_loopg [31, 52] b.length (fun g s31 s52 wr => ∃ j : Nat, j ≤ b.length ∧ g = b.length - j ∧ s31 = .int .i64 j ∧ CInv w T (arcSpans T (arcsOf (a.take i) b ++ rowArcs (b.take j) (sf, se))) wr ∧
        wr.cell? ⟨gs, 0, none⟩ = some (.int .i64 sf) ∧ wr.cell? ⟨gs, 1, none⟩ = some (.int .i64 se) ∧ gs < wr.heap.size)
      case atStart => exact ⟨0, by omega, by omega, rfl, by simpa [rowArcs] using hW, k0, k1, hzW⟩
      case round =>
        obtain ⟨j, hj, hg', rfl, hinv, k0', k1', hzr⟩ := hrel
        clear k0 k1 hzW
        by_cases hlt' : j < b.length
        · have HR := Lib.hid (row_step (s := (sf, se)) hlt')
          obtain ⟨bb, ob, rfl, hbb, cb0, cb1⟩ := hb.sp j hlt'
          obtain ⟨vb1, vb2, vb3⟩ := valid_at HVb.out hlt' (by omega)
          generalize b[j] = u at *
          obtain ⟨uf, ue⟩ := u
          simp only at cb0 cb1 vb1 vb2 vb3
          have db0 := (hinv.2.2.1.cell (p := ⟨bb, ob + j * 2, none⟩) hbb).trans cb0
          have db1 := (hinv.2.2.1.cell (p := ⟨bb, ob + j * 2 + 1, none⟩) hbb).trans cb1
          have hW' := (hinv.alloc (.cells #[.int .i64 uf, .int .i64 ue] 46)).drew
          have m0 : (wr.alloc (.cells #[.int .i64 uf, .int .i64 ue] 46)).cell? ⟨wr.heap.size, 0, none⟩ = some (.int .i64 uf) := by rw [World.cell?_alloc_at _ _ _ _ rfl]; rfl
          have m1 : (wr.alloc (.cells #[.int .i64 uf, .int .i64 ue] 46)).cell? ⟨wr.heap.size, 1, none⟩ = some (.int .i64 ue) := by rw [World.cell?_alloc_at _ _ _ _ rfl]; rfl
          have n0 : (wr.alloc (.cells #[.int .i64 uf, .int .i64 ue] 46)).cell? ⟨gs, 0, none⟩ = some (.int .i64 sf) := (((Below.refl wr.heap.size wr).alloc (Nat.le_refl _) _).cell (p := ⟨gs, 0, none⟩) hzr).trans k0'
          have n1 : (wr.alloc (.cells #[.int .i64 uf, .int .i64 ue] 46)).cell? ⟨gs, 1, none⟩ = some (.int .i64 se) := (((Below.refl wr.heap.size wr).alloc (Nat.le_refl _) _).cell (p := ⟨gs, 1, none⟩) hzr).trans k1'
          have hzW : wr.heap.size < (wr.alloc (.cells #[.int .i64 uf, .int .i64 ue] 46)).heap.size := by simp
          go_wp2_with fail
          generalize wr.alloc (.cells #[.int .i64 uf, .int .i64 ue] 46) = W2 at *
          clear db0 db1 k0' k1'
          have hgu := hinv.2.2.2
          clear hinv
          generalize wr.heap.size = gu at *
          clear wr
          have hgs : gs ≠ w.heap.size + 1 := by omega
          have hgu' : gu ≠ w.heap.size + 1 := by omega
          have q1 : IntKind.i64.wrap (sf + uf) = sf + uf := IntWalk.i64_in _ (by omega)
          have q2 : IntKind.i64.wrap (se - sf + (ue - uf)) = se - sf + (ue - uf) := IntWalk.i64_in _ (by omega)
          have q3 : IntKind.i64.wrap (se - sf + (ue - uf) - 1) = se - sf + (ue - uf) - 1 := IntWalk.i64_in _ (by omega)
          have htm : (sf + uf).tmod (T : Int) = (sf + uf) % T := Int.tmod_eq_emod_of_nonneg (by omega)
          have htz : ((T : Int) == 0) = false := by rw [beq_eq_false_iff_ne]; omega
          have hT0 : ¬ T = 0 := by omega
          have hT0' : ¬ (T : Int) = 0 := by omega
          have x1 := Int.emod_nonneg (sf + uf) (show (T : Int) ≠ 0 by omega)
          have x2 := Int.emod_lt_of_pos (sf + uf) (show 0 < (T : Int) by omega)
          have hl1 : ∀ W, _ := fun W => length_any sf se W (by omega) (by omega) (by omega) (by omega)
          have hl2 : ∀ W, _ := fun W => length_any uf ue W (by omega) (by omega) (by omega) (by omega)
          have hap : ∀ W, Arr2 W (w.heap.size + 1) → w.heap.size + 1 < W.heap.size → _ := fun W h h' => appendArc_arr (w.heap.size + 1) T ((sf + uf) % T) (se - sf + (ue - uf) - 1) W h h' (by omega) (by omega) x1 x2 (by omega)
          have hzs : gs < W2.drew.heap.size := Nat.lt_trans hzr hzW
          have hzu : gu < W2.drew.heap.size := hzW
          go_region_held3 (fun w' => w'.cell? ⟨gs, 0, none⟩ = some (.int .i64 sf) ∧ w'.cell? ⟨gs, 1, none⟩ = some (.int .i64 se) ∧ w'.cell? ⟨gu, 0, none⟩ = some (.int .i64 uf) ∧ w'.cell? ⟨gu, 1, none⟩ = some (.int .i64 ue))
            (exact ⟨n0, n1, m0, m1⟩)
            (first
              | (go_at_call 88; (first | refine (hl1 _).mono ?_ | refine (hl2 _).mono ?_); rintro e w1 ⟨rfl, hb1⟩
                 have n0 := (hb1.cell (p := ⟨gs, 0, none⟩) hzs).trans n0
                 have n1 := (hb1.cell (p := ⟨gs, 1, none⟩) hzs).trans n1
                 have m0 := (hb1.cell (p := ⟨gu, 0, none⟩) hzu).trans m0
                 have m1 := (hb1.cell (p := ⟨gu, 1, none⟩) hzu).trans m1
                 have hW' := hW'.below hb1
                 have hzs := Nat.lt_of_lt_of_le hzs hb1.size
                 have hzu := Nat.lt_of_lt_of_le hzu hb1.size)
              | (go_at_call 75; refine (hap _ hW'.2.1 (by have := hW'.2.2.2; omega)).mono ?_; rintro e w2 ⟨rfl, hr2, hL2, hg2⟩
                 have n0 := hg2.cell n0 (fun e => hgs (by injection e))
                 have n1 := hg2.cell n1 (fun e => hgs (by injection e))
                 have m0 := hg2.cell m0 (fun e => hgu' (by injection e))
                 have m1 := hg2.cell m1 (fun e => hgu' (by injection e))
                 have hW' := hW'.arc hg2 hr2
                 have hzs := Nat.lt_of_lt_of_le hzs hg2.size
                 have hzu := Nat.lt_of_lt_of_le hzu hg2.size))
          clear hl1 hl2 hap q1 q2 q3 htm htz hT0 hT0'
          have HN := Lib.hid (show arcSpans T (arcsOf (a.take i) b ++ rowArcs (b.take (j + 1)) (sf, se)) = arcSpans T (arcsOf (a.take i) b ++ rowArcs (b.take j) (sf, se)) ++ arc T ((sf + uf) % T) (se - sf + (ue - uf) - 1) by
            rw [HR.out, ← List.append_assoc, arcSpans_append, arcSpans_one]
            simp only [pairArc]
            rw [show se - sf + (ue - uf) - 1 = se - sf + ue - uf - 1 by omega])
          have HB := Lib.hid (arc_bounds (t := (T : Int)) (f := (sf + uf) % T) (se - sf + (ue - uf) - 1) (by omega) x1 x2)
          have lL := arc_length T ((sf + uf) % T) (se - sf + (ue - uf) - 1)
          have lS : (arcSpans T (arcsOf (a.take i) b ++ rowArcs (b.take j) (sf, se))).length ≤ 103680000 := by
            have e1 := arcSpans_len T (arcsOf (a.take i) b ++ rowArcs (b.take j) (sf, se))
            have e2 : (arcsOf (a.take i) b ++ rowArcs (b.take j) (sf, se)).length ≤ 7200 * 7200 := by
              rw [List.length_append, arcsOf_len, rowArcs, List.length_map, List.length_take, List.length_take, Nat.min_eq_left (by omega), Nat.min_eq_left (by omega)]
              have e3 : i * b.length + j ≤ (i + 1) * b.length := by rw [Nat.add_mul, Nat.one_mul]; omega
              have e4 : (i + 1) * b.length ≤ 7200 * 7200 := Nat.mul_le_mul (by omega) (by omega)
              omega
            omega
          generalize arc T ((sf + uf) % T) (se - sf + (ue - uf) - 1) = L at *
          generalize arcSpans T (arcsOf (a.take i) b ++ rowArcs (b.take j) (sf, se)) = S at *
          clear HR m0 m1 hzu vb1 vb2 vb3 x1 x2
          go_wp2_with fail
          go_loopg [52] L.length (fun g s52 wr => ∃ k : Nat, k ≤ L.length ∧ g = L.length - k ∧ s52 = .int .i64 k ∧ CInv w T (S ++ L.take k) wr ∧
            wr.heap[w.heap.size + 1]? = w2.heap[w.heap.size + 1]? ∧ wr.cell? ⟨gs, 0, none⟩ = some (.int .i64 sf) ∧ wr.cell? ⟨gs, 1, none⟩ = some (.int .i64 se) ∧ gs < wr.heap.size)
          case atStart => exact ⟨0, by omega, by omega, rfl, by simpa using hW', rfl, n0, n1, hzs⟩
          case round =>
            obtain ⟨k, hk, hg'', rfl, hinv, hh, k0', k1', hzr⟩ := hrel
            by_cases hlt'' : k < L.length
            · obtain ⟨b', o', e', _, c0, c1⟩ := hL2.sp k hlt''
              injection e' with e'
              injection e' with e1 e2
              subst e1 e2
              replace c0 := (cell_of_heap (p := ⟨w.heap.size + 1, 0 + k * 2, none⟩) hh).trans c0
              replace c1 := (cell_of_heap (p := ⟨w.heap.size + 1, 0 + k * 2 + 1, none⟩) hh).trans c1
              obtain ⟨y1, y2, y3⟩ := HB.out _ (List.getElem_mem hlt'')
              have HK := Lib.hid (show S ++ L.take (k + 1) = S ++ L.take k ++ [L[k]] by rw [List.take_succ_eq_append_getElem hlt'', List.append_assoc])
              have lK : (S ++ L.take k).length ≤ 103680002 := by rw [List.length_append, List.length_take]; omega
              generalize L[k] = p at *
              obtain ⟨f, e⟩ := p
              simp only at c0 c1 y1 y2 y3
              obtain ⟨F, rfl⟩ := Int.eq_ofNat_of_zero_le y1
              obtain ⟨E, rfl⟩ := Int.eq_ofNat_of_zero_le (show 0 ≤ e by omega)
              generalize S ++ L.take k = S' at *
              have hz := hinv.2.2.2
              have hX := hinv.alloc (.cells #[.int .i64 F, .int .i64 E] 46)
              obtain ⟨r1, r2, r3⟩ := hX.1.itAt F (by rw [intsOf_length]; omega) (chg S' F + 1)
              rw [chg_first (e := (E : Int))] at r3
              obtain ⟨r4, r5, r6⟩ := r3.itAt E (by rw [intsOf_length]; omega) (chgHalf S' ((F : Int), (E : Int)) E - 1)
              rw [chg_second] at r6
              rw [intsOf_get] at r1 r4
              have bd1 := chg_bound S' F
              have bd2 := chg_bound S' E
              have bd3 : chgHalf S' ((F : Int), (E : Int)) E = chg S' E := by simp only [chgHalf, one]; rw [if_neg (by omega)]; omega
              rw [Nat.zero_add] at c0 c1
              have g1 : ¬ wr.heap.size = w.heap.size := by omega
              have g2 : ¬ w.heap.size = wr.heap.size := by omega
              have k0'' : (wr.alloc (.cells #[.int .i64 F, .int .i64 E] 46)).cell? ⟨gs, 0, none⟩ = some (.int .i64 sf) := (((Below.refl wr.heap.size wr).alloc (Nat.le_refl _) _).cell (p := ⟨gs, 0, none⟩) hzr).trans k0'
              have k1'' : (wr.alloc (.cells #[.int .i64 F, .int .i64 E] 46)).cell? ⟨gs, 1, none⟩ = some (.int .i64 se) := (((Below.refl wr.heap.size wr).alloc (Nat.le_refl _) _).cell (p := ⟨gs, 1, none⟩) hzr).trans k1'
              have hh' : (wr.alloc (.cells #[.int .i64 F, .int .i64 E] 46)).heap[w.heap.size + 1]? = w2.heap[w.heap.size + 1]? := (((Below.refl wr.heap.size wr).alloc (Nat.le_refl _) _).block _ (by omega)).trans hh
              rw [bd3] at r4 r6
              have R6 := Lib.hid r6
              clear r3 r6 bd3
              generalize hv1 : chg S' F = v1 at *
              generalize hv2 : chg S' E = v2 at *
              go_wp2
              go_roundg (L.length - (k + 1))
              case measure => omega
              case rel =>
                have hzrX : gs < (wr.alloc (.cells #[.int .i64 F, .int .i64 E] 46)).heap.size := by simp; omega
                generalize wr.alloc (.cells #[.int .i64 F, .int .i64 E] 46) = X at *
                have hzX := hX.2.2.1.size
                have bl : ∀ (g : Nat) (u1 u2 : Value), g ≠ w.heap.size → ((X.setCell ⟨w.heap.size, F, none⟩ u1).setCell ⟨w.heap.size, E, none⟩ u2).heap[g]? = X.heap[g]? := fun g u1 u2 hg =>
                  (Below.heap_setCell _ _ _ _ (fun e => hg e)).trans (Below.heap_setCell _ _ _ _ (fun e => hg e))
                refine ⟨k + 1, by omega, rfl, by go_num, ⟨by rw [HK.out]; exact R6.out, hX.2.1.heap (bl _ _ _ (by omega)), (hX.2.2.1.setCell (Nat.le_refl _) _).setCell (Nat.le_refl _) _, by simpa [World.setCell] using hX.2.2.2⟩,
                  (bl _ _ _ (by omega)).trans hh', (cell_of_heap (p := ⟨gs, 0, none⟩) (bl _ _ _ (by show gs ≠ _; omega))).trans k0'', (cell_of_heap (p := ⟨gs, 1, none⟩) (bl _ _ _ (by show gs ≠ _; omega))).trans k1'', ?_⟩
                simp only [World.setCell, Array.size_modify]
                omega
            · go_wp2
              go_roundg (b.length - (j + 1))
              case measure => omega
              case rel =>
                rw [List.take_of_length_le (by omega), ← HN.out] at hinv
                exact ⟨j + 1, by omega, rfl, by go_num, hinv, k0', k1', hzr⟩
        · go_wp2
          go_roundg (a.length - (i + 1))
          case measure => omega
          case rel =>
            rw [List.take_of_length_le (l := b) (by omega), ← HA.out] at hinv
            exact ⟨i + 1, by omega, rfl, by go_num, hinv⟩
    · rw [List.take_of_length_le (by omega)] at hinv
      have lS : (arcSpans T (arcsOf a b)).length ≤ 103680000 := arcSpans_le (by omega) (by omega)
      have HB := Lib.hid (arcSpans_bounds (t := T) (by omega) (arcsOf a b))
      generalize hS : arcSpans T (arcsOf a b) = S at *
      have HS := Lib.hid hS
      clear hS
      obtain ⟨hrow, _, hbw, hz⟩ := hinv
      have HD := Lib.hid (fun k => dep_facts (S := S) (fun s hs => ⟨(HB.out s hs).1, (HB.out s hs).2.1⟩) k)
      have HT : was (memN S) (T + 1) = false := by
        show mem S (T : Int) = false
        rw [Bool.eq_false_iff]
        intro hm
        obtain ⟨s, hs, _, _⟩ := mem_iff.1 hm
        have := (HB.out s hs).2.2
        omega
      have HE := Lib.hid (show openL (memN S) (T + 1) = runs (memN S) T by
        rw [openL_shut HT]
        have hP : memN S T = false := HT
        simp [runs, hP])
      clear HT HB
      go_wp2
      obtain ⟨wL, rfl⟩ : ∃ wL : World, wL = wr := ⟨_, rfl⟩
      go_loopg [15, 16, 17, 18, 19, 75, 84, 96] (T + 1) (fun g s15 s16 s17 s18 s19 s75 s84 s96 wr => ∃ k : Nat, k ≤ T + 1 ∧ g = T + 1 - k ∧ s75 = .int .i64 k ∧ s16 = .int .i64 (dep S k) ∧
        OwnS wr wL.heap.size s15 (openL (memN S) k) ∧ Below wL.heap.size wL wr)
      case atStart => exact ⟨0, by omega, by omega, rfl, rfl, Own.nil _ _ _ _ _, Below.refl _ _⟩
      case round =>
        obtain ⟨k, hk, hg', rfl, rfl, hox, hb'⟩ := hrel
        by_cases hlt' : k < T + 1
        · have r1 := (hrow.itAt k (by rw [intsOf_length]; omega) 0).1
          rw [intsOf_get] at r1
          replace r1 := (hb'.cell (p := ⟨w.heap.size, k, none⟩) (by show w.heap.size < _; omega)).trans r1
          obtain ⟨d1, d2, d3⟩ := HD.out k
          obtain ⟨d4, d5, d6⟩ := HD.out (k + 1)
          have hdd : dep S (k + 1) = dep S k + chg S k := rfl
          rw [hdd] at d4 d5 d6
          have hP : was (memN S) (k + 1) = memN S k := rfl
          rw [hP] at d6
          have hol := openL_len (memN S) k
          have hzr := hb'.size
          cases h3 : was (memN S) k with
          | false =>
            have e0 : dep S k = 0 := by
              have : ¬ 0 < dep S k := fun h => by have := d3.1 h; rw [h3] at this; simp at this
              omega
            cases h4 : memN S k with
            | false =>
              have e1 : dep S k + chg S k = 0 := by
                have : ¬ 0 < dep S k + chg S k := fun h => by have := d6.1 h; rw [h4] at this; simp at this
                omega
              have HO := Lib.hid (openL_off h3 h4)
              have HX := Lib.hid hdd
              clear hdd hP d1 d2 d3 d4 d5 d6 h3 h4
              generalize dep S k = D at *
              generalize chg S k = C at *
              subst e0
              obtain rfl : C = 0 := by omega
              clear e1
              go_wp2
              go_roundg (T + 1 - (k + 1))
              case measure => omega
              case rel => exact ⟨k + 1, by omega, rfl, by go_num, by rw [HX.out]; rfl, by rw [HO.out]; exact hox, hb'⟩
            | true =>
              have e1 : 0 < dep S k + chg S k := d6.2 h4
              have HO := Lib.hid (openL_begin h3 h4)
              have HX := Lib.hid hdd
              clear hdd hP d1 d2 d3 d6 h3 h4
              generalize dep S k = D at *
              generalize chg S k = C at *
              subst e0
              have e2 : 0 < C := by omega
              have e3 : (C > 0) = True := by simp [e2]
              have e4 : decide (C > 0) = true := by simp [e2]
              have e5 : decide (0 < C) = true := by simp [e2]
              have e6 : IntKind.i64.wrap (0 + C) = C := by rw [Int.zero_add]; exact IntWalk.i64_in _ (by omega)
              clear d4
              go_wp2_with (at_builtin; refine wpList_append_rec rfl _ _ 40 rfl wL.heap.size 46 16 Try.underlying40 elemS _ _ rfl hox [((k : Int), 0)] _ rfl 1 1 rfl rfl (by simp only [maxLen, List.length_cons, List.length_nil]; omega) (by simp only [List.length_cons, List.length_nil]; omega) hzr ?_; intro v1 w1 ho1 hg1 hat1)
              go_roundg (T + 1 - (k + 1))
              case measure => omega
              case rel => exact ⟨k + 1, by omega, rfl, by go_num, by rw [HX.out, Int.zero_add], by rw [HO.out]; exact ho1, hb'.grown hg1 hzr (hox.le (Nat.le_refl _))⟩
          | true =>
            have e0 : 0 < dep S k := d3.2 h3
            have e7 : decide (dep S k > 0) = true := by simp [e0]
            have e8 : (dep S k == 0) = false := by rw [beq_eq_false_iff_ne]; omega
            have e9 : decide (dep S k = 0) = false := by simp; omega
            cases h4 : memN S k with
            | false =>
              have e1 : dep S k + chg S k = 0 := by
                have : ¬ 0 < dep S k + chg S k := fun h => by have := d6.1 h; rw [h4] at this; simp at this
                omega
              obtain ⟨r, f, _, e2⟩ := openL_open h3
              have HO := Lib.hid (openL_end h3 h4 e2)
              have HX := Lib.hid hdd
              rw [e2] at hox hol
              clear hdd hP d3 d4 d5 d6 h3 h4 e2
              generalize dep S k = D at *
              generalize chg S k = C at *
              obtain rfl : C = -D := by omega
              have e3 : D + -D = 0 := by omega
              obtain ⟨gx, cx, rfl, _, hgx, hcx, hcc, hfx⟩ := hox.at_ encS_len (by simp)
              have hc1 := hcc r.length (f, 0) (by simp) 1 _ rfl
              have hle := hox.le (Nat.le_refl _) gx rfl
              have hst := hox.stored encS_len r.length 1 (.int .i64 k) (f, (k : Int)) (by simp) (by omega) (by simp [encS])
              have hfx1 := hfx (r.length * 2 + 1)
              rw [List.length_append, List.length_cons, List.length_nil] at hol hcx
              have el : ((r ++ [(f, (0 : Int))]).length : Int) = (r.length : Int) + 1 := by simp
              have hset : (r ++ [(f, (0 : Int))]).set r.length (f, (k : Int)) = r ++ [(f, (k : Int))] := by simp
              rw [hset] at hst
              have en : (r ++ [(f, (0 : Int))]).length = r.length + 1 := by simp
              rw [en] at hst ⊢
              have HST := Lib.hid hst
              clear hst hset hcc hfx hox
              go_wp2
              go_roundg (T + 1 - (k + 1))
              case measure => omega
              case rel => exact ⟨k + 1, by omega, rfl, by go_num, by rw [HX.out, e3], by rw [HO.out]; exact HST.out.1, hb'.setCell hle _⟩
            | true =>
              have e1 : 0 < dep S k + chg S k := d6.2 h4
              have HO := Lib.hid (openL_on h3 h4)
              have HX := Lib.hid hdd
              clear hdd hP d3 d6 h3 h4
              generalize dep S k = D at *
              generalize chg S k = C at *
              have e2 : (D + C == 0) = false := by rw [beq_eq_false_iff_ne]; omega
              have e3 : decide (D + C = 0) = false := by simp; omega
              have e4 : IntKind.i64.wrap (D + C) = D + C := IntWalk.i64_in _ (by omega)
              go_wp2
              go_roundg (T + 1 - (k + 1))
              case measure => omega
              case rel => exact ⟨k + 1, by omega, rfl, by go_num, by rw [HX.out], by rw [HO.out]; exact hox, hb'⟩
        · obtain rfl : k = T + 1 := by omega
          rw [HE.out] at hox
          go_wp2
          go_ret
          exact ⟨_, rfl, by rw [HS.out]; exact hox.rebase (b' := w.heap.size) (by omega), hbw.trans (hb'.mono (by omega))⟩

end Go.Proofs.Ytbhjnihcmfagjaa
