/-
  Contract of the reference's Sum: the residues of all arcs of two spans.
-/
import Derived.Test.YtbhjnihcmfagjaaRefSet
set_option linter.unusedVariables false
set_option linter.unusedSimpArgs false
namespace Go.Proofs.Ytbhjnihcmfagjaa
open Go.RowKit RP

/-- The arcs of all pairs of spans: first residue and number. -/
def pairArc (s u : Sp) : Int × Int := (s.1 + u.1, s.2 - s.1 + u.2 - u.1 - 1)
def rowArcs (b : List Sp) (s : Sp) : List (Int × Int) := b.map (pairArc s)
def arcsOf (a b : List Sp) : List (Int × Int) := a.flatMap (rowArcs b)
/-- A residue of one of the arcs. -/
def marked (t : Nat) (l : List (Int × Int)) (x : Nat) : Bool := l.any fun p => arcB t (p.1 % t) p.2 x
def sumL (t : Nat) (a b : List Sp) : List Sp := if badI t a b = 0 then runs (marked t (arcsOf a b)) t else []

def markedMore (t : Nat) (l : List (Int × Int)) (f n : Int) (x : Nat) : Bool := marked t l x || arcB t f n x

theorem markedMore_step {T : Nat} {l : List (Int × Int)} {f : Int} {k : Nat} (h2 : 0 ≤ f) (h3 : f < T) (hk : k < T) :
    (bitsOf T (markedMore T l f k)).set ((f + k) % T).toNat true = bitsOf T (markedMore T l f ((k : Int) + 1)) := by
  have h := arcB_step (t := T) (f := f) (k := k) h2 h3 hk
  rw [bitsOf_set] at h ⊢
  refine bitsOf_congr fun x hx => ?_
  have hx' : (if x = ((f + k) % T).toNat then true else arcB T f k x) = arcB T f ((k : Int) + 1) x := by
    have := congrArg (fun l => l[x]?) h
    simpa [bitsOf, hx] using this
  unfold markedMore
  rw [← hx']
  split <;> simp

theorem markedMore_zero (T : Nat) (l : List (Int × Int)) (f : Int) (h : 1 ≤ T) : bitsOf T (marked T l) = bitsOf T (markedMore T l f ((0 : Nat) : Int)) :=
  bitsOf_congr fun x _ => by
    have := Int.emod_nonneg ((x : Int) - f) (show (T : Int) ≠ 0 by omega)
    have h0 : arcB T f ((0 : Nat) : Int) x = false := by simp [arcB]; omega
    rw [markedMore, h0, Bool.or_false]

theorem arcB_cap {T : Nat} {f n : Int} {k : Nat} {x : Nat} (h : 1 ≤ T) (hk : k ≤ T) (hn : (k : Int) ≤ max n 0) (hend : ¬ ((k : Int) < n ∧ k < T)) : arcB T f k x = arcB T f n x := by
  have h1 := Int.emod_nonneg ((x : Int) - f) (show (T : Int) ≠ 0 by omega)
  have h2 := Int.emod_lt_of_pos ((x : Int) - f) (show 0 < (T : Int) by omega)
  simp [arcB]
  omega

theorem marked_snoc (T : Nat) (l : List (Int × Int)) (p : Int × Int) (x : Nat) : marked T (l ++ [p]) x = (marked T l x || arcB T (p.1 % T) p.2 x) := by
  simp [marked, List.any_append]

theorem row_step {b : List Sp} {s : Sp} {j : Nat} (hj : j < b.length) : rowArcs (b.take (j + 1)) s = rowArcs (b.take j) s ++ [pairArc s b[j]] := by
  rw [List.take_succ_eq_append_getElem hj]
  simp only [rowArcs, List.map_append, List.map_cons, List.map_nil]
theorem arcs_step {a b : List Sp} {i : Nat} (hi : i < a.length) : arcsOf (a.take (i + 1)) b = arcsOf (a.take i) b ++ rowArcs b a[i] := by
  rw [List.take_succ_eq_append_getElem hi]
  simp only [arcsOf, List.flatMap_append, List.flatMap_cons, List.flatMap_nil, List.append_nil]

set_option maxHeartbeats 4000000 in
set_option maxRecDepth 100000 in
theorem refSum_any (T : Nat) (A B : Option Addr) (c d : Nat) (a b : List Sp) (w : World) (ha : Lst encS 2 w w.heap.size A a) (hb : Lst encS 2 w w.heap.size B b) (h1 : 1 ≤ T) (h2 : T ≤ 7200)
    (hn : a.length ≤ 9223372036854775807) (hn' : b.length ≤ 9223372036854775807) :
    Calls Try.prog 22 #[.int .i64 T, .slice A a.length c, .slice B b.length d] w fun e w' =>
      ∃ v, e = .returned (.tuple #[v, .int .i64 (badI T a b)]) ∧ OwnS w' w.heap.size v (sumL T a b) ∧ Below w.heap.size w w' := by
  have hbad := bad_any T A B c d a b w ha hb hn hn'
  by_cases h0 : badI T a b = 0
  · obtain ⟨va, vb⟩ := badI_zero h0
    have HVa := Lib.hid va
    have HVb := Lib.hid vb
    have H := Lib.hid h0
    rw [h0] at hbad
    have HE := Lib.hid (show sumL T a b = runs (marked T (arcsOf a b)) T by simp [sumL, h0])
    clear h0 va vb
    have hmk := makeBools T (by omega)
    go_enter Try.func22, Try.ntmps22
    go_wp2_with fail
    refine hbad.mono ?_
    rintro e w1 ⟨rfl, hb1⟩
    have s1 := hb1.size
    have hown0 := Own.bools w1 T (by omega)
    go_wp2_with fail
    go_loopg [10, 11, 12, 13, 14] a.length (fun g s10 s11 s12 s13 s14 wr => ∃ i : Nat, i ≤ a.length ∧ g = a.length - i ∧ s10 = .int .i64 i ∧
      Own encB 1 4 wr w1.heap.size (.slice (some ⟨w1.heap.size, 0, none⟩) T T) (bitsOf T (marked T (arcsOf (a.take i) b))) ∧ Below w1.heap.size w1 wr)
    case atStart => exact ⟨0, by omega, by omega, rfl, hown0, (Below.refl _ _).alloc (Nat.le_refl _) _⟩
    case round =>
      obtain ⟨i, hi, hg, rfl, hox, hbr⟩ := hrel
      by_cases hlt : i < a.length
      · obtain ⟨wo, rfl⟩ : ∃ wo : World, wo = wr := ⟨_, rfl⟩
        have HA := Lib.hid (arcs_step (b := b) hlt)
        obtain ⟨ba, oa, rfl, hba, ca0, ca1⟩ := ha.sp i hlt
        obtain ⟨va1, va2, va3⟩ := valid_at HVa.out hlt (by omega)
        generalize a[i] = s at *
        obtain ⟨sf, se⟩ := s
        simp only at ca0 ca1 va1 va2 va3
        go_wp2_with fail
        go_loopg [11, 12, 13, 14] b.length (fun g s11 s12 s13 s14 wr => ∃ j : Nat, j ≤ b.length ∧ g = b.length - j ∧ s11 = .int .i64 j ∧
          Own encB 1 4 wr w1.heap.size (.slice (some ⟨w1.heap.size, 0, none⟩) T T) (bitsOf T (marked T (arcsOf (a.take i) b ++ rowArcs (b.take j) (sf, se)))) ∧ Below w1.heap.size w1 wr)
        case atStart => exact ⟨0, by omega, by omega, rfl, by simpa [rowArcs] using hox, hbr⟩
        case round =>
          obtain ⟨j, hj, hg', rfl, hox', hbr'⟩ := hrel
          by_cases hlt' : j < b.length
          · have HR := Lib.hid (row_step (s := (sf, se)) hlt')
            obtain ⟨bb, ob, rfl, hbb, cb0, cb1⟩ := hb.sp j hlt'
            obtain ⟨vb1, vb2, vb3⟩ := valid_at HVb.out hlt' (by omega)
            generalize b[j] = u at *
            obtain ⟨uf, ue⟩ := u
            simp only at cb0 cb1 vb1 vb2 vb3
            obtain ⟨wp, rfl⟩ : ∃ wp : World, wp = wr := ⟨_, rfl⟩
            have hbw' := hb1.trans (hbr'.mono s1)
            have da0 := (hbw'.cell (p := ⟨ba, oa + i * 2, none⟩) hba).trans ca0
            have da1 := (hbw'.cell (p := ⟨ba, oa + i * 2 + 1, none⟩) hba).trans ca1
            have db0 := (hbw'.cell (p := ⟨bb, ob + j * 2, none⟩) hbb).trans cb0
            have db1 := (hbw'.cell (p := ⟨bb, ob + j * 2 + 1, none⟩) hbb).trans cb1
            clear hbw'
            have q1 : IntKind.i64.wrap (se - sf) = se - sf := IntWalk.i64_in _ (by omega)
            have q2 : IntKind.i64.wrap (se - sf + ue) = se - sf + ue := IntWalk.i64_in _ (by omega)
            have q3 : IntKind.i64.wrap (se - sf + ue - uf) = se - sf + ue - uf := IntWalk.i64_in _ (by omega)
            have q4 : IntKind.i64.wrap (se - sf + ue - uf - 1) = se - sf + ue - uf - 1 := IntWalk.i64_in _ (by omega)
            have q5 : IntKind.i64.wrap (sf + uf) = sf + uf := IntWalk.i64_in _ (by omega)
            have hi1 : (i : Int) < (a.length : Int) := by omega
            have hj1 : (j : Int) < (b.length : Int) := by omega
            have htm : (sf + uf).tmod (T : Int) = (sf + uf) % T := Int.tmod_eq_emod_of_nonneg (by omega)
            have htz : ((T : Int) == 0) = false := by rw [beq_eq_false_iff_ne]; omega
            go_wp2_with fail
            go_quiet (fail)
            go_wp2_with fail
            go_quiet (fail)
            clear q1 q2 q3 q4 q5
            clear da0 da1 db0 db1 htm hi1 hj1
            have HP := Lib.hid (show pairArc (sf, se) (uf, ue) = (sf + uf, se - sf + ue - uf - 1) from rfl)
            have hx1 := Int.emod_nonneg (sf + uf) (show (T : Int) ≠ 0 by omega)
            have hx2 := Int.emod_lt_of_pos (sf + uf) (show 0 < (T : Int) by omega)
            have hN1 : 1 ≤ se - sf + ue - uf - 1 ∧ se - sf + ue - uf - 1 ≤ 14400 := by omega
            have hfin : ∀ k : Nat, k ≤ T → (k : Int) ≤ se - sf + ue - uf - 1 → ¬ ((k : Int) < se - sf + ue - uf - 1 ∧ k < T) →
                bitsOf T (markedMore T (arcsOf (a.take i) b ++ rowArcs (b.take j) (sf, se)) ((sf + uf) % T) k) = bitsOf T (marked T (arcsOf (a.take i) b ++ rowArcs (b.take (j + 1)) (sf, se))) := fun k hk hkn hend =>
              bitsOf_congr fun x _ => by
                rw [HR.out, ← List.append_assoc, marked_snoc, HP.out, markedMore, arcB_cap h1 hk (by omega) hend]
            have HF := Lib.hid hfin
            rw [markedMore_zero T _ ((sf + uf) % T) h1] at hox'
            clear hfin HR HP
            generalize se - sf + ue - uf - 1 = N at *
            generalize (sf + uf) % (T : Int) = q at *
            go_wp2_with fail
            go_loopg [13, 14] T (fun g s13 s14 wr => ∃ k : Nat, k ≤ T ∧ (k : Int) ≤ N ∧ g = T - k ∧ s14 = .int .i64 k ∧ s13 = .int .i64 ((q + k) % T) ∧
              Own encB 1 4 wr w1.heap.size (.slice (some ⟨w1.heap.size, 0, none⟩) T T) (bitsOf T (markedMore T (arcsOf (a.take i) b ++ rowArcs (b.take j) (sf, se)) q k)) ∧ Below w1.heap.size w1 wr)
            case atStart =>
              refine ⟨0, by omega, by omega, by omega, rfl, ?_, (hox'.drewN _).drewN _, below_drewN (below_drewN hbr' _) _⟩
              rw [show ((0 : Nat) : Int) = 0 from rfl, Int.add_zero, Int.emod_eq_of_lt hx1 hx2]
            case round =>
              obtain ⟨k, hk, hkN, hg'', rfl, rfl, ho, hbk⟩ := hrel
              by_cases hend : (k : Int) < N ∧ k < T
              · obtain ⟨e1, e2⟩ := hend
                have HN := Lib.hid (show ((q + k) % T + 1) % T = (q + ((k + 1 : Nat) : Int)) % T by rw [Int.emod_add_emod, show ((k + 1 : Nat) : Int) = (k : Int) + 1 by omega, Int.add_assoc])
                have HS := Lib.hid (markedMore_step (T := T) (l := arcsOf (a.take i) b ++ rowArcs (b.take j) (sf, se)) (f := q) (k := k) hx1 hx2 e2)
                have hy1 := Int.emod_nonneg (q + k) (show (T : Int) ≠ 0 by omega)
                have hy2 := Int.emod_lt_of_pos (q + k) (show 0 < (T : Int) by omega)
                obtain ⟨X, hX⟩ := Int.eq_ofNat_of_zero_le hy1
                rw [hX] at HN HS hy2 ⊢
                rw [Int.toNat_natCast] at HS
                obtain ⟨cx, fx, ho'⟩ := ho.boAt X (by rw [bitsOf_length]; omega) true
                rw [HS.out] at ho'
                have HO := Lib.hid ho'
                clear ho' hX hy1 HS
                go_wp2
                go_roundg (T - (k + 1))
                case measure => omega
                case rel => exact ⟨k + 1, by omega, by omega, rfl, by go_num, by rw [← HN.out], HO.out, hbk.setCell (Nat.le_refl _) _⟩
              · have hf := HF.out k hk hkN hend
                rw [hf] at ho
                clear hf
                generalize (q + k) % (T : Int) = X at *
                by_cases e1 : (k : Int) < N
                all_goals
                  go_wp2
                  go_roundg (b.length - (j + 1))
                  case measure => omega
                  case rel => exact ⟨j + 1, by omega, rfl, by go_num, ho, hbk⟩
          · go_wp2
            go_roundg (a.length - (i + 1))
            case measure => omega
            case rel =>
              refine ⟨i + 1, by omega, rfl, by go_num, ?_, hbr'⟩
              rw [HA.out]
              rw [List.take_of_length_le (l := b) (i := j) (by omega)] at hox'
              exact hox'
      · have sr := hbr.size
        rw [List.take_of_length_le (by omega)] at hox
        have hsp := spans_bits wr w1.heap.size w1.heap.size T T _ (by omega) hox
        go_wp2_with (go_at_call 47; refine hsp.mono ?_; rintro e w4 ⟨v, rfl, ho4, hb4⟩)
        go_ret2
        exact ⟨_, by rw [H.out]; rfl, by rw [HE.out]; exact ho4.rebase (by omega), hb1.trans ((hbr.mono s1).trans (hb4.mono (by omega)))⟩
  · have hne : (badI T a b != 0) = true := by simp [h0]
    have HE := Lib.hid (show sumL T a b = [] by simp [sumL, h0])
    clear h0
    generalize badI T a b = E at *
    go_enter Try.func22, Try.ntmps22
    go_wp2_with (go_at_call 46; refine hbad.mono ?_; rintro e w1 ⟨rfl, hb1⟩)
    go_ret2
    exact ⟨_, rfl, by rw [HE.out]; exact Own.nil _ _ _ _ _, hb1⟩

end Go.Proofs.Ytbhjnihcmfagjaa
