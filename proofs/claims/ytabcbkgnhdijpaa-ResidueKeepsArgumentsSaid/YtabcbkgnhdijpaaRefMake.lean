/-
  Contract of the reference's Make: it returns the same set and error as Make.
-/
import Derived.Test.YtabcbkgnhdijpaaSpans
import Derived.Deep.OwnRows
set_option linter.unusedVariables false
set_option linter.unusedSimpArgs false
namespace Go.Proofs.Ytabcbkgnhdijpaa
open Go.RowKit RP

theorem bitAt_bitsOf {t : Nat} {P : Nat → Bool} {i : Nat} (h : i < t) : bitAt (bitsOf t P) i = P i := by simp [bitAt, bitsOf, h]
theorem runs_bits (t : Nat) (P : Nat → Bool) : runs (bitAt (bitsOf t P)) (bitsOf t P).length = runs P t := by
  rw [bitsOf_length]
  exact runs_congr fun x hx => bitAt_bitsOf hx

theorem infoBool : (Try.prog.info? 4).map (fun i => (i.zero, i.size, i.bytes)) = some (some (.bool false), 1, 1) := by kernel_rfl

/-- make([]bool, t). -/
theorem makeBools (t : Nat) (h : t ≤ 4294967296) : ∀ w : World, (Instr.makeSlice 57 (.int .i64 (t : Int)) (.int .i64 (t : Int))).run Try.prog w =
    .ok (.slice (some ⟨w.heap.size, 0, none⟩) t t) (w.alloc (.cells (madeCells #[.bool false] t) 4)) :=
  fun w => run_make_row' 57 4 (.bool false) 1 Try.underlying57 infoBool rfl .i64 .i64 t (by omega) (by omega) w

theorem flat_bools : ∀ t : Nat, (List.replicate t false).flatMap encB = List.replicate t (.bool false)
  | 0 => rfl
  | t + 1 => by rw [List.replicate_succ, List.flatMap_cons, flat_bools t, List.replicate_succ]; rfl

theorem Own.bools (w : World) (t : Nat) (h : t ≤ 4294967296) : Own encB 1 4 (w.alloc (.cells (madeCells #[.bool false] t) 4)) w.heap.size (.slice (some ⟨w.heap.size, 0, none⟩) t t) (bitsOf t fun _ => false) := by
  refine Own.lit w _ _ _ _ _ (by rw [bitsOf_length]) encB_len ?_ (Nat.le_refl _) (by rw [bitsOf_length]; simp only [Go.maxLen]; omega)
  rw [madeCells_toList, ← bitsOf_false, flat_bools]

/-- A row of bools: a cell, that it may be written, and the row behind the store. -/
theorem Own.boAt {w : World} {base g n c : Nat} {l : List Bool} (h : Own encB 1 4 w base (.slice (some ⟨g, 0, none⟩) n c) l) (i : Nat) (hi : i < l.length) (b : Bool) :
    w.cell? ⟨g, i, none⟩ = some (.bool l[i]) ∧ w.frozen? ⟨g, i, none⟩ = false ∧ Own encB 1 4 (w.setCell ⟨g, i, none⟩ (.bool b)) base (.slice (some ⟨g, 0, none⟩) n c) (l.set i b) := by
  obtain ⟨g', c', hv, _, _, _, hc, hf⟩ := h.at_ encB_len (by intro h0; subst h0; simp at hi)
  injection hv with hv
  simp only [Option.some.injEq, Addr.mk.injEq, and_true] at hv
  subst hv
  have h1 := hc i l[i] (List.getElem?_eq_getElem hi) 0 _ rfl
  have h2 := (h.stored encB_len i 0 (.bool b) b hi (by omega) rfl).1
  rw [Nat.mul_one, Nat.add_zero] at h1 h2
  exact ⟨h1, hf i, h2⟩

theorem makeL_eq {t : Nat} {f n : Int} (h1 : 1 ≤ t) (h2 : t ≤ 7200) : makeL t f n = runs (arcB t (modI f t) n) t := by
  have hr : inRange (t : Int) = true := by simp [inRange]; omega
  have := modI_range f t (by omega)
  rw [makeL, hr, if_pos rfl]
  exact arc_eq n h1 this.1 this.2

/-- spans at a row of marks of the caller's own. -/
theorem spans_bits (W : World) (base g c : Nat) (T : Nat) (P : Nat → Bool) (hT : T ≤ 4294967296) (ho : Own encB 1 4 W base (.slice (some ⟨g, 0, none⟩) T c) (bitsOf T P)) :
    Calls Try.prog 47 #[.slice (some ⟨g, 0, none⟩) T c] W fun e w' => ∃ v, e = .returned v ∧ OwnS w' W.heap.size v (runs P T) ∧ Below W.heap.size W w' := by
  have h := spans_any (some ⟨g, 0, none⟩) c (bitsOf T P) W (ho.lst encB_len) (by rw [bitsOf_length]; exact hT)
  rw [runs_bits, bitsOf_length] at h
  exact h

set_option maxHeartbeats 2000000 in
theorem refMake_any (t f n : Int) (w : World) (t1 : -9223372036854775808 ≤ t) (t2 : t ≤ 9223372036854775807) (n2 : n ≤ 9223372036854775807) :
    Calls Try.prog 16 #[.int .i64 t, .int .i64 f, .int .i64 n] w fun e w' =>
      ∃ v, e = .returned (.tuple #[v, .int .i64 (rangeErr t)]) ∧ OwnS w' w.heap.size v (makeL t f n) ∧ Below w.heap.size w w' := by
  have hbad := bad_any t none none 0 0 [] [] w Lst.nil Lst.nil (by simp) (by simp)
  simp only [List.length_nil] at hbad
  cases hr : inRange t with
  | false =>
    have e1 : badI t [] [] = 4 := by simp [badI, hr]
    have H := Lib.hid hr
    rw [e1] at hbad
    clear hr e1
    go_enter Try.func16, Try.ntmps16
    go_wp2_with (go_at_call 45; refine hbad.mono ?_; rintro e w' ⟨rfl, hb⟩)
    go_ret2
    exact ⟨_, by simp only [rangeErr, H.out]; rfl, by simp only [makeL, H.out]; exact Own.nil _ _ _ _ _, hb⟩
  | true =>
    have e1 : badI t [] [] = 0 := by simp [badI, hr, validL, validFrom]
    have H := Lib.hid hr
    rw [e1] at hbad
    have hb : 1 ≤ t ∧ t ≤ 7200 := by simpa [inRange] using hr
    clear hr e1
    obtain ⟨hb1, hb2⟩ := hb
    obtain ⟨T, rfl⟩ := Int.eq_ofNat_of_zero_le (show 0 ≤ t by omega)
    have hm := modI_range f T hb1
    have HE := Lib.hid (makeL_eq (t := T) (f := f) (n := n) (by omega) (by omega))
    generalize hq : modI f T = q at hm
    have hmod := fun W => refMod_any f T W t1 t2
    rw [hq] at hmod HE
    clear hq
    obtain ⟨hm1, hm2⟩ := hm
    have hmk := makeBools T (by omega)
    go_enter Try.func16, Try.ntmps16
    go_wp2_with (first
      | (go_at_call 45; refine hbad.mono ?_; rintro e w1 ⟨rfl, hbw⟩)
      | (go_at_call 46; refine (hmod _).mono ?_; rintro e w' ⟨rfl, rfl⟩))
    have hown0 := Own.bools w1 T (by omega)
    go_loopg [10, 11] T (fun g s10 s11 wr => ∃ k : Nat, k ≤ T ∧ (k : Int) ≤ max n 0 ∧ g = T - k ∧ s11 = .int .i64 k ∧ s10 = .int .i64 ((q + k) % T) ∧
      Own encB 1 4 wr w1.heap.size (.slice (some ⟨w1.heap.size, 0, none⟩) T T) (bitsOf T (arcB T q k)) ∧ Below w1.heap.size w1 wr)
    case atStart =>
      refine ⟨0, by omega, by omega, by omega, rfl, ?_, by rw [arcB_zero T q (by omega)]; exact hown0, (Below.refl _ _).alloc (Nat.le_refl _) _⟩
      rw [show ((0 : Nat) : Int) = 0 from rfl, Int.add_zero, Int.emod_eq_of_lt hm1 hm2]
    case round =>
      obtain ⟨k, hk, hkn, hg, rfl, rfl, ho, hb⟩ := hrel
      have hx1 := Int.emod_nonneg (q + k) (show (T : Int) ≠ 0 by omega)
      have hx2 := Int.emod_lt_of_pos (q + k) (show 0 < (T : Int) by omega)
      have HN := Lib.hid (show ((q + k) % T + 1) % T = (q + ((k + 1 : Nat) : Int)) % T by rw [Int.emod_add_emod, show ((k + 1 : Nat) : Int) = (k : Int) + 1 by omega, Int.add_assoc])
      by_cases hlt : k < T
      · have HS := Lib.hid (arcB_step (t := T) (f := q) (k := k) hm1 hm2 hlt)
        obtain ⟨X, hX⟩ := Int.eq_ofNat_of_zero_le hx1
        rw [hX] at HN HS hx2 ⊢
        rw [Int.toNat_natCast] at HS
        clear hX hx1
        by_cases hkn2 : (k : Int) < n
        · obtain ⟨c0, fz, ho'⟩ := ho.boAt X (by rw [bitsOf_length]; omega) true
          have HO := Lib.hid ho'
          clear ho'
          go_wp2
          go_roundg (T - (k + 1))
          case measure => omega
          case rel =>
            refine ⟨k + 1, by omega, by omega, rfl, by go_num, by rw [← HN.out], ?_, hb.setCell (Nat.le_refl _) _⟩
            have := HO.out
            rw [HS.out] at this
            exact this
        · have fin : bitsOf T (arcB T q k) = bitsOf T (arcB T q n) := by
            by_cases h0 : n ≤ 0
            · obtain rfl : k = 0 := by omega
              exact (arcB_none (by omega) h0).symm
            · rw [show n = (k : Int) by omega]
          rw [fin] at ho
          have hsp := spans_bits wr w1.heap.size w1.heap.size T T _ (by omega) ho
          have hs := hb.size
          have hs' := hbw.size
          clear fin HS HN
          go_wp2_with (go_at_call 47; refine hsp.mono ?_; rintro e w2 ⟨v, rfl, ho2, hb2⟩)
          go_ret2
          exact ⟨_, by simp only [rangeErr, H.out]; rfl, by rw [HE.out]; exact ho2.rebase (by omega), hbw.trans ((hb.mono hs').trans (hb2.mono (by omega)))⟩
      · have fin : bitsOf T (arcB T q k) = bitsOf T (arcB T q n) := by
          obtain rfl : k = T := by omega
          exact (arcB_full (by omega) (by omega)).symm
        rw [fin] at ho
        have hsp := spans_bits wr w1.heap.size w1.heap.size T T _ (by omega) ho
        have hs := hb.size
        have hs' := hbw.size
        clear fin HN
        generalize (q + k) % T = X at *
        have hd : decide ((k : Int) < T) = false := by simp; omega
        by_cases hkn2 : (k : Int) < n
        all_goals
          go_wp2_with (go_at_call 47; refine hsp.mono ?_; rintro e w2 ⟨v, rfl, ho2, hb2⟩)
          go_ret2
          exact ⟨_, by simp only [rangeErr, H.out]; rfl, by rw [HE.out]; exact ho2.rebase (by omega), hbw.trans ((hb.mono hs').trans (hb2.mono (by omega)))⟩

end Go.Proofs.Ytabcbkgnhdijpaa
