/-
  Contract of Shift.
-/
import Derived.Test.YtbhjnihcmfagjaaComplement
import Derived.Test.YtbhjnihcmfagjaaPlain
import Derived.Deep.RegionHeld3
set_option linter.unusedVariables false
set_option linter.unusedSimpArgs false
namespace Go.Proofs.Ytbhjnihcmfagjaa
open Go.RowKit RP

def shiftI (t : Int) (a : List Sp) (d : Int) : List Sp := if badI t a [] = 0 then runs (shiftB t.toNat a d) t.toNat else []
theorem shiftI_nat (T : Nat) (a : List Sp) (d : Int) : shiftI T a d = shiftL T a d := by simp [shiftI, shiftL]

theorem shift_eq {T : Nat} {a : List Sp} {d : Int} (h1 : 1 ≤ T) (hv : validFrom T (-1) a = true) : runs (memN (shiftArcs T d a)) T = runs (shiftB T a d) T :=
  runs_congr fun x hx => by
    unfold memN shiftB
    exact shiftArcs_mem (by omega) (valid_all hv (by omega)) x (by omega) (by omega)

theorem shiftArcs_take {t d : Int} {l : List Sp} {k : Nat} (hk : k < l.length) : shiftArcs t d (l.take (k + 1)) = shiftArcs t d (l.take k) ++ arc t ((l[k].1 + d) % t) (l[k].2 - l[k].1) := by
  rw [List.take_succ_eq_append_getElem hk, shiftArcs_snoc]

set_option maxHeartbeats 4000000 in
set_option maxRecDepth 100000 in
theorem shift_any (t : Int) (A : Option Addr) (c : Nat) (a : List Sp) (by_ : Int) (w : World) (ha : Lst encS 2 w w.heap.size A a) (hn : a.length ≤ 9223372036854775807) (t1 : -9223372036854775808 ≤ t) (t2 : t ≤ 9223372036854775807) :
    Calls Try.prog 80 #[.int .i64 t, .slice A a.length c, .int .i64 by_] w fun e w' =>
      ∃ v, e = .returned (.tuple #[v, .int .i64 (badI t a [])]) ∧ OwnS w' w.heap.size v (shiftI t a (by_ % t)) ∧ Below w.heap.size w w' := by
  have hba : Below w.heap.size w (w.alloc (.cells #[.slice A a.length c] 40)) := (Below.refl _ _).alloc (Nat.le_refl _) _
  have g0 : (w.alloc (.cells #[.slice A a.length c] 40)).cell? ⟨w.heap.size, 0, none⟩ = some (.slice A a.length c) := by rw [World.cell?_alloc_at _ _ _ _ rfl]; rfl
  have hch := check1_any t A c a w.heap.size 1 (w.alloc (.cells #[.slice A a.length c] 40)) g0 (by simp) (ha.belowMore hba (by simp)) hn
  clear g0
  by_cases h0 : badI t a [] = 0
  · obtain ⟨va, _⟩ := badI_zero h0
    obtain ⟨u1, u2⟩ := badI_range h0
    have hmod := fun W => mod_any by_ t W t1 t2
    have hmr := modI_range by_ t u1
    have em : modI by_ t = by_ % t := by rw [modI, if_neg (by omega)]
    rw [em] at hmod hmr
    obtain ⟨T, rfl⟩ := Int.eq_ofNat_of_zero_le (show 0 ≤ t by omega)
    have H := Lib.hid h0
    have HE := Lib.hid (show shiftI T a (by_ % T) = runs (memN (shiftArcs T (by_ % T) a)) T by rw [shift_eq (by omega) va]; simp [shiftI, h0])
    generalize by_ % (T : Int) = d at *
    obtain ⟨d0, d1⟩ := hmr
    have HVa := Lib.hid va
    have HB := Lib.hid (shiftArcs_bounds (t := T) (d := d) u1 a)
    have la := valid_length va (by omega)
    have lsh := shiftArcs_len T d a
    rw [h0] at hch
    clear h0 va em
    go_enter Try.func80, Try.ntmps80
    go_wp2_with fail
    refine hch.mono ?_
    rintro e w1 ⟨rfl, hb1⟩
    have z0 : w.heap.size + 1 ≤ w1.heap.size := by have := hb1.size; simpa using this
    have hw1 := hba.trans (hb1.mono (by simp))
    clear hch hba hb1
    go_wp2_with (go_at_call 76; refine (hmod _).mono ?_; rintro e w' ⟨rfl, rfl⟩)
    clear hmod
    go_loopg [9, 24] a.length (fun g s9 s24 wr => ∃ k : Nat, k ≤ a.length ∧ g = a.length - k ∧ s24 = .int .i64 k ∧ OwnS wr w.heap.size s9 (shiftArcs T d (a.take k)) ∧ Below w.heap.size w wr)
    case atStart => exact ⟨0, by omega, by omega, rfl, Own.nil _ _ _ _ _, hw1⟩
    case round =>
      obtain ⟨k, hk, hg, rfl, hox, hb⟩ := hrel
      have hz := hb.size
      by_cases hlt : k < a.length
      · obtain ⟨b, off, rfl, hbw, c0, c1⟩ := (ha.below hb).sp k hlt
        obtain ⟨v1, v2, v3⟩ := valid_at HVa.out hlt (by omega)
        have HT := Lib.hid (shiftArcs_take (t := T) (d := d) hlt)
        have hll : (shiftArcs T d (a.take k)).length ≤ 2 * k := Nat.le_trans (shiftArcs_len _ _ _) (by rw [List.length_take]; omega)
        generalize a[k] = s at *
        obtain ⟨sf, se⟩ := s
        simp only at c0 c1 v1 v2 v3 HT
        have kb0 : (wr.alloc (.cells #[.int .i64 sf, .int .i64 se] 46)).cell? ⟨wr.heap.size, 0, none⟩ = some (.int .i64 sf) := by rw [World.cell?_alloc_at _ _ _ _ rfl]; rfl
        have kb1 : (wr.alloc (.cells #[.int .i64 sf, .int .i64 se] 46)).cell? ⟨wr.heap.size, 1, none⟩ = some (.int .i64 se) := by rw [World.cell?_alloc_at _ _ _ _ rfl]; rfl
        have hbW := hb.alloc hz (.cells #[.int .i64 sf, .int .i64 se] 46)
        have hoW := hox.alloc (.cells #[.int .i64 sf, .int .i64 se] 46)
        have x1 := Int.emod_nonneg (sf + d) (show (T : Int) ≠ 0 by omega)
        have x2 := Int.emod_lt_of_pos (sf + d) (show 0 < (T : Int) by omega)
        go_wp2_with fail
        generalize wr.alloc (.cells #[.int .i64 sf, .int .i64 se] 46) = W at *
        have hzW := hbW.size
        have q1 : IntKind.i64.wrap (sf + d) = sf + d := IntWalk.i64_in _ (by omega)
        have q2 : IntKind.i64.wrap (se - sf) = se - sf := IntWalk.i64_in _ (by omega)
        have htm : (sf + d).tmod (T : Int) = (sf + d) % T := Int.tmod_eq_emod_of_nonneg (by omega)
        have htz : ((T : Int) == 0) = false := by rw [beq_eq_false_iff_ne]; omega
        have hT0 : ¬ T = 0 := by omega
        have hT0' : ¬ (T : Int) = 0 := by omega
        have hnb : some wr.heap.size ≠ u9.ownBlock := fun e => by have := (World.ownsRow.lt hox _ e.symm).2; omega
        obtain ⟨A9, c9, rfl⟩ := hoW.form
        have hcall := appendArc_any w.heap.size _ _ T ((sf + d) % T) (se - sf) W.drew hoW.drew hzW (by omega) u1 u2 x1 x2 (by omega)
        go_region_held3 (fun w' => w'.cell? ⟨wr.heap.size, 0, none⟩ = some (.int .i64 sf) ∧ w'.cell? ⟨wr.heap.size, 1, none⟩ = some (.int .i64 se)) (first | go_keep | exact ⟨hg2.cell kb0 hnb, hg2.cell kb1 hnb⟩)
          (first | (go_at_call 75; refine hcall.mono ?_; rintro e w2 ⟨v2, rfl, ho2, hg2⟩))
        clear q1 q2 htm
        go_wp2
        go_roundg (a.length - (k + 1))
        case measure => omega
        case rel => exact ⟨k + 1, by omega, rfl, by go_num, by rw [HT.out]; exact ho2, hbW.drew.grown hg2 hzW (hoW.le (Nat.le_refl _))⟩
      · rw [List.take_of_length_le (by omega)] at hox
        have hm := merge_any T w.heap.size u9 _ wr hox (by omega) hz (by omega) HB.out
        go_wp2_with (go_at_call 86; refine hm.mono ?_; rintro e w3 ⟨v3, rfl, ho3, hg3⟩)
        go_ret2
        exact ⟨_, by rw [H.out]; rfl, by rw [HE.out]; exact ho3.rebase hz, hb.grown hg3 hz (hox.le (Nat.le_refl _))⟩
  · have hne : (badI t a [] != 0) = true := by simp [h0]
    have HE := Lib.hid (show shiftI t a (by_ % t) = [] by simp [shiftI, h0])
    clear h0
    generalize badI t a [] = E at *
    go_enter Try.func80, Try.ntmps80
    go_wp2_with (go_at_call 78; refine hch.mono ?_; rintro e w1 ⟨rfl, hb1⟩)
    go_ret2
    exact ⟨_, rfl, by rw [HE.out]; exact Own.nil _ _ _ _ _, hba.trans (hb1.mono (by simp))⟩

end Go.Proofs.Ytbhjnihcmfagjaa
