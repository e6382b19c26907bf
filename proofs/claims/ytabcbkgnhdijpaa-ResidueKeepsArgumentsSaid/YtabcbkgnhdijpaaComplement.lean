/-
  Contract of Complement.
-/
import Derived.Test.YtabcbkgnhdijpaaUnion
import Derived.Test.YtabcbkgnhdijpaaRefComplement
import Derived.Test.YtabcbkgnhdijpaaGapsP
set_option linter.unusedVariables false
set_option linter.unusedSimpArgs false
namespace Go.Proofs.Ytabcbkgnhdijpaa
open Go.RowKit RP

def compI (t : Int) (a : List Sp) : List Sp := if badI t a [] = 0 then runs (compB a) t.toNat else []
theorem compI_nat (T : Nat) (a : List Sp) : compI T a = compL T a := by simp [compI, compL]

theorem comp_eq {T : Nat} {a : List Sp} (hv : validFrom T (-1) a = true) : gapsEnd T a = runs (compB a) T := by
  obtain ⟨h1, h2⟩ := gapsEnd_spec (t := T) (by omega) hv
  exact eq_runs h1 fun x hx => by rw [h2 x (by omega) (by omega)]; rfl

theorem gaps_yes {l : List Sp} {k : Nat} (hk : k < l.length) (h : (gaps (l.take k)).2 < l[k].1) : gaps (l.take (k + 1)) = ((gaps (l.take k)).1 ++ [((gaps (l.take k)).2, l[k].1)], l[k].2) := by
  rw [List.take_succ_eq_append_getElem hk, gaps_snoc]; simp [gapStep, h]
theorem gaps_no {l : List Sp} {k : Nat} (hk : k < l.length) (h : ¬ (gaps (l.take k)).2 < l[k].1) : gaps (l.take (k + 1)) = ((gaps (l.take k)).1, l[k].2) := by
  rw [List.take_succ_eq_append_getElem hk, gaps_snoc]; simp [gapStep, h]

set_option maxHeartbeats 4000000 in
theorem complement_any (t : Int) (A : Option Addr) (c : Nat) (a : List Sp) (w : World) (ha : Lst encS 2 w w.heap.size A a) (hn : a.length ≤ 9223372036854775807) :
    Calls Try.prog 38 #[.int .i64 t, .slice A a.length c] w fun e w' =>
      ∃ v, e = .returned (.tuple #[v, .int .i64 (badI t a [])]) ∧ OwnS w' w.heap.size v (compI t a) ∧ Below w.heap.size w w' := by
  have hba : Below w.heap.size w (w.alloc (.cells #[.slice A a.length c] 22)) := (Below.refl _ _).alloc (Nat.le_refl _) _
  have g0 : (w.alloc (.cells #[.slice A a.length c] 22)).cell? ⟨w.heap.size, 0, none⟩ = some (.slice A a.length c) := by rw [World.cell?_alloc_at _ _ _ _ rfl]; rfl
  have hch := check1_any t A c a w.heap.size 1 (w.alloc (.cells #[.slice A a.length c] 22)) g0 (by simp) (ha.belowMore hba (by simp)) hn
  clear g0
  by_cases h0 : badI t a [] = 0
  · obtain ⟨va, _⟩ := badI_zero h0
    obtain ⟨t1, t2⟩ := badI_range h0
    obtain ⟨T, rfl⟩ := Int.eq_ofNat_of_zero_le (show 0 ≤ t by omega)
    have H := Lib.hid h0
    have HE := Lib.hid (show compI T a = gapsEnd T a by rw [comp_eq va]; simp [compI, h0])
    have HG := Lib.hid (fun k hk => gaps_take (t := T) (by omega) va k hk)
    have la := valid_length va (by omega)
    rw [h0] at hch
    clear h0 va
    go_enter Try.func38, Try.ntmps38
    go_wp2_with fail
    refine hch.mono ?_
    rintro e w1 ⟨rfl, hb1⟩
    have z0 : w.heap.size + 1 ≤ w1.heap.size := by have := hb1.size; simpa using this
    have hw1 := hba.trans (hb1.mono (by simp))
    clear hch hba hb1
    go_wp2_with fail
    go_loopg [7, 8, 20] a.length (fun g s7 s8 s20 wr => ∃ k : Nat, k ≤ a.length ∧ g = a.length - k ∧ s20 = .int .i64 k ∧ s8 = .int .i64 (gaps (a.take k)).2 ∧ OwnS wr w.heap.size s7 (gaps (a.take k)).1 ∧ Below w.heap.size w wr)
    case atStart => exact ⟨0, by omega, by omega, rfl, rfl, Own.nil _ _ _ _ _, hw1⟩
    case round =>
      obtain ⟨k, hk, hg, rfl, rfl, hox, hb⟩ := hrel
      have hG := HG.out k hk
      have glo := hG.lo
      have ghi := hG.hi
      have glen := hG.len
      rw [List.length_take] at glen
      clear hG
      have hz := hb.size
      by_cases hlt : k < a.length
      · obtain ⟨b, off, rfl, hbw, c0, c1⟩ := (ha.below hb).sp k hlt
        by_cases hc : (gaps (a.take k)).2 < a[k].1
        · have HY := Lib.hid (gaps_yes hlt hc)
          generalize gaps (a.take k) = G at *
          obtain ⟨out, f⟩ := G
          simp only at hox hc glo ghi glen HY ⊢
          generalize a[k] = s at *
          obtain ⟨sf, se⟩ := s
          simp only at c0 c1 hc HY
          obtain ⟨A7, c7, rfl⟩ := hox.form
          have hnb : some wr.heap.size ≠ (Value.slice A7 out.length c7).ownBlock := fun e => by have := (World.ownsRow.lt hox _ e.symm).2; omega
          have hoW := hox.alloc (.cells #[.int .i64 sf, .int .i64 se] 31)
          have hbW := hb.alloc hz (.cells #[.int .i64 sf, .int .i64 se] 31)
          have kb0 : (wr.alloc (.cells #[.int .i64 sf, .int .i64 se] 31)).cell? ⟨wr.heap.size, 0, none⟩ = some (.int .i64 sf) := by rw [World.cell?_alloc_at _ _ _ _ rfl]; rfl
          have kb1 : (wr.alloc (.cells #[.int .i64 sf, .int .i64 se] 31)).cell? ⟨wr.heap.size, 1, none⟩ = some (.int .i64 se) := by rw [World.cell?_alloc_at _ _ _ _ rfl]; rfl
          go_upto_region 9 with fail
          generalize wr.alloc (.cells #[.int .i64 sf, .int .i64 se] 31) = W at *
          clear hb hz hox
          have hz := hbW.size
          go_wp2_with (at_builtin; refine wpList_append_rec rfl _ _ 22 rfl w.heap.size 31 16 Try.underlying22 elemS _ out rfl hoW [(f, sf)] _ rfl 1 1 rfl rfl (by simp only [Go.maxLen, List.length_cons, List.length_nil]; omega) (by simp only [List.length_cons, List.length_nil]; omega) hz ?_; intro v1 w2 ho2 hg2 hat2; have hg3 : W.grownBy w2 (Value.slice A7 out.length c7).ownBlock := hg2; have kc1 := hg3.cell kb1 hnb; clear hg2 hat2)
          go_roundg (a.length - (k + 1))
          case measure => omega
          case rel => exact ⟨k + 1, by omega, rfl, by go_num, by rw [HY.out], by rw [HY.out]; exact ho2, hbW.grown hg3 hz (hoW.le (Nat.le_refl _))⟩
        · have HY := Lib.hid (gaps_no hlt hc)
          generalize gaps (a.take k) = G at *
          obtain ⟨out, f⟩ := G
          simp only at hox hc glo ghi glen HY ⊢
          generalize a[k] = s at *
          obtain ⟨sf, se⟩ := s
          simp only at c0 c1 hc HY
          go_wp2
          go_roundg (a.length - (k + 1))
          case measure => omega
          case rel => exact ⟨k + 1, by omega, rfl, by go_num, by rw [HY.out], by rw [HY.out]; exact hox.alloc _, hb.alloc hz _⟩
      · rw [List.take_of_length_le (by omega)] at hox glo ghi glen ⊢
        by_cases hc : (gaps a).2 < T
        · have HF := Lib.hid (show gapsEnd T a = (gaps a).1 ++ [((gaps a).2, (T : Int))] by simp [gapsEnd, hc])
          generalize gaps a = G at *
          obtain ⟨out, f⟩ := G
          simp only at hox hc glo ghi glen HF ⊢
          obtain ⟨A7, c7, rfl⟩ := hox.form
          go_wp2_with (at_builtin; refine wpList_append_rec rfl _ _ 22 rfl w.heap.size 31 16 Try.underlying22 elemS _ out rfl hox [(f, (T : Int))] _ rfl 1 1 rfl rfl (by simp only [Go.maxLen, List.length_cons, List.length_nil]; omega) (by simp only [List.length_cons, List.length_nil]; omega) hz ?_; intro v1 w2 ho2 hg2 hat2)
          go_ret2
          exact ⟨_, by rw [H.out]; rfl, by rw [HE.out, HF.out]; exact ho2, hb.grown hg2 hz (hox.le (Nat.le_refl _))⟩
        · have HF := Lib.hid (show gapsEnd T a = (gaps a).1 by simp [gapsEnd, hc])
          generalize gaps a = G at *
          obtain ⟨out, f⟩ := G
          simp only at hox hc glo ghi glen HF ⊢
          go_wp2
          go_ret2
          exact ⟨_, by rw [H.out]; rfl, by rw [HE.out, HF.out]; exact hox, hb⟩
  · have hne : (badI t a [] != 0) = true := by simp [h0]
    have HE := Lib.hid (show compI t a = [] by simp [compI, h0])
    clear h0
    generalize badI t a [] = E at *
    go_enter Try.func38, Try.ntmps38
    go_wp2_with (go_at_call 51; refine hch.mono ?_; rintro e w1 ⟨rfl, hb1⟩)
    go_ret2
    exact ⟨_, rfl, by rw [HE.out]; exact Own.nil _ _ _ _ _, hba.trans (hb1.mono (by simp))⟩

end Go.Proofs.Ytabcbkgnhdijpaa
