/-
  Contracts of Least and of awake of chapter 9.
-/
import Derived.Test.YtdijhhfmicafjaaLeast
set_option linter.unusedVariables false
set_option linter.unusedSimpArgs false
namespace Go.Proofs.Ytdijhhfmicafjaa
open Go.RowKit RP

def leastL (a b : List Occ) : Int × Bool := if validO (-1) a && validO (-1) b then leastO (pairsO a b) else (0, false)

set_option maxHeartbeats 2000000 in
theorem least_any (A B : Option Addr) (c d : Nat) (a b : List Occ) (w : World) (ha : Lst encO 3 w w.heap.size A a) (hb : Lst encO 3 w w.heap.size B b) (hac : a.length ≤ c) (hcm : c ≤ 9223372036854775807) (hbc : b.length ≤ d) (hdm : d ≤ 9223372036854775807) :
    Calls Try.prog 13 #[.slice A a.length c, .slice B b.length d] w fun e w' => e = .returned (.tuple #[.int .i64 (leastL a b).1, .bool (leastL a b).2]) ∧ Below w.heap.size w w' := by
  have hva := hvalid_any A c a w ha (by omega)
  cases h1 : validO (-1) a with
  | false =>
    rw [h1] at hva
    have H := Lib.hid (show leastL a b = (0, false) by simp [leastL, h1])
    clear h1
    go_enter Try.func13, Try.ntmps13
    go_wp2_with (go_at_call 29; refine hva.mono ?_; rintro e w1 ⟨rfl, hb1⟩)
    go_ret2
    exact ⟨by rw [H.out]; rfl, hb1⟩
  | true =>
    rw [h1] at hva
    have H1 := Lib.hid h1
    clear h1
    have hvb := fun W (hW : Below w.heap.size w W) => hvalid_any B d b W (hb.belowMore hW hW.size) (by omega)
    cases h2 : validO (-1) b with
    | false =>
      rw [h2] at hvb
      have H := Lib.hid (show leastL a b = (0, false) by simp [leastL, h2])
      clear h2
      go_enter Try.func13, Try.ntmps13
      go_wp2_with fail
      refine hva.mono ?_
      rintro e w1 ⟨rfl, hb1⟩
      go_wp2_with fail
      refine (hvb _ hb1).mono ?_
      rintro e w2 ⟨rfl, hb2⟩
      go_wp2_with fail
      go_ret2
      exact ⟨by rw [H.out]; rfl, hb1.trans (hb2.mono hb1.size)⟩
    | true =>
      rw [h2] at hvb
      have H2 := Lib.hid h2
      have H := Lib.hid (show leastL a b = (pairsO a b).foldl leastStep (0, false) by simp [leastL, H1.out, h2, leastO])
      clear h2
      go_enter Try.func13, Try.ntmps13
      go_wp2_with fail
      refine hva.mono ?_
      rintro e w1 ⟨rfl, hb1⟩
      go_wp2_with fail
      refine (hvb _ hb1).mono ?_
      rintro e w2 ⟨rfl, hb2⟩
      have hb3 := hb1.trans (hb2.mono hb1.size)
      have z3 := hb3.size
      have hb4 : Below w.heap.size w ((w2.alloc (.cells #[.int .i64 0] 3)).alloc (.cells #[.bool false] 4)) := (hb3.alloc z3 _).alloc (by simp; omega) _
      have hL : LeastAt ((w2.alloc (.cells #[.int .i64 0] 3)).alloc (.cells #[.bool false] 4)) w2.heap.size (w2.heap.size + 1) (0, false) :=
        ⟨(Below.heap_alloc _ _ _ (by simp)).trans (heap_alloc_new w2 _), by have := heap_alloc_new (w2.alloc (.cells #[.int .i64 0] 3)) (.cells #[.bool false] 4); simpa using this, by omega⟩
      have hcon := commonL_any a b (.slice A a.length c) (.slice B b.length d) w2.heap.size (w2.heap.size + 1) _ (0, false) hL (by omega) (Cut.whole ((ha.below hb4).more z3) H1.out hac hcm rfl) (Cut.whole ((hb.below hb4).more z3) H2.out hbc hdm rfl)
      rw [← H.out] at hcon
      clear hva hvb hb1 hb2 hL
      obtain ⟨s, hs⟩ : ∃ s, leastL a b = s := ⟨_, rfl⟩
      rw [hs] at hcon
      have HS := Lib.hid hs
      clear hs
      go_wp2_with fail
      refine hcon.mono ?_
      rintro e w3 ⟨rfl, hL, ho⟩
      clear hcon
      obtain ⟨q1, q2, _⟩ := hL
      have c1 := cell_of_one q1
      have c2 := cell_of_one q2
      have HB := Lib.hid (hb4.trans (ho.below (B := w.heap.size) (by simp; omega) (fun k hk hs => by rcases hs with rfl | rfl <;> omega)))
      clear q1 q2 ho hb4
      go_wp2_with fail
      go_quiet (fail)
      go_wp2_with fail
      go_ret2
      exact ⟨by rw [HS.out]; rfl, below_drewN HB.out _⟩

theorem Own.cut {α : Type} {enc : α → List Value} {k : Nat} {e : TypeId} {w : World} {base : Nat} {v : Value} {l : List α} (he : ∀ x, (enc x).length = k) (h : Own enc k e w base v l) : ∃ A c, v = .slice A l.length c ∧ Lst enc k w w.heap.size A l ∧ l.length ≤ c ∧ c ≤ 9223372036854775807 := by
  rcases h.2 with ⟨rfl, h0⟩ | ⟨g, cap, cur, rfl, _, _, hn, hm, _⟩
  · have : l = [] := List.eq_nil_of_length_eq_zero h0
    subst this
    exact ⟨none, 0, rfl, Lst.nil, by simp, by omega⟩
  · exact ⟨_, _, rfl, h.lst he, hn, by simp only [Go.maxLen] at hm; omega⟩

set_option maxHeartbeats 2000000 in
theorem awake9_any (w : World) : Calls Try.prog 14 #[] w fun e w' => e = .returned (.bool true) ∧ Below w.heap.size w w' := by
  have ho : OwnO (w.alloc (.cells #[.int .i64 0, .int .i64 0, .int .i64 4] 41)) w.heap.size (.slice (some ⟨w.heap.size, 0, none⟩) 1 1) [(0, 0, 4)] := Own.lit w _ _ _ [(0, 0, 4)] 1 rfl encO_len rfl (Nat.le_refl _) (by simp [maxLen])
  have hb0 := below_refl_alloc w (.cells #[.int .i64 0, .int .i64 0, .int .i64 4] 41)
  have e1 : leastL [(0, 0, 4)] [(0, 0, 4)] = (4, true) := by decide
  have e2 : aloneL 4 [(0, 0, 4)] = true := by decide
  have e3 : aloneL 3 [(0, 0, 4)] = false := by decide
  have hl := least_any (some ⟨w.heap.size, 0, none⟩) (some ⟨w.heap.size, 0, none⟩) 1 1 [(0, 0, 4)] [(0, 0, 4)] _ (ho.lst encO_len) (ho.lst encO_len) (by simp) (by omega) (by simp) (by omega)
  have h4 := fun W h => alone_any 4 (some ⟨w.heap.size, 0, none⟩) 1 [(0, 0, 4)] W h (by simp)
  have h3 := fun W h => alone_any 3 (some ⟨w.heap.size, 0, none⟩) 1 [(0, 0, 4)] W h (by simp)
  rw [e1] at hl
  rw [e2] at h4
  rw [e3] at h3
  have H4 := Lib.hid h4
  have H3 := Lib.hid h3
  clear e1 e2 e3 h3 h4
  go_enter Try.func14, Try.ntmps14
  go_wp2_with fail
  refine hl.mono ?_
  rintro e w1 ⟨rfl, hb1⟩
  clear hl
  have ho1 := ho.below' hb1
  go_wp2_with fail
  refine (H4.out _ (ho1.lst encO_len)).mono ?_
  rintro e w2 ⟨rfl, hb2⟩
  have ho2 := ho1.below' hb2
  go_wp2_with fail
  refine (H3.out _ (ho2.lst encO_len)).mono ?_
  rintro e w3 ⟨rfl, hb3⟩
  go_wp2_with fail
  go_ret
  have z1 := hb1.size
  have z2 := hb2.size
  simp at z1
  exact ⟨rfl, ((hb0.trans (hb1.mono (by simp))).trans (hb2.mono (by omega))).trans (hb3.mono (by omega))⟩

end Go.Proofs.Ytdijhhfmicafjaa
