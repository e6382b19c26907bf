/-
  Contract of the example of chapter 26.
  Contract of awake of chapter 26.
-/
import Derived.Test.YtlillkfelfoafaaDivP
import Derived.Test.YtlillkfelfoafaaDivV
import Derived.Test.YtlillkfelfoafaaDivZ
import Derived.Test.YtlillkfelfoafaaDivAa
set_option linter.unusedVariables false
set_option linter.unusedSimpArgs false
namespace Go.Proofs.Ytlillkfelfoafaa
open Go.RowKit RP

theorem encOp_one (o : OptM) : ∀ u ∈ encOp o, u.oneCell' = true := by
  intro u hu
  simp only [encOp, List.mem_cons, List.not_mem_nil, or_false] at hu
  rcases hu with rfl | rfl <;> rfl
set_option maxRecDepth 100000 in
set_option maxHeartbeats 2000000 in
theorem example_any (w : World) : Calls Try.prog 28 #[] w fun e w' => ∃ (L : List JobM) (A : Option Addr) (c : Nat), L.map JobM.p = exJobs ∧ e = .returned (.slice A L.length c) ∧ Jbs w' w'.heap.size A L ∧ JobsR L ∧ L.length ≤ 19 ∧ Below w.heap.size w w' := by
  have s1 : ∀ (W : World) (o : Obj), (W.alloc o).heap.size = W.heap.size + 1 := fun W o => by simp
  have h0 := Own.lit w 46 w.heap.size #[.int .i64 1, .int .i64 0, .int .i64 10] [((1, 0, 10) : Occ)] 1 rfl encO_len rfl (Nat.le_refl _) (by simp [Go.maxLen])
  obtain ⟨om, hom⟩ : ∃ om : OptM, om = ⟨[], [(1, 0, 10)], ⟨none, 0, 0⟩, ⟨some ⟨w.heap.size, 0, none⟩, 1, 1⟩⟩ := ⟨_, rfl⟩
  have h1 := Own.lit (w.alloc (.cells #[.int .i64 1, .int .i64 0, .int .i64 10] 46)) 28 w.heap.size #[.slice none 0 0, .slice (some ⟨w.heap.size, 0, none⟩) 1 1] [om] 1 rfl encOp_len (by rw [hom]; rfl) (by rw [s1]; omega) (by simp [Go.maxLen])
  rw [s1] at h1
  obtain ⟨j0, hj0⟩ : ∃ j : JobM, j = ⟨0, [om], ⟨some ⟨w.heap.size + 1, 0, none⟩, 1, 1⟩⟩ := ⟨_, rfl⟩
  obtain ⟨j1, hj1⟩ : ∃ j : JobM, j = ⟨3, [om], ⟨some ⟨w.heap.size + 1, 0, none⟩, 1, 1⟩⟩ := ⟨_, rfl⟩
  have h2 := Own.lit ((w.alloc (.cells #[.int .i64 1, .int .i64 0, .int .i64 10] 46)).alloc (.cells #[.slice none 0 0, .slice (some ⟨w.heap.size, 0, none⟩) 1 1] 28)) 41 w.heap.size #[.int .i64 0, .slice (some ⟨w.heap.size + 1, 0, none⟩) 1 1, .int .i64 3, .slice (some ⟨w.heap.size + 1, 0, none⟩) 1 1] [j0, j1] 2 rfl encJb_len (by rw [hj0, hj1]; rfl) (by rw [s1, s1]; omega) (by simp [Go.maxLen])
  rw [s1, s1] at h2
  have k0 := (h0.alloc (.cells #[.slice none 0 0, .slice (some ⟨w.heap.size, 0, none⟩) 1 1] 28)).alloc (.cells #[.int .i64 0, .slice (some ⟨w.heap.size + 1, 0, none⟩) 1 1, .int .i64 3, .slice (some ⟨w.heap.size + 1, 0, none⟩) 1 1] 41)
  have k1 := h1.alloc (.cells #[.int .i64 0, .slice (some ⟨w.heap.size + 1, 0, none⟩) 1 1, .int .i64 3, .slice (some ⟨w.heap.size + 1, 0, none⟩) 1 1] 41)
  have hb : Below w.heap.size w (((w.alloc (.cells #[.int .i64 1, .int .i64 0, .int .i64 10] 46)).alloc (.cells #[.slice none 0 0, .slice (some ⟨w.heap.size, 0, none⟩) 1 1] 28)).alloc (.cells #[.int .i64 0, .slice (some ⟨w.heap.size + 1, 0, none⟩) 1 1, .int .i64 3, .slice (some ⟨w.heap.size + 1, 0, none⟩) 1 1] 41)) := (((Below.refl _ w).alloc (Nat.le_refl _) _).alloc (by rw [s1]; omega) _).alloc (by rw [s1, s1]; omega) _
  have HK := Lib.hid (And.intro k0 (And.intro k1 (And.intro h2 (And.intro hb (And.intro hom (And.intro hj0 hj1))))))
  clear h0 h1 h2 k0 k1 hb hom hj0 hj1 s1
  go_enter Try.func28, Try.ntmps28
  go_wp2_with fail
  go_ret
  obtain ⟨k0, k1, h2, hb, hom, hj0, hj1⟩ := HK.out
  have hO : OLst (((w.alloc (.cells #[.int .i64 1, .int .i64 0, .int .i64 10] 46)).alloc (.cells #[.slice none 0 0, .slice (some ⟨w.heap.size, 0, none⟩) 1 1] 28)).alloc (.cells #[.int .i64 0, .slice (some ⟨w.heap.size + 1, 0, none⟩) 1 1, .int .i64 3, .slice (some ⟨w.heap.size + 1, 0, none⟩) 1 1] 41)) (((w.alloc (.cells #[.int .i64 1, .int .i64 0, .int .i64 10] 46)).alloc (.cells #[.slice none 0 0, .slice (some ⟨w.heap.size, 0, none⟩) 1 1] 28)).alloc (.cells #[.int .i64 0, .slice (some ⟨w.heap.size + 1, 0, none⟩) 1 1, .int .i64 3, .slice (some ⟨w.heap.size + 1, 0, none⟩) 1 1] 41)).heap.size om := by
    rw [hom]
    exact ⟨rfl, rfl, Lst.nil, Own.lst encO_len k0, by simp, by simp⟩
  refine ⟨[j0, j1], some ⟨w.heap.size + 1 + 1, 0, none⟩, 2, by rw [hj0, hj1, hom]; rfl, rfl, ⟨Own.lst encJb_len h2, ?_, by simp⟩, ?_, by simp, hb⟩
  · intro j hj
    rcases List.mem_cons.1 hj with rfl | hj
    · rw [hj0]; exact ⟨rfl, Own.lst encOp_len k1, fun o ho => by rw [List.mem_singleton] at ho; subst ho; exact hO, by simp⟩
    · rw [List.mem_singleton] at hj
      subst hj
      rw [hj1]; exact ⟨rfl, Own.lst encOp_len k1, fun o ho => by rw [List.mem_singleton] at ho; subst ho; exact hO, by simp⟩
  · intro j hj o ho x hx
    have e1 : o = om := by
      rcases List.mem_cons.1 hj with rfl | hj
      · rw [hj0] at ho; exact List.mem_singleton.1 ho
      · rw [List.mem_singleton] at hj; subst hj
        rw [hj1] at ho; exact List.mem_singleton.1 ho
    subst e1
    rw [hom] at hx
    rw [List.mem_singleton.1 hx]
    exact ⟨by decide, by decide⟩
end Go.Proofs.Ytlillkfelfoafaa

namespace Go.Proofs.Ytlillkfelfoafaa
open Go.RowKit RP

theorem own_caps {α : Type} {enc : α → List Value} {k : Nat} {e : TypeId} {w : World} {b n c : Nat} {A : Option Addr} {l : List α} (h : Own enc k e w b (.slice A n c) l) : n ≤ c ∧ c ≤ 9223372036854775807 := by
  rcases h.2 with ⟨h1, _⟩ | ⟨g, cap, cur, h1, _, _, hn, hm, _⟩
  · injection h1 with _ h2 h3; subst h2 h3; exact ⟨Nat.le_refl _, by omega⟩
  · injection h1 with _ h2 h3
    have hn' : n = l.length := by
      obtain ⟨A', c', hv⟩ := h.form
      injection hv
    subst h3
    unfold Go.maxLen at hm
    exact ⟨by omega, hm⟩
set_option maxRecDepth 100000 in
set_option maxHeartbeats 2000000 in
theorem awake26_any (w : World) : Calls Try.prog 13 #[] w fun e w' => e = .returned (.bool true) ∧ Below w.heap.size w w' := by
  go_enter Try.func13, Try.ntmps13
  go_wp2_with fail
  refine (example_any w).mono ?_
  rintro e w1 ⟨L, A, c, hL, rfl, hj, hr, hl, hb1⟩
  have hpl := plan_any A c L none 0 [] none 0 [] 20 100 w1 hj Lst.nil Lst.nil hr hl (by simp) (by simp) (by simp)
  go_wp2_with fail
  refine hpl.mono ?_
  rintro e w2 ⟨l, n, err, K, kc, rfl, hp, ho, hb2⟩
  rw [hL] at hp
  obtain ⟨rfl, rfl, rfl⟩ := ex_plan hp
  have hs := sameK_own' (.slice K [((0, 0) : Cho), (0, 10)].length kc) (.slice (some ⟨w2.heap.size, 0, none⟩) 2 2) [(0, 0), (0, 10)] [(0, 0), (0, 10)] (w2.alloc (.cells #[.int .i64 0, .int .i64 0, .int .i64 0, .int .i64 10] 55)) _ _ (ho.alloc _) (Own.lit w2 55 w2.heap.size #[.int .i64 0, .int .i64 0, .int .i64 0, .int .i64 10] [((0, 0) : Cho), (0, 10)] 2 rfl encK_len rfl (Nat.le_refl _) (by simp [Go.maxLen])) rfl
  have HS := Lib.hid hs
  have HO := Lib.hid (ho.alloc (.cells #[.int .i64 0, .int .i64 0, .int .i64 0, .int .i64 10] 55))
  have HC := Lib.hid (own_caps ho)
  have HB := Lib.hid ((hb1.trans (hb2.mono hb1.size)).trans ((belA w2 (.cells #[.int .i64 0, .int .i64 0, .int .i64 0, .int .i64 10] 55)).mono (hb1.trans (hb2.mono hb1.size)).size))
  clear hs hpl hj hr hl hL hp ho hb1 hb2
  go_wp2_with (first
    | (go_at_call 27; refine HS.out.mono ?_; rintro e w4 ⟨rfl, hb4⟩)
    | (go_at_call 28; refine (example_any w4).mono ?_; rintro e w5 ⟨L', A', c', hL', rfl, hj', hr', hl', hb5⟩)
    | (go_at_call 29; refine (dVerify_any A' c' L' none 0 [] none 0 [] K kc [((0, 0) : Cho), (0, 10)] w5 hj' Lst.nil Lst.nil (Own.lst encK_len ((HO.out.below' hb4).below' hb5)) hr' (by simp) (by simp) (by simp) HC.out).mono ?_; rw [hL', ex_ver]; rintro e w6 ⟨rfl, hb6⟩))
  go_ret
  exact ⟨rfl, (HB.out.trans ((hb4.trans ((hb5.trans (hb6.mono hb5.size)).mono hb4.size)).mono HB.out.size))⟩
end Go.Proofs.Ytlillkfelfoafaa
