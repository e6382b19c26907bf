/-
  Contract of headway.Forbidden.
-/
import Derived.Test.YtdijhhfmicafjaaForbC
set_option linter.unusedVariables false
set_option linter.unusedSimpArgs false
namespace Go.Proofs.Ytdijhhfmicafjaa
open Go.RowKit RP

def forbErr (t : Int) (a b : List Occ) : Int := if inRange t then (if validO (-1) a && validO (-1) b then 0 else 1) else 4
def forbL (t : Int) (a b : List Occ) : List Sp := if forbErr t a b = 0 then runs (forbB t.toNat (pairsO a b)) t.toNat else []

set_option maxHeartbeats 2000000 in
theorem forbidden_any (t : Int) (A B : Option Addr) (c d : Nat) (a b : List Occ) (w : World) (ha : Lst encO 3 w w.heap.size A a) (hb : Lst encO 3 w w.heap.size B b) (hac : a.length ≤ c) (hcm : c ≤ 9223372036854775807) (hbc : b.length ≤ d) (hdm : d ≤ 9223372036854775807) :
    Calls Try.prog 18 #[.int .i64 t, .slice A a.length c, .slice B b.length d] w fun e w' =>
      ∃ v, e = .returned (.tuple #[v, .int .i64 (forbErr t a b)]) ∧ OwnS w' w.heap.size v (forbL t a b) ∧ Below w.heap.size w w' := by
  have hb0 := below_refl_alloc w (.cells #[.int .i64 t] 3)
  by_cases h1 : 1 ≤ t
  · by_cases h2 : t ≤ 7200
    · have hr : inRange t = true := by simp [inRange, h1, h2]
      have hva := hvalid_any A c a (w.alloc (.cells #[.int .i64 t] 3)) (ha.belowMore hb0 (by simp)) (by omega)
      have hz0 : (w.alloc (.cells #[.int .i64 t] 3)).heap.size = w.heap.size + 1 := by simp
      cases v1 : validO (-1) a with
      | false =>
        rw [v1] at hva
        have H := Lib.hid (show forbErr t a b = 1 by simp [forbErr, hr, v1])
        have H' := Lib.hid (show forbL t a b = [] by simp [forbL, H.out])
        clear v1 hr hz0
        go_enter Try.func18, Try.ntmps18
        go_wp2_with fail
        refine hva.mono ?_
        rintro e w1 ⟨rfl, hb1⟩
        go_wp2_with fail
        go_ret2
        exact ⟨_, by rw [H.out]; rfl, by rw [H'.out]; exact Own.nil _ _ _ _ _, hb0.trans (hb1.mono (by simp))⟩
      | true =>
        rw [v1] at hva
        have hvb := fun W (hW : Below w.heap.size w W) => hvalid_any B d b W (hb.belowMore hW hW.size) (by omega)
        cases v2 : validO (-1) b with
        | false =>
          rw [v2] at hvb
          have H := Lib.hid (show forbErr t a b = 1 by simp [forbErr, hr, v2])
          have H' := Lib.hid (show forbL t a b = [] by simp [forbL, H.out])
          clear v1 v2 hr hz0
          go_enter Try.func18, Try.ntmps18
          go_wp2_with fail
          refine hva.mono ?_
          rintro e w1 ⟨rfl, hb1⟩
          have hb1' := hb0.trans (hb1.mono (by simp))
          go_wp2_with fail
          refine (hvb _ hb1').mono ?_
          rintro e w2 ⟨rfl, hb2⟩
          go_wp2_with fail
          go_ret2
          exact ⟨_, by rw [H.out]; rfl, by rw [H'.out]; exact Own.nil _ _ _ _ _, hb1'.trans (hb2.mono hb1'.size)⟩
        | true =>
          rw [v2] at hvb
          obtain ⟨T, rfl⟩ := Int.eq_ofNat_of_zero_le (show 0 ≤ t by omega)
          have H := Lib.hid (show forbErr T a b = 0 by simp [forbErr, hr, v1, v2])
          have H' := Lib.hid (show forbL T a b = (pairsO a b).foldl (forbStep T) [] by rw [forb_fold (by omega) (by omega)]; simp [forbL, H.out])
          have HV1 := Lib.hid v1
          have HV2 := Lib.hid v2
          clear v1 v2 hr
          go_enter Try.func18, Try.ntmps18
          go_wp2_with fail
          refine hva.mono ?_
          rintro e w1 ⟨rfl, hb1⟩
          have hb1' := hb0.trans (hb1.mono (by simp))
          have z1 := hb1.size
          rw [hz0] at z1
          have g1 : w1.cell? ⟨w.heap.size, 0, none⟩ = some (.int .i64 (T : Int)) := (hb1.cell (p := ⟨w.heap.size, 0, none⟩) (by simp)).trans (by simp)
          go_wp2_with fail
          refine (hvb _ hb1').mono ?_
          rintro e w2 ⟨rfl, hb2⟩
          have z2 := hb2.size
          have hb2' := hb1'.trans (hb2.mono hb1'.size)
          have G1 : w2.heap[w.heap.size]? = some (.cells #[.int .i64 (T : Int)] 3 (0, 0)) := ((hb2.block w.heap.size (by omega)).trans (hb1.block w.heap.size (by simp))).trans (heap_alloc_new w _)
          have hb3 : Below w.heap.size w (w2.alloc (.cells #[.slice none 0 0] 33)) := hb2'.alloc (by omega) _
          have hF : ForbAt (w2.alloc (.cells #[.slice none 0 0] 33)) w.heap.size w2.heap.size T [] :=
            ⟨(Below.heap_alloc _ _ _ (by omega)).trans G1, .slice none 0 0, heap_alloc_new w2 _, Own.nil _ _ _ _ _, by omega, rfl⟩
          have hcon := commonF_any a b (.slice A a.length c) (.slice B b.length d) w.heap.size w2.heap.size T _ [] hF (by omega) (by omega) (by omega) (Cut.whole (ha.below hb3) HV1.out hac hcm rfl) (Cut.whole (hb.below hb3) HV2.out hbc hdm rfl)
          rw [← H'.out] at hcon
          clear hva hvb hb1 hb2 hF G1 hb2' hb1' hz0 g1
          go_wp2_with fail
          refine hcon.mono ?_
          rintro e w3 ⟨rfl, hF, ho⟩
          clear hcon
          obtain ⟨_, v, q2, hov, _, _⟩ := hF
          have c2 := cell_of_one q2
          have HB := Lib.hid (hb3.trans (ho.below (B := w.heap.size) (by simp; omega) (fun k hk hs => by have : k = w2.heap.size := hs; omega)))
          clear q2 ho hb3
          go_wp2_with fail
          go_ret2
          exact ⟨_, by rw [H.out]; rfl, hov.rebase (by omega), HB.out⟩
    · have hr : inRange t = false := by simp [inRange]; omega
      have H := Lib.hid (show forbErr t a b = 4 by simp [forbErr, hr])
      have H' := Lib.hid (show forbL t a b = [] by simp [forbL, H.out])
      clear hr
      go_enter Try.func18, Try.ntmps18
      go_wp2
      go_ret2
      exact ⟨_, by rw [H.out]; rfl, by rw [H'.out]; exact Own.nil _ _ _ _ _, hb0⟩
  · have hr : inRange t = false := by simp [inRange]; omega
    have H := Lib.hid (show forbErr t a b = 4 by simp [forbErr, hr])
    have H' := Lib.hid (show forbL t a b = [] by simp [forbL, H.out])
    clear hr
    go_enter Try.func18, Try.ntmps18
    go_wp2
    go_ret2
    exact ⟨_, by rw [H.out]; rfl, by rw [H'.out]; exact Own.nil _ _ _ _ _, hb0⟩

end Go.Proofs.Ytdijhhfmicafjaa
