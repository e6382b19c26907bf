/-
  Walk of PropagateReference.
-/
import Derived.Test.YtbhjnihcmfagjaaRf13
import Derived.Test.YtbhjnihcmfagjaaL13F
import Derived.Test.YtbhjnihcmfagjaaTimes
set_option linter.unusedVariables false
set_option linter.unusedSimpArgs false
namespace Go.Proofs.Ytbhjnihcmfagjaa
open Go.RowKit Go.Shelf RP

set_option maxRecDepth 100000 in
set_option maxHeartbeats 8000000 in
theorem walkPropagateReference (A : Option Addr) (c : Nat) (l : List Int) (A2 : Option Addr) (c2 : Nat) (l2 : List Int) (w : World) (h : ArgI w A c l) (h2 : ArgI w A2 c2 l2) :
    Calls Try.prog 11 #[.slice A l.length c, .slice A2 l2.length c2] w fun e w' => e = .returned (.bool true) ∧ Below w.heap.size w w' := by
  go_enter Try.func11, Try.ntmps11
  go_wp2_with fail
  refine (network_any A c l w h).mono ?_
  rintro ex w1 ⟨T, m, E, cE, A', cA, ev, acts, rfl, hev, hoE, hoA, hmade, hb1⟩
  obtain ⟨hyes, t1, t2, m1, m2, la⟩ := hmade
  have z1 := hb1.size
  have ba := belA w1 (.cells #[.int .i64 T, .slice E m cE, .slice A' acts.length cA] 25)
  have hnew := heap_alloc_new w1 (.cells #[.int .i64 T, .slice E m cE, .slice A' acts.length cA] 25)
  have hL2 := (Own.lst encA_len hoA).belowMore ba ba.size
  have hE2 := (Own.lst encE_len hoE).belowMore ba ba.size
  have hB2 := hb1.trans (ba.mono z1)
  have hz2 : w1.heap.size < (w1.alloc (.cells #[.int .i64 T, .slice E m cE, .slice A' acts.length cA] 25)).heap.size := by simp
  have hx2 := (h2.below hb1).below ba
  have n0 : (w1.alloc (.cells #[.int .i64 T, .slice E m cE, .slice A' acts.length cA] 25)).cell? ⟨w1.heap.size, 0, none⟩ = some (.int .i64 T) := by rw [cell_of_row _ _ 0 _ _ _ hnew]; rfl
  have n1 : (w1.alloc (.cells #[.int .i64 T, .slice E m cE, .slice A' acts.length cA] 25)).cell? ⟨w1.heap.size, 1, none⟩ = some (.slice E m cE) := by rw [cell_of_row _ _ 1 _ _ _ hnew]; rfl
  have n2 : (w1.alloc (.cells #[.int .i64 T, .slice E m cE, .slice A' acts.length cA] 25)).cell? ⟨w1.heap.size, 2, none⟩ = some (.slice A' acts.length cA) := by rw [cell_of_row _ _ 2 _ _ _ hnew]; rfl
  have HEV := Lib.hid hev
  have HL := Lib.hid hL2
  have HE := Lib.hid hE2
  have HX := Lib.hid hx2
  have HBW := Lib.hid hB2
  have HY := Lib.hid hyes
  clear hnew ba hoE hoA hev hb1 hL2 hE2 hx2 hB2 hyes
  go_upto_region 2 with fail
  generalize w1.alloc (.cells #[.int .i64 T, .slice E m cE, .slice A' acts.length cA] 25) = w2 at *
  generalize w1.heap.size = gn at *
  have hB : Below w2.heap.size w2 w2.drew := (Below.refl _ _).drew
  go_region_held3 (fun w' => w'.cell? ⟨gn, 0, none⟩ = some (.int .i64 T) ∧ w'.cell? ⟨gn, 1, none⟩ = some (.slice E m cE) ∧ w'.cell? ⟨gn, 2, none⟩ = some (.slice A' acts.length cA))
    (exact ⟨(hB.cell (p := ⟨gn, 0, none⟩) hz2).trans n0, (hB.cell (p := ⟨gn, 1, none⟩) hz2).trans n1, (hB.cell (p := ⟨gn, 2, none⟩) hz2).trans n2⟩)
    (first
      | (go_at_call 26; refine (times_any T E m cE A' acts.length cA A2 c2 l2 _ (HX.out.below hB) (by omega) (by omega) (by omega)).mono ?_; rintro ex w3 ⟨B, cB, ts, rfl, hlen, hts, hoT, hb3⟩; have hT3 := Own.lst encI_len hoT; have hl5 : ts.length ≤ 5 := (by omega); clear hlen hts hoT; replace hB := hB.trans (hb3.mono hB.size); clear hb3)
      | (go_at_call 19; refine (small_any _).mono ?_; rintro ex w5 ⟨gE, gA, rfl, hsE, hsA, hb5⟩; replace hB := hB.trans (hb5.mono hB.size); clear hb5)
      | (go_at_call 33; (with_reducible refine (agrees13_any T m E cE A' cA ev acts B cB ts _ (HL.out.belowMore hB hB.size) (HE.out.belowMore hB hB.size) HEV.out m1 HY.out hT3 (by omega)).mono ?_); rintro ex w4 ⟨rfl, hb4⟩; replace hB := hB.trans (hb4.mono hB.size); clear hb4)
      | (go_at_call 33; refine (agrees13_any 10 3 (some ⟨gE, 0, none⟩) 3 (some ⟨gA, 0, none⟩) 3 exEv exL A2 c2 l2 _ hsA hsE rfl (by omega) exL_ok (HX.out.below hB).lst HX.out.len).mono ?_; rintro ex w6 ⟨rfl, hb6⟩; replace hB := hB.trans (hb6.mono hB.size); clear hb6))
  all_goals
    go_wp2_with fail
    go_ret
    exact ⟨rfl, HBW.out.trans (hB.mono HBW.out.size)⟩

end Go.Proofs.Ytbhjnihcmfagjaa
