/-
  Walk of PropagateIsSound.
-/
import Derived.Test.YtbhjnihcmfagjaaGood
import Derived.Test.YtbhjnihcmfagjaaSlack
import Derived.Test.YtbhjnihcmfagjaaTimes
import Derived.Test.YtbhjnihcmfagjaaFeaW
import Derived.Test.YtbhjnihcmfagjaaSing
set_option linter.unusedVariables false
set_option linter.unusedSimpArgs false
namespace RP
theorem sound_allow {m T : Nat} (h1 : 1 ≤ T) {l : List Acy} {D : Tab} {e : Bool} (hf : Fin13 m T (initT T l) D e) (hm : 1 ≤ m) {ts : List Int} (h : feasB T m l ts = true) : e = false ∧ Go.Proofs.Ytbhjnihcmfagjaa.allowB m T l D e ts = true := by
  obtain ⟨hg, hv⟩ := feas_iff.1 h
  have hok := (netB_iff.1 (goodB_iff.1 hg).1).2
  have hs := sing_great (t := fun i => ts.getD i 0) h1 hf.great hok (fun a ha => by have := hv a ha; show overI T ts a ≤ _; omega)
  have he : e = false := by
    cases e with
    | false => rfl
    | true =>
      have := hs 0 0 hm hm
      rw [(hf.emp rfl).2] at this
      cases this
  refine ⟨he, ?_⟩
  rw [Go.Proofs.Ytbhjnihcmfagjaa.allowB, hg, he, Bool.true_and, Bool.not_false, Bool.true_and, List.all_eq_true]
  intro i hi
  rw [List.all_eq_true]
  intro j hj
  exact hs i j (List.mem_range.1 hi) (List.mem_range.1 hj)
end RP
namespace Go.Proofs.Ytbhjnihcmfagjaa
open Go.RowKit RP

set_option maxRecDepth 100000 in
set_option maxHeartbeats 8000000 in
theorem walkPropagateIsSound (A : Option Addr) (c : Nat) (l : List Int) (A2 : Option Addr) (c2 : Nat) (l2 : List Int) (w : World) (h : ArgI w A c l) (h2 : ArgI w A2 c2 l2) :
    Calls Try.prog 9 #[.slice A l.length c, .slice A2 l2.length c2] w fun e w' => e = .returned (.bool true) ∧ Below w.heap.size w w' := by
  go_enter Try.func9, Try.ntmps9
  go_wp2_with fail
  refine (slack_any A c l w h).mono ?_
  rintro ex w1 ⟨T, m, E, cE, A', cA, ev, acts, rfl, hev, hoE, hoA, hmade, hb1⟩
  have HMD := Lib.hid hmade
  obtain ⟨_, t1, t2, m1, m2, la⟩ := hmade
  have z1 := hb1.size
  have ba := belA w1 (.cells #[.int .i64 T, .slice E m cE, .slice A' acts.length cA] 25)
  have hnew := heap_alloc_new w1 (.cells #[.int .i64 T, .slice E m cE, .slice A' acts.length cA] 25)
  have hL2 := (Own.lst encA_len hoA).belowMore ba ba.size
  have hE2 := (Own.lst encE_len hoE).belowMore ba ba.size
  have hB2 := hb1.trans (ba.mono z1)
  have hz2 : w1.heap.size < (w1.alloc (.cells #[.int .i64 T, .slice E m cE, .slice A' acts.length cA] 25)).heap.size := by simp
  have hx2 := (h2.below hb1).below ba
  have n0 : (w1.alloc (.cells #[.int .i64 T, .slice E m cE, .slice A' acts.length cA] 25)).cell? ⟨w1.heap.size, 0, none⟩ = some (.int .i64 T) := by rw [cell_of_row _ _ 0 _ _ _ hnew]; rfl
  have n1 : (w1.alloc (.cells #[.int .i64 T, .slice E m cE, .slice A' acts.length cA] 25)).cell? ⟨w1.heap.size, 1, none⟩ = some (.slice E m cE) := by rw [cell_of_row _ _ 1 _ _ _ hnew]; rfl
  have n2 : (w1.alloc (.cells #[.int .i64 T, .slice E m cE, .slice A' acts.length cA] 25)).cell? ⟨w1.heap.size, 2, none⟩ = some (.slice A' acts.length cA) := by rw [cell_of_row _ _ 2 _ _ _ hnew]; rfl
  have HEV := Lib.hid hev
  clear hnew ba hoE hoA hev hb1
  go_wp2_with fail
  generalize w1.alloc (.cells #[.int .i64 T, .slice E m cE, .slice A' acts.length cA] 25) = w2 at *
  generalize w1.heap.size = gn at *
  refine (times_any T E m cE A' acts.length cA A2 c2 l2 w2 hx2 (by omega) (by omega) (by omega)).mono ?_
  rintro ex w3 ⟨B, cB, ts, rfl, hlen, hts, hoT, hb3⟩
  replace n0 := (hb3.cell (p := ⟨gn, 0, none⟩) hz2).trans n0
  replace n1 := (hb3.cell (p := ⟨gn, 1, none⟩) hz2).trans n1
  replace n2 := (hb3.cell (p := ⟨gn, 2, none⟩) hz2).trans n2
  have z3 := hb3.size
  have hL3 := hL2.belowMore hb3 hb3.size
  have hE3 := hE2.belowMore hb3 hb3.size
  have hT3 := Own.lst encI_len hoT
  have hB3 := hB2.trans (hb3.mono hB2.size)
  have HT := Lib.hid hT3
  have HL := Lib.hid hL3
  have HB := Lib.hid hB3
  have HE := Lib.hid hE3
  have hl5 : ts.length ≤ 5 := by omega
  clear hL2 hE2 hB2 hx2 hoT hb3 hL3 hE3 hT3 hB3 hlen hts
  go_wp2_with fail
  refine (table_any T E m cE A' cA ev acts w3 HL.out HE.out HEV.out HMD.out.1).mono ?_
  rintro ex w4 ⟨gt, D, e, rfl, hS, hb4⟩
  replace n0 := (hb4.cell (p := ⟨gn, 0, none⟩) (show gn < w3.heap.size by omega)).trans n0
  replace n1 := (hb4.cell (p := ⟨gn, 1, none⟩) (show gn < w3.heap.size by omega)).trans n1
  replace n2 := (hb4.cell (p := ⟨gn, 2, none⟩) (show gn < w3.heap.size by omega)).trans n2
  have HT4 := Lib.hid (HT.out.belowMore hb4 hb4.size)
  have HL4 := Lib.hid (HL.out.belowMore hb4 hb4.size)
  have HB4 := Lib.hid (HB.out.trans (hb4.mono HB.out.size))
  have HS := Lib.hid hS
  have HSA := Lib.hid (fun h => sound_allow (by omega) hS.fin m1 (ts := ts) h)
  have hfe := refFeas_any T E m cE A' cA acts B cB ts w4 HL4.out (by omega) HT4.out (by omega)
  clear hS hb4
  cases hf : feasB T m acts ts with
  | false =>
    rw [hf] at hfe
    clear hf
    go_wp2_with fail
    refine hfe.mono ?_
    rintro ex w5 ⟨rfl, hb5⟩
    have HB5 := Lib.hid (HB4.out.trans (hb5.mono HB4.out.size))
    clear hb5 hfe
    go_wp2_with fail
    go_ret
    exact ⟨rfl, HB5.out⟩
  | true =>
    rw [hf] at hfe
    obtain ⟨he, hal⟩ := HSA.out hf
    subst he
    have HAL := Lib.hid hal
    clear hf hal
    go_wp2_with fail
    refine hfe.mono ?_
    rintro ex w5 ⟨rfl, hb5⟩
    have HB5 := Lib.hid (HB4.out.trans (hb5.mono HB4.out.size))
    have HS5 := Lib.hid (HS.out.below hb5)
    have hall := allows_any gt m T acts D false B cB ts w5 HS5.out (HT4.out.belowMore hb5 hb5.size) (by omega)
    rw [HAL.out] at hall
    clear hb5 hfe
    go_wp2_with fail
    refine hall.mono ?_
    rintro ex w6 ⟨rfl, hb6⟩
    have HB6 := Lib.hid (HB5.out.trans (hb6.mono HB5.out.size))
    have HS6 := Lib.hid (HS5.out.below hb6)
    clear hb6 hall
    go_wp2_with fail
    refine (empty_any gt m T acts D false w6 HS6.out).mono ?_
    rintro ex w7 ⟨rfl, rfl⟩
    go_wp2_with fail
    go_ret
    exact ⟨rfl, HB6.out⟩

end Go.Proofs.Ytbhjnihcmfagjaa
