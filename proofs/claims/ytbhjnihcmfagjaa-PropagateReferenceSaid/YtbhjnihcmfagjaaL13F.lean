/-
  Walk of PropagateExamples.
-/
import Derived.Test.YtbhjnihcmfagjaaL13B
import Derived.Test.YtbhjnihcmfagjaaSing
set_option linter.unusedVariables false
set_option linter.unusedSimpArgs false
namespace Go.Proofs.Ytbhjnihcmfagjaa
open Go.RowKit Go.Shelf RP

def exEv : List Evt := [(0, 0, 0), (0, 0, 0), (0, 0, 0)]
def SmallPost (w : World) (e : Ending) (w' : World) : Prop :=
  ∃ gE gA : Nat, e = .returned (netV 10 (some ⟨gE, 0, none⟩) 3 3 (some ⟨gA, 0, none⟩) exL.length 3) ∧ Lst encE 3 w' w'.heap.size (some ⟨gE, 0, none⟩) exEv ∧ Lst encA 6 w' w'.heap.size (some ⟨gA, 0, none⟩) exL ∧ Below w.heap.size w w'
def evZ : Array Value := #[.int .i64 0, .int .i64 0, .int .i64 0, .int .i64 0, .int .i64 0, .int .i64 0, .int .i64 0, .int .i64 0, .int .i64 0]
theorem small_lsts (w : World) (cs : Array Value) (n e : TypeId) (q : Array Value) (hq : q.toList = exL.flatMap encA) :
    Lst encE 3 (((w.alloc (.cells cs n)).alloc (.cells evZ 65)).alloc (.cells q e)) (((w.alloc (.cells cs n)).alloc (.cells evZ 65)).alloc (.cells q e)).heap.size (some ⟨w.heap.size + 1, 0, none⟩) exEv ∧
      Lst encA 6 (((w.alloc (.cells cs n)).alloc (.cells evZ 65)).alloc (.cells q e)) (((w.alloc (.cells cs n)).alloc (.cells evZ 65)).alloc (.cells q e)).heap.size (some ⟨w.heap.size + 1 + 1, 0, none⟩) exL := by
  have h1 := Own.lst encE_len (Own.lit (w.alloc (.cells cs n)) 65 0 evZ exEv 3 rfl encE_len rfl (Nat.zero_le _) (by unfold maxLen; decide))
  have h2 := Own.lst encA_len (Own.lit ((w.alloc (.cells cs n)).alloc (.cells evZ 65)) e 0 q exL 3 rfl encA_len hq (Nat.zero_le _) (by unfold maxLen; decide))
  have ba := belA ((w.alloc (.cells cs n)).alloc (.cells evZ 65)) (.cells q e)
  have h3 := h1.belowMore ba ba.size
  have e1 : (w.alloc (.cells cs n)).heap.size = w.heap.size + 1 := by simp
  have e2 : ((w.alloc (.cells cs n)).alloc (.cells evZ 65)).heap.size = w.heap.size + 1 + 1 := by simp
  rw [← e2, ← e1]
  exact ⟨h3, h2⟩
set_option maxRecDepth 100000 in
set_option maxHeartbeats 2000000 in
theorem small_any (w : World) : Calls Try.prog 19 #[] w (SmallPost w) := by
  have mk : ∀ w : World, (Instr.makeSlice 22 (.int .i64 3) (.int .i64 3)).run Try.prog w = .ok (.slice (some ⟨w.heap.size, 0, none⟩) 3 3) (w.alloc (.cells evZ 65)) := fun w => by kernel_rfl
  have hz := fun (cs : Array Value) => heap_alloc_new w (.cells cs 25)
  go_enter Try.func19, Try.ntmps19
  go_wp2_with fail
  refine bodyPost_ret (results_cell_row rfl _ _ w.heap.size 25 _ _ _ rfl (((belA _ _).block _ (by simp; omega)).trans (((belA _ _).block _ (by simp)).trans (hz _))) Try.underlying25 rfl (by kernel_rfl)) rfl ?_
  obtain ⟨h1, h2⟩ := small_lsts w _ _ 30 _ rfl
  refine ⟨w.heap.size + 1, w.heap.size + 1 + 1, rfl, h1, h2, ?_⟩
  exact ((belA w _).trans ((belA _ _).mono (by simp))).trans ((belA _ _).mono (by simp; omega))

set_option maxRecDepth 100000 in
set_option maxHeartbeats 8000000 in
theorem walkPropagateExamples (w : World) : Calls Try.prog 5 #[] w fun e w' => e = .returned (.bool true) ∧ Below w.heap.size w w' := by
  go_enter Try.func5, Try.ntmps5
  go_wp2_with fail
  refine (small_any w).mono ?_
  rintro ex w1 ⟨gE, gA, rfl, hE, hA, hb1⟩
  go_wp2_with fail
  refine (close_any 10 (some ⟨gE, 0, none⟩) 3 3 (some ⟨gA, 0, none⟩) 3 exEv exL w1 hA hE rfl exL_ok).mono ?_
  intro ex w2 hp
  obtain ⟨gt, D, e, rfl, hS, hb2⟩ := shut_of_post hp
  have he : e = false := by
    cases e with
    | false => rfl
    | true =>
      have h1 := ex_sing hS.fin.great 0 1 (by omega) (by omega)
      rw [(hS.fin.emp rfl).2] at h1
      cases h1
  subst he
  have r1 := ex_runs1 hS.fin.great
  have r2 := ex_runs2 hS.fin.great
  have k1 := fun W h => betweenIn_any gt 3 10 exL D false 0 1 W h (by omega) (by omega)
  have k2 := fun W h => betweenIn_any gt 3 10 exL D false 0 2 W h (by omega) (by omega)
  rw [r1] at k1
  rw [r2] at k2
  have HB := Lib.hid (hb1.trans (hb2.mono hb1.size))
  have HS := Lib.hid hS
  clear hp hb1 hb2 hE hA hS r1 r2
  go_wp2_with fail
  refine (k1 w2 HS.out).mono ?_
  rintro ex w3 ⟨v3, rfl, ho3, hb3⟩
  obtain ⟨A3, c3, rfl⟩ := ho3.form
  have HB3 := Lib.hid (HB.out.trans (hb3.mono HB.out.size))
  have HS3 := Lib.hid (HS.out.below hb3)
  have ho4 := Own.lit w3 46 0 #[.int .i64 3, .int .i64 4] [((3 : Int), (4 : Int))] 1 rfl encS_len rfl (Nat.zero_le _) (by unfold maxLen; decide)
  have ba3 := belA w3 (.cells #[.int .i64 3, .int .i64 4] 46)
  have h3 := (Own.lst encS_len ho3).belowMore ba3 ba3.size
  have h4 := Own.lst encS_len ho4
  have HB4 := Lib.hid (HB3.out.trans (ba3.mono HB3.out.size))
  have HS4 := Lib.hid (HS3.out.below ba3)
  have hsm := same_any A3 (some ⟨w3.heap.size, 0, none⟩) c3 1 [((3 : Int), (4 : Int))] [((3 : Int), (4 : Int))] _ h3 h4 (by simp) (by simp)
  rw [decide_eq_true rfl] at hsm
  clear ho3 hb3 ho4 ba3 h3 h4 k1
  go_wp2_with fail
  refine hsm.mono ?_
  rintro ex w5 ⟨rfl, hb5⟩
  have HB5 := Lib.hid (HB4.out.trans (hb5.mono HB4.out.size))
  have HS5 := Lib.hid (HS4.out.below hb5)
  clear hb5 hsm
  go_wp2_with fail
  refine (k2 w5 HS5.out).mono ?_
  rintro ex w6 ⟨v6, rfl, ho3, hb3⟩
  obtain ⟨A6, c6, rfl⟩ := ho3.form
  have HB6 := Lib.hid (HB5.out.trans (hb3.mono HB5.out.size))
  have HS6 := Lib.hid (HS5.out.below hb3)
  have ho4 := Own.lit w6 46 0 #[.int .i64 7, .int .i64 8] [((7 : Int), (8 : Int))] 1 rfl encS_len rfl (Nat.zero_le _) (by unfold maxLen; decide)
  have ba3 := belA w6 (.cells #[.int .i64 7, .int .i64 8] 46)
  have h3 := (Own.lst encS_len ho3).belowMore ba3 ba3.size
  have h4 := Own.lst encS_len ho4
  have HB7 := Lib.hid (HB6.out.trans (ba3.mono HB6.out.size))
  have HS7 := Lib.hid (HS6.out.below ba3)
  have hsm := same_any A6 (some ⟨w6.heap.size, 0, none⟩) c6 1 [((7 : Int), (8 : Int))] [((7 : Int), (8 : Int))] _ h3 h4 (by simp) (by simp)
  rw [decide_eq_true rfl] at hsm
  clear ho3 hb3 ho4 ba3 h3 h4 k2
  go_wp2_with fail
  refine hsm.mono ?_
  rintro ex w8 ⟨rfl, hb8⟩
  have HB8 := Lib.hid (HB7.out.trans (hb8.mono HB7.out.size))
  have HS8 := Lib.hid (HS7.out.below hb8)
  clear hb8 hsm
  go_wp2_with fail
  refine (empty_any gt 3 10 exL D false w8 HS8.out).mono ?_
  rintro ex w9 ⟨rfl, rfl⟩
  go_wp2_with fail
  go_ret
  exact ⟨rfl, HB8.out⟩

end Go.Proofs.Ytbhjnihcmfagjaa
