/-
  Contract of awake of chapter 2: it returns true.
-/
import Derived.Test.YtabcbkgnhdijpaaRefMake
set_option linter.unusedVariables false
set_option linter.unusedSimpArgs false
namespace Go.Proofs.Ytabcbkgnhdijpaa
open Go.RowKit RP

/-- Same at two rows of which one at least is the call's own. -/
theorem same_own (A B : Value) (l m : List Sp) (w : World) (b b' : Nat) (hl : OwnS w b A l) (hm : OwnS w b' B m) :
    Calls Try.prog 20 #[A, B] w fun e w' => e = .returned (.bool (decide (l = m))) ∧ Below w.heap.size w w' := by
  have h1 := hl.maxLen
  have h2 := hm.maxLen
  simp only [maxLen] at h1 h2
  obtain ⟨A', c, rfl⟩ := hl.form
  obtain ⟨B', d, rfl⟩ := hm.form
  exact same_any A' B' c d l m w (hl.lst encS_len) (hm.lst encS_len) (by omega) (by omega)

set_option maxHeartbeats 1000000 in
theorem awake2_any (w : World) : Calls Try.prog 19 #[] w fun e w' => e = .returned (.bool true) ∧ Below w.heap.size w w' := by
  have hmk := make_any 7 2 3 w (by omega) (by omega) (by omega)
  have e1 : makeL 7 2 3 = [(2, 5)] := by decide
  have e2 : rangeErr 7 = 0 := by decide
  rw [e1, e2] at hmk
  clear e1 e2
  go_enter Try.func19, Try.ntmps19
  go_wp2_with fail
  refine hmk.mono ?_
  rintro e w1 ⟨v, rfl, ho, hb⟩
  clear hmk
  have hs := same_own v (.slice (some ⟨w1.heap.size, 0, none⟩) 1 1) [(2, 5)] [(2, 5)] (w1.alloc (.cells #[.int .i64 2, .int .i64 5] 31)) w.heap.size w1.heap.size (ho.alloc _)
    (Own.lit w1 _ _ _ [(2, 5)] 1 rfl encS_len rfl (Nat.le_refl _) (by simp [maxLen]))
  have hsz := hb.size
  go_wp2_with (go_at_call 20; refine hs.mono ?_; rintro e w2 ⟨rfl, hb2⟩)
  go_ret
  exact ⟨ret_bool (by simp), hb.trans (((Below.refl _ _).alloc (Nat.le_refl _) _ |>.mono hsz).trans (hb2.mono (by simp; omega)))⟩

end Go.Proofs.Ytabcbkgnhdijpaa
