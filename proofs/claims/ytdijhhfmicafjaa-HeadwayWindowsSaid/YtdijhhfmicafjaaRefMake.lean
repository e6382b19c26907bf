/-
  Contract of the reference's Make: it returns the same set and error as Make.
-/
import Derived.Test.YtdijhhfmicafjaaSpans
import Derived.Deep.OwnRows
set_option linter.unusedVariables false
set_option linter.unusedSimpArgs false
namespace Go.Proofs.Ytdijhhfmicafjaa
open Go.RowKit RP

theorem bitAt_bitsOf {t : Nat} {P : Nat → Bool} {i : Nat} (h : i < t) : bitAt (bitsOf t P) i = P i := by simp [bitAt, bitsOf, h]
theorem runs_bits (t : Nat) (P : Nat → Bool) : runs (bitAt (bitsOf t P)) (bitsOf t P).length = runs P t := by
  rw [bitsOf_length]
  exact runs_congr fun x hx => bitAt_bitsOf hx

theorem infoBool : (Try.prog.info? 4).map (fun i => (i.zero, i.size, i.bytes)) = some (some (.bool false), 1, 1) := by kernel_rfl

/-- make([]bool, t). -/
theorem makeBools (t : Nat) (h : t ≤ 4294967296) : ∀ w : World, (Instr.makeSlice 64 (.int .i64 (t : Int)) (.int .i64 (t : Int))).run Try.prog w =
    .ok (.slice (some ⟨w.heap.size, 0, none⟩) t t) (w.alloc (.cells (madeCells #[.bool false] t) 4)) :=
  fun w => run_make_row' 64 4 (.bool false) 1 Try.underlying64 infoBool rfl .i64 .i64 t (by omega) (by omega) w

theorem flat_bools : ∀ t : Nat, (List.replicate t false).flatMap encB = List.replicate t (.bool false)
  | 0 => rfl
  | t + 1 => by rw [List.replicate_succ, List.flatMap_cons, flat_bools t, List.replicate_succ]; rfl

theorem Own.bools (w : World) (t : Nat) (h : t ≤ 4294967296) : Own encB 1 4 (w.alloc (.cells (madeCells #[.bool false] t) 4)) w.heap.size (.slice (some ⟨w.heap.size, 0, none⟩) t t) (bitsOf t fun _ => false) := by
  refine Own.lit w _ _ _ _ _ (by rw [bitsOf_length]) encB_len ?_ (Nat.le_refl _) (by rw [bitsOf_length]; simp only [Go.maxLen]; omega)
  rw [madeCells_toList, ← bitsOf_false, flat_bools]

/-- A row of bools: a cell, that it may be written, and the row behind the store. -/
theorem Own.boAt {w : World} {base g n c : Nat} {l : List Bool} (h : Own encB 1 4 w base (.slice (some ⟨g, 0, none⟩) n c) l) (i : Nat) (hi : i < l.length) (b : Bool) :
    w.cell? ⟨g, i, none⟩ = some (.bool l[i]) ∧ w.frozen? ⟨g, i, none⟩ = false ∧ Own encB 1 4 (w.setCell ⟨g, i, none⟩ (.bool b)) base (.slice (some ⟨g, 0, none⟩) n c) (l.set i b) := by
  obtain ⟨g', c', hv, _, _, _, hc, hf⟩ := h.at_ encB_len (by intro h0; subst h0; simp at hi)
  injection hv with hv
  simp only [Option.some.injEq, Addr.mk.injEq, and_true] at hv
  subst hv
  have h1 := hc i l[i] (List.getElem?_eq_getElem hi) 0 _ rfl
  have h2 := (h.stored encB_len i 0 (.bool b) b hi (by omega) rfl).1
  rw [Nat.mul_one, Nat.add_zero] at h1 h2
  exact ⟨h1, hf i, h2⟩

theorem makeL_eq {t : Nat} {f n : Int} (h1 : 1 ≤ t) (h2 : t ≤ 7200) : makeL t f n = runs (arcB t (modI f t) n) t := by
  have hr : inRange (t : Int) = true := by simp [inRange]; omega
  have := modI_range f t (by omega)
  rw [makeL, hr, if_pos rfl]
  exact arc_eq n h1 this.1 this.2

end Go.Proofs.Ytdijhhfmicafjaa
