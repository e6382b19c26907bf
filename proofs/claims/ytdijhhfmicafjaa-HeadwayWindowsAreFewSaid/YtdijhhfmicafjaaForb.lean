/-
  Contracts of common with the closure of Forbidden, and of Forbidden.
-/
import Derived.Test.YtdijhhfmicafjaaLeastW
import Derived.Test.YtdijhhfmicafjaaForbP
set_option linter.unusedVariables false
set_option linter.unusedSimpArgs false
namespace Go.Proofs.Ytdijhhfmicafjaa
open Go.RowKit RP

def oneB (a : Nat) (k : Nat) : Prop := k = a

/-- The two captured variables of Forbidden: the period, and the set so far. -/
def ForbAt (w : World) (gl gb T : Nat) (s : List Sp) : Prop := w.heap[gl]? = some (.cells #[.int .i64 (T : Int)] 3 (0, 0)) ∧
  ∃ v, w.heap[gb]? = some (.cells #[v] 33 (0, 0)) ∧ OwnS w (gb + 1) v s ∧ gl ≠ gb ∧ validFrom T (-1) s = true
section
variable {w w' : World} {gl gb T : Nat} {s : List Sp}
theorem ForbAt.lt0 (h : ForbAt w gl gb T s) : gl < w.heap.size := lt_of_block h.1
theorem ForbAt.lt (h : ForbAt w gl gb T s) : gb < w.heap.size := by obtain ⟨v, h1, _⟩ := h.2; exact lt_of_block h1
theorem ForbAt.alloc (h : ForbAt w gl gb T s) (o : Obj) : ForbAt (w.alloc o) gl gb T s := by
  obtain ⟨h1, v, h2, h3, h4⟩ := h
  exact ⟨(Below.heap_alloc _ _ _ (lt_of_block h1)).trans h1, v, (Below.heap_alloc _ _ _ (lt_of_block h2)).trans h2, h3.alloc _, h4⟩
theorem ForbAt.drew (h : ForbAt w gl gb T s) : ForbAt w.drew gl gb T s := h
end
def ForbPost (w : World) (gl gb T : Nat) (s : List Sp) (e : Ending) (w' : World) : Prop := e = .returned (.tuple #[]) ∧ ForbAt w' gl gb T s ∧ Off (oneB gb) w w'

theorem union_step {T : Nat} {s : List Sp} (q : Occ × Occ) (t1 : 1 ≤ T) (t2 : T ≤ 7200) (hv : validFrom T (-1) s = true) : unionI T s (makeL T (qFirst q) (qLen q)) = forbStep T s q := by
  have hr : inRange (T : Int) = true := by simp [inRange]; omega
  have : badI T s (makeL T (qFirst q) (qLen q)) = 0 := badI_of hr hv (by rw [makeL_eq t1 t2]; exact runs_valid _ _)
  simp [unionI, this, forbStep]

set_option maxHeartbeats 2000000 in
theorem forbFn_any (r f e r' f' e' : Int) (gl gb T : Nat) (s : List Sp) (w : World) (h : ForbAt w gl gb T s) (t1 : 1 ≤ T) (t2 : T ≤ 7200) (h1 : -1000000000 ≤ f) (h2 : f ≤ 1000000000) (h1 : -1000000000 ≤ e) (h2 : e ≤ 1000000000)
    (h3 : -1000000000 ≤ f') (h4 : f' ≤ 1000000000) (h5 : -1000000000 ≤ e') (h6 : e' ≤ 1000000000) :
    Calls Try.prog 32 #[.agg #[.int .i64 r, .int .i64 f, .int .i64 e], .agg #[.int .i64 r', .int .i64 f', .int .i64 e'], .pointer (some ⟨gl, 0, none⟩), .pointer (some ⟨gb, 0, none⟩)] w
      (ForbPost w gl gb T (forbStep T s ((r, f, e), (r', f', e')))) := by
  have hW := ((h.alloc (.cells #[.int .i64 r, .int .i64 f, .int .i64 e] 41)).alloc (.cells #[.int .i64 r', .int .i64 f', .int .i64 e'] 41))
  have ho := ((Off.refl (oneB gb) w).alloc (.cells #[.int .i64 r, .int .i64 f, .int .i64 e] 41)).alloc (.cells #[.int .i64 r', .int .i64 f', .int .i64 e'] 41)
  have HS := Lib.hid (union_step ((r, f, e), (r', f', e')) t1 t2 (by obtain ⟨_, v, _, _, _, hv⟩ := h; exact hv))
  have HV := Lib.hid (forbStep_valid T s ((r, f, e), (r', f', e')))
  obtain ⟨X, hX⟩ : ∃ X, qFirst ((r, f, e), (r', f', e')) = X := ⟨_, rfl⟩
  obtain ⟨Y, hY⟩ : ∃ Y, qLen ((r, f, e), (r', f', e')) = Y := ⟨_, rfl⟩
  have eX : f - e' + 1 = X := by rw [← hX]; rfl
  have eY : e - f' - 1 - X + 1 = Y := by rw [← hY, ← hX]; rfl
  rw [hX, hY] at HS
  have s1 : IntKind.i64.wrap (f - e') = f - e' := IntWalk.i64_in _ (by omega)
  have s2 : IntKind.i64.wrap (f - e' + 1) = f - e' + 1 := IntWalk.i64_in _ (by omega)
  have s3 : IntKind.i64.wrap (e - f') = e - f' := IntWalk.i64_in _ (by omega)
  have s4 : IntKind.i64.wrap (e - f' - 1) = e - f' - 1 := IntWalk.i64_in _ (by omega)
  have x1 : -2000000001 ≤ X := by omega
  have x2 : X ≤ 2000000001 := by omega
  have y1 : -4000000004 ≤ Y := by omega
  have y2 : Y ≤ 4000000004 := by omega
  have EX := Lib.hid eX
  have EY := Lib.hid eY
  clear eX eY hX hY h
  go_enter Try.func32, Try.ntmps32
  go_wp2_with fail
  go_quiet (fail)
  clear s1 s2 s3 s4
  simp only [EX.out]
  have hWn : ForbAt ((((w.alloc (.cells #[.int .i64 r, .int .i64 f, .int .i64 e] 41)).alloc (.cells #[.int .i64 r', .int .i64 f', .int .i64 e'] 41))).drewN nq) gl gb T s := hW
  have hon := ho.drewN nq
  clear hW ho
  generalize (((w.alloc (.cells #[.int .i64 r, .int .i64 f, .int .i64 e] 41)).alloc (.cells #[.int .i64 r', .int .i64 f', .int .i64 e'] 41))).drewN nq = W at *
  obtain ⟨q1, v, q2, ho1, hne, hv⟩ := hWn
  have c1 := cell_of_one q1
  have z1 := lt_of_block q1
  have z2 := lt_of_block q2
  have hvl := valid_length hv (by omega)
  clear hv
  go_wp2_with fail
  rw [EY.out]
  refine (make_any T X Y W (by omega) (by omega) (by omega)).mono ?_
  rintro e0 w2 ⟨v5, rfl, ho5, hb5⟩
  have ho2 := ho1.below' hb5
  replace c1 := (hb5.cell (p := ⟨gl, 0, none⟩) z1).trans c1
  replace q1 := (hb5.block gl z1).trans q1
  replace q2 := (hb5.block gb z2).trans q2
  have c2 := cell_of_one q2
  have z5 := hb5.size
  have hon2 := hon.belowAll hb5
  have m5 := ho5.maxLen
  simp only [maxLen] at m5
  obtain ⟨A6, c6, rfl⟩ := ho2.form
  obtain ⟨A5, c5, rfl⟩ := ho5.form
  have HQ1 := Lib.hid q1
  have HQ2 := Lib.hid q2
  clear q1 q2
  go_wp2_with fail
  refine (union_any T A6 A5 c6 c5 s (makeL T X Y) w2 (ho2.lst encS_len) (ho5.lst encS_len) (by omega) (by omega)).mono ?_
  rintro e0 w3 ⟨v6, rfl, ho6, hb6⟩
  rw [HS.out] at ho6
  obtain ⟨A7, c7, rfl⟩ := ho6.form
  have z6 := hb6.size
  have HQ3 := Lib.hid ((hb6.block gb (by omega)).trans HQ2.out)
  have HQ4 := Lib.hid ((hb6.block gl (by omega)).trans HQ1.out)
  have c3 := cell_of_one HQ3.out
  have f3 := free_of_one HQ3.out
  have HO := Lib.hid (hon2.belowAll hb6)
  clear hon2 hb6 c2 c1
  go_wp2_with fail
  go_end0
  exact ⟨rfl, ⟨(Below.heap_setCell _ _ _ _ hne).trans HQ4.out, _, one_setCell HQ3.out, (ho6.setBelow (by show gb < _; omega) _).rebase (by omega), hne, HV.out⟩, HO.out.setCell (p := ⟨gb, 0, none⟩) rfl _⟩

end Go.Proofs.Ytdijhhfmicafjaa
