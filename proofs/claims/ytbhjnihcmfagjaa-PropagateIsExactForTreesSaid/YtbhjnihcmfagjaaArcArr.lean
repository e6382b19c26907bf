/-
  Contract of appendArc at the empty slice of an array of two spans.
-/
import Derived.Test.YtbhjnihcmfagjaaSumP
import Derived.Test.YtbhjnihcmfagjaaShift
set_option linter.unusedVariables false
set_option linter.unusedSimpArgs false
namespace Go.Proofs.Ytbhjnihcmfagjaa
open Go.RowKit RP

/-- Block g holds an array of two spans. -/
def Arr4 (w : World) (g : Nat) (v0 v1 v2 v3 : Int) : Prop := w.heap[g]? = some (.cells #[.int .i64 v0, .int .i64 v1, .int .i64 v2, .int .i64 v3] 122 (0, 0))
def Arr2 (w : World) (g : Nat) : Prop := ∃ v0 v1 v2 v3, Arr4 w g v0 v1 v2 v3

section
variable {w : World} {g : Nat} {v0 v1 v2 v3 : Int}
theorem Arr4.set0 (h : Arr4 w g v0 v1 v2 v3) (v : Int) : Arr4 (w.setCell ⟨g, 0, none⟩ (.int .i64 v)) g v v1 v2 v3 := by unfold Arr4 at *; simp [World.setCell, Array.getElem?_modify, h]
theorem Arr4.set1 (h : Arr4 w g v0 v1 v2 v3) (v : Int) : Arr4 (w.setCell ⟨g, 1, none⟩ (.int .i64 v)) g v0 v v2 v3 := by unfold Arr4 at *; simp [World.setCell, Array.getElem?_modify, h]
theorem Arr4.set2 (h : Arr4 w g v0 v1 v2 v3) (v : Int) : Arr4 (w.setCell ⟨g, 2, none⟩ (.int .i64 v)) g v0 v1 v v3 := by unfold Arr4 at *; simp [World.setCell, Array.getElem?_modify, h]
theorem Arr4.set3 (h : Arr4 w g v0 v1 v2 v3) (v : Int) : Arr4 (w.setCell ⟨g, 3, none⟩ (.int .i64 v)) g v0 v1 v2 v := by unfold Arr4 at *; simp [World.setCell, Array.getElem?_modify, h]
theorem Arr4.lt (h : Arr4 w g v0 v1 v2 v3) : g < w.heap.size := (Array.getElem?_eq_some_iff.1 h).1
theorem Arr4.alloc (h : Arr4 w g v0 v1 v2 v3) (o : Obj) : Arr4 (w.alloc o) g v0 v1 v2 v3 := (Below.heap_alloc w o g h.lt).trans h
theorem Arr4.cell (h : Arr4 w g v0 v1 v2 v3) : w.cell? ⟨g, 0, none⟩ = some (.int .i64 v0) ∧ w.cell? ⟨g, 1, none⟩ = some (.int .i64 v1) ∧ w.cell? ⟨g, 2, none⟩ = some (.int .i64 v2) ∧ w.cell? ⟨g, 3, none⟩ = some (.int .i64 v3) :=
  ⟨by rw [cell_of_row w g 0 _ _ _ h]; rfl, by rw [cell_of_row w g 1 _ _ _ h]; rfl, by rw [cell_of_row w g 2 _ _ _ h]; rfl, by rw [cell_of_row w g 3 _ _ _ h]; rfl⟩
theorem Arr4.free (h : Arr4 w g v0 v1 v2 v3) (j : Nat) : w.frozen? ⟨g, j, none⟩ = false := frozen_of_row w g j _ _ h
theorem Arr4.one (h : Arr4 w g v0 v1 v2 v3) (B : Nat) (hB : g < B) : Lst encS 2 w B (some ⟨g, 0, none⟩) [(v0, v1)] := fun _ => by
  obtain ⟨a, b, _, _⟩ := h.cell
  refine ⟨g, 0, rfl, hB, fun i x hx j u hu => ?_⟩
  match i, hx with
  | 0, hx =>
    simp at hx; subst hx
    match j, hu with
    | 0, hu => simp [encS] at hu; subst hu; simpa using a
    | 1, hu => simp [encS] at hu; subst hu; simpa using b
    | j + 2, hu => simp [encS] at hu
  | i + 1, hx => simp at hx
theorem Arr4.two (h : Arr4 w g v0 v1 v2 v3) (B : Nat) (hB : g < B) : Lst encS 2 w B (some ⟨g, 0, none⟩) [(v0, v1), (v2, v3)] := fun _ => by
  obtain ⟨a, b, c, d⟩ := h.cell
  refine ⟨g, 0, rfl, hB, fun i x hx j u hu => ?_⟩
  match i, hx with
  | 0, hx =>
    simp at hx; subst hx
    match j, hu with
    | 0, hu => simp [encS] at hu; subst hu; simpa using a
    | 1, hu => simp [encS] at hu; subst hu; simpa using b
    | j + 2, hu => simp [encS] at hu
  | 1, hx =>
    simp at hx; subst hx
    match j, hu with
    | 0, hu => simp [encS] at hu; subst hu; simpa using c
    | 1, hu => simp [encS] at hu; subst hu; simpa using d
    | j + 2, hu => simp [encS] at hu
  | i + 2, hx => simp at hx
end

theorem gset {w w' : World} {g j : Nat} (h : w.grownBy w' (some g)) (u : Value) : w.grownBy (w'.setCell ⟨g, j, none⟩ u) (some g) :=
  ⟨h.os, h.tape, h.output, by simpa [World.setCell] using h.size, fun k hk hne => (Below.heap_setCell w' _ u k (fun e => hne (by rw [e]))).trans (h.block k hk hne)⟩
theorem galloc {w w' : World} {row : Option Nat} (h : w.grownBy w' row) (o : Obj) : w.grownBy (w'.alloc o) row :=
  ⟨h.os, h.tape, h.output, Nat.le_trans h.size (by simp), fun k hk hne => (Below.heap_alloc w' o k (Nat.lt_of_lt_of_le hk h.size)).trans (h.block k hk hne)⟩

def OnlyBlk (g : Nat) (w w' : World) : Prop := w.grownBy w' (some g)

def ArcPost (g : Nat) (l : List Sp) (w : World) (e : Ending) (w' : World) : Prop :=
  e = .returned (.slice (some ⟨g, 0, none⟩) l.length 2) ∧ Arr2 w' g ∧ Lst encS 2 w' w'.heap.size (some ⟨g, 0, none⟩) l ∧ w.grownBy w' (some g)

set_option maxHeartbeats 1000000 in
theorem appendArc_arr (g : Nat) (t f n : Int) (w : World) (h : Arr2 w g) (hg : g < w.heap.size)
    (t1 : 1 ≤ t) (t2 : t ≤ 7200) (f1 : 0 ≤ f) (f2 : f < t) (n2 : n ≤ 9223372036854775807) :
    Calls Try.prog 75 #[.slice (some ⟨g, 0, none⟩) 0 2, .int .i64 t, .int .i64 f, .int .i64 n] w (ArcPost g (arc t f n) w) := by
  obtain ⟨x0, x1, x2, x3, h4⟩ := h
  have hA2 : Arr2 w g := ⟨_, _, _, _, h4⟩
  obtain ⟨k0, k1, k2, k3⟩ := h4.cell
  have z0 := h4.free 0
  have z1 := h4.free 1
  have z2 := h4.free 2
  have z3 := h4.free 3
  have hne : ¬ g = w.heap.size := by omega
  have hne' : ¬ w.heap.size = g := by omega
  have H4 := Lib.hid h4
  clear h4
  by_cases c1 : n < 1
  · have H := Lib.hid (show arc t f n = [] by simp [arc, c1])
    go_enter Try.func75, Try.ntmps75
    go_wp2
    go_ret
    exact ⟨by rw [H.out]; rfl, hA2, by rw [H.out]; exact Lst.nil, grownBy_refl _ _⟩
  · by_cases c2 : t ≤ n
    · have H := Lib.hid (show arc t f n = [(0, t)] by simp [arc, c1, c2])
      go_enter Try.func75, Try.ntmps75
      go_wp2
      go_ret
      have q := ((H4.out.set0 0).set1 t).alloc (.cells #[.int .i64 0, .int .i64 t] 46)
      exact ⟨by rw [H.out]; rfl, ⟨_, _, _, _, q⟩, by rw [H.out]; exact q.one _ q.lt, galloc (gset (gset (grownBy_refl _ _) _) _) _⟩
    · by_cases c3 : f + n ≤ t
      · have H := Lib.hid (show arc t f n = [(f, f + n)] by simp [arc, c1, c2, c3])
        go_enter Try.func75, Try.ntmps75
        go_wp2
        go_ret
        have q := ((H4.out.set0 f).set1 (f + n)).alloc (.cells #[.int .i64 f, .int .i64 (f + n)] 46)
        exact ⟨by rw [H.out]; rfl, ⟨_, _, _, _, q⟩, by rw [H.out]; exact q.one _ q.lt, galloc (gset (gset (grownBy_refl _ _) _) _) _⟩
      · have H := Lib.hid (show arc t f n = [(0, f + n - t), (f, t)] by simp [arc, c1, c2, c3])
        go_enter Try.func75, Try.ntmps75
        go_wp2
        go_ret
        have q := ((((H4.out.set0 0).set1 (f + n - t)).set2 f).set3 t).alloc (.cells #[.int .i64 0, .int .i64 (f + n - t), .int .i64 f, .int .i64 t] 46)
        exact ⟨by rw [H.out]; rfl, ⟨_, _, _, _, q⟩, by rw [H.out]; exact q.two _ q.lt, galloc (gset (gset (gset (gset (grownBy_refl _ _) _) _) _) _) _⟩

end Go.Proofs.Ytbhjnihcmfagjaa
