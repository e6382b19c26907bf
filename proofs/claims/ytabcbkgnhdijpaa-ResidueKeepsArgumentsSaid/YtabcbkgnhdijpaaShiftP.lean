/-
  Plain facts: shifting the spans of a valid list shifts its residues; the residues of a sum.
-/
import Derived.Test.YtabcbkgnhdijpaaGapsP
set_option linter.unusedVariables false
set_option linter.unusedSimpArgs false
namespace RP

/-- The spans of a shifted set. -/
def shiftArcs (t d : Int) (l : List Sp) : List Sp := l.flatMap fun s => arc t ((s.1 + d) % t) (s.2 - s.1)

theorem shiftArcs_snoc (t d : Int) (l : List Sp) (s : Sp) : shiftArcs t d (l ++ [s]) = shiftArcs t d l ++ arc t ((s.1 + d) % t) (s.2 - s.1) := by
  simp only [shiftArcs, List.flatMap_append, List.flatMap_cons, List.flatMap_nil, List.append_nil]

theorem arc_bounds {t f : Int} (n : Int) (h1 : 1 ≤ t) (h2 : 0 ≤ f) (h3 : f < t) : ∀ s ∈ arc t f n, 0 ≤ s.1 ∧ s.1 < s.2 ∧ s.2 ≤ t := by
  unfold arc
  split
  · simp
  · split
    · simp; omega
    · split
      · simp; omega
      · simp; omega

theorem shiftArcs_bounds {t d : Int} (h1 : 1 ≤ t) (l : List Sp) : ∀ s ∈ shiftArcs t d l, 0 ≤ s.1 ∧ s.1 < s.2 ∧ s.2 ≤ t := by
  intro s hs
  obtain ⟨u, _, hu⟩ := List.mem_flatMap.1 hs
  exact arc_bounds _ h1 (Int.emod_nonneg _ (by omega)) (Int.emod_lt_of_pos _ (by omega)) s hu

theorem shiftArcs_len (t d : Int) : ∀ l : List Sp, (shiftArcs t d l).length ≤ 2 * l.length
  | [] => by simp [shiftArcs]
  | s :: l => by
    have h1 := shiftArcs_len t d l
    have h2 := arc_length t ((s.1 + d) % t) (s.2 - s.1)
    simp only [shiftArcs, List.flatMap_cons, List.length_append, List.length_cons] at h1 h2 ⊢
    omega

theorem sub_emod_emod (x y t : Int) : (x - y % t) % t = (x - y) % t := by
  rw [Int.sub_emod, Int.emod_emod_of_dvd _ (Int.dvd_refl t), ← Int.sub_emod]
theorem emod_sub_emod' (x y t : Int) : (x % t - y) % t = (x - y) % t := by
  rw [Int.sub_emod, Int.emod_emod_of_dvd _ (Int.dvd_refl t), ← Int.sub_emod]

/-- y lies in a span: by the distance from its begin. -/
theorem span_dist {t f e y : Int} (h0 : 0 ≤ f) (h1 : f < e) (h2 : e ≤ t) (hy0 : 0 ≤ y) (hy1 : y < t) : (y - f) % t < e - f ↔ f ≤ y ∧ y < e := by
  rw [subMod hy0 hy1 h0 (by omega)]
  split <;> omega

theorem mem_flat {α : Type} {f : α → List Sp} {l : List α} {x : Int} : mem (l.flatMap f) x = true ↔ ∃ a ∈ l, mem (f a) x = true := by
  rw [mem_iff]
  constructor
  · rintro ⟨s, hs, q⟩
    obtain ⟨a, ha, hs'⟩ := List.mem_flatMap.1 hs
    exact ⟨a, ha, mem_iff.2 ⟨s, hs', q⟩⟩
  · rintro ⟨a, ha, h⟩
    obtain ⟨s, hs, q⟩ := mem_iff.1 h
    exact ⟨s, List.mem_flatMap.2 ⟨a, ha, hs⟩, q⟩

theorem shiftArcs_mem {t d : Int} (h1 : 1 ≤ t) {l : List Sp} (hl : ∀ s ∈ l, 0 ≤ s.1 ∧ s.1 < s.2 ∧ s.2 ≤ t) (x : Int) (hx0 : 0 ≤ x) (hx1 : x < t) : mem (shiftArcs t d l) x = mem l ((x - d) % t) := by
  apply mem_eq_of_iff
  have y0 := Int.emod_nonneg (x - d) (show t ≠ 0 by omega)
  have y1 := Int.emod_lt_of_pos (x - d) (show 0 < t by omega)
  rw [shiftArcs, mem_flat, mem_iff]
  have key : ∀ s ∈ l, mem (arc t ((s.1 + d) % t) (s.2 - s.1)) x = true ↔ s.1 ≤ (x - d) % t ∧ (x - d) % t < s.2 := by
    intro s hs
    obtain ⟨a1, a2, a3⟩ := hl s hs
    rw [arc_mem _ (Int.emod_nonneg _ (by omega)) (Int.emod_lt_of_pos _ (by omega)) x hx0 hx1, sub_emod_emod, show x - (s.1 + d) = (x - d) - s.1 by omega, ← emod_sub_emod', decide_eq_true_eq]
    exact span_dist a1 a2 a3 y0 y1
  constructor
  · rintro ⟨s, hs, q⟩; exact ⟨s, hs, (key s hs).1 q⟩
  · rintro ⟨s, hs, q⟩; exact ⟨s, hs, (key s hs).2 q⟩

end RP
