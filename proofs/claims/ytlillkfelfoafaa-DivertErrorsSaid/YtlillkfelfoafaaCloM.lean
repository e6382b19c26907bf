/-
  Plain facts on merging: closures of one resource that neither overlap nor touch.
-/
import Derived.Test.YtlillkfelfoafaaCloP
set_option linter.unusedVariables false
set_option linter.unusedSimpArgs false
namespace Go.Proofs.Ytlillkfelfoafaa
open RP

/-- A closure taken up into the list of its resource. -/
def stepC (g : List Clo) (c : Clo) : List Clo :=
  match g.getLast? with
  | some u => if c.2.1 ≤ u.2.2 then g.dropLast ++ [(u.1, u.2.1, max u.2.2 c.2.2)] else g ++ [c]
  | none => [c]
theorem stepC_nil (c : Clo) : stepC [] c = [c] := rfl
theorem stepC_near (g : List Clo) (u c : Clo) (h : c.2.1 ≤ u.2.2) : stepC (g ++ [u]) c = g ++ [(u.1, u.2.1, max u.2.2 c.2.2)] := by simp [stepC, h]
theorem stepC_far (g : List Clo) (u c : Clo) (h : ¬ c.2.1 ≤ u.2.2) : stepC (g ++ [u]) c = (g ++ [u]) ++ [c] := by simp [stepC, h]
theorem stepC_len (g : List Clo) (c : Clo) : (stepC g c).length ≤ g.length + 1 := by
  rcases snoc_cases g with rfl | ⟨r, u, rfl⟩
  · simp [stepC]
  · by_cases h : c.2.1 ≤ u.2.2
    · rw [stepC_near _ _ _ h]; simp
    · rw [stepC_far _ _ _ h]; simp

/-- Closures of resource r, each of at least one second, apart from one another. -/
def SepC (r : Int) (g : List Clo) : Prop := (∀ c ∈ g, c.1 = r ∧ c.2.1 < c.2.2) ∧ g.Pairwise fun x y => x.2.2 < y.2.1
theorem SepC.nil (r : Int) : SepC r [] := ⟨by simp, List.Pairwise.nil⟩
theorem sep_snoc {r : Int} {g : List Clo} {u : Clo} : SepC r (g ++ [u]) ↔ SepC r g ∧ u.1 = r ∧ u.2.1 < u.2.2 ∧ ∀ c ∈ g, c.2.2 < u.2.1 := by
  unfold SepC
  rw [List.pairwise_append]
  constructor
  · rintro ⟨h1, h2, _, h3⟩
    exact ⟨⟨fun c hc => h1 c (by simp [hc]), h2⟩, (h1 u (by simp)).1, (h1 u (by simp)).2, fun c hc => h3 c hc u (by simp)⟩
  · rintro ⟨⟨h1, h2⟩, h3, h4, h5⟩
    refine ⟨fun c hc => ?_, h2, by simp, fun c hc y hy => ?_⟩
    · rcases List.mem_append.1 hc with hc | hc
      · exact h1 c hc
      · simp at hc; subst hc; exact ⟨h3, h4⟩
    · simp at hy; subst hy; exact h5 c hc

/-- One step keeps them apart, and covers what it covered and the new closure; B: no closure so far begins later. -/
theorem step_spec {r : Int} {g : List Clo} {c : Clo} (hs : SepC r g) (hc : c.1 = r) (hlt : c.2.1 < c.2.2) (hB : ∀ u ∈ g, u.2.1 ≤ c.2.1) :
    SepC r (stepC g c) ∧ (∀ u ∈ stepC g c, u.2.1 ≤ c.2.1) ∧ ∀ x, coverC (stepC g c) r x = (coverC g r x || covC r x c) := by
  rcases snoc_cases g with rfl | ⟨q, u, rfl⟩
  · rw [stepC_nil]
    exact ⟨⟨by simp [hc, hlt], by simp⟩, by simp, fun x => by simp [coverC]⟩
  · obtain ⟨h1, h2, h3, h4⟩ := sep_snoc.1 hs
    have hu := hB u (by simp)
    by_cases h : c.2.1 ≤ u.2.2
    · rw [stepC_near _ _ _ h]
      refine ⟨sep_snoc.2 ⟨h1, h2, by simp only; omega, h4⟩, fun v hv => ?_, fun x => ?_⟩
      · rcases List.mem_append.1 hv with hv | hv
        · exact hB v (by simp [hv])
        · simp at hv; subst hv; exact hu
      · have e1 : coverC (q ++ [u]) r x = (coverC q r x || covC r x u) := by simp [coverC, List.any_append]
        have e2 : coverC (q ++ [(u.1, u.2.1, max u.2.2 c.2.2)]) r x = (coverC q r x || covC r x (u.1, u.2.1, max u.2.2 c.2.2)) := by simp [coverC, List.any_append]
        rw [e1, e2, Bool.or_assoc]
        congr 1
        rw [Bool.eq_iff_iff, Bool.or_eq_true, cov_iff, cov_iff, cov_iff]
        simp only
        constructor
        · rintro ⟨a1, a2, a3⟩
          by_cases hx : x < u.2.2
          · exact .inl ⟨a1, a2, hx⟩
          · exact .inr ⟨hc, by omega, by omega⟩
        · rintro (⟨a1, a2, a3⟩ | ⟨a1, a2, a3⟩)
          · exact ⟨a1, a2, by omega⟩
          · exact ⟨h2, by omega, by omega⟩
    · rw [stepC_far _ _ _ h]
      refine ⟨sep_snoc.2 ⟨hs, hc, hlt, fun v hv => ?_⟩, fun v hv => ?_, fun x => by simp [coverC, List.any_append, Bool.or_assoc]⟩
      · rcases List.mem_append.1 hv with hv | hv
        · have := h4 v hv; omega
        · simp at hv; subst hv; omega
      · rcases List.mem_append.1 hv with hv | hv
        · exact hB v hv
        · simp at hv; subst hv; exact Int.le_refl _

/-- The index: the closures of each resource, merged. -/
def idxStep (G : Int → List Clo) (c : Clo) : Int → List Clo := fun r => if c.2.1 < c.2.2 ∧ r = c.1 then stepC (G r) c else G r
def idxOf (l : List Clo) : Int → List Clo := l.foldl idxStep fun _ => []
theorem idxOf_snoc (l : List Clo) (c : Clo) : idxOf (l ++ [c]) = idxStep (idxOf l) c := by simp [idxOf]

theorem idx_spec {l : List Clo} (hs : l.Pairwise fun x y => x.2.1 ≤ y.2.1) (r : Int) : SepC r (idxOf l r) ∧ (∀ x, coverC (idxOf l r) r x = coverC l r x) := by
  suffices key : ∀ l : List Clo, (l.Pairwise fun x y => x.2.1 ≤ y.2.1) → SepC r (idxOf l r) ∧ (∀ x, coverC (idxOf l r) r x = coverC l r x) ∧ ∀ u ∈ idxOf l r, ∃ c ∈ l, u.2.1 ≤ c.2.1 from ⟨(key l hs).1, (key l hs).2.1⟩
  refine fun l => snoc_ind (P := fun l => (l.Pairwise fun x y => x.2.1 ≤ y.2.1) → SepC r (idxOf l r) ∧ (∀ x, coverC (idxOf l r) r x = coverC l r x) ∧ ∀ u ∈ idxOf l r, ∃ c ∈ l, u.2.1 ≤ c.2.1)
    (fun _ => ⟨SepC.nil r, fun x => rfl, by simp [idxOf]⟩) (fun l c ih hp => ?_) l
  obtain ⟨p1, _, p3⟩ := List.pairwise_append.1 hp
  obtain ⟨i1, i2, i3⟩ := ih p1
  have hB : ∀ u ∈ idxOf l r, u.2.1 ≤ c.2.1 := fun u hu => by
    obtain ⟨d, hd, h⟩ := i3 u hu
    have := p3 d hd c (by simp)
    omega
  rw [idxOf_snoc]
  unfold idxStep
  by_cases hc : c.2.1 < c.2.2 ∧ r = c.1
  · rw [if_pos hc]
    obtain ⟨s1, s2, s3⟩ := step_spec i1 hc.2.symm hc.1 hB
    refine ⟨s1, fun x => ?_, fun u hu => ⟨c, by simp, s2 u hu⟩⟩
    rw [s3, i2]
    simp [coverC, List.any_append]
  · rw [if_neg hc]
    refine ⟨i1, fun x => ?_, fun u hu => ?_⟩
    · rw [i2]
      have : covC r x c = false := cov_false.2 fun h => hc ⟨by omega, h.1.symm⟩
      simp [coverC, List.any_append, this]
    · obtain ⟨d, hd, h⟩ := i3 u hu
      exact ⟨d, by simp [hd], h⟩
theorem idx_len (l : List Clo) (r : Int) : (idxOf l r).length ≤ l.length := by
  refine snoc_ind (P := fun l => (idxOf l r).length ≤ l.length) (by simp [idxOf]) (fun l c ih => ?_) l
  rw [idxOf_snoc, List.length_append]
  unfold idxStep
  split
  · have := stepC_len (idxOf l r) c; simp; omega
  · simp; omega

/-- Where the search stops: i is the number of closures that begin at x or before. -/
theorem next_of_index {r x : Int} {g : List Clo} (hs : SepC r g) {i : Nat} (hi : i ≤ g.length) (h1 : ∀ k (h : k < g.length), k < i → g[k].2.1 ≤ x) (h2 : ∀ k (h : k < g.length), i ≤ k → x < g[k].2.1) :
    (∀ h : 0 < i ∧ i - 1 < g.length, x < g[i - 1].2.2 → NextC g r x g[i - 1].2.2) ∧ ((∀ h : 0 < i ∧ i - 1 < g.length, ¬ x < g[i - 1].2.2) → NextC g r x x) := by
  have hpw := List.pairwise_iff_getElem.1 hs.2
  refine ⟨fun h hx => ⟨by omega, ?_, fun y y1 y2 => ?_⟩, fun h => ⟨Int.le_refl _, ?_, fun y y1 y2 => by omega⟩⟩
  · cases hc : coverC g r g[i - 1].2.2 with
    | false => rfl
    | true =>
      exfalso
      obtain ⟨c, hcg, _, c2, c3⟩ := cover_iff.1 hc
      obtain ⟨k, hk, rfl⟩ := List.getElem_of_mem hcg
      rcases Nat.lt_trichotomy k (i - 1) with q | q | q
      · have := hpw k (i - 1) hk h.2 q
        have := (hs.1 g[i - 1] (List.getElem_mem h.2)).2
        omega
      · subst q; omega
      · have := hpw (i - 1) k h.2 hk q
        omega
  · refine cover_iff.2 ⟨g[i - 1], List.getElem_mem h.2, (hs.1 _ (List.getElem_mem h.2)).1, ?_, y2⟩
    have := h1 (i - 1) h.2 (by omega)
    omega
  · cases hc : coverC g r x with
    | false => rfl
    | true =>
      exfalso
      obtain ⟨c, hcg, _, c2, c3⟩ := cover_iff.1 hc
      obtain ⟨k, hk, rfl⟩ := List.getElem_of_mem hcg
      by_cases hki : k < i
      · have hi1 : 0 < i ∧ i - 1 < g.length := by omega
        by_cases q : k = i - 1
        · subst q; exact h hi1 c3
        · have := hpw k (i - 1) hk hi1.2 (by omega)
          have := h1 (i - 1) hi1.2 (by omega)
          omega
      · have := h2 k hk (by omega); omega
theorem sep_sorted {r : Int} {g : List Clo} (hs : SepC r g) {i j : Nat} (hi : i < g.length) (hj : j < g.length) (h : i ≤ j) : g[i].2.1 ≤ g[j].2.1 := by
  by_cases e : i = j
  · subst e; exact Int.le_refl _
  · have := (List.pairwise_iff_getElem.1 hs.2) i j hi hj (by omega)
    have := (hs.1 g[i] (List.getElem_mem hi)).2
    omega
theorem NextC.of_cover {l m : List Clo} {r x n : Int} (h : NextC l r x n) (hc : ∀ y, coverC l r y = coverC m r y) : NextC m r x n :=
  ⟨h.1, by rw [← hc]; exact h.2.1, fun y h1 h2 => by rw [← hc]; exact h.2.2 y h1 h2⟩

end Go.Proofs.Ytlillkfelfoafaa
