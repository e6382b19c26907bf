/-
  Plain facts on Merge: the canonical form of closures, and that it is unique.
-/
import Derived.Test.YtjeocfkijbpinaaCloM
set_option linter.unusedVariables false
set_option linter.unusedSimpArgs false
namespace Go.Proofs.Ytjeocfkijbpinaa
open RP

/-- In ascending order of resource and second; two of one resource neither overlap nor touch. -/
def CanC (g : List Clo) : Prop := (∀ c ∈ g, c.2.1 < c.2.2) ∧ g.Pairwise fun x y => x.1 < y.1 ∨ (x.1 = y.1 ∧ x.2.2 < y.2.1)
theorem CanC.nil : CanC [] := ⟨by simp, List.Pairwise.nil⟩
theorem can_snoc {g : List Clo} {u : Clo} : CanC (g ++ [u]) ↔ CanC g ∧ u.2.1 < u.2.2 ∧ ∀ c ∈ g, c.1 < u.1 ∨ (c.1 = u.1 ∧ c.2.2 < u.2.1) := by
  unfold CanC
  rw [List.pairwise_append]
  constructor
  · rintro ⟨h1, h2, _, h3⟩
    exact ⟨⟨fun c hc => h1 c (by simp [hc]), h2⟩, h1 u (by simp), fun c hc => h3 c hc u (by simp)⟩
  · rintro ⟨⟨h1, h2⟩, h4, h5⟩
    refine ⟨fun c hc => ?_, h2, by simp, fun c hc y hy => ?_⟩
    · rcases List.mem_append.1 hc with hc | hc
      · exact h1 c hc
      · simp at hc; subst hc; exact h4
    · simp at hy; subst hy; exact h5 c hc

theorem can_first {c d : Clo} {g h : List Clo} (hg : CanC (c :: g)) (hh : CanC (d :: h)) (hc : ∀ r x, coverC (c :: g) r x = coverC (d :: h) r x) : d.1 < c.1 ∨ (d.1 = c.1 ∧ d.2.1 ≤ c.2.1) := by
  have h1 : coverC (c :: g) c.1 c.2.1 = true := cover_iff.2 ⟨c, by simp, rfl, Int.le_refl _, hg.1 c (by simp)⟩
  rw [hc] at h1
  obtain ⟨e, he, e1, e2, e3⟩ := cover_iff.1 h1
  rcases List.mem_cons.1 he with rfl | he
  · exact .inr ⟨e1, e2⟩
  · have hd := hh.1 d (by simp)
    rcases (List.pairwise_cons.1 hh.2).1 e he with q | ⟨q1, q2⟩
    · exact .inl (by omega)
    · exact .inr ⟨by omega, by omega⟩
theorem can_last {c d : Clo} {g h : List Clo} (hg : CanC (c :: g)) (_hh : CanC (d :: h)) (hc : ∀ r x, coverC (c :: g) r x = coverC (d :: h) r x) (e1 : d.1 = c.1) (e2 : d.2.1 = c.2.1) : d.2.2 ≤ c.2.2 := by
  rcases Int.lt_or_le c.2.2 d.2.2 with q | q
  · exfalso
    have hcc := hg.1 c (by simp)
    have h1 : coverC (d :: h) c.1 c.2.2 = true := cover_iff.2 ⟨d, by simp, e1, by omega, q⟩
    rw [← hc] at h1
    obtain ⟨e, he, k1, k2, k3⟩ := cover_iff.1 h1
    rcases List.mem_cons.1 he with rfl | he
    · omega
    · rcases (List.pairwise_cons.1 hg.2).1 e he with q | ⟨q1, q2⟩ <;> omega
  · exact q
theorem can_tail {c : Clo} {g : List Clo} (hg : CanC (c :: g)) {r x : Int} (h : covC r x c = true) : coverC g r x = false := by
  cases hx : coverC g r x with
  | false => rfl
  | true =>
    exfalso
    obtain ⟨a1, a2, a3⟩ := cov_iff.1 h
    obtain ⟨e, he, k1, k2, k3⟩ := cover_iff.1 hx
    rcases (List.pairwise_cons.1 hg.2).1 e he with q | ⟨q1, q2⟩ <;> omega
theorem can_of_cons {c : Clo} {g : List Clo} (hg : CanC (c :: g)) : CanC g := ⟨fun x hx => hg.1 x (by simp [hx]), (List.pairwise_cons.1 hg.2).2⟩
theorem cover_cons (c : Clo) (g : List Clo) (r x : Int) : coverC (c :: g) r x = (covC r x c || coverC g r x) := by simp [coverC]
theorem can_unique : ∀ {g h : List Clo}, CanC g → CanC h → (∀ r x, coverC g r x = coverC h r x) → g = h
  | [], [], _, _, _ => rfl
  | [], d :: h, _, hh, hc => by
    have h1 : coverC (d :: h) d.1 d.2.1 = true := cover_iff.2 ⟨d, by simp, rfl, Int.le_refl _, hh.1 d (by simp)⟩
    rw [← hc] at h1; simp [coverC] at h1
  | c :: g, [], hg, _, hc => by
    have h1 : coverC (c :: g) c.1 c.2.1 = true := cover_iff.2 ⟨c, by simp, rfl, Int.le_refl _, hg.1 c (by simp)⟩
    rw [hc] at h1; simp [coverC] at h1
  | c :: g, d :: h, hg, hh, hc => by
    have hc' : ∀ r x, coverC (d :: h) r x = coverC (c :: g) r x := fun r x => (hc r x).symm
    have f1 := can_first hg hh hc
    have f2 := can_first hh hg hc'
    have e1 : d.1 = c.1 := by omega
    have e2 : d.2.1 = c.2.1 := by omega
    have l1 := can_last hg hh hc e1 e2
    have l2 := can_last hh hg hc' e1.symm e2.symm
    have e3 : d.2.2 = c.2.2 := by omega
    have e : d = c := by
      obtain ⟨d1, d2, d3⟩ := d
      obtain ⟨c1, c2, c3⟩ := c
      simp only at e1 e2 e3
      rw [e1, e2, e3]
    subst e
    rw [can_unique (can_of_cons hg) (can_of_cons hh) fun r x => ?_]
    cases hx : covC r x d with
    | true => rw [can_tail hg hx, can_tail hh hx]
    | false =>
      have := hc r x
      rw [cover_cons, cover_cons, hx] at this
      simpa using this

/-- What Merge returns for a valid list. -/
def MergeC (l g : List Clo) : Prop := CanC g ∧ ∀ r x, coverC g r x = coverC l r x
theorem MergeC.unique {l g h : List Clo} (a : MergeC l g) (b : MergeC l h) : g = h := can_unique a.1 b.1 fun r x => (a.2 r x).trans (b.2 r x).symm
theorem MergeC.ok {l g : List Clo} (h : MergeC l g) (hl : ∀ c ∈ l, okC c) : ∀ u ∈ g, okC u := fun u hu => by
  have hlt := h.1.1 u hu
  have h1 : coverC g u.1 u.2.1 = true := cover_iff.2 ⟨u, hu, rfl, Int.le_refl _, hlt⟩
  have h2 : coverC g u.1 (u.2.2 - 1) = true := cover_iff.2 ⟨u, hu, rfl, by omega, by omega⟩
  rw [h.2] at h1 h2
  obtain ⟨c, hc, c1, c2, c3⟩ := cover_iff.1 h1
  obtain ⟨d, hd, d1, d2, d3⟩ := cover_iff.1 h2
  have := hl c hc
  have := hl d hd
  unfold okC at *
  omega
theorem checkC_iff {l : List Clo} : checkC l = true ↔ l.length ≤ 32 ∧ ∀ c ∈ l, okC c := by simp [checkC]
theorem MergeC.check {l g : List Clo} (h : MergeC l g) (hn : g.length ≤ l.length) (hl : checkC l = true) : checkC g = true := by
  obtain ⟨h1, h2⟩ := checkC_iff.1 hl
  exact checkC_iff.2 ⟨by omega, h.ok h2⟩

/-- Order of the sorted list. -/
def leC (x y : Clo) : Prop := x.1 < y.1 ∨ (x.1 = y.1 ∧ x.2.1 ≤ y.2.1)
def cmpC (x y : Clo) : Int := if x.1 < y.1 then -1 else if y.1 < x.1 then 1 else if x.2.1 < y.2.1 then -1 else if y.2.1 < x.2.1 then 1 else 0
theorem cmpC_neg {x y : Clo} : cmpC x y < 0 ↔ x.1 < y.1 ∨ (x.1 = y.1 ∧ x.2.1 < y.2.1) := by
  unfold cmpC
  split
  · simp; omega
  · split
    · simp; omega
    · split
      · simp; omega
      · split <;> simp <;> omega
theorem insert_sorted {S : List Clo} {c : Clo} {i : Nat} (hs : S.Pairwise leC) (h1 : ∀ k (h : k < S.length), k < i → cmpC S[k] c < 0) (h2 : ∀ k (h : k < S.length), i ≤ k → ¬ cmpC S[k] c < 0) : (S.take i ++ c :: S.drop i).Pairwise leC := by
  have ha : ∀ x ∈ S.take i, leC x c := fun x hx => by
    obtain ⟨k, hk, rfl⟩ := List.getElem_of_mem hx
    have hk' := hk
    rw [List.length_take] at hk'
    rw [List.getElem_take]
    have := cmpC_neg.1 (h1 k (by omega) (by omega))
    unfold leC; omega
  have hb : ∀ x ∈ S.drop i, leC c x := fun x hx => by
    obtain ⟨k, hk, rfl⟩ := List.getElem_of_mem hx
    have hk' := hk
    rw [List.length_drop] at hk'
    rw [List.getElem_drop]
    have hik : i + k < S.length := by omega
    have hn : ¬ (S[i + k].1 < c.1 ∨ (S[i + k].1 = c.1 ∧ S[i + k].2.1 < c.2.1)) := fun q => h2 (i + k) hik (by omega) (cmpC_neg.2 q)
    unfold leC; omega
  have h0 := hs
  rw [← List.take_append_drop i S] at h0
  obtain ⟨p1, p2, p3⟩ := List.pairwise_append.1 h0
  refine List.pairwise_append.2 ⟨p1, List.pairwise_cons.2 ⟨hb, p2⟩, fun x hx y hy => ?_⟩
  rcases List.mem_cons.1 hy with rfl | hy
  · exact ha x hx
  · exact p3 x hx y hy
theorem insert_perm (S : List Clo) (c : Clo) (i : Nat) : (S.take i ++ c :: S.drop i).Perm (S ++ [c]) := by
  have h1 : (S.take i ++ c :: S.drop i).Perm (c :: (S.take i ++ S.drop i)) := List.perm_middle
  rw [List.take_append_drop] at h1
  exact h1.trans (List.perm_append_comm (l₁ := [c]) (l₂ := S))

/-- A closure taken up into the merged list. -/
def stepM (g : List Clo) (c : Clo) : List Clo :=
  match g.getLast? with
  | some u => if u.1 = c.1 ∧ c.2.1 ≤ u.2.2 then g.dropLast ++ [(u.1, u.2.1, max u.2.2 c.2.2)] else g ++ [c]
  | none => [c]
theorem stepM_nil (c : Clo) : stepM [] c = [c] := rfl
theorem stepM_near (g : List Clo) (u c : Clo) (h : u.1 = c.1 ∧ c.2.1 ≤ u.2.2) : stepM (g ++ [u]) c = g ++ [(u.1, u.2.1, max u.2.2 c.2.2)] := by simp [stepM, h]
theorem stepM_far (g : List Clo) (u c : Clo) (h : ¬ (u.1 = c.1 ∧ c.2.1 ≤ u.2.2)) : stepM (g ++ [u]) c = (g ++ [u]) ++ [c] := by
  simp only [stepM, List.getLast?_append, List.getLast?_singleton, Option.some_or]
  rw [if_neg h]
def mergeOf (S : List Clo) : List Clo := S.foldl stepM []
theorem mergeOf_snoc (S : List Clo) (c : Clo) : mergeOf (S ++ [c]) = stepM (mergeOf S) c := by simp [mergeOf]
theorem stepM_len (g : List Clo) (c : Clo) : (stepM g c).length ≤ g.length + 1 := by
  rcases snoc_cases g with rfl | ⟨r, u, rfl⟩
  · simp [stepM]
  · by_cases h : u.1 = c.1 ∧ c.2.1 ≤ u.2.2
    · rw [stepM_near _ _ _ h]; simp
    · rw [stepM_far _ _ _ h]; simp
theorem mergeOf_len (S : List Clo) : (mergeOf S).length ≤ S.length := by
  refine snoc_ind (P := fun S => (mergeOf S).length ≤ S.length) (by simp [mergeOf]) (fun S c ih => ?_) S
  rw [mergeOf_snoc, List.length_append]
  have := stepM_len (mergeOf S) c
  simp; omega

theorem stepM_spec {g : List Clo} {c : Clo} (hs : CanC g) (hlt : c.2.1 < c.2.2) (hB : ∀ u ∈ g, leC u c) :
    CanC (stepM g c) ∧ (∀ u ∈ stepM g c, leC u c) ∧ ∀ r x, coverC (stepM g c) r x = (coverC g r x || covC r x c) := by
  have hcc : leC c c := by unfold leC; omega
  rcases snoc_cases g with rfl | ⟨q, u, rfl⟩
  · rw [stepM_nil]
    exact ⟨⟨by simp [hlt], by simp⟩, by simp [hcc], fun r x => by simp [coverC]⟩
  · obtain ⟨h1, h3, h4⟩ := can_snoc.1 hs
    have hu := hB u (by simp)
    by_cases h : u.1 = c.1 ∧ c.2.1 ≤ u.2.2
    · rw [stepM_near _ _ _ h]
      have hu2 : u.2.1 ≤ c.2.1 := by unfold leC at hu; omega
      refine ⟨can_snoc.2 ⟨h1, by simp only; omega, h4⟩, fun v hv => ?_, fun r x => ?_⟩
      · rcases List.mem_append.1 hv with hv | hv
        · exact hB v (by simp [hv])
        · simp at hv; subst hv; unfold leC at hu ⊢; simp only; omega
      · have e1 : coverC (q ++ [u]) r x = (coverC q r x || covC r x u) := by simp [coverC, List.any_append]
        have e2 : coverC (q ++ [(u.1, u.2.1, max u.2.2 c.2.2)]) r x = (coverC q r x || covC r x (u.1, u.2.1, max u.2.2 c.2.2)) := by simp [coverC, List.any_append]
        rw [e1, e2, Bool.or_assoc]
        congr 1
        rw [Bool.eq_iff_iff, Bool.or_eq_true, cov_iff, cov_iff, cov_iff]
        simp only
        constructor
        · rintro ⟨a1, a2, a3⟩
          by_cases hx : x < u.2.2
          · exact .inl ⟨a1, a2, hx⟩
          · exact .inr ⟨by omega, by omega, by omega⟩
        · rintro (⟨a1, a2, a3⟩ | ⟨a1, a2, a3⟩)
          · exact ⟨a1, a2, by omega⟩
          · exact ⟨by omega, by omega, by omega⟩
    · rw [stepM_far _ _ _ h]
      refine ⟨can_snoc.2 ⟨hs, hlt, fun v hv => ?_⟩, fun v hv => ?_, fun r x => by simp [coverC, List.any_append, Bool.or_assoc]⟩
      · rcases List.mem_append.1 hv with hv | hv
        · have a := h4 v hv
          unfold leC at hu
          omega
        · simp at hv; subst hv
          unfold leC at hu
          omega
      · rcases List.mem_append.1 hv with hv | hv
        · exact hB v hv
        · simp at hv; subst hv; exact hcc
theorem leC_trans {x y z : Clo} (h1 : leC x y) (h2 : leC y z) : leC x z := by unfold leC at *; omega
theorem merge_spec {S l : List Clo} (hp : S.Perm l) (hs : S.Pairwise leC) (hok : ∀ c ∈ l, c.2.1 < c.2.2) : MergeC l (mergeOf S) ∧ (mergeOf S).length ≤ l.length := by
  have hok' : ∀ c ∈ S, c.2.1 < c.2.2 := fun c hc => hok c (hp.mem_iff.1 hc)
  suffices key : ∀ S : List Clo, S.Pairwise leC → (∀ c ∈ S, c.2.1 < c.2.2) → CanC (mergeOf S) ∧ (∀ r x, coverC (mergeOf S) r x = coverC S r x) ∧ ∀ u ∈ mergeOf S, ∃ c ∈ S, leC u c by
    obtain ⟨k1, k2, _⟩ := key S hs hok'
    exact ⟨⟨k1, fun r x => (k2 r x).trans (cover_perm hp r x)⟩, by rw [← hp.length_eq]; exact mergeOf_len S⟩
  refine fun S => snoc_ind (P := fun S => S.Pairwise leC → (∀ c ∈ S, c.2.1 < c.2.2) → CanC (mergeOf S) ∧ (∀ r x, coverC (mergeOf S) r x = coverC S r x) ∧ ∀ u ∈ mergeOf S, ∃ c ∈ S, leC u c)
    (fun _ _ => ⟨CanC.nil, fun _ _ => rfl, by simp [mergeOf]⟩) (fun S c ih hp hlt => ?_) S
  obtain ⟨p1, _, p3⟩ := List.pairwise_append.1 hp
  obtain ⟨i1, i2, i3⟩ := ih p1 (fun c hc => hlt c (by simp [hc]))
  have hB : ∀ u ∈ mergeOf S, leC u c := fun u hu => by
    obtain ⟨d, hd, h⟩ := i3 u hu
    exact leC_trans h (p3 d hd c (by simp))
  obtain ⟨s1, s2, s3⟩ := stepM_spec i1 (hlt c (by simp)) hB
  rw [mergeOf_snoc]
  exact ⟨s1, fun r x => by rw [s3, i2]; simp [coverC, List.any_append], fun u hu => ⟨c, by simp, s2 u hu⟩⟩

end Go.Proofs.Ytjeocfkijbpinaa
