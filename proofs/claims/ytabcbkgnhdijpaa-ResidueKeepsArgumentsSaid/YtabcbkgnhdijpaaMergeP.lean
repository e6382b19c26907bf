/-
  Plain facts: merging sorted spans gives the valid list of their union.
-/
import Derived.Test.YtabcbkgnhdijpaaQuery
set_option linter.unusedVariables false
set_option linter.unusedSimpArgs false
namespace RP

def mergeStep (out : List Sp) (s : Sp) : List Sp :=
  match out.getLast? with
  | some u => if s.1 ≤ u.2 then out.dropLast ++ [(u.1, max u.2 s.2)] else out ++ [s]
  | none => [s]

def mergeL (l : List Sp) : List Sp := l.foldl mergeStep []

theorem mergeL_snoc (l : List Sp) (s : Sp) : mergeL (l ++ [s]) = mergeStep (mergeL l) s := by simp [mergeL, List.foldl_append]

theorem mergeStep_nil (s : Sp) : mergeStep [] s = [s] := rfl
theorem mergeStep_far (r : List Sp) (u s : Sp) (h : ¬ s.1 ≤ u.2) : mergeStep (r ++ [u]) s = (r ++ [u]) ++ [s] := by
  simp [mergeStep, h]
theorem mergeStep_near (r : List Sp) (u s : Sp) (h : s.1 ≤ u.2) : mergeStep (r ++ [u]) s = r ++ [(u.1, max u.2 s.2)] := by
  simp [mergeStep, h]

/-- What holds of the merged list of the first spans. -/
structure Merged (t : Int) (p out : List Sp) (b : Int) : Prop where
  valid : validFrom t (-1) out = true
  mem : ∀ x, mem out x = mem p x
  last : ∀ r u, out = r ++ [u] → u.1 ≤ b

theorem merged_step {t : Int} {p out : List Sp} {b : Int} (h : Merged t p out b) (s : Sp) (h1 : 0 ≤ s.1) (h2 : s.1 < s.2) (h3 : s.2 ≤ t) (hb : b ≤ s.1) : Merged t (p ++ [s]) (mergeStep out s) s.1 := by
  have hmem : ∀ x, RP.mem (p ++ [s]) x = (RP.mem p x || (decide (s.1 ≤ x) && decide (x < s.2))) := fun x => by simp [RP.mem, List.any_append]
  rcases snoc_cases out with rfl | ⟨r, u, rfl⟩
  · rw [mergeStep_nil]
    refine ⟨by simp [validFrom]; omega, fun x => ?_, fun r u e => ?_⟩
    · rw [hmem, ← h.mem]; simp [RP.mem]
    · have : r = [] ∧ s = u := by
        cases r with
        | nil => simpa using e
        | cons a r => simp at e
      rw [this.2]; exact Int.le_refl _
  · obtain ⟨v1, v2, v3, v4⟩ := validFrom_snoc.1 h.valid
    have hu := h.last r u rfl
    by_cases hc : s.1 ≤ u.2
    · rw [mergeStep_near r u s hc]
      refine ⟨validFrom_snoc.2 ⟨v1, v2, by simp only; omega, by simp only; omega⟩, fun x => ?_, fun r' u' e => ?_⟩
      · rw [hmem, ← h.mem]
        apply mem_eq_of_iff
        simp only [RP.mem, List.any_append, List.any_cons, List.any_nil, Bool.or_false, Bool.or_eq_true, Bool.and_eq_true, decide_eq_true_eq]
        constructor
        · rintro (q | q)
          · exact .inl (.inl q)
          · by_cases hx : x < u.2
            · exact .inl (.inr ⟨q.1, hx⟩)
            · exact .inr ⟨by omega, by omega⟩
        · rintro ((q | q) | q)
          · exact .inl q
          · exact .inr ⟨q.1, by omega⟩
          · exact .inr ⟨by omega, by omega⟩
      · have := List.append_inj_right' e rfl
        simp only [List.cons.injEq, and_true] at this
        rw [← this]
        simp only; omega
    · rw [mergeStep_far r u s hc]
      refine ⟨validFrom_snoc.2 ⟨h.valid, by rw [lastTo_snoc]; omega, h2, h3⟩, fun x => ?_, fun r' u' e => ?_⟩
      · rw [hmem, ← h.mem]
        simp [RP.mem, List.any_append, Bool.or_assoc]
      · have := List.append_inj_right' e rfl
        simp only [List.cons.injEq, and_true] at this
        rw [← this]
        exact Int.le_refl _

theorem mergeL_take {t : Int} {l : List Sp} (hl : ∀ s ∈ l, 0 ≤ s.1 ∧ s.1 < s.2 ∧ s.2 ≤ t) (hs : l.Pairwise fun x y => x.1 ≤ y.1) :
    ∀ k, k ≤ l.length → ∃ b, Merged t (l.take k) (mergeL (l.take k)) b ∧ ∀ j (h : j < l.length), k ≤ j → b ≤ l[j].1
  | 0, _ => ⟨-1, ⟨rfl, fun _ => rfl, fun r u e => by simp [mergeL] at e⟩, fun j h _ => by have := (hl _ (List.getElem_mem h)).1; omega⟩
  | k + 1, hk => by
    obtain ⟨b, hm, hb⟩ := mergeL_take hl hs k (by omega)
    have hk' : k < l.length := by omega
    have hm' := hl _ (List.getElem_mem hk')
    rw [List.take_succ_eq_append_getElem hk', mergeL_snoc]
    refine ⟨l[k].1, merged_step hm l[k] hm'.1 hm'.2.1 hm'.2.2 (hb k hk' (Nat.le_refl _)), fun j h hj => ?_⟩
    exact List.pairwise_iff_getElem.1 hs k j hk' h (by omega)

theorem mergeL_spec {t : Int} {l : List Sp} (hl : ∀ s ∈ l, 0 ≤ s.1 ∧ s.1 < s.2 ∧ s.2 ≤ t) (hs : l.Pairwise fun x y => x.1 ≤ y.1) : validFrom t (-1) (mergeL l) = true ∧ ∀ x, mem (mergeL l) x = mem l x := by
  obtain ⟨b, hm, _⟩ := mergeL_take hl hs l.length (Nat.le_refl _)
  rw [List.take_length] at hm
  exact ⟨hm.valid, hm.mem⟩

theorem mergeL_len (l : List Sp) : (mergeL l).length ≤ l.length := by
  have : ∀ k, k ≤ l.length → (mergeL (l.take k)).length ≤ k := by
    intro k
    induction k with
    | zero => intro _; simp [mergeL]
    | succ k ih =>
      intro hk
      have hk' : k < l.length := by omega
      rw [List.take_succ_eq_append_getElem hk', mergeL_snoc]
      have := ih (by omega)
      unfold mergeStep
      split
      · split
        · simp; omega
        · simp; omega
      · simp
  have h := this l.length (Nat.le_refl _)
  rwa [List.take_length] at h

theorem mem_perm {a b : List Sp} (h : a.Perm b) (x : Int) : mem a x = mem b x := by
  apply mem_eq_of_iff
  rw [mem_iff, mem_iff]
  constructor
  · rintro ⟨s, hs, q⟩; exact ⟨s, h.mem_iff.1 hs, q⟩
  · rintro ⟨s, hs, q⟩; exact ⟨s, h.mem_iff.2 hs, q⟩

end RP
