/-
  Plain facts on the reference's Merge: what it has gathered so far.
-/
import Derived.Test.YtjeocfkijbpinaaCloC
set_option linter.unusedVariables false
set_option linter.unusedSimpArgs false
namespace Go.Proofs.Ytjeocfkijbpinaa
open RP

theorem filter_le {α : Type} {p q : α → Bool} : ∀ {l : List α}, (∀ c ∈ l, q c = true → p c = true) → (l.filter q).length ≤ (l.filter p).length
  | [], _ => by simp
  | a :: l, h => by
    have ih := filter_le (l := l) fun c hc => h c (by simp [hc])
    have ha := h a (by simp)
    rw [List.filter_cons, List.filter_cons]
    cases hq : q a with
    | true => rw [if_pos rfl, if_pos (ha hq)]; simpa using ih
    | false =>
      rw [if_neg (by simp)]
      split
      · simp only [List.length_cons]; omega
      · exact ih
theorem filter_lt {α : Type} {p q : α → Bool} : ∀ {l : List α}, (∀ c ∈ l, q c = true → p c = true) → ∀ {d : α}, d ∈ l → p d = true → q d = false → (l.filter q).length < (l.filter p).length
  | [], _, _, hd, _, _ => by simp at hd
  | a :: l, h, d, hd, hp, hq => by
    have hle := filter_le (l := l) fun c hc => h c (by simp [hc])
    rw [List.filter_cons, List.filter_cons]
    rcases List.mem_cons.1 hd with rfl | hd
    · rw [if_pos hp, if_neg (by simp [hq])]
      simp only [List.length_cons]; omega
    · have ih := filter_lt (l := l) (fun c hc => h c (by simp [hc])) hd hp hq
      have ha := h a (by simp)
      cases hqa : q a with
      | true => rw [if_pos rfl, if_pos (ha hqa)]; simpa using ih
      | false =>
        rw [if_neg (by simp)]
        split
        · simp only [List.length_cons]; omega
        · exact ih

/-- f is the least From from x on among the closures of r, or -1. -/
def MinF (l : List Clo) (r x f : Int) : Prop := (f = -1 ∧ ∀ c ∈ l, c.1 = r → ¬ x ≤ c.2.1) ∨ (0 ≤ f ∧ (∃ c ∈ l, c.1 = r ∧ c.2.1 = f) ∧ x ≤ f ∧ ∀ d ∈ l, d.1 = r → x ≤ d.2.1 → f ≤ d.2.1)
theorem MinF.nil (r x : Int) : MinF [] r x (-1) := .inl ⟨rfl, by simp⟩
theorem MinF.take {l : List Clo} {r x f : Int} {k : Nat} (hk : k < l.length) (h : MinF (l.take k) r x f) (h0 : 0 ≤ l[k].2.1) (hc : l[k].1 = r ∧ x ≤ l[k].2.1 ∧ (f < 0 ∨ l[k].2.1 < f)) : MinF (l.take (k + 1)) r x l[k].2.1 := by
  rw [List.take_succ_eq_append_getElem hk]
  refine .inr ⟨h0, ⟨l[k], List.mem_append.2 (.inr (List.mem_singleton.2 rfl)), hc.1, rfl⟩, hc.2.1, fun d hd h1 h2 => ?_⟩
  rcases List.mem_append.1 hd with hd | hd
  · rcases h with ⟨rfl, h⟩ | ⟨h3, _, _, h4⟩
    · exact absurd h2 (h d hd h1)
    · have := h4 d hd h1 h2; omega
  · simp at hd; subst hd; omega
theorem MinF.pass {l : List Clo} {r x f : Int} {k : Nat} (hk : k < l.length) (h : MinF (l.take k) r x f) (hc : ¬ (l[k].1 = r ∧ x ≤ l[k].2.1 ∧ (f < 0 ∨ l[k].2.1 < f))) : MinF (l.take (k + 1)) r x f := by
  rw [List.take_succ_eq_append_getElem hk]
  rcases h with ⟨rfl, h⟩ | ⟨h3, ⟨c, hcl, h5⟩, h6, h4⟩
  · refine .inl ⟨rfl, fun c hcl h1 => ?_⟩
    rcases List.mem_append.1 hcl with hd | hd
    · exact h c hd h1
    · simp at hd; subst hd; intro h2; exact hc ⟨h1, h2, .inl (by omega)⟩
  · refine .inr ⟨h3, ⟨c, List.mem_append.2 (.inl hcl), h5⟩, h6, fun d hd h1 h2 => ?_⟩
    rcases List.mem_append.1 hd with hd | hd
    · exact h4 d hd h1 h2
    · simp at hd; subst hd
      rcases Int.lt_or_le l[k].2.1 f with q | q
      · exact absurd ⟨h1, h2, .inr q⟩ hc
      · exact q

def aheadC (r x : Int) (c : Clo) : Bool := decide (r < c.1) || (decide (c.1 = r) && decide (x ≤ c.2.1))
theorem ahead_iff {r x : Int} {c : Clo} : aheadC r x c = true ↔ r < c.1 ∨ (c.1 = r ∧ x ≤ c.2.1) := by simp [aheadC]
def cntC (l : List Clo) (r x : Int) : Nat := (l.filter (aheadC r x)).length
/-- What the reference has gathered when it stands at resource r and second x. -/
def RefInv (l : List Clo) (r x : Int) (out : List Clo) : Prop :=
  CanC out ∧ (∀ r' y, coverC out r' y = true ↔ coverC l r' y = true ∧ (r' < r ∨ (r' = r ∧ y < x))) ∧ (∀ u ∈ out, u.1 < r ∨ (u.1 = r ∧ u.2.2 ≤ x)) ∧
  ((x = 0 ∧ ∀ u ∈ out, u.1 ≠ r) ∨ coverC l r x = false) ∧ out.length + cntC l r x ≤ l.length ∧ 0 ≤ x

theorem RefInv.start {l : List Clo} (hl : ∀ c ∈ l, okC c) : RefInv l 0 0 [] := by
  refine ⟨CanC.nil, fun r' y => ?_, by simp, .inl ⟨rfl, by simp⟩, by simpa [cntC] using List.length_filter_le _ l, Int.le_refl _⟩
  constructor
  · intro h; simp [coverC] at h
  · rintro ⟨h, q⟩
    obtain ⟨c, hc, h1, h2, h3⟩ := cover_iff.1 h
    have := hl c hc
    unfold okC at this
    omega

theorem MinF.covered {l : List Clo} (hl : ∀ c ∈ l, okC c) {r x f : Int} (h : MinF l r x f) (hf : 0 ≤ f) : coverC l r f = true := by
  rcases h with ⟨rfl, _⟩ | ⟨_, ⟨c, hc, h1, h2⟩, _⟩
  · omega
  · have := hl c hc
    unfold okC at this
    exact cover_iff.2 ⟨c, hc, h1, by omega, by omega⟩

theorem RefInv.step {l : List Clo} (hl : ∀ c ∈ l, okC c) {r x f n : Int} {out : List Clo} (h : RefInv l r x out) (hm : MinF l r x f) (hf : 0 ≤ f) (hn : NextC l r f n) :
    RefInv l r n (out ++ [(r, f, n)]) ∧ cntC l r n < cntC l r x := by
  obtain ⟨h1, h2, h3, h4, h5, h6⟩ := h
  have hcov := hm.covered hl hf
  have hfn : f < n := by
    have := hn.1
    rcases Int.lt_or_le f n with q | q
    · exact q
    · have e : f = n := by omega
      rw [e] at hcov; rw [hn.2.1] at hcov; cases hcov
  obtain ⟨c0, hc0, c1, c2, hxf, hmin⟩ : ∃ c ∈ l, c.1 = r ∧ c.2.1 = f ∧ x ≤ f ∧ ∀ d ∈ l, d.1 = r → x ≤ d.2.1 → f ≤ d.2.1 := by
    rcases hm with ⟨rfl, _⟩ | ⟨_, ⟨c, hc, a, b⟩, d, e⟩
    · omega
    · exact ⟨c, hc, a, b, d, e⟩
  have hcnt : cntC l r n < cntC l r x := by
    refine filter_lt (fun c _ hq => ahead_iff.2 ?_) hc0 (ahead_iff.2 (.inr ⟨c1, by omega⟩)) ?_
    · have := ahead_iff.1 hq; omega
    · cases q : aheadC r n c0 with
      | false => rfl
      | true => have := ahead_iff.1 q; omega
  refine ⟨⟨can_snoc.2 ⟨h1, hfn, fun u hu => ?_⟩, fun r' y => ?_, fun u hu => ?_, .inr hn.2.1, by simp only [List.length_append, List.length_cons, List.length_nil]; omega, by omega⟩, hcnt⟩
  · rcases h3 u hu with q | ⟨q1, q2⟩
    · exact .inl q
    · refine .inr ⟨q1, ?_⟩
      rcases h4 with ⟨_, h4⟩ | h4
      · exact absurd q1 (h4 u hu)
      · show u.2.2 < f
        rcases Int.lt_or_le x f with q | q
        · omega
        · have e : f = x := by omega
          rw [e, h4] at hcov; cases hcov
  · have e : coverC (out ++ [(r, f, n)]) r' y = (coverC out r' y || covC r' y (r, f, n)) := by simp [coverC, List.any_append]
    rw [e, Bool.or_eq_true, h2, cov_iff]
    simp only
    constructor
    · rintro (⟨q1, q2⟩ | ⟨rfl, q2, q3⟩)
      · exact ⟨q1, by omega⟩
      · exact ⟨hn.2.2 y q2 q3, .inr ⟨rfl, q3⟩⟩
    · rintro ⟨q1, q2⟩
      rcases q2 with q2 | ⟨rfl, q2⟩
      · exact .inl ⟨q1, .inl q2⟩
      · by_cases hyx : y < x
        · exact .inl ⟨q1, .inr ⟨rfl, hyx⟩⟩
        · refine .inr ⟨rfl, ?_, q2⟩
          rcases Int.lt_or_le y f with q | q
          · exfalso
            obtain ⟨c, hc, e1, e2, e3⟩ := cover_iff.1 q1
            by_cases hx : x ≤ c.2.1
            · have := hmin c hc e1 hx; omega
            · rcases h4 with ⟨h4, _⟩ | h4
              · have := hl c hc; unfold okC at this; omega
              · have : coverC l r' x = true := cover_iff.2 ⟨c, hc, e1, by omega, by omega⟩
                rw [h4] at this; cases this
          · exact q
  · rcases List.mem_append.1 hu with hu | hu
    · rcases h3 u hu with q | ⟨q1, q2⟩
      · exact .inl q
      · exact .inr ⟨q1, by omega⟩
    · simp at hu; subst hu; exact .inr ⟨rfl, Int.le_refl _⟩

theorem RefInv.next {l : List Clo} (hl : ∀ c ∈ l, okC c) {r x : Int} {out : List Clo} (h : RefInv l r x out) (hm : MinF l r x (-1)) : RefInv l (r + 1) 0 out := by
  obtain ⟨h1, h2, h3, h4, h5, h6⟩ := h
  have hno : ∀ c ∈ l, c.1 = r → ¬ x ≤ c.2.1 := by
    rcases hm with ⟨_, q⟩ | ⟨q, _⟩
    · exact q
    · omega
  refine ⟨h1, fun r' y => ?_, fun u hu => by have := h3 u hu; omega, .inl ⟨rfl, fun u hu => by have := h3 u hu; omega⟩, ?_, Int.le_refl _⟩
  · rw [h2]
    constructor
    · rintro ⟨q1, q2⟩; exact ⟨q1, by omega⟩
    · rintro ⟨q1, q2⟩
      refine ⟨q1, ?_⟩
      obtain ⟨c, hc, e1, e2, e3⟩ := cover_iff.1 q1
      have hok := hl c hc
      unfold okC at hok
      rcases Int.lt_or_le r' r with q | q
      · exact .inl q
      · have er : r' = r := by omega
        refine .inr ⟨er, ?_⟩
        have hx := hno c hc (by omega)
        rcases Int.lt_or_le y x with q | q
        · exact q
        · exfalso
          rcases h4 with ⟨h4, _⟩ | h4
          · omega
          · have : coverC l r x = true := cover_iff.2 ⟨c, hc, by omega, by omega, by omega⟩
            rw [h4] at this; cases this
  · have : cntC l (r + 1) 0 ≤ cntC l r x := filter_le fun c hc hq => ahead_iff.2 (by have := ahead_iff.1 hq; omega)
    omega
theorem RefInv.done {l : List Clo} (hl : ∀ c ∈ l, okC c) {out : List Clo} (h : RefInv l 144 0 out) : MergeC l out := by
  obtain ⟨h1, h2, _⟩ := h
  refine ⟨h1, fun r y => ?_⟩
  rw [Bool.eq_iff_iff, h2]
  constructor
  · exact fun h => h.1
  · intro h
    obtain ⟨c, hc, e1, e2, e3⟩ := cover_iff.1 h
    have := hl c hc
    unfold okC at this
    exact ⟨h, .inl (by omega)⟩

end Go.Proofs.Ytjeocfkijbpinaa
