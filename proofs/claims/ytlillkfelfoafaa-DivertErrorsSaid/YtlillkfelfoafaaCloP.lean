/-
  Plain facts on closures: which lists are valid, which seconds are open, the next open second.
-/
import Derived.Test.YtlillkfelfoafaaOccP
set_option linter.unusedVariables false
set_option linter.unusedSimpArgs false
namespace Go.Proofs.Ytlillkfelfoafaa
open RP

/-- Resource, From, To. -/
abbrev Clo := Int × Int × Int

def okC (c : Clo) : Prop := 0 ≤ c.1 ∧ c.1 < 144 ∧ 0 ≤ c.2.1 ∧ c.2.1 < c.2.2 ∧ c.2.2 ≤ 4194304
instance (c : Clo) : Decidable (okC c) := by unfold okC; infer_instance
def checkC (l : List Clo) : Bool := decide (l.length ≤ 32) && l.all fun c => decide (okC c)
def covC (r x : Int) (c : Clo) : Bool := decide (c.1 = r) && (decide (c.2.1 ≤ x) && decide (x < c.2.2))
def coverC (l : List Clo) (r x : Int) : Bool := l.any (covC r x)

theorem cov_iff {r x : Int} {c : Clo} : covC r x c = true ↔ c.1 = r ∧ c.2.1 ≤ x ∧ x < c.2.2 := by simp [covC]
theorem cov_false {r x : Int} {c : Clo} : covC r x c = false ↔ ¬ (c.1 = r ∧ c.2.1 ≤ x ∧ x < c.2.2) := by rw [← cov_iff]; simp
theorem cover_iff {l : List Clo} {r x : Int} : coverC l r x = true ↔ ∃ c ∈ l, c.1 = r ∧ c.2.1 ≤ x ∧ x < c.2.2 := by
  simp only [coverC, List.any_eq_true, cov_iff]
theorem cover_perm {l m : List Clo} (h : l.Perm m) (r x : Int) : coverC l r x = coverC m r x := by
  rw [Bool.eq_iff_iff, cover_iff, cover_iff]
  constructor
  · rintro ⟨c, hc, q⟩; exact ⟨c, h.mem_iff.1 hc, q⟩
  · rintro ⟨c, hc, q⟩; exact ⟨c, h.mem_iff.2 hc, q⟩

/-- n is the least open second from x on. -/
def NextC (l : List Clo) (r x n : Int) : Prop := x ≤ n ∧ coverC l r n = false ∧ ∀ y, x ≤ y → y < n → coverC l r y = true
theorem NextC.unique {l : List Clo} {r x n m : Int} (h : NextC l r x n) (h' : NextC l r x m) : n = m := by
  obtain ⟨a1, a2, a3⟩ := h
  obtain ⟨b1, b2, b3⟩ := h'
  rcases Int.lt_trichotomy n m with q | q | q
  · have := b3 n a1 q; rw [a2] at this; cases this
  · exact q
  · have := a3 m b1 q; rw [b2] at this; cases this
theorem NextC.open_iff {l : List Clo} {r x n : Int} (h : NextC l r x n) : n = x ↔ coverC l r x = false := by
  obtain ⟨a1, a2, a3⟩ := h
  constructor
  · rintro rfl; exact a2
  · intro q
    rcases Int.lt_or_le x n with h | h
    · have := a3 x (Int.le_refl _) h; rw [q] at this; cases this
    · omega

/-- Ends that lie behind x: what goes down while the reference goes on. -/
def laterN (l : List Clo) (x : Int) : Nat := (l.filter fun c => decide (x < c.2.2)).length
theorem later_lt {l : List Clo} {x : Int} {c : Clo} (hc : c ∈ l) (h : x < c.2.2) : laterN l c.2.2 < laterN l x := by
  unfold laterN
  induction l with
  | nil => simp at hc
  | cons a l ih =>
    rw [List.filter_cons, List.filter_cons]
    have hmono : (l.filter fun q => decide (c.2.2 < q.2.2)).length ≤ (l.filter fun q => decide (x < q.2.2)).length := by
      clear ih hc
      induction l with
      | nil => simp
      | cons b l ih =>
        rw [List.filter_cons, List.filter_cons]
        by_cases h1 : c.2.2 < b.2.2
        · rw [if_pos (by simpa using h1), if_pos (by simp; omega)]
          simp only [List.length_cons]; omega
        · rw [if_neg (by simpa using h1)]
          split
          · simp only [List.length_cons]; omega
          · exact ih
    rcases List.mem_cons.1 hc with rfl | hc
    · rw [if_neg (by simp), if_pos (by simpa using h)]
      simp only [List.length_cons]; omega
    · have := ih hc
      by_cases h1 : c.2.2 < a.2.2
      · rw [if_pos (by simpa using h1), if_pos (by simp; omega)]
        simp only [List.length_cons]; omega
      · rw [if_neg (by simpa using h1)]
        split
        · simp only [List.length_cons]; omega
        · exact this

/-- The seconds that a movement may begin or enter in. -/
def smallC (x : Int) : Bool := decide (-1099511627776 ≤ x) && decide (x ≤ 1099511627776)
def entersC (l : List Clo) (occ : List Occ) (s : Int) : Bool := smallC s && occ.all fun o => smallC o.2.1 && !coverC l o.1 (s + o.2.1)
/-- Least delay. -/
def EarlC (l : List Clo) (occ : List Occ) (s m d : Int) (ok : Bool) : Prop :=
  (ok = true ∧ 0 ≤ d ∧ d ≤ m ∧ m ≤ 3600 ∧ smallC s = true ∧ entersC l occ (s + d) = true ∧ ∀ e, 0 ≤ e → e < d → entersC l occ (s + e) = false) ∨
  (ok = false ∧ d = 0 ∧ (m < 0 ∨ 3600 < m ∨ smallC s = false ∨ ∀ e, 0 ≤ e → e ≤ m → entersC l occ (s + e) = false))
theorem EarlC.unique {l : List Clo} {occ : List Occ} {s m d d' : Int} {ok ok' : Bool} (h : EarlC l occ s m d ok) (h' : EarlC l occ s m d' ok') : d = d' ∧ ok = ok' := by
  rcases h with ⟨rfl, a1, a2, a3, a4, a5, a6⟩ | ⟨rfl, rfl, a⟩ <;> rcases h' with ⟨rfl, b1, b2, b3, b4, b5, b6⟩ | ⟨rfl, rfl, b⟩
  · refine ⟨?_, rfl⟩
    rcases Int.lt_trichotomy d d' with q | q | q
    · have := b6 d a1 q; rw [a5] at this; cases this
    · exact q
    · have := a6 d' b1 q; rw [b5] at this; cases this
  · exfalso
    rcases b with b | b | b | b
    · omega
    · omega
    · rw [a4] at b; cases b
    · have := b d a1 a2; rw [a5] at this; cases this
  · exfalso
    rcases a with a | a | a | a
    · omega
    · omega
    · rw [b4] at a; cases a
    · have := a d' b1 b2; rw [b5] at this; cases this
  · exact ⟨rfl, rfl⟩

/-- What a made list of closures is like. -/
def MadeC (l : List Clo) : Prop := l.length ≤ 5 ∧ ∀ c ∈ l, 0 ≤ c.1 ∧ c.1 < 6 ∧ 0 ≤ c.2.1 ∧ c.2.1 < 60 ∧ c.2.1 < c.2.2 ∧ c.2.2 ≤ c.2.1 + 30
theorem MadeC.check {l : List Clo} (h : MadeC l) : checkC l = true := by
  rw [checkC, Bool.and_eq_true, List.all_eq_true]
  refine ⟨by have := h.1; simp; omega, fun c hc => ?_⟩
  have := h.2 c hc
  rw [decide_eq_true_eq]; unfold okC; omega

end Go.Proofs.Ytlillkfelfoafaa
