/-
  Plain facts on lists of spans: a valid list is fixed by the residues that it contains; the runs of a predicate; no program in sight.
-/
set_option linter.unusedVariables false
set_option linter.unusedSimpArgs false
namespace RP

/-- A span [from, to). -/
abbrev Sp := Int × Int

def validFrom (t : Int) : Int → List Sp → Bool
  | _, [] => true
  | last, s :: r => decide (last < s.1) && decide (s.1 < s.2) && decide (s.2 ≤ t) && validFrom t s.2 r

def inRange (t : Int) : Bool := decide (1 ≤ t) && decide (t ≤ 7200)

def validL (t : Int) (l : List Sp) : Bool := inRange t && validFrom t (-1) l

def mem (l : List Sp) (x : Int) : Bool := l.any fun s => decide (s.1 ≤ x) && decide (x < s.2)

def lastTo : Int → List Sp → Int
  | p, [] => p
  | _, s :: r => lastTo s.2 r

theorem validFrom_cons {t p : Int} {s : Sp} {r : List Sp} : validFrom t p (s :: r) = true ↔ p < s.1 ∧ s.1 < s.2 ∧ s.2 ≤ t ∧ validFrom t s.2 r = true := by
  simp [validFrom, Bool.and_eq_true, and_assoc]

theorem mem_nil (x : Int) : mem [] x = false := rfl
theorem mem_cons {s : Sp} {r : List Sp} {x : Int} : mem (s :: r) x = true ↔ (s.1 ≤ x ∧ x < s.2) ∨ mem r x = true := by
  simp [mem, List.any_cons]
theorem mem_append {a b : List Sp} {x : Int} : mem (a ++ b) x = true ↔ mem a x = true ∨ mem b x = true := by
  simp [mem, List.any_append]
theorem mem_iff {l : List Sp} {x : Int} : mem l x = true ↔ ∃ s ∈ l, s.1 ≤ x ∧ x < s.2 := by
  simp [mem, List.any_eq_true]

theorem mem_lo {t : Int} : ∀ {l : List Sp} {p x : Int}, validFrom t p l = true → mem l x = true → p < x
  | [], _, _, _, h => by simp [mem] at h
  | s :: r, p, x, hv, h => by
    obtain ⟨h1, h2, _, h4⟩ := validFrom_cons.1 hv
    rcases mem_cons.1 h with ⟨h5, _⟩ | h5
    · omega
    · have := mem_lo h4 h5; omega

theorem mem_hi {t : Int} : ∀ {l : List Sp} {p x : Int}, validFrom t p l = true → mem l x = true → x < t
  | [], _, _, _, h => by simp [mem] at h
  | s :: r, p, x, hv, h => by
    obtain ⟨h1, h2, h3, h4⟩ := validFrom_cons.1 hv
    rcases mem_cons.1 h with ⟨_, h5⟩ | h5
    · omega
    · exact mem_hi h4 h5

theorem mem_eq_of_iff {a b : Bool} (h : a = true ↔ b = true) : a = b := by
  cases a <;> cases b <;> simp_all

/-- A valid list is fixed by its members. -/
theorem valid_unique {t : Int} : ∀ {a b : List Sp} {p : Int}, validFrom t p a = true → validFrom t p b = true → (∀ x, mem a x = mem b x) → a = b
  | [], [], _, _, _, _ => rfl
  | [], s :: r, _, _, hb, h => by
    obtain ⟨_, h2, _, _⟩ := validFrom_cons.1 hb
    have : mem (s :: r) s.1 = true := mem_cons.2 (.inl ⟨by omega, h2⟩)
    rw [← h] at this
    simp [mem] at this
  | s :: r, [], _, ha, _, h => by
    obtain ⟨_, h2, _, _⟩ := validFrom_cons.1 ha
    have : mem (s :: r) s.1 = true := mem_cons.2 (.inl ⟨by omega, h2⟩)
    rw [h] at this
    simp [mem] at this
  | s :: r, s' :: r', p, ha, hb, h => by
    obtain ⟨a1, a2, a3, a4⟩ := validFrom_cons.1 ha
    obtain ⟨b1, b2, b3, b4⟩ := validFrom_cons.1 hb
    have k1 : mem (s' :: r') s.1 = true := by rw [← h]; exact mem_cons.2 (.inl ⟨by omega, a2⟩)
    have k2 : mem (s :: r) s'.1 = true := by rw [h]; exact mem_cons.2 (.inl ⟨by omega, b2⟩)
    have e1 : s.1 = s'.1 := by
      rcases mem_cons.1 k1 with ⟨q, _⟩ | q
      · rcases mem_cons.1 k2 with ⟨q', _⟩ | q'
        · omega
        · have := mem_lo a4 q'; omega
      · have := mem_lo b4 q
        rcases mem_cons.1 k2 with ⟨q', _⟩ | q'
        · omega
        · have := mem_lo a4 q'; omega
    have e2 : s.2 = s'.2 := by
      rcases Int.lt_trichotomy s.2 s'.2 with q | q | q
      · have k3 : mem (s :: r) s.2 = true := by rw [h]; exact mem_cons.2 (.inl ⟨by omega, q⟩)
        rcases mem_cons.1 k3 with ⟨_, q'⟩ | q'
        · omega
        · have := mem_lo a4 q'; omega
      · exact q
      · have k3 : mem (s' :: r') s'.2 = true := by rw [← h]; exact mem_cons.2 (.inl ⟨by omega, q⟩)
        rcases mem_cons.1 k3 with ⟨_, q'⟩ | q'
        · omega
        · have := mem_lo b4 q'; omega
    obtain ⟨f, e⟩ := s
    obtain ⟨f', e'⟩ := s'
    simp only at e1 e2
    subst e1 e2
    have hr : r = r' := valid_unique a4 b4 fun x => by
      apply mem_eq_of_iff
      constructor
      · intro q
        have hlo := mem_lo a4 q
        have : mem ((f, e) :: r') x = true := by rw [← h]; exact mem_cons.2 (.inr q)
        rcases mem_cons.1 this with ⟨_, q'⟩ | q'
        · simp only at q' hlo; omega
        · exact q'
      · intro q
        have hlo := mem_lo b4 q
        have : mem ((f, e) :: r) x = true := by rw [h]; exact mem_cons.2 (.inr q)
        rcases mem_cons.1 this with ⟨_, q'⟩ | q'
        · simp only at q' hlo; omega
        · exact q'
    rw [hr]

theorem validFrom_snoc {t : Int} : ∀ {l : List Sp} {p : Int} {s : Sp}, validFrom t p (l ++ [s]) = true ↔ validFrom t p l = true ∧ lastTo p l < s.1 ∧ s.1 < s.2 ∧ s.2 ≤ t
  | [], p, s => by simp [validFrom, lastTo, and_assoc]
  | a :: l, p, s => by
    rw [List.cons_append, validFrom_cons, validFrom_cons, validFrom_snoc (l := l)]
    simp [lastTo, and_assoc]

theorem validFrom_mono {t u : Int} (h : t ≤ u) : ∀ {l : List Sp} {p : Int}, validFrom t p l = true → validFrom u p l = true
  | [], _, _ => rfl
  | s :: r, p, hv => by
    obtain ⟨h1, h2, h3, h4⟩ := validFrom_cons.1 hv
    exact validFrom_cons.2 ⟨h1, h2, by omega, validFrom_mono h h4⟩

theorem lastTo_snoc : ∀ (l : List Sp) (p : Int) (s : Sp), lastTo p (l ++ [s]) = s.2
  | [], _, _ => rfl
  | _ :: l, _, s => by simp only [List.cons_append, lastTo]; exact lastTo_snoc l _ s

theorem lastTo_le {t : Int} : ∀ {l : List Sp} {p : Int}, validFrom t p l = true → p ≤ t → lastTo p l ≤ t
  | [], _, _, h => h
  | s :: r, p, hv, _ => by
    obtain ⟨h1, h2, h3, h4⟩ := validFrom_cons.1 hv
    simp only [lastTo]
    exact lastTo_le h4 h3

theorem le_lastTo {t : Int} : ∀ {l : List Sp} {p : Int}, validFrom t p l = true → p ≤ lastTo p l
  | [], _, _ => Int.le_refl _
  | s :: r, p, hv => by
    obtain ⟨h1, h2, h3, h4⟩ := validFrom_cons.1 hv
    have := le_lastTo h4
    simp only [lastTo]; omega

/-- All members lie below the last end. -/
theorem mem_lt_lastTo {t : Int} : ∀ {l : List Sp} {p x : Int}, validFrom t p l = true → mem l x = true → x < lastTo p l
  | [], _, _, _, h => by simp [mem] at h
  | s :: r, p, x, hv, h => by
    obtain ⟨h1, h2, h3, h4⟩ := validFrom_cons.1 hv
    have := le_lastTo h4
    simp only [lastTo]
    rcases mem_cons.1 h with ⟨_, h5⟩ | h5
    · omega
    · exact mem_lt_lastTo h4 h5

theorem valid_length {t : Int} : ∀ {l : List Sp} {p : Int}, validFrom t p l = true → p ≤ t → 2 * (l.length : Int) ≤ t - p
  | [], p, _, h => by simp; omega
  | s :: r, p, hv, _ => by
    obtain ⟨h1, h2, h3, h4⟩ := validFrom_cons.1 hv
    have := valid_length h4 h3
    simp only [List.length_cons]; omega

/-- The spans of the marks, as the reference collects them. -/
def stepRun (out : List Sp) (x : Int) : List Sp :=
  match out.getLast? with
  | some s => if s.2 = x then out.dropLast ++ [(s.1, x + 1)] else out ++ [(x, x + 1)]
  | none => [(x, x + 1)]

def runs (P : Nat → Bool) : Nat → List Sp
  | 0 => []
  | k + 1 => if P k then stepRun (runs P k) k else runs P k

theorem snoc_cases {α : Type} (l : List α) : l = [] ∨ ∃ r x, l = r ++ [x] := by
  rcases List.eq_nil_or_concat l with h | ⟨r, x, h⟩
  · exact .inl h
  · exact .inr ⟨r, x, by simpa using h⟩

theorem runs_spec (P : Nat → Bool) : ∀ k : Nat, validFrom k (-1) (runs P k) = true ∧ ∀ x : Int, mem (runs P k) x = true ↔ 0 ≤ x ∧ x < k ∧ P x.toNat = true
  | 0 => ⟨rfl, fun x => by simp [runs, mem]; omega⟩
  | k + 1 => by
    obtain ⟨hv, hm⟩ := runs_spec P k
    have hk : ((k + 1 : Nat) : Int) = (k : Int) + 1 := by omega
    by_cases hP : P k = true
    · simp only [runs, hP, if_true]
      have key : ∀ x : Int, (mem (runs P k) x = true ∨ x = k) ↔ 0 ≤ x ∧ x < ((k + 1 : Nat) : Int) ∧ P x.toNat = true := by
        intro x
        rw [hm]
        constructor
        · rintro (h | rfl)
          · exact ⟨h.1, by omega, h.2.2⟩
          · exact ⟨by omega, by omega, by simpa using hP⟩
        · rintro ⟨a, b, c⟩
          by_cases e : x = k
          · exact .inr e
          · exact .inl ⟨a, by omega, c⟩
      rcases snoc_cases (runs P k) with h0 | ⟨r, s, h0⟩
      · rw [h0] at hv hm key ⊢
        refine ⟨?_, fun x => ?_⟩
        · simp [stepRun, validFrom]; omega
        · rw [← key]; simp [stepRun, mem]; omega
      · rw [h0] at hv hm key ⊢
        obtain ⟨v1, v2, v3, v4⟩ := validFrom_snoc.1 hv
        simp only [stepRun, List.getLast?_append, List.getLast?_singleton, Option.some_or, List.dropLast_concat]
        by_cases e : s.2 = k
        · simp only [e, if_true]
          refine ⟨validFrom_snoc.2 ⟨validFrom_mono (by omega) v1, v2, by simp only; omega, by simp only; omega⟩, fun x => ?_⟩
          rw [← key, mem_append, mem_append, mem_cons, mem_cons]
          simp only [mem_nil]
          constructor
          · rintro (h | h | h)
            · exact .inl (.inl h)
            · by_cases e' : x = k
              · exact .inr e'
              · exact .inl (.inr (.inl ⟨h.1, by omega⟩))
            · cases h
          · rintro ((h | h | h) | h)
            · exact .inl h
            · exact .inr (.inl ⟨h.1, by omega⟩)
            · cases h
            · exact .inr (.inl ⟨by omega, by omega⟩)
        · simp only [e, if_false]
          refine ⟨validFrom_snoc.2 ⟨validFrom_mono (by omega) hv, by rw [lastTo_snoc]; simp only; omega, by simp only; omega, by simp only; omega⟩, fun x => ?_⟩
          rw [← key, mem_append, mem_cons]
          simp only [mem_nil]
          constructor
          · rintro (h | h | h)
            · exact .inl h
            · exact .inr (by omega)
            · cases h
          · rintro (h | h)
            · exact .inl h
            · exact .inr (.inl ⟨by omega, by omega⟩)
    · have hP' : P k = false := by simpa using hP
      simp only [runs, hP', Bool.false_eq_true, if_false]
      refine ⟨validFrom_mono (by omega) hv, fun x => ?_⟩
      rw [hm]
      constructor
      · rintro ⟨a, b, c⟩; exact ⟨a, by omega, c⟩
      · rintro ⟨a, b, c⟩
        refine ⟨a, ?_, c⟩
        by_cases e : x = k
        · subst e; simp [hP'] at c
        · omega

theorem runs_valid (P : Nat → Bool) (k : Nat) : validFrom k (-1) (runs P k) = true := (runs_spec P k).1
theorem mem_runs (P : Nat → Bool) (k : Nat) (x : Int) : mem (runs P k) x = (decide (0 ≤ x) && decide (x < k) && P x.toNat) :=
  mem_eq_of_iff (by rw [(runs_spec P k).2 x]; simp [and_assoc])

theorem runs_congr {P Q : Nat → Bool} : ∀ {k : Nat}, (∀ x, x < k → P x = Q x) → runs P k = runs Q k
  | 0, _ => rfl
  | k + 1, h => by
    have ih := runs_congr (P := P) (Q := Q) (k := k) fun x hx => h x (by omega)
    simp only [runs, h k (by omega), ih]

/-- A valid list is the runs of its members. -/
theorem eq_runs {t : Nat} {l : List Sp} (hv : validFrom t (-1) l = true) {P : Nat → Bool} (h : ∀ x : Nat, x < t → mem l x = P x) : l = runs P t :=
  valid_unique hv (runs_valid P t) fun x => by
    rw [mem_runs]
    by_cases h0 : 0 ≤ x ∧ x < t
    · obtain ⟨n, rfl⟩ := Int.eq_ofNat_of_zero_le h0.1
      rw [h n (by omega)]
      simp; omega
    · have : mem l x ≠ true := fun hm => by
        have := mem_lo hv hm
        have := mem_hi hv hm
        omega
      have h2 : (decide (0 ≤ x) && decide (x < (t : Int))) = false := by simp; omega
      rw [h2]; simpa using this

end RP
