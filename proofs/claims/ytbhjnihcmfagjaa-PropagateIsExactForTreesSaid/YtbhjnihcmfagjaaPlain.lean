/-
  Plain facts on lists of spans: a valid list is fixed by the residues that it contains; the runs of a predicate; no program in sight.
  Plain facts on arcs: the residues of from, .., from + n - 1, as spans and as marks.
  Plain facts on queries: the number of residues of a list, and the first residue from a given one on.
  Plain facts: merging sorted spans gives the valid list of their union.
  Plain facts: the gaps between the spans of a valid list are the valid list of its complement; the common part of two valid lists.
  Plain facts: shifting the spans of a valid list shifts its residues; the residues of a sum.
  Plain facts: the number of residues of a set, counted; it does not change by shifting or negating the residues.
-/
set_option linter.unusedVariables false
set_option linter.unusedSimpArgs false

namespace RP

/-- A span [from, to). -/
abbrev Sp := Int × Int

def validFrom (t : Int) : Int → List Sp → Bool
  | _, [] => true
  | last, s :: r => decide (last < s.1) && decide (s.1 < s.2) && decide (s.2 ≤ t) && validFrom t s.2 r

def inRange (t : Int) : Bool := decide (1 ≤ t) && decide (t ≤ 7200)

def validL (t : Int) (l : List Sp) : Bool := inRange t && validFrom t (-1) l

def mem (l : List Sp) (x : Int) : Bool := l.any fun s => decide (s.1 ≤ x) && decide (x < s.2)

def lastTo : Int → List Sp → Int
  | p, [] => p
  | _, s :: r => lastTo s.2 r

theorem validFrom_cons {t p : Int} {s : Sp} {r : List Sp} : validFrom t p (s :: r) = true ↔ p < s.1 ∧ s.1 < s.2 ∧ s.2 ≤ t ∧ validFrom t s.2 r = true := by
  simp [validFrom, Bool.and_eq_true, and_assoc]

theorem mem_nil (x : Int) : mem [] x = false := rfl
theorem mem_cons {s : Sp} {r : List Sp} {x : Int} : mem (s :: r) x = true ↔ (s.1 ≤ x ∧ x < s.2) ∨ mem r x = true := by
  simp [mem, List.any_cons]
theorem mem_append {a b : List Sp} {x : Int} : mem (a ++ b) x = true ↔ mem a x = true ∨ mem b x = true := by
  simp [mem, List.any_append]
theorem mem_iff {l : List Sp} {x : Int} : mem l x = true ↔ ∃ s ∈ l, s.1 ≤ x ∧ x < s.2 := by
  simp [mem, List.any_eq_true]

theorem mem_lo {t : Int} : ∀ {l : List Sp} {p x : Int}, validFrom t p l = true → mem l x = true → p < x
  | [], _, _, _, h => by simp [mem] at h
  | s :: r, p, x, hv, h => by
    obtain ⟨h1, h2, _, h4⟩ := validFrom_cons.1 hv
    rcases mem_cons.1 h with ⟨h5, _⟩ | h5
    · omega
    · have := mem_lo h4 h5; omega

theorem mem_hi {t : Int} : ∀ {l : List Sp} {p x : Int}, validFrom t p l = true → mem l x = true → x < t
  | [], _, _, _, h => by simp [mem] at h
  | s :: r, p, x, hv, h => by
    obtain ⟨h1, h2, h3, h4⟩ := validFrom_cons.1 hv
    rcases mem_cons.1 h with ⟨_, h5⟩ | h5
    · omega
    · exact mem_hi h4 h5

theorem mem_eq_of_iff {a b : Bool} (h : a = true ↔ b = true) : a = b := by
  cases a <;> cases b <;> simp_all

/-- A valid list is fixed by its members. -/
theorem valid_unique {t : Int} : ∀ {a b : List Sp} {p : Int}, validFrom t p a = true → validFrom t p b = true → (∀ x, mem a x = mem b x) → a = b
  | [], [], _, _, _, _ => rfl
  | [], s :: r, _, _, hb, h => by
    obtain ⟨_, h2, _, _⟩ := validFrom_cons.1 hb
    have : mem (s :: r) s.1 = true := mem_cons.2 (.inl ⟨by omega, h2⟩)
    rw [← h] at this
    simp [mem] at this
  | s :: r, [], _, ha, _, h => by
    obtain ⟨_, h2, _, _⟩ := validFrom_cons.1 ha
    have : mem (s :: r) s.1 = true := mem_cons.2 (.inl ⟨by omega, h2⟩)
    rw [h] at this
    simp [mem] at this
  | s :: r, s' :: r', p, ha, hb, h => by
    obtain ⟨a1, a2, a3, a4⟩ := validFrom_cons.1 ha
    obtain ⟨b1, b2, b3, b4⟩ := validFrom_cons.1 hb
    have k1 : mem (s' :: r') s.1 = true := by rw [← h]; exact mem_cons.2 (.inl ⟨by omega, a2⟩)
    have k2 : mem (s :: r) s'.1 = true := by rw [h]; exact mem_cons.2 (.inl ⟨by omega, b2⟩)
    have e1 : s.1 = s'.1 := by
      rcases mem_cons.1 k1 with ⟨q, _⟩ | q
      · rcases mem_cons.1 k2 with ⟨q', _⟩ | q'
        · omega
        · have := mem_lo a4 q'; omega
      · have := mem_lo b4 q
        rcases mem_cons.1 k2 with ⟨q', _⟩ | q'
        · omega
        · have := mem_lo a4 q'; omega
    have e2 : s.2 = s'.2 := by
      rcases Int.lt_trichotomy s.2 s'.2 with q | q | q
      · have k3 : mem (s :: r) s.2 = true := by rw [h]; exact mem_cons.2 (.inl ⟨by omega, q⟩)
        rcases mem_cons.1 k3 with ⟨_, q'⟩ | q'
        · omega
        · have := mem_lo a4 q'; omega
      · exact q
      · have k3 : mem (s' :: r') s'.2 = true := by rw [← h]; exact mem_cons.2 (.inl ⟨by omega, q⟩)
        rcases mem_cons.1 k3 with ⟨_, q'⟩ | q'
        · omega
        · have := mem_lo b4 q'; omega
    obtain ⟨f, e⟩ := s
    obtain ⟨f', e'⟩ := s'
    simp only at e1 e2
    subst e1 e2
    have hr : r = r' := valid_unique a4 b4 fun x => by
      apply mem_eq_of_iff
      constructor
      · intro q
        have hlo := mem_lo a4 q
        have : mem ((f, e) :: r') x = true := by rw [← h]; exact mem_cons.2 (.inr q)
        rcases mem_cons.1 this with ⟨_, q'⟩ | q'
        · simp only at q' hlo; omega
        · exact q'
      · intro q
        have hlo := mem_lo b4 q
        have : mem ((f, e) :: r) x = true := by rw [h]; exact mem_cons.2 (.inr q)
        rcases mem_cons.1 this with ⟨_, q'⟩ | q'
        · simp only at q' hlo; omega
        · exact q'
    rw [hr]

theorem validFrom_snoc {t : Int} : ∀ {l : List Sp} {p : Int} {s : Sp}, validFrom t p (l ++ [s]) = true ↔ validFrom t p l = true ∧ lastTo p l < s.1 ∧ s.1 < s.2 ∧ s.2 ≤ t
  | [], p, s => by simp [validFrom, lastTo, and_assoc]
  | a :: l, p, s => by
    rw [List.cons_append, validFrom_cons, validFrom_cons, validFrom_snoc (l := l)]
    simp [lastTo, and_assoc]

theorem validFrom_mono {t u : Int} (h : t ≤ u) : ∀ {l : List Sp} {p : Int}, validFrom t p l = true → validFrom u p l = true
  | [], _, _ => rfl
  | s :: r, p, hv => by
    obtain ⟨h1, h2, h3, h4⟩ := validFrom_cons.1 hv
    exact validFrom_cons.2 ⟨h1, h2, by omega, validFrom_mono h h4⟩

theorem lastTo_snoc : ∀ (l : List Sp) (p : Int) (s : Sp), lastTo p (l ++ [s]) = s.2
  | [], _, _ => rfl
  | _ :: l, _, s => by simp only [List.cons_append, lastTo]; exact lastTo_snoc l _ s

theorem lastTo_le {t : Int} : ∀ {l : List Sp} {p : Int}, validFrom t p l = true → p ≤ t → lastTo p l ≤ t
  | [], _, _, h => h
  | s :: r, p, hv, _ => by
    obtain ⟨h1, h2, h3, h4⟩ := validFrom_cons.1 hv
    simp only [lastTo]
    exact lastTo_le h4 h3

theorem le_lastTo {t : Int} : ∀ {l : List Sp} {p : Int}, validFrom t p l = true → p ≤ lastTo p l
  | [], _, _ => Int.le_refl _
  | s :: r, p, hv => by
    obtain ⟨h1, h2, h3, h4⟩ := validFrom_cons.1 hv
    have := le_lastTo h4
    simp only [lastTo]; omega

/-- All members lie below the last end. -/
theorem mem_lt_lastTo {t : Int} : ∀ {l : List Sp} {p x : Int}, validFrom t p l = true → mem l x = true → x < lastTo p l
  | [], _, _, _, h => by simp [mem] at h
  | s :: r, p, x, hv, h => by
    obtain ⟨h1, h2, h3, h4⟩ := validFrom_cons.1 hv
    have := le_lastTo h4
    simp only [lastTo]
    rcases mem_cons.1 h with ⟨_, h5⟩ | h5
    · omega
    · exact mem_lt_lastTo h4 h5

theorem valid_length {t : Int} : ∀ {l : List Sp} {p : Int}, validFrom t p l = true → p ≤ t → 2 * (l.length : Int) ≤ t - p
  | [], p, _, h => by simp; omega
  | s :: r, p, hv, _ => by
    obtain ⟨h1, h2, h3, h4⟩ := validFrom_cons.1 hv
    have := valid_length h4 h3
    simp only [List.length_cons]; omega

/-- The spans of the marks, as the reference collects them. -/
def stepRun (out : List Sp) (x : Int) : List Sp :=
  match out.getLast? with
  | some s => if s.2 = x then out.dropLast ++ [(s.1, x + 1)] else out ++ [(x, x + 1)]
  | none => [(x, x + 1)]

def runs (P : Nat → Bool) : Nat → List Sp
  | 0 => []
  | k + 1 => if P k then stepRun (runs P k) k else runs P k

theorem snoc_cases {α : Type} (l : List α) : l = [] ∨ ∃ r x, l = r ++ [x] := by
  rcases List.eq_nil_or_concat l with h | ⟨r, x, h⟩
  · exact .inl h
  · exact .inr ⟨r, x, by simpa using h⟩

theorem runs_spec (P : Nat → Bool) : ∀ k : Nat, validFrom k (-1) (runs P k) = true ∧ ∀ x : Int, mem (runs P k) x = true ↔ 0 ≤ x ∧ x < k ∧ P x.toNat = true
  | 0 => ⟨rfl, fun x => by simp [runs, mem]; omega⟩
  | k + 1 => by
    obtain ⟨hv, hm⟩ := runs_spec P k
    have hk : ((k + 1 : Nat) : Int) = (k : Int) + 1 := by omega
    by_cases hP : P k = true
    · simp only [runs, hP, if_true]
      have key : ∀ x : Int, (mem (runs P k) x = true ∨ x = k) ↔ 0 ≤ x ∧ x < ((k + 1 : Nat) : Int) ∧ P x.toNat = true := by
        intro x
        rw [hm]
        constructor
        · rintro (h | rfl)
          · exact ⟨h.1, by omega, h.2.2⟩
          · exact ⟨by omega, by omega, by simpa using hP⟩
        · rintro ⟨a, b, c⟩
          by_cases e : x = k
          · exact .inr e
          · exact .inl ⟨a, by omega, c⟩
      rcases snoc_cases (runs P k) with h0 | ⟨r, s, h0⟩
      · rw [h0] at hv hm key ⊢
        refine ⟨?_, fun x => ?_⟩
        · simp [stepRun, validFrom]; omega
        · rw [← key]; simp [stepRun, mem]; omega
      · rw [h0] at hv hm key ⊢
        obtain ⟨v1, v2, v3, v4⟩ := validFrom_snoc.1 hv
        simp only [stepRun, List.getLast?_append, List.getLast?_singleton, Option.some_or, List.dropLast_concat]
        by_cases e : s.2 = k
        · simp only [e, if_true]
          refine ⟨validFrom_snoc.2 ⟨validFrom_mono (by omega) v1, v2, by simp only; omega, by simp only; omega⟩, fun x => ?_⟩
          rw [← key, mem_append, mem_append, mem_cons, mem_cons]
          simp only [mem_nil]
          constructor
          · rintro (h | h | h)
            · exact .inl (.inl h)
            · by_cases e' : x = k
              · exact .inr e'
              · exact .inl (.inr (.inl ⟨h.1, by omega⟩))
            · cases h
          · rintro ((h | h | h) | h)
            · exact .inl h
            · exact .inr (.inl ⟨h.1, by omega⟩)
            · cases h
            · exact .inr (.inl ⟨by omega, by omega⟩)
        · simp only [e, if_false]
          refine ⟨validFrom_snoc.2 ⟨validFrom_mono (by omega) hv, by rw [lastTo_snoc]; simp only; omega, by simp only; omega, by simp only; omega⟩, fun x => ?_⟩
          rw [← key, mem_append, mem_cons]
          simp only [mem_nil]
          constructor
          · rintro (h | h | h)
            · exact .inl h
            · exact .inr (by omega)
            · cases h
          · rintro (h | h)
            · exact .inl h
            · exact .inr (.inl ⟨by omega, by omega⟩)
    · have hP' : P k = false := by simpa using hP
      simp only [runs, hP', Bool.false_eq_true, if_false]
      refine ⟨validFrom_mono (by omega) hv, fun x => ?_⟩
      rw [hm]
      constructor
      · rintro ⟨a, b, c⟩; exact ⟨a, by omega, c⟩
      · rintro ⟨a, b, c⟩
        refine ⟨a, ?_, c⟩
        by_cases e : x = k
        · subst e; simp [hP'] at c
        · omega

theorem runs_valid (P : Nat → Bool) (k : Nat) : validFrom k (-1) (runs P k) = true := (runs_spec P k).1
theorem mem_runs (P : Nat → Bool) (k : Nat) (x : Int) : mem (runs P k) x = (decide (0 ≤ x) && decide (x < k) && P x.toNat) :=
  mem_eq_of_iff (by rw [(runs_spec P k).2 x]; simp [and_assoc])

theorem runs_congr {P Q : Nat → Bool} : ∀ {k : Nat}, (∀ x, x < k → P x = Q x) → runs P k = runs Q k
  | 0, _ => rfl
  | k + 1, h => by
    have ih := runs_congr (P := P) (Q := Q) (k := k) fun x hx => h x (by omega)
    simp only [runs, h k (by omega), ih]

/-- A valid list is the runs of its members. -/
theorem eq_runs {t : Nat} {l : List Sp} (hv : validFrom t (-1) l = true) {P : Nat → Bool} (h : ∀ x : Nat, x < t → mem l x = P x) : l = runs P t :=
  valid_unique hv (runs_valid P t) fun x => by
    rw [mem_runs]
    by_cases h0 : 0 ≤ x ∧ x < t
    · obtain ⟨n, rfl⟩ := Int.eq_ofNat_of_zero_le h0.1
      rw [h n (by omega)]
      simp; omega
    · have : mem l x ≠ true := fun hm => by
        have := mem_lo hv hm
        have := mem_hi hv hm
        omega
      have h2 : (decide (0 ≤ x) && decide (x < (t : Int))) = false := by simp; omega
      rw [h2]; simpa using this

end RP

namespace RP

/-- The spans of the residues from, .., from + n - 1. -/
def arc (t f n : Int) : List Sp :=
  if n < 1 then [] else if t ≤ n then [(0, t)] else if f + n ≤ t then [(f, f + n)] else [(0, f + n - t), (f, t)]

theorem arc_length (t f n : Int) : (arc t f n).length ≤ 2 := by
  unfold arc
  split
  · simp
  · split
    · simp
    · split <;> simp

theorem subMod {t x f : Int} (h0 : 0 ≤ x) (h1 : x < t) (h2 : 0 ≤ f) (h3 : f < t) : (x - f) % t = if f ≤ x then x - f else x - f + t := by
  split
  · exact Int.emod_eq_of_lt (by omega) (by omega)
  · rw [← Int.add_emod_right]; exact Int.emod_eq_of_lt (by omega) (by omega)

theorem addMod {t x f : Int} (h0 : 0 ≤ x) (h1 : x < t) (h2 : 0 ≤ f) (h3 : f < t) : (x + f) % t = if x + f < t then x + f else x + f - t := by
  split
  · exact Int.emod_eq_of_lt (by omega) (by omega)
  · rw [show x + f = (x + f - t) + t by omega, Int.add_emod_right, show x + f - t + t - t = x + f - t by omega]; exact Int.emod_eq_of_lt (by omega) (by omega)

/-- The arc's marks. -/
def arcB (t f n : Int) (x : Nat) : Bool := decide (((x : Int) - f) % t < n)

theorem arc_valid {t f : Int} (n : Int) (h1 : 1 ≤ t) (h2 : 0 ≤ f) (h3 : f < t) : validFrom t (-1) (arc t f n) = true := by
  unfold arc
  split
  · rfl
  · split
    · simp [validFrom]; omega
    · split
      · simp [validFrom]; omega
      · simp [validFrom]; omega

theorem arc_mem {t f : Int} (n : Int) (h2 : 0 ≤ f) (h3 : f < t) (x : Int) (hx0 : 0 ≤ x) (hx : x < t) : mem (arc t f n) x = decide ((x - f) % t < n) := by
  rw [subMod hx0 hx h2 h3]
  apply mem_eq_of_iff
  unfold arc
  split
  · simp [mem]; split <;> omega
  · split
    · simp [mem]; split <;> omega
    · split
      · simp [mem]; split <;> omega
      · simp [mem]; split <;> omega

theorem arc_eq {t : Nat} {f : Int} (n : Int) (h1 : 1 ≤ t) (h2 : 0 ≤ f) (h3 : f < t) : arc t f n = runs (arcB t f n) t :=
  eq_runs (arc_valid n (by omega) h2 h3) fun x hx => arc_mem n h2 h3 x (by omega) (by omega)

/-- The marks of a predicate. -/
def bitsOf (t : Nat) (P : Nat → Bool) : List Bool := (List.range t).map P
theorem bitsOf_length (t : Nat) (P : Nat → Bool) : (bitsOf t P).length = t := by simp [bitsOf]
theorem bitsOf_get {t : Nat} {P : Nat → Bool} {i : Nat} (h : i < (bitsOf t P).length) : (bitsOf t P)[i] = P i := by simp [bitsOf]
theorem bitsOf_set (t : Nat) (P : Nat → Bool) (i : Nat) (b : Bool) : (bitsOf t P).set i b = bitsOf t fun x => if x = i then b else P x := by
  apply List.ext_getElem
  · simp [bitsOf]
  · intro j h1 h2
    rw [List.getElem_set]
    simp only [bitsOf, List.getElem_map, List.getElem_range]
    by_cases h : i = j
    · simp [h]
    · simp [h, Ne.symm h]
theorem bitsOf_congr {t : Nat} {P Q : Nat → Bool} (h : ∀ x, x < t → P x = Q x) : bitsOf t P = bitsOf t Q := by
  unfold bitsOf
  exact List.map_congr_left fun x hx => h x (by simpa using hx)
theorem bitsOf_false (t : Nat) : List.replicate t false = bitsOf t fun _ => false := by
  apply List.ext_getElem
  · simp [bitsOf]
  · intro j h1 h2; simp [bitsOf]

/-- One mark more of an arc. -/
theorem arcB_step {t : Nat} {f : Int} {k : Nat} (h2 : 0 ≤ f) (h3 : f < t) (hk : k < t) : (bitsOf t (arcB t f k)).set ((f + k) % t).toNat true = bitsOf t (arcB t f ((k : Int) + 1)) := by
  rw [bitsOf_set]
  refine bitsOf_congr fun x hx => ?_
  have a := addMod (t := t) (x := f) (f := k) h2 h3 (by omega) (by omega)
  have b := subMod (t := t) (x := x) (f := f) (by omega) (by omega) h2 h3
  rw [a]
  unfold arcB
  rw [b]
  by_cases c1 : f + k < t <;> by_cases c2 : f ≤ x <;> simp only [c1, c2, if_true, if_false] <;> (split <;> simp <;> omega)

theorem arcB_zero (t : Nat) (f : Int) (h : 1 ≤ t) : bitsOf t (arcB t f ((0 : Nat) : Int)) = bitsOf t fun _ => false :=
  bitsOf_congr fun x _ => by
    have := Int.emod_nonneg ((x : Int) - f) (show (t : Int) ≠ 0 by omega)
    simp [arcB]; omega

theorem arcB_full {t : Nat} {f n : Int} (h : 1 ≤ t) (hn : (t : Int) ≤ n) : bitsOf t (arcB t f n) = bitsOf t (arcB t f t) :=
  bitsOf_congr fun x _ => by
    have := Int.emod_lt_of_pos ((x : Int) - f) (show 0 < (t : Int) by omega)
    simp [arcB]; omega
theorem arcB_none {t : Nat} {f n : Int} (h : 1 ≤ t) (hn : n ≤ 0) : bitsOf t (arcB t f n) = bitsOf t (arcB t f ((0 : Nat) : Int)) :=
  bitsOf_congr fun x _ => by
    have := Int.emod_nonneg ((x : Int) - f) (show (t : Int) ≠ 0 by omega)
    simp [arcB]; omega

end RP

namespace RP

def total : List Sp → Int
  | [] => 0
  | s :: r => (s.2 - s.1) + total r

theorem total_append : ∀ a b : List Sp, total (a ++ b) = total a + total b
  | [], b => by simp [total]
  | s :: a, b => by simp [total, total_append a b]; omega

theorem total_bound {t : Int} : ∀ {l : List Sp} {p : Int}, validFrom t p l = true → p ≤ t → 0 ≤ total l ∧ total l ≤ t - p
  | [], p, _, h => by simp [total]; omega
  | s :: r, p, hv, _ => by
    obtain ⟨h1, h2, h3, h4⟩ := validFrom_cons.1 hv
    have := total_bound h4 h3
    simp [total]; omega

theorem validFrom_take {t : Int} : ∀ {l : List Sp} {p : Int} (k : Nat), validFrom t p l = true → validFrom t p (l.take k) = true
  | [], _, _, _ => by simp [validFrom]
  | s :: r, p, 0, _ => by simp [validFrom]
  | s :: r, p, k + 1, hv => by
    obtain ⟨h1, h2, h3, h4⟩ := validFrom_cons.1 hv
    rw [List.take_succ_cons]
    exact validFrom_cons.2 ⟨h1, h2, h3, validFrom_take k h4⟩

/-- What Next answers: d is the first distance at which there is a member. -/
def NextSpec (t : Int) (s : List Sp) (x d : Int) (ok : Bool) : Prop :=
  if validL t s = true then (ok = true ∧ 0 ≤ d ∧ d < t ∧ mem s ((x + d) % t) = true ∧ ∀ k, 0 ≤ k → k < d → mem s ((x + k) % t) = false) ∨ (ok = false ∧ d = 0 ∧ s = [])
  else ok = false ∧ d = 0

theorem mem_nonempty {s : List Sp} {x : Int} (h : mem s x = true) : s ≠ [] := by rintro rfl; simp [mem] at h

theorem next_unique {t : Int} {s : List Sp} {x d d' : Int} {ok ok' : Bool} (h : NextSpec t s x d ok) (h' : NextSpec t s x d' ok') : d = d' ∧ ok = ok' := by
  unfold NextSpec at h h'
  split at h
  · rename_i hv
    rw [if_pos hv] at h'
    rcases h with ⟨rfl, h1, h2, h3, h4⟩ | ⟨rfl, rfl, rfl⟩
    · rcases h' with ⟨rfl, g1, g2, g3, g4⟩ | ⟨rfl, rfl, rfl⟩
      · refine ⟨?_, rfl⟩
        rcases Int.lt_trichotomy d d' with q | q | q
        · have := g4 d h1 q; rw [h3] at this; cases this
        · exact q
        · have := h4 d' g1 q; rw [g3] at this; cases this
      · simp [mem] at h3
    · rcases h' with ⟨rfl, g1, g2, g3, g4⟩ | ⟨rfl, rfl, _⟩
      · simp [mem] at g3
      · exact ⟨rfl, rfl⟩
  · rename_i hv
    rw [if_neg hv] at h'
    exact ⟨by rw [h.2, h'.2], by rw [h.1, h'.1]⟩

theorem mem_of_get {l : List Sp} {k : Nat} (hk : k < l.length) {x : Int} (h1 : l[k].1 ≤ x) (h2 : x < l[k].2) : mem l x = true :=
  mem_iff.2 ⟨l[k], List.getElem_mem hk, h1, h2⟩

/-- Behind the ends of the first k spans and ahead of the next one there is no member. -/
theorem not_mem_gap {t : Int} : ∀ {l : List Sp} {p y : Int} {k : Nat}, validFrom t p l = true → (∀ i (h : i < l.length), i < k → l[i].2 ≤ y) → (∀ h : k < l.length, y < l[k].1) → mem l y = false
  | [], _, _, _, _, _, _ => rfl
  | s :: r, p, y, 0, hv, _, h2 => by
    obtain ⟨a1, a2, a3, a4⟩ := validFrom_cons.1 hv
    have hs : y < s.1 := h2 (by simp)
    cases hm : mem (s :: r) y with
    | false => rfl
    | true =>
      rcases mem_cons.1 hm with ⟨q, _⟩ | q
      · omega
      · have := mem_lo a4 q; omega
  | s :: r, p, y, k + 1, hv, h1, h2 => by
    obtain ⟨a1, a2, a3, a4⟩ := validFrom_cons.1 hv
    have ih := not_mem_gap (k := k) (y := y) a4 (fun i h hi => by have := h1 (i + 1) (by simpa using h) (by omega); simpa using this) (fun h => by have := h2 (by simpa using h); simpa using this)
    have hs : s.2 ≤ y := h1 0 (by simp) (by omega)
    cases hm : mem (s :: r) y with
    | false => rfl
    | true =>
      rcases mem_cons.1 hm with ⟨_, q⟩ | q
      · omega
      · rw [ih] at q; cases q

theorem emod_shift (x d t : Int) : (x % t + d) % t = (x + d) % t := by rw [Int.emod_add_emod]

theorem valid_lt {t p : Int} {l : List Sp} (hv : validFrom t p l = true) {k : Nat} (hk : k < l.length) : l[k].1 < l[k].2 := by
  induction l generalizing p k with
  | nil => simp at hk
  | cons s r ih =>
    obtain ⟨h1, h2, h3, h4⟩ := validFrom_cons.1 hv
    cases k with
    | zero => exact h2
    | succ k => simp only [List.getElem_cons_succ]; exact ih h4 (by simpa using hk)

/-- Next finds a span that ends behind r. -/
theorem next_hit {t : Int} {l : List Sp} {x : Int} {k : Nat} (hr : inRange t = true) (hv : validFrom t (-1) l = true) (hk : k < l.length) (hb : ∀ i (h : i < l.length), i < k → l[i].2 ≤ x % t) (hlt : x % t < l[k].2) :
    NextSpec t l x (max (l[k].1 - x % t) 0) true := by
  have ht : 1 ≤ t := by simp [inRange] at hr; exact hr.1
  have r0 := Int.emod_nonneg x (show t ≠ 0 by omega)
  have r1 := Int.emod_lt_of_pos x (show 0 < t by omega)
  have hle : l[k].2 ≤ t := by
    have : mem l (l[k].2 - 1) = true := mem_of_get hk (by have := valid_lt hv hk; omega) (by omega)
    have := mem_hi hv this
    omega
  have hfl := valid_lt hv hk
  unfold NextSpec
  rw [if_pos (by simp [validL, hr, hv])]
  refine .inl ⟨rfl, by omega, by omega, ?_, fun j hj hjd => ?_⟩
  · rw [← emod_shift, Int.emod_eq_of_lt (by omega) (by omega)]
    exact mem_of_get hk (by omega) (by omega)
  · rw [← emod_shift, Int.emod_eq_of_lt (by omega) (by omega)]
    exact not_mem_gap (k := k) hv (fun i h hi => by have := hb i h hi; omega) (fun h => by omega)

/-- Next goes round. -/
theorem next_round {t : Int} {l : List Sp} {x : Int} (hr : inRange t = true) (hv : validFrom t (-1) l = true) (h0 : 0 < l.length) (hb : ∀ i (h : i < l.length), l[i].2 ≤ x % t) :
    NextSpec t l x (t - x % t + l[0].1) true := by
  have ht : 1 ≤ t := by simp [inRange] at hr; exact hr.1
  have r0 := Int.emod_nonneg x (show t ≠ 0 by omega)
  have r1 := Int.emod_lt_of_pos x (show 0 < t by omega)
  have hfl := valid_lt hv h0
  have hb0 := hb 0 h0
  have hlo : 0 ≤ l[0].1 := by
    have : mem l l[0].1 = true := mem_of_get h0 (by omega) (by omega)
    have := mem_lo hv this
    omega
  unfold NextSpec
  rw [if_pos (by simp [validL, hr, hv])]
  refine .inl ⟨rfl, by omega, by omega, ?_, fun j hj hjd => ?_⟩
  · rw [← emod_shift, show x % t + (t - x % t + l[0].1) = l[0].1 + t by omega, Int.add_emod_right, Int.emod_eq_of_lt (by omega) (by omega)]
    exact mem_of_get h0 (by omega) (by omega)
  · by_cases hc : x % t + j < t
    · rw [← emod_shift, Int.emod_eq_of_lt (by omega) hc]
      exact not_mem_gap (k := l.length) hv (fun i h _ => by have := hb i h; omega) (fun h => by omega)
    · rw [← emod_shift, show x % t + j = (x % t + j - t) + t by omega, Int.add_emod_right, Int.emod_eq_of_lt (by omega) (by omega)]
      exact not_mem_gap (k := 0) hv (fun i h hi => by omega) (fun h => by omega)

theorem next_empty {t : Int} {x : Int} (hr : inRange t = true) : NextSpec t [] x 0 false := by
  unfold NextSpec
  rw [if_pos (by simp [validL, hr, validFrom])]
  exact .inr ⟨rfl, rfl, rfl⟩
theorem next_bad {t : Int} {l : List Sp} {x : Int} (hv : validL t l = false) : NextSpec t l x 0 false := by
  unfold NextSpec
  rw [if_neg (by simp [hv])]
  exact ⟨rfl, rfl⟩

/-- A valid list of which all residues from r on are no members is empty. -/
theorem empty_of_none {t : Int} {l : List Sp} {x : Int} (hr : inRange t = true) (hv : validFrom t (-1) l = true) (h : ∀ k, 0 ≤ k → k < t → mem l ((x + k) % t) = false) : l = [] := by
  have ht : 1 ≤ t := by simp [inRange] at hr; exact hr.1
  cases l with
  | nil => rfl
  | cons s r =>
    obtain ⟨h1, h2, h3, h4⟩ := validFrom_cons.1 hv
    have := h ((s.1 - x) % t) (Int.emod_nonneg _ (by omega)) (Int.emod_lt_of_pos _ (by omega))
    rw [Int.add_emod_emod, show x + (s.1 - x) = s.1 by omega, Int.emod_eq_of_lt (by omega) (by omega)] at this
    have hm : mem (s :: r) s.1 = true := mem_cons.2 (.inl ⟨by omega, h2⟩)
    rw [hm] at this
    cases this

def hasL (t : Int) (s : List Sp) (x : Int) : Bool := validL t s && mem s (x % t)
def countL (t : Int) (s : List Sp) : Int := if validL t s then total s else 0

/-- Has by Next. -/
theorem has_next {t : Int} {s : List Sp} {x d : Int} {ok : Bool} (h : NextSpec t s x d ok) : (ok && (d == 0)) = hasL t s x := by
  unfold NextSpec at h
  unfold hasL
  split at h
  · rename_i hv
    rw [hv]
    rcases h with ⟨rfl, h1, h2, h3, h4⟩ | ⟨rfl, rfl, rfl⟩
    · by_cases hd : d = 0
      · subst hd
        rw [Int.add_zero] at h3
        rw [h3]; rfl
      · have := h4 0 (by omega) (by omega)
        rw [Int.add_zero] at this
        rw [this]
        simp [hd]
    · simp [mem]
  · rename_i hv
    rw [h.1]
    have : validL t s = false := by simpa using hv
    simp [this]

end RP

namespace RP

def mergeStep (out : List Sp) (s : Sp) : List Sp :=
  match out.getLast? with
  | some u => if s.1 ≤ u.2 then out.dropLast ++ [(u.1, max u.2 s.2)] else out ++ [s]
  | none => [s]

def mergeL (l : List Sp) : List Sp := l.foldl mergeStep []

theorem mergeL_snoc (l : List Sp) (s : Sp) : mergeL (l ++ [s]) = mergeStep (mergeL l) s := by simp [mergeL, List.foldl_append]

theorem mergeStep_nil (s : Sp) : mergeStep [] s = [s] := rfl
theorem mergeStep_far (r : List Sp) (u s : Sp) (h : ¬ s.1 ≤ u.2) : mergeStep (r ++ [u]) s = (r ++ [u]) ++ [s] := by
  simp [mergeStep, h]
theorem mergeStep_near (r : List Sp) (u s : Sp) (h : s.1 ≤ u.2) : mergeStep (r ++ [u]) s = r ++ [(u.1, max u.2 s.2)] := by
  simp [mergeStep, h]

/-- What holds of the merged list of the first spans. -/
structure Merged (t : Int) (p out : List Sp) (b : Int) : Prop where
  valid : validFrom t (-1) out = true
  mem : ∀ x, mem out x = mem p x
  last : ∀ r u, out = r ++ [u] → u.1 ≤ b

theorem merged_step {t : Int} {p out : List Sp} {b : Int} (h : Merged t p out b) (s : Sp) (h1 : 0 ≤ s.1) (h2 : s.1 < s.2) (h3 : s.2 ≤ t) (hb : b ≤ s.1) : Merged t (p ++ [s]) (mergeStep out s) s.1 := by
  have hmem : ∀ x, RP.mem (p ++ [s]) x = (RP.mem p x || (decide (s.1 ≤ x) && decide (x < s.2))) := fun x => by simp [RP.mem, List.any_append]
  rcases snoc_cases out with rfl | ⟨r, u, rfl⟩
  · rw [mergeStep_nil]
    refine ⟨by simp [validFrom]; omega, fun x => ?_, fun r u e => ?_⟩
    · rw [hmem, ← h.mem]; simp [RP.mem]
    · have : r = [] ∧ s = u := by
        cases r with
        | nil => simpa using e
        | cons a r => simp at e
      rw [this.2]; exact Int.le_refl _
  · obtain ⟨v1, v2, v3, v4⟩ := validFrom_snoc.1 h.valid
    have hu := h.last r u rfl
    by_cases hc : s.1 ≤ u.2
    · rw [mergeStep_near r u s hc]
      refine ⟨validFrom_snoc.2 ⟨v1, v2, by simp only; omega, by simp only; omega⟩, fun x => ?_, fun r' u' e => ?_⟩
      · rw [hmem, ← h.mem]
        apply mem_eq_of_iff
        simp only [RP.mem, List.any_append, List.any_cons, List.any_nil, Bool.or_false, Bool.or_eq_true, Bool.and_eq_true, decide_eq_true_eq]
        constructor
        · rintro (q | q)
          · exact .inl (.inl q)
          · by_cases hx : x < u.2
            · exact .inl (.inr ⟨q.1, hx⟩)
            · exact .inr ⟨by omega, by omega⟩
        · rintro ((q | q) | q)
          · exact .inl q
          · exact .inr ⟨q.1, by omega⟩
          · exact .inr ⟨by omega, by omega⟩
      · have := List.append_inj_right' e rfl
        simp only [List.cons.injEq, and_true] at this
        rw [← this]
        simp only; omega
    · rw [mergeStep_far r u s hc]
      refine ⟨validFrom_snoc.2 ⟨h.valid, by rw [lastTo_snoc]; omega, h2, h3⟩, fun x => ?_, fun r' u' e => ?_⟩
      · rw [hmem, ← h.mem]
        simp [RP.mem, List.any_append, Bool.or_assoc]
      · have := List.append_inj_right' e rfl
        simp only [List.cons.injEq, and_true] at this
        rw [← this]
        exact Int.le_refl _

theorem mergeL_take {t : Int} {l : List Sp} (hl : ∀ s ∈ l, 0 ≤ s.1 ∧ s.1 < s.2 ∧ s.2 ≤ t) (hs : l.Pairwise fun x y => x.1 ≤ y.1) :
    ∀ k, k ≤ l.length → ∃ b, Merged t (l.take k) (mergeL (l.take k)) b ∧ ∀ j (h : j < l.length), k ≤ j → b ≤ l[j].1
  | 0, _ => ⟨-1, ⟨rfl, fun _ => rfl, fun r u e => by simp [mergeL] at e⟩, fun j h _ => by have := (hl _ (List.getElem_mem h)).1; omega⟩
  | k + 1, hk => by
    obtain ⟨b, hm, hb⟩ := mergeL_take hl hs k (by omega)
    have hk' : k < l.length := by omega
    have hm' := hl _ (List.getElem_mem hk')
    rw [List.take_succ_eq_append_getElem hk', mergeL_snoc]
    refine ⟨l[k].1, merged_step hm l[k] hm'.1 hm'.2.1 hm'.2.2 (hb k hk' (Nat.le_refl _)), fun j h hj => ?_⟩
    exact List.pairwise_iff_getElem.1 hs k j hk' h (by omega)

theorem mergeL_spec {t : Int} {l : List Sp} (hl : ∀ s ∈ l, 0 ≤ s.1 ∧ s.1 < s.2 ∧ s.2 ≤ t) (hs : l.Pairwise fun x y => x.1 ≤ y.1) : validFrom t (-1) (mergeL l) = true ∧ ∀ x, mem (mergeL l) x = mem l x := by
  obtain ⟨b, hm, _⟩ := mergeL_take hl hs l.length (Nat.le_refl _)
  rw [List.take_length] at hm
  exact ⟨hm.valid, hm.mem⟩

theorem mergeL_len (l : List Sp) : (mergeL l).length ≤ l.length := by
  have : ∀ k, k ≤ l.length → (mergeL (l.take k)).length ≤ k := by
    intro k
    induction k with
    | zero => intro _; simp [mergeL]
    | succ k ih =>
      intro hk
      have hk' : k < l.length := by omega
      rw [List.take_succ_eq_append_getElem hk', mergeL_snoc]
      have := ih (by omega)
      unfold mergeStep
      split
      · split
        · simp; omega
        · simp; omega
      · simp
  have h := this l.length (Nat.le_refl _)
  rwa [List.take_length] at h

theorem mem_perm {a b : List Sp} (h : a.Perm b) (x : Int) : mem a x = mem b x := by
  apply mem_eq_of_iff
  rw [mem_iff, mem_iff]
  constructor
  · rintro ⟨s, hs, q⟩; exact ⟨s, h.mem_iff.1 hs, q⟩
  · rintro ⟨s, hs, q⟩; exact ⟨s, h.mem_iff.2 hs, q⟩

end RP

namespace RP

/-- The next residue that no span has covered yet. -/
def gapFrom (p : List Sp) : Int := lastTo 0 p
def gapStep (st : List Sp × Int) (s : Sp) : List Sp × Int := (if st.2 < s.1 then st.1 ++ [(st.2, s.1)] else st.1, s.2)
def gaps (p : List Sp) : List Sp × Int := p.foldl gapStep ([], 0)
def gapsEnd (t : Int) (p : List Sp) : List Sp := if (gaps p).2 < t then (gaps p).1 ++ [((gaps p).2, t)] else (gaps p).1

theorem gaps_snoc (p : List Sp) (s : Sp) : gaps (p ++ [s]) = gapStep (gaps p) s := by simp [gaps, List.foldl_append]

structure Gaps (t : Int) (p : List Sp) : Prop where
  valid : validFrom t (-1) (gaps p).1 = true
  mem : ∀ x, mem (gaps p).1 x = true ↔ 0 ≤ x ∧ x < (gaps p).2 ∧ mem p x = false
  last : lastTo (-1) (gaps p).1 < (gaps p).2
  lo : 0 ≤ (gaps p).2
  hi : (gaps p).2 ≤ t
  to : p ≠ [] → (gaps p).2 = lastTo (-1) p
  len : (gaps p).1.length ≤ p.length

theorem gaps_nil (t : Int) (ht : 0 ≤ t) : Gaps t [] where
  valid := rfl
  mem x := by simp [gaps, RP.mem]
  last := by simp [gaps, lastTo]
  lo := by simp [gaps]
  hi := by simpa [gaps] using ht
  to h := absurd rfl h
  len := by simp [gaps]

theorem gaps_step {t : Int} {p : List Sp} {s : Sp} (h : Gaps t p) (hv : validFrom t (-1) (p ++ [s]) = true) : Gaps t (p ++ [s]) := by
  obtain ⟨v1, v2, v3, v4⟩ := validFrom_snoc.1 hv
  have hmem : ∀ x, RP.mem (p ++ [s]) x = (RP.mem p x || (decide (s.1 ≤ x) && decide (x < s.2))) := fun x => by simp [RP.mem, List.any_append]
  have hlo := h.lo
  have hlt := h.last
  have hfs : (gaps p).2 ≤ s.1 ∧ (p ≠ [] → (gaps p).2 < s.1) := by
    by_cases h0 : p = []
    · subst h0; exact ⟨by simp [gaps, lastTo] at v2 ⊢; omega, fun h => absurd rfl h⟩
    · have := h.to h0; exact ⟨by omega, fun _ => by omega⟩
  have hpl : ∀ x, RP.mem p x = true → x < (gaps p).2 := fun x hx => by
    have h0 : p ≠ [] := by rintro rfl; simp [RP.mem] at hx
    rw [h.to h0]; exact mem_lt_lastTo v1 hx
  have hs := gaps_snoc p s
  have hl := h.len
  by_cases hc : (gaps p).2 < s.1
  · have e1 : (gaps (p ++ [s])).1 = (gaps p).1 ++ [((gaps p).2, s.1)] := by rw [hs]; simp [gapStep, hc]
    have e2 : (gaps (p ++ [s])).2 = s.2 := by rw [hs]; rfl
    refine ⟨?_, fun x => ?_, ?_, by rw [e2]; omega, by rw [e2]; exact v4, fun _ => by rw [e2, lastTo_snoc], by rw [e1]; simp; omega⟩
    · rw [e1]; exact validFrom_snoc.2 ⟨h.valid, hlt, hc, by simp only; omega⟩
    · rw [e1, e2, hmem]
      have hm := h.mem x
      rw [mem_append, hm]
      have : RP.mem [((gaps p).2, s.1)] x = true ↔ (gaps p).2 ≤ x ∧ x < s.1 := by simp [RP.mem]
      rw [this]
      cases hp : RP.mem p x with
      | true => have := hpl x hp; simp; omega
      | false => simp; omega
    · rw [e1, e2, lastTo_snoc]; exact v3
  · have e1 : (gaps (p ++ [s])).1 = (gaps p).1 := by rw [hs]; simp [gapStep, hc]
    have e2 : (gaps (p ++ [s])).2 = s.2 := by rw [hs]; rfl
    refine ⟨by rw [e1]; exact h.valid, fun x => ?_, by rw [e1, e2]; omega, by rw [e2]; omega, by rw [e2]; exact v4, fun _ => by rw [e2, lastTo_snoc], by rw [e1]; simp; omega⟩
    rw [e1, e2, hmem, h.mem x]
    cases hp : RP.mem p x with
    | true => simp
    | false => simp; omega

theorem gaps_take {t : Int} (ht : 0 ≤ t) {l : List Sp} (hv : validFrom t (-1) l = true) : ∀ k, k ≤ l.length → Gaps t (l.take k)
  | 0, _ => by rw [List.take_zero]; exact gaps_nil t ht
  | k + 1, hk => by
    have h := gaps_take ht hv k (by omega)
    have hv' := validFrom_take (k + 1) hv
    rw [List.take_succ_eq_append_getElem (by omega)] at hv' ⊢
    exact gaps_step h hv'

theorem gapsEnd_spec {t : Int} (ht : 0 ≤ t) {l : List Sp} (hv : validFrom t (-1) l = true) : validFrom t (-1) (gapsEnd t l) = true ∧ ∀ x, 0 ≤ x → x < t → mem (gapsEnd t l) x = !mem l x := by
  have h := gaps_take ht hv l.length (Nat.le_refl _)
  rw [List.take_length] at h
  have hpl : ∀ x, mem l x = true → x < (gaps l).2 := fun x hx => by
    have h0 : l ≠ [] := by rintro rfl; simp [RP.mem] at hx
    rw [h.to h0]; exact mem_lt_lastTo hv hx
  unfold gapsEnd
  split
  · rename_i hc
    refine ⟨validFrom_snoc.2 ⟨h.valid, h.last, hc, Int.le_refl _⟩, fun x h0 h1 => ?_⟩
    apply mem_eq_of_iff
    rw [mem_append, h.mem x]
    have : mem [((gaps l).2, t)] x = true ↔ (gaps l).2 ≤ x ∧ x < t := by simp [RP.mem]
    rw [this]
    cases hp : mem l x with
    | true => have := hpl x hp; simp; omega
    | false => simp; omega
  · rename_i hc
    refine ⟨h.valid, fun x h0 h1 => ?_⟩
    apply mem_eq_of_iff
    rw [h.mem x]
    have := h.hi
    cases hp : mem l x with
    | true => simp
    | false => simp; omega

/-- One step of the intersection: the common part of the first spans. -/
def interPart (s u : Sp) : List Sp := if max s.1 u.1 < min s.2 u.2 then [(max s.1 u.1, min s.2 u.2)] else []

/-- The invariant of the intersection: what was collected, and the two rests. -/
structure Inter (t : Int) (a b out ra rb : List Sp) : Prop where
  valid : validFrom t (-1) out = true
  ends : ∃ pa pb, -1 ≤ pa ∧ -1 ≤ pb ∧ validFrom t pa ra = true ∧ validFrom t pb rb = true ∧ lastTo (-1) out ≤ max pa pb
  mem : ∀ x, (mem a x && mem b x) = (mem out x || (mem ra x && mem rb x))

theorem inter_start {t : Int} {a b : List Sp} (ha : validFrom t (-1) a = true) (hb : validFrom t (-1) b = true) : Inter t a b [] a b :=
  ⟨rfl, ⟨-1, -1, by omega, by omega, ha, hb, by simp [lastTo]⟩, fun x => by simp [RP.mem]⟩

theorem inter_sym {t : Int} {a b out ra rb : List Sp} (h : Inter t a b out ra rb) : Inter t b a out rb ra := by
  obtain ⟨pa, pb, h1, h2, h3, h4, h5⟩ := h.ends
  exact ⟨h.valid, ⟨pb, pa, h2, h1, h4, h3, by omega⟩, fun x => by rw [Bool.and_comm, h.mem x, Bool.and_comm (RP.mem ra x)]⟩

theorem interPart_sym (s u : Sp) : interPart s u = interPart u s := by
  unfold interPart
  rw [Int.max_comm, Int.min_comm]

theorem inter_step {t : Int} {a b out ra rb : List Sp} {s u : Sp} (h : Inter t a b out (s :: ra) (u :: rb)) (hc : s.2 ≤ u.2) : Inter t a b (out ++ interPart s u) ra (u :: rb) := by
  obtain ⟨pa, pb, h1, h2, h3, h4, h5⟩ := h.ends
  obtain ⟨a1, a2, a3, a4⟩ := validFrom_cons.1 h3
  obtain ⟨b1, b2, b3, b4⟩ := validFrom_cons.1 h4
  have hpart : ∀ x, RP.mem (interPart s u) x = (decide (s.1 ≤ x) && decide (x < s.2) && (decide (u.1 ≤ x) && decide (x < u.2))) := fun x => by
    unfold interPart
    split
    · apply mem_eq_of_iff; simp [RP.mem]; omega
    · apply mem_eq_of_iff; simp [RP.mem]; omega
  refine ⟨?_, ⟨s.2, pb, by omega, h2, a4, h4, ?_⟩, fun x => ?_⟩
  · unfold interPart
    split
    · exact validFrom_snoc.2 ⟨h.valid, by simp only; omega, by assumption, by simp only; omega⟩
    · rw [List.append_nil]; exact h.valid
  · unfold interPart
    split
    · rw [lastTo_snoc]; simp only; omega
    · rw [List.append_nil]; omega
  · rw [h.mem x]
    apply mem_eq_of_iff
    have hp := hpart x
    have hap : RP.mem (out ++ interPart s u) x = (RP.mem out x || RP.mem (interPart s u) x) := by simp [RP.mem, List.any_append]
    rw [hap, hp]
    have ea : RP.mem (s :: ra) x = ((decide (s.1 ≤ x) && decide (x < s.2)) || RP.mem ra x) := by simp [RP.mem]
    have eb : RP.mem (u :: rb) x = ((decide (u.1 ≤ x) && decide (x < u.2)) || RP.mem rb x) := by simp [RP.mem]
    rw [ea]
    have hrb : RP.mem rb x = true → u.2 < x := fun q => mem_lo b4 q
    simp only [Bool.or_eq_true, Bool.and_eq_true, decide_eq_true_eq]
    constructor
    · rintro (q | ⟨q | q, r⟩)
      · exact .inl (.inl q)
      · rw [eb] at r
        simp only [Bool.or_eq_true, Bool.and_eq_true, decide_eq_true_eq] at r
        rcases r with r | r
        · exact .inl (.inr ⟨q, r⟩)
        · have := hrb r; omega
      · exact .inr ⟨q, r⟩
    · rintro ((q | ⟨q, r⟩) | ⟨q, r⟩)
      · exact .inl q
      · exact .inr ⟨.inl q, by rw [eb]; simp only [Bool.or_eq_true, Bool.and_eq_true, decide_eq_true_eq]; exact .inl r⟩
      · exact .inr ⟨.inr q, r⟩

theorem inter_done {t : Int} {a b out ra rb : List Sp} (h : Inter t a b out ra rb) (hd : ra = [] ∨ rb = []) : validFrom t (-1) out = true ∧ ∀ x, mem out x = (mem a x && mem b x) := by
  refine ⟨h.valid, fun x => ?_⟩
  rw [h.mem x]
  rcases hd with rfl | rfl <;> simp [RP.mem]

end RP

namespace RP

/-- The spans of a shifted set. -/
def shiftArcs (t d : Int) (l : List Sp) : List Sp := l.flatMap fun s => arc t ((s.1 + d) % t) (s.2 - s.1)

theorem shiftArcs_snoc (t d : Int) (l : List Sp) (s : Sp) : shiftArcs t d (l ++ [s]) = shiftArcs t d l ++ arc t ((s.1 + d) % t) (s.2 - s.1) := by
  simp only [shiftArcs, List.flatMap_append, List.flatMap_cons, List.flatMap_nil, List.append_nil]

theorem arc_bounds {t f : Int} (n : Int) (h1 : 1 ≤ t) (h2 : 0 ≤ f) (h3 : f < t) : ∀ s ∈ arc t f n, 0 ≤ s.1 ∧ s.1 < s.2 ∧ s.2 ≤ t := by
  unfold arc
  split
  · simp
  · split
    · simp; omega
    · split
      · simp; omega
      · simp; omega

theorem shiftArcs_bounds {t d : Int} (h1 : 1 ≤ t) (l : List Sp) : ∀ s ∈ shiftArcs t d l, 0 ≤ s.1 ∧ s.1 < s.2 ∧ s.2 ≤ t := by
  intro s hs
  obtain ⟨u, _, hu⟩ := List.mem_flatMap.1 hs
  exact arc_bounds _ h1 (Int.emod_nonneg _ (by omega)) (Int.emod_lt_of_pos _ (by omega)) s hu

theorem shiftArcs_len (t d : Int) : ∀ l : List Sp, (shiftArcs t d l).length ≤ 2 * l.length
  | [] => by simp [shiftArcs]
  | s :: l => by
    have h1 := shiftArcs_len t d l
    have h2 := arc_length t ((s.1 + d) % t) (s.2 - s.1)
    simp only [shiftArcs, List.flatMap_cons, List.length_append, List.length_cons] at h1 h2 ⊢
    omega

theorem sub_emod_emod (x y t : Int) : (x - y % t) % t = (x - y) % t := by
  rw [Int.sub_emod, Int.emod_emod_of_dvd _ (Int.dvd_refl t), ← Int.sub_emod]
theorem emod_sub_emod' (x y t : Int) : (x % t - y) % t = (x - y) % t := by
  rw [Int.sub_emod, Int.emod_emod_of_dvd _ (Int.dvd_refl t), ← Int.sub_emod]

/-- y lies in a span: by the distance from its begin. -/
theorem span_dist {t f e y : Int} (h0 : 0 ≤ f) (h1 : f < e) (h2 : e ≤ t) (hy0 : 0 ≤ y) (hy1 : y < t) : (y - f) % t < e - f ↔ f ≤ y ∧ y < e := by
  rw [subMod hy0 hy1 h0 (by omega)]
  split <;> omega

theorem mem_flat {α : Type} {f : α → List Sp} {l : List α} {x : Int} : mem (l.flatMap f) x = true ↔ ∃ a ∈ l, mem (f a) x = true := by
  rw [mem_iff]
  constructor
  · rintro ⟨s, hs, q⟩
    obtain ⟨a, ha, hs'⟩ := List.mem_flatMap.1 hs
    exact ⟨a, ha, mem_iff.2 ⟨s, hs', q⟩⟩
  · rintro ⟨a, ha, h⟩
    obtain ⟨s, hs, q⟩ := mem_iff.1 h
    exact ⟨s, List.mem_flatMap.2 ⟨a, ha, hs⟩, q⟩

theorem shiftArcs_mem {t d : Int} (h1 : 1 ≤ t) {l : List Sp} (hl : ∀ s ∈ l, 0 ≤ s.1 ∧ s.1 < s.2 ∧ s.2 ≤ t) (x : Int) (hx0 : 0 ≤ x) (hx1 : x < t) : mem (shiftArcs t d l) x = mem l ((x - d) % t) := by
  apply mem_eq_of_iff
  have y0 := Int.emod_nonneg (x - d) (show t ≠ 0 by omega)
  have y1 := Int.emod_lt_of_pos (x - d) (show 0 < t by omega)
  rw [shiftArcs, mem_flat, mem_iff]
  have key : ∀ s ∈ l, mem (arc t ((s.1 + d) % t) (s.2 - s.1)) x = true ↔ s.1 ≤ (x - d) % t ∧ (x - d) % t < s.2 := by
    intro s hs
    obtain ⟨a1, a2, a3⟩ := hl s hs
    rw [arc_mem _ (Int.emod_nonneg _ (by omega)) (Int.emod_lt_of_pos _ (by omega)) x hx0 hx1, sub_emod_emod, show x - (s.1 + d) = (x - d) - s.1 by omega, ← emod_sub_emod', decide_eq_true_eq]
    exact span_dist a1 a2 a3 y0 y1
  constructor
  · rintro ⟨s, hs, q⟩; exact ⟨s, hs, (key s hs).1 q⟩
  · rintro ⟨s, hs, q⟩; exact ⟨s, hs, (key s hs).2 q⟩

end RP

namespace RP

/-- How many x below k have the property. -/
def cntN (P : Nat → Bool) : Nat → Nat
  | 0 => 0
  | k + 1 => cntN P k + if P k then 1 else 0

theorem cntN_congr {P Q : Nat → Bool} : ∀ {k : Nat}, (∀ x, x < k → P x = Q x) → cntN P k = cntN Q k
  | 0, _ => rfl
  | k + 1, h => by
    have ih := cntN_congr (P := P) (Q := Q) (k := k) fun x hx => h x (by omega)
    simp only [cntN, h k (by omega), ih]

theorem cntN_le (P : Nat → Bool) : ∀ k, cntN P k ≤ k
  | 0 => Nat.le_refl _
  | k + 1 => by have := cntN_le P k; simp only [cntN]; split <;> omega

theorem cntN_not (P : Nat → Bool) : ∀ k, cntN P k + cntN (fun x => !P x) k = k
  | 0 => rfl
  | k + 1 => by
    have := cntN_not P k
    simp only [cntN]
    by_cases h : P k = true <;> simp [h] <;> omega

theorem cntN_add (P : Nat → Bool) (a : Nat) : ∀ b, cntN P (a + b) = cntN P a + cntN (fun x => P (a + x)) b
  | 0 => rfl
  | b + 1 => by
    have := cntN_add P a b
    rw [← Nat.add_assoc]
    simp only [cntN, this]
    omega

theorem cntN_rev (P : Nat → Bool) : ∀ k, cntN (fun x => P (k - 1 - x)) k = cntN P k
  | 0 => rfl
  | k + 1 => by
    have ih := cntN_rev P k
    have h := cntN_add (fun x => P (k + 1 - 1 - x)) 1 k
    rw [Nat.add_comm 1 k] at h
    rw [h]
    have e1 : cntN (fun x => P (k + 1 - 1 - x)) 1 = if P k then 1 else 0 := by simp [cntN]
    have e2 : cntN (fun x => P (k + 1 - 1 - (1 + x))) k = cntN P k := by
      rw [← ih]
      exact cntN_congr fun x _ => by rw [show k + 1 - 1 - (1 + x) = k - 1 - x by omega]
    rw [e1, e2]
    simp only [cntN]
    omega

theorem cntN_shift (P : Nat → Bool) {T d : Nat} (hd : d ≤ T) : cntN (fun x => P ((x + d) % T)) T = cntN P T := by
  have h := cntN_add (fun x => P ((x + d) % T)) (T - d) d
  rw [Nat.sub_add_cancel hd] at h
  have h' := cntN_add P d (T - d)
  rw [Nat.add_sub_cancel' hd] at h'
  rw [h, h']
  have e1 : cntN (fun x => P ((x + d) % T)) (T - d) = cntN (fun x => P (d + x)) (T - d) := cntN_congr fun x hx => by
    rw [Nat.mod_eq_of_lt (by omega), Nat.add_comm]
  have e2 : cntN (fun x => P ((T - d + x + d) % T)) d = cntN P d := cntN_congr fun x hx => by
    rw [show T - d + x + d = x + T by omega, Nat.add_mod_right, Nat.mod_eq_of_lt (by omega)]
  rw [e1, e2]
  omega

theorem emod_toNat {x : Int} {T : Nat} (h : 0 ≤ x) : (x % T).toNat = x.toNat % T := by
  obtain ⟨n, rfl⟩ := Int.eq_ofNat_of_zero_le h
  rw [← Int.natCast_emod, Int.toNat_natCast, Int.toNat_natCast]

/-- Shifting by any number. -/
theorem cntN_shiftI (P : Nat → Bool) {T : Nat} (hT : 1 ≤ T) (d : Int) : cntN (fun x => P (((x : Int) + d) % T).toNat) T = cntN P T := by
  have d0 := Int.emod_nonneg d (show (T : Int) ≠ 0 by omega)
  have d1 := Int.emod_lt_of_pos d (show 0 < (T : Int) by omega)
  rw [← cntN_shift P (T := T) (d := (d % T).toNat) (by omega)]
  refine cntN_congr fun x hx => ?_
  rw [← Int.add_emod_emod, emod_toNat (by omega)]
  congr 2
  omega

/-- Negating and shifting. -/
theorem cntN_negI (P : Nat → Bool) {T : Nat} (hT : 1 ≤ T) (c : Int) : cntN (fun x => P ((c - (x : Int)) % T).toNat) T = cntN P T := by
  rw [← cntN_rev, ← cntN_shiftI P hT (c + 1 - T)]
  refine cntN_congr fun x hx => ?_
  have e1 : ((T - 1 - x : Nat) : Int) = (T : Int) - 1 - x := by omega
  rw [e1, show c - ((T : Int) - 1 - x) = (x : Int) + (c + 1 - T) by omega]

theorem total_stepRun (out : List Sp) (x : Int) : total (stepRun out x) = total out + 1 := by
  rcases snoc_cases out with rfl | ⟨r, s, rfl⟩
  · simp [stepRun, total]; omega
  · simp only [stepRun, List.getLast?_append, List.getLast?_singleton, Option.some_or, List.dropLast_concat]
    split
    · rename_i h
      rw [total_append, total_append]
      simp [total]; omega
    · rw [total_append]
      simp [total]; omega

theorem total_runs (P : Nat → Bool) : ∀ k, total (runs P k) = cntN P k
  | 0 => rfl
  | k + 1 => by
    have ih := total_runs P k
    simp only [runs, cntN]
    split
    · rw [total_stepRun, ih]; omega
    · rw [ih]; omega

theorem total_valid {T : Nat} {l : List Sp} (hv : validFrom T (-1) l = true) : total l = cntN (fun x => mem l x) T := by
  have := eq_runs hv (P := fun x => mem l x) (fun x _ => rfl)
  have h2 := total_runs (fun x => mem l x) T
  rw [← this] at h2
  exact h2

theorem countL_valid {T : Nat} {l : List Sp} (h1 : 1 ≤ T) (h2 : T ≤ 7200) (hv : validFrom T (-1) l = true) : countL T l = cntN (fun x => mem l x) T := by
  have : validL T l = true := by simp [validL, inRange, hv]; omega
  rw [countL, this, if_pos rfl]
  exact total_valid hv

theorem mem_runs_nat (P : Nat → Bool) {T x : Nat} (h : x < T) : mem (runs P T) (x : Int) = P x := by
  rw [mem_runs]; simp [h]

/-- Pigeonhole: two properties that together hold more than k times hold together somewhere. -/
theorem cntN_both {P Q : Nat → Bool} : ∀ {k : Nat}, k < cntN P k + cntN Q k → ∃ x, x < k ∧ P x = true ∧ Q x = true
  | 0, h => by simp [cntN] at h
  | k + 1, h => by
    simp only [cntN] at h
    by_cases hp : P k = true ∧ Q k = true
    · exact ⟨k, by omega, hp.1, hp.2⟩
    · have : k < cntN P k + cntN Q k := by
        cases hP : P k <;> cases hQ : Q k <;> simp [hP, hQ] at h hp <;> omega
      obtain ⟨x, hx, q⟩ := cntN_both this
      exact ⟨x, by omega, q⟩

end RP
