/-
  Plain facts on queries: the number of residues of a list, and the first residue from a given one on.
-/
import Derived.Test.YtabcbkgnhdijpaaArc
set_option linter.unusedVariables false
set_option linter.unusedSimpArgs false
namespace RP

def total : List Sp → Int
  | [] => 0
  | s :: r => (s.2 - s.1) + total r

theorem total_append : ∀ a b : List Sp, total (a ++ b) = total a + total b
  | [], b => by simp [total]
  | s :: a, b => by simp [total, total_append a b]; omega

theorem total_bound {t : Int} : ∀ {l : List Sp} {p : Int}, validFrom t p l = true → p ≤ t → 0 ≤ total l ∧ total l ≤ t - p
  | [], p, _, h => by simp [total]; omega
  | s :: r, p, hv, _ => by
    obtain ⟨h1, h2, h3, h4⟩ := validFrom_cons.1 hv
    have := total_bound h4 h3
    simp [total]; omega

theorem validFrom_take {t : Int} : ∀ {l : List Sp} {p : Int} (k : Nat), validFrom t p l = true → validFrom t p (l.take k) = true
  | [], _, _, _ => by simp [validFrom]
  | s :: r, p, 0, _ => by simp [validFrom]
  | s :: r, p, k + 1, hv => by
    obtain ⟨h1, h2, h3, h4⟩ := validFrom_cons.1 hv
    rw [List.take_succ_cons]
    exact validFrom_cons.2 ⟨h1, h2, h3, validFrom_take k h4⟩

/-- What Next answers: d is the first distance at which there is a member. -/
def NextSpec (t : Int) (s : List Sp) (x d : Int) (ok : Bool) : Prop :=
  if validL t s = true then (ok = true ∧ 0 ≤ d ∧ d < t ∧ mem s ((x + d) % t) = true ∧ ∀ k, 0 ≤ k → k < d → mem s ((x + k) % t) = false) ∨ (ok = false ∧ d = 0 ∧ s = [])
  else ok = false ∧ d = 0

theorem mem_nonempty {s : List Sp} {x : Int} (h : mem s x = true) : s ≠ [] := by rintro rfl; simp [mem] at h

theorem next_unique {t : Int} {s : List Sp} {x d d' : Int} {ok ok' : Bool} (h : NextSpec t s x d ok) (h' : NextSpec t s x d' ok') : d = d' ∧ ok = ok' := by
  unfold NextSpec at h h'
  split at h
  · rename_i hv
    rw [if_pos hv] at h'
    rcases h with ⟨rfl, h1, h2, h3, h4⟩ | ⟨rfl, rfl, rfl⟩
    · rcases h' with ⟨rfl, g1, g2, g3, g4⟩ | ⟨rfl, rfl, rfl⟩
      · refine ⟨?_, rfl⟩
        rcases Int.lt_trichotomy d d' with q | q | q
        · have := g4 d h1 q; rw [h3] at this; cases this
        · exact q
        · have := h4 d' g1 q; rw [g3] at this; cases this
      · simp [mem] at h3
    · rcases h' with ⟨rfl, g1, g2, g3, g4⟩ | ⟨rfl, rfl, _⟩
      · simp [mem] at g3
      · exact ⟨rfl, rfl⟩
  · rename_i hv
    rw [if_neg hv] at h'
    exact ⟨by rw [h.2, h'.2], by rw [h.1, h'.1]⟩

theorem mem_of_get {l : List Sp} {k : Nat} (hk : k < l.length) {x : Int} (h1 : l[k].1 ≤ x) (h2 : x < l[k].2) : mem l x = true :=
  mem_iff.2 ⟨l[k], List.getElem_mem hk, h1, h2⟩

/-- Behind the ends of the first k spans and ahead of the next one there is no member. -/
theorem not_mem_gap {t : Int} : ∀ {l : List Sp} {p y : Int} {k : Nat}, validFrom t p l = true → (∀ i (h : i < l.length), i < k → l[i].2 ≤ y) → (∀ h : k < l.length, y < l[k].1) → mem l y = false
  | [], _, _, _, _, _, _ => rfl
  | s :: r, p, y, 0, hv, _, h2 => by
    obtain ⟨a1, a2, a3, a4⟩ := validFrom_cons.1 hv
    have hs : y < s.1 := h2 (by simp)
    cases hm : mem (s :: r) y with
    | false => rfl
    | true =>
      rcases mem_cons.1 hm with ⟨q, _⟩ | q
      · omega
      · have := mem_lo a4 q; omega
  | s :: r, p, y, k + 1, hv, h1, h2 => by
    obtain ⟨a1, a2, a3, a4⟩ := validFrom_cons.1 hv
    have ih := not_mem_gap (k := k) (y := y) a4 (fun i h hi => by have := h1 (i + 1) (by simpa using h) (by omega); simpa using this) (fun h => by have := h2 (by simpa using h); simpa using this)
    have hs : s.2 ≤ y := h1 0 (by simp) (by omega)
    cases hm : mem (s :: r) y with
    | false => rfl
    | true =>
      rcases mem_cons.1 hm with ⟨_, q⟩ | q
      · omega
      · rw [ih] at q; cases q

theorem emod_shift (x d t : Int) : (x % t + d) % t = (x + d) % t := by rw [Int.emod_add_emod]

theorem valid_lt {t p : Int} {l : List Sp} (hv : validFrom t p l = true) {k : Nat} (hk : k < l.length) : l[k].1 < l[k].2 := by
  induction l generalizing p k with
  | nil => simp at hk
  | cons s r ih =>
    obtain ⟨h1, h2, h3, h4⟩ := validFrom_cons.1 hv
    cases k with
    | zero => exact h2
    | succ k => simp only [List.getElem_cons_succ]; exact ih h4 (by simpa using hk)

/-- Next finds a span that ends behind r. -/
theorem next_hit {t : Int} {l : List Sp} {x : Int} {k : Nat} (hr : inRange t = true) (hv : validFrom t (-1) l = true) (hk : k < l.length) (hb : ∀ i (h : i < l.length), i < k → l[i].2 ≤ x % t) (hlt : x % t < l[k].2) :
    NextSpec t l x (max (l[k].1 - x % t) 0) true := by
  have ht : 1 ≤ t := by simp [inRange] at hr; exact hr.1
  have r0 := Int.emod_nonneg x (show t ≠ 0 by omega)
  have r1 := Int.emod_lt_of_pos x (show 0 < t by omega)
  have hle : l[k].2 ≤ t := by
    have : mem l (l[k].2 - 1) = true := mem_of_get hk (by have := valid_lt hv hk; omega) (by omega)
    have := mem_hi hv this
    omega
  have hfl := valid_lt hv hk
  unfold NextSpec
  rw [if_pos (by simp [validL, hr, hv])]
  refine .inl ⟨rfl, by omega, by omega, ?_, fun j hj hjd => ?_⟩
  · rw [← emod_shift, Int.emod_eq_of_lt (by omega) (by omega)]
    exact mem_of_get hk (by omega) (by omega)
  · rw [← emod_shift, Int.emod_eq_of_lt (by omega) (by omega)]
    exact not_mem_gap (k := k) hv (fun i h hi => by have := hb i h hi; omega) (fun h => by omega)

/-- Next goes round. -/
theorem next_round {t : Int} {l : List Sp} {x : Int} (hr : inRange t = true) (hv : validFrom t (-1) l = true) (h0 : 0 < l.length) (hb : ∀ i (h : i < l.length), l[i].2 ≤ x % t) :
    NextSpec t l x (t - x % t + l[0].1) true := by
  have ht : 1 ≤ t := by simp [inRange] at hr; exact hr.1
  have r0 := Int.emod_nonneg x (show t ≠ 0 by omega)
  have r1 := Int.emod_lt_of_pos x (show 0 < t by omega)
  have hfl := valid_lt hv h0
  have hb0 := hb 0 h0
  have hlo : 0 ≤ l[0].1 := by
    have : mem l l[0].1 = true := mem_of_get h0 (by omega) (by omega)
    have := mem_lo hv this
    omega
  unfold NextSpec
  rw [if_pos (by simp [validL, hr, hv])]
  refine .inl ⟨rfl, by omega, by omega, ?_, fun j hj hjd => ?_⟩
  · rw [← emod_shift, show x % t + (t - x % t + l[0].1) = l[0].1 + t by omega, Int.add_emod_right, Int.emod_eq_of_lt (by omega) (by omega)]
    exact mem_of_get h0 (by omega) (by omega)
  · by_cases hc : x % t + j < t
    · rw [← emod_shift, Int.emod_eq_of_lt (by omega) hc]
      exact not_mem_gap (k := l.length) hv (fun i h _ => by have := hb i h; omega) (fun h => by omega)
    · rw [← emod_shift, show x % t + j = (x % t + j - t) + t by omega, Int.add_emod_right, Int.emod_eq_of_lt (by omega) (by omega)]
      exact not_mem_gap (k := 0) hv (fun i h hi => by omega) (fun h => by omega)

theorem next_empty {t : Int} {x : Int} (hr : inRange t = true) : NextSpec t [] x 0 false := by
  unfold NextSpec
  rw [if_pos (by simp [validL, hr, validFrom])]
  exact .inr ⟨rfl, rfl, rfl⟩
theorem next_bad {t : Int} {l : List Sp} {x : Int} (hv : validL t l = false) : NextSpec t l x 0 false := by
  unfold NextSpec
  rw [if_neg (by simp [hv])]
  exact ⟨rfl, rfl⟩

/-- A valid list of which all residues from r on are no members is empty. -/
theorem empty_of_none {t : Int} {l : List Sp} {x : Int} (hr : inRange t = true) (hv : validFrom t (-1) l = true) (h : ∀ k, 0 ≤ k → k < t → mem l ((x + k) % t) = false) : l = [] := by
  have ht : 1 ≤ t := by simp [inRange] at hr; exact hr.1
  cases l with
  | nil => rfl
  | cons s r =>
    obtain ⟨h1, h2, h3, h4⟩ := validFrom_cons.1 hv
    have := h ((s.1 - x) % t) (Int.emod_nonneg _ (by omega)) (Int.emod_lt_of_pos _ (by omega))
    rw [Int.add_emod_emod, show x + (s.1 - x) = s.1 by omega, Int.emod_eq_of_lt (by omega) (by omega)] at this
    have hm : mem (s :: r) s.1 = true := mem_cons.2 (.inl ⟨by omega, h2⟩)
    rw [hm] at this
    cases this

def hasL (t : Int) (s : List Sp) (x : Int) : Bool := validL t s && mem s (x % t)
def countL (t : Int) (s : List Sp) : Int := if validL t s then total s else 0

/-- Has by Next. -/
theorem has_next {t : Int} {s : List Sp} {x d : Int} {ok : Bool} (h : NextSpec t s x d ok) : (ok && (d == 0)) = hasL t s x := by
  unfold NextSpec at h
  unfold hasL
  split at h
  · rename_i hv
    rw [hv]
    rcases h with ⟨rfl, h1, h2, h3, h4⟩ | ⟨rfl, rfl, rfl⟩
    · by_cases hd : d = 0
      · subst hd
        rw [Int.add_zero] at h3
        rw [h3]; rfl
      · have := h4 0 (by omega) (by omega)
        rw [Int.add_zero] at this
        rw [this]
        simp [hd]
    · simp [mem]
  · rename_i hv
    rw [h.1]
    have : validL t s = false := by simpa using hv
    simp [this]

end RP
