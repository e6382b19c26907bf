/-
  Plain facts on occupations: valid lists, the pairs of one resource, the least headway.
-/
import Derived.Test.YtlillkfelfoafaaPlain
set_option linter.unusedVariables false
set_option linter.unusedSimpArgs false
namespace Go.Proofs.Ytlillkfelfoafaa
open RP

/-- Resource, From, To. -/
abbrev Occ := Int × Int × Int

def okO (p : Int) (o : Occ) : Prop := p < o.1 ∧ -65536 ≤ o.2.1 ∧ o.2.1 < o.2.2 ∧ o.2.2 ≤ 65536
instance (p : Int) (o : Occ) : Decidable (okO p o) := by unfold okO; infer_instance
def validO : Int → List Occ → Bool
  | _, [] => true
  | p, o :: l => decide (okO p o) && validO o.1 l
def lastR (p : Int) (l : List Occ) : Int := match l.getLast? with | some o => o.1 | none => p

theorem validO_cons {p : Int} {o : Occ} {l : List Occ} : validO p (o :: l) = true ↔ okO p o ∧ validO o.1 l = true := by simp [validO]
theorem lastR_snoc (p : Int) (l : List Occ) (o : Occ) : lastR p (l ++ [o]) = o.1 := by simp [lastR]
theorem lastR_cons (p : Int) (o : Occ) (l : List Occ) : lastR p (o :: l) = lastR o.1 l := by
  unfold lastR
  rw [List.getLast?_cons]
  cases h : l.getLast? <;> simp
theorem validO_append : ∀ (l r : List Occ) (p : Int), validO p (l ++ r) = (validO p l && validO (lastR p l) r)
  | [], _, _ => by simp [validO, lastR]
  | o :: l, r, p => by rw [List.cons_append, validO, validO, validO_append l r, lastR_cons, Bool.and_assoc]
theorem validO_snoc {p : Int} {l : List Occ} {o : Occ} : validO p (l ++ [o]) = true ↔ validO p l = true ∧ okO (lastR p l) o := by
  rw [validO_append, Bool.and_eq_true]; simp [validO]
theorem validO_no {l : List Occ} {k : Nat} (hk : k < l.length) {p : Int} (h : ¬ okO (lastR p (l.take k)) l[k]) : validO p l = false := by
  rw [← List.take_append_drop k l, validO_append, List.drop_eq_getElem_cons hk, validO]
  simp [h]
theorem validO_lt {p : Int} : ∀ {l : List Occ}, validO p l = true → ∀ o ∈ l, p < o.1 ∧ -65536 ≤ o.2.1 ∧ o.2.1 < o.2.2 ∧ o.2.2 ≤ 65536
  | [], _, o, ho => by simp at ho
  | x :: l, h, o, ho => by
    obtain ⟨h1, h2⟩ := validO_cons.1 h
    rcases List.mem_cons.1 ho with rfl | ho
    · exact h1
    · have := validO_lt h2 o ho
      unfold okO at h1
      omega
theorem validO_weak {p q : Int} {l : List Occ} (h : validO p l = true) (hq : q ≤ p) : validO q l = true := by
  cases l with
  | nil => rfl
  | cons o l =>
    obtain ⟨h1, h2⟩ := validO_cons.1 h
    unfold okO at h1
    exact validO_cons.2 ⟨⟨by omega, h1.2⟩, h2⟩
theorem lastR_le {p : Int} {l : List Occ} (h : validO p l = true) : p ≤ lastR p l := by
  unfold lastR
  cases hl : l.getLast? with
  | none => simp
  | some o => have := (validO_lt h o (List.mem_of_getLast? hl)).1; simp; omega

theorem filterMap_congr' {α β : Type} {f g : α → Option β} : ∀ {l : List α}, (∀ x ∈ l, f x = g x) → l.filterMap f = l.filterMap g
  | [], _ => rfl
  | a :: l, h => by
    rw [List.filterMap_cons, List.filterMap_cons, h a (by simp), filterMap_congr' fun x hx => h x (by simp [hx])]
theorem snoc_ind {α : Type} {P : List α → Prop} (h0 : P []) (h1 : ∀ l a, P l → P (l ++ [a])) : ∀ l, P l := by
  have key : ∀ r : List α, P r.reverse := by
    intro r
    induction r with
    | nil => exact h0
    | cons a r ih => rw [List.reverse_cons]; exact h1 _ _ ih
  intro l
  have := key l.reverse
  rwa [List.reverse_reverse] at this

/-! ### The pairs of one resource -/
def findO (b : List Occ) (r : Int) : Option Occ := b.find? fun o => decide (o.1 = r)
def pairOf (b : List Occ) (x : Occ) : Option (Occ × Occ) := (findO b x.1).map fun y => (x, y)
def pairsO (a b : List Occ) : List (Occ × Occ) := a.filterMap (pairOf b)

theorem findO_none {b : List Occ} {r : Int} (h : ∀ o ∈ b, o.1 ≠ r) : findO b r = none := by
  simp only [findO, List.find?_eq_none, decide_eq_true_eq]
  exact h
theorem findO_cons (y : Occ) (b : List Occ) (r : Int) : findO (y :: b) r = if y.1 = r then some y else findO b r := by
  simp only [findO, List.find?_cons]
  by_cases h : y.1 = r <;> simp [h]
theorem findO_some {b : List Occ} {r : Int} {y : Occ} (h : findO b r = some y) : y ∈ b ∧ y.1 = r := by
  refine ⟨List.mem_of_find?_eq_some h, ?_⟩
  have := List.find?_some h
  simpa using this
theorem findO_of {p : Int} : ∀ {b : List Occ}, validO p b = true → ∀ y ∈ b, findO b y.1 = some y
  | [], _, y, hy => by simp at hy
  | z :: b, h, y, hy => by
    obtain ⟨_, h2⟩ := validO_cons.1 h
    rw [findO_cons]
    rcases List.mem_cons.1 hy with rfl | hy
    · rw [if_pos rfl]
    · have := (validO_lt h2 y hy).1
      rw [if_neg (by omega), findO_of h2 y hy]
theorem pairs_mem {a b : List Occ} {q : Occ × Occ} : q ∈ pairsO a b ↔ q.1 ∈ a ∧ findO b q.1.1 = some q.2 := by
  simp only [pairsO, List.mem_filterMap, pairOf, Option.map_eq_some_iff]
  constructor
  · rintro ⟨x, hx, y, hy, rfl⟩; exact ⟨hx, hy⟩
  · rintro ⟨h1, h2⟩; exact ⟨q.1, h1, q.2, h2, rfl⟩
/-- For a valid list b: the pairs of equal resource. -/
theorem pairs_iff {p : Int} {a b : List Occ} (hb : validO p b = true) {q : Occ × Occ} : q ∈ pairsO a b ↔ q.1 ∈ a ∧ q.2 ∈ b ∧ q.1.1 = q.2.1 := by
  rw [pairs_mem]
  constructor
  · rintro ⟨h1, h2⟩
    obtain ⟨h3, h4⟩ := findO_some h2
    exact ⟨h1, h3, h4.symm⟩
  · rintro ⟨h1, h2, h3⟩
    exact ⟨h1, by rw [h3]; exact findO_of hb _ h2⟩
theorem pairs_snoc {a b : List Occ} {k : Nat} (hk : k < a.length) : pairsO (a.take (k + 1)) b = pairsO (a.take k) b ++ (match findO b a[k].1 with | some y => [(a[k], y)] | none => []) := by
  rw [List.take_succ_eq_append_getElem hk, pairsO, List.filterMap_append, List.filterMap_cons, List.filterMap_nil, pairOf]
  cases findO b a[k].1 <;> rfl
theorem pairs_len (a b : List Occ) : (pairsO a b).length ≤ a.length := List.length_filterMap_le _ _

theorem pairs_eq {p q : Int} {x y : Occ} {a b : List Occ} (ha : validO p (x :: a) = true) (hb : validO q (y :: b) = true) (h : x.1 = y.1) : pairsO (x :: a) (y :: b) = (x, y) :: pairsO a b := by
  obtain ⟨_, h2⟩ := validO_cons.1 ha
  have e1 : pairOf (y :: b) x = some (x, y) := by simp [pairOf, findO_cons, h]
  have e2 : pairsO a (y :: b) = pairsO a b := by
    refine filterMap_congr' fun z hz => ?_
    have := (validO_lt h2 z hz).1
    simp only [pairOf, findO_cons, if_neg (show ¬ y.1 = z.1 by omega)]
  rw [pairsO, List.filterMap_cons, e1]
  show (x, y) :: pairsO a (y :: b) = _
  rw [e2]
theorem pairs_lt {p q : Int} {x y : Occ} {a b : List Occ} (hb : validO q (y :: b) = true) (h : x.1 < y.1) : pairsO (x :: a) (y :: b) = pairsO a (y :: b) := by
  obtain ⟨_, h2⟩ := validO_cons.1 hb
  have e1 : pairOf (y :: b) x = none := by
    simp only [pairOf, Option.map_eq_none_iff]
    refine findO_none fun o ho => ?_
    rcases List.mem_cons.1 ho with rfl | ho
    · omega
    · have := (validO_lt h2 o ho).1; omega
  rw [pairsO, List.filterMap_cons, e1]
  rfl
theorem pairs_gt {p q : Int} {x y : Occ} {a b : List Occ} (ha : validO p (x :: a) = true) (h : y.1 < x.1) : pairsO (x :: a) (y :: b) = pairsO (x :: a) b := by
  obtain ⟨_, h2⟩ := validO_cons.1 ha
  refine filterMap_congr' fun z hz => ?_
  have : y.1 ≠ z.1 := by
    rcases List.mem_cons.1 hz with rfl | hz
    · omega
    · have := (validO_lt h2 z hz).1; omega
  simp only [pairOf, findO_cons, if_neg this]
theorem pairs_nil_left (b : List Occ) : pairsO [] b = [] := rfl
theorem pairs_nil_right (a : List Occ) : pairsO a [] = [] := by
  induction a with
  | nil => rfl
  | cons x a ih => rw [pairsO, List.filterMap_cons]; simp [pairOf, findO]

/-! ### Least -/
def leastStep (s : Int × Bool) (q : Occ × Occ) : Int × Bool := if s.2 = false ∨ s.1 < q.1.2.2 - q.2.2.1 then (q.1.2.2 - q.2.2.1, true) else s
def leastO (l : List (Occ × Occ)) : Int × Bool := l.foldl leastStep (0, false)
theorem leastO_snoc (l : List (Occ × Occ)) (q : Occ × Occ) : leastO (l ++ [q]) = leastStep (leastO l) q := by simp [leastO]

/-- What Least says: false and 0 where there is no pair; else the greatest difference. -/
theorem least_spec (l : List (Occ × Occ)) : (l = [] ∧ leastO l = (0, false)) ∨ ((leastO l).2 = true ∧ (∃ q ∈ l, (leastO l).1 = q.1.2.2 - q.2.2.1) ∧ ∀ q ∈ l, q.1.2.2 - q.2.2.1 ≤ (leastO l).1) := by
  refine snoc_ind (P := fun l => (l = [] ∧ leastO l = (0, false)) ∨ ((leastO l).2 = true ∧ (∃ q ∈ l, (leastO l).1 = q.1.2.2 - q.2.2.1) ∧ ∀ q ∈ l, q.1.2.2 - q.2.2.1 ≤ (leastO l).1)) (.inl ⟨rfl, rfl⟩) (fun l q ih => ?_) l
  · refine .inr ?_
    rw [leastO_snoc]
    unfold leastStep
    rcases ih with ⟨rfl, h⟩ | ⟨h1, ⟨z, hz, h2⟩, h3⟩
    · rw [h]; simp
    · split
      · rename_i hc
        refine ⟨rfl, ⟨q, by simp, rfl⟩, fun u hu => ?_⟩
        rcases List.mem_append.1 hu with hu | hu
        · have := h3 u hu
          rcases hc with hc | hc
          · rw [h1] at hc; cases hc
          · simp only; omega
        · simp at hu; subst hu; simp
      · rename_i hc
        refine ⟨h1, ⟨z, by simp [hz], h2⟩, fun u hu => ?_⟩
        rcases List.mem_append.1 hu with hu | hu
        · exact h3 u hu
        · simp at hu; subst hu
          by_cases hh : (leastO l).1 < u.1.2.2 - u.2.2.1
          · exact absurd (.inr hh) hc
          · omega

/-! ### Two movements at once -/
def meetO (d : Int) (x y : Occ) : Bool := decide (x.1 = y.1) && (decide (x.2.1 < y.2.2 + d) && decide (y.2.1 + d < x.2.2))
def togB (a b : List Occ) (d : Int) : Bool := a.any fun x => b.any fun y => meetO d x y
theorem tog_iff {a b : List Occ} {d : Int} : togB a b d = true ↔ ∃ x ∈ a, ∃ y ∈ b, x.1 = y.1 ∧ x.2.1 < y.2.2 + d ∧ y.2.1 + d < x.2.2 := by
  simp [togB, meetO]
theorem tog_pairs {p : Int} {a b : List Occ} (hb : validO p b = true) {d : Int} : togB a b d = true ↔ ∃ q ∈ pairsO a b, q.1.2.1 < q.2.2.2 + d ∧ q.2.2.1 + d < q.1.2.2 := by
  rw [tog_iff]
  constructor
  · rintro ⟨x, hx, y, hy, h1, h2⟩
    exact ⟨(x, y), (pairs_iff hb).2 ⟨hx, hy, h1⟩, h2⟩
  · rintro ⟨q, hq, h2⟩
    obtain ⟨h3, h4, h5⟩ := (pairs_iff hb).1 hq
    exact ⟨_, h3, _, h4, h5, h2⟩

/-! ### Alone -/
def aloneB (t : Int) (a : List Occ) : Bool := a.all fun o => decide (o.2.2 - o.2.1 ≤ t)

end Go.Proofs.Ytlillkfelfoafaa
