/-
  Plain facts on sums of sets: the residues of the arcs of all pairs of spans are the residues x + y; the counting of spans.
-/
import Derived.Test.YtbhjnihcmfagjaaRefSum
import Derived.Test.YtbhjnihcmfagjaaPlain
set_option linter.unusedVariables false
set_option linter.unusedSimpArgs false
namespace Go.Proofs.Ytbhjnihcmfagjaa
open RP

theorem marked_iff {T : Nat} {l : List (Int × Int)} {x : Nat} : marked T l x = true ↔ ∃ p ∈ l, ((x : Int) - p.1 % T) % T < p.2 := by
  simp [marked, List.any_eq_true, arcB]

theorem mem_arcsOf {a b : List Sp} {p : Int × Int} : p ∈ arcsOf a b ↔ ∃ s ∈ a, ∃ u ∈ b, p = pairArc s u := by
  simp only [arcsOf, List.mem_flatMap, rowArcs, List.mem_map]
  constructor
  · rintro ⟨s, hs, u, hu, rfl⟩; exact ⟨s, hs, u, hu, rfl⟩
  · rintro ⟨s, hs, u, hu, rfl⟩; exact ⟨s, hs, u, hu, rfl⟩

theorem emod_le_self' {v t : Int} (h0 : 0 ≤ v) (ht : 1 ≤ t) : v % t ≤ v := by
  obtain ⟨n, rfl⟩ := Int.eq_ofNat_of_zero_le h0
  obtain ⟨m, rfl⟩ := Int.eq_ofNat_of_zero_le (show 0 ≤ t by omega)
  have := Nat.mod_le n m
  omega

/-- The residues of a sum. -/
theorem marked_sum {T : Nat} (hT : 1 ≤ T) {a b : List Sp} (ha : ∀ s ∈ a, 0 ≤ s.1 ∧ s.1 < s.2 ∧ s.2 ≤ (T : Int)) (hb : ∀ s ∈ b, 0 ≤ s.1 ∧ s.1 < s.2 ∧ s.2 ≤ (T : Int)) (x : Nat) :
    marked T (arcsOf a b) x = true ↔ ∃ y : Int, 0 ≤ y ∧ y < T ∧ mem a y = true ∧ mem b (((x : Int) - y) % T) = true := by
  rw [marked_iff]
  constructor
  · rintro ⟨p, hp, hlt⟩
    obtain ⟨s, hs, u, hu, rfl⟩ := mem_arcsOf.1 hp
    obtain ⟨a1, a2, a3⟩ := ha s hs
    obtain ⟨b1, b2, b3⟩ := hb u hu
    simp only [pairArc] at hlt
    rw [sub_emod_emod] at hlt
    have k0 := Int.emod_nonneg ((x : Int) - (s.1 + u.1)) (show (T : Int) ≠ 0 by omega)
    have hk : ∃ q, (x : Int) - (s.1 + u.1) = ((x : Int) - (s.1 + u.1)) % T + T * q := ⟨((x : Int) - (s.1 + u.1)) / T, by rw [Int.emod_add_mul_ediv]⟩
    obtain ⟨q, hq⟩ := hk
    generalize ((x : Int) - (s.1 + u.1)) % T = k at *
    obtain ⟨i, hi⟩ : ∃ i, i = min k (s.2 - s.1 - 1) := ⟨_, rfl⟩
    refine ⟨s.1 + i, by omega, by omega, mem_iff.2 ⟨s, hs, by omega, by omega⟩, ?_⟩
    have e : ((x : Int) - (s.1 + i)) % T = u.1 + (k - i) := by
      rw [show (x : Int) - (s.1 + i) = (u.1 + (k - i)) + T * q by omega, Int.add_mul_emod_self_left]
      exact Int.emod_eq_of_lt (by omega) (by omega)
    rw [e]
    exact mem_iff.2 ⟨u, hu, by omega, by omega⟩
  · rintro ⟨y, y0, y1, hy, hz⟩
    obtain ⟨s, hs, s1, s2⟩ := mem_iff.1 hy
    obtain ⟨u, hu, u1, u2⟩ := mem_iff.1 hz
    obtain ⟨a1, a2, a3⟩ := ha s hs
    obtain ⟨b1, b2, b3⟩ := hb u hu
    refine ⟨pairArc s u, mem_arcsOf.2 ⟨s, hs, u, hu, rfl⟩, ?_⟩
    simp only [pairArc]
    rw [sub_emod_emod]
    have hq : ∃ q, (x : Int) - y = ((x : Int) - y) % T + T * q := ⟨((x : Int) - y) / T, by rw [Int.emod_add_mul_ediv]⟩
    obtain ⟨q, hq⟩ := hq
    generalize ((x : Int) - y) % T = z at *
    rw [show (x : Int) - (s.1 + u.1) = ((y - s.1) + (z - u.1)) + T * q by omega, Int.add_mul_emod_self_left]
    have := emod_le_self' (v := (y - s.1) + (z - u.1)) (t := T) (by omega) (by omega)
    omega

/-- Two sets with more than T residues together: every residue is a sum. -/
theorem marked_full {T : Nat} (hT : 1 ≤ T) {a b : List Sp} (va : validFrom T (-1) a = true) (vb : validFrom T (-1) b = true) (ha : ∀ s ∈ a, 0 ≤ s.1 ∧ s.1 < s.2 ∧ s.2 ≤ (T : Int)) (hb : ∀ s ∈ b, 0 ≤ s.1 ∧ s.1 < s.2 ∧ s.2 ≤ (T : Int))
    (h : (T : Int) < total a + total b) (x : Nat) : marked T (arcsOf a b) x = true := by
  rw [marked_sum hT ha hb]
  rw [total_valid va, total_valid vb, ← cntN_negI (fun y : Nat => mem b (y : Int)) hT x] at h
  obtain ⟨y, hy, h1, h2⟩ := cntN_both (P := fun y : Nat => mem a (y : Int)) (Q := fun y : Nat => mem b ((((x : Int) - (y : Int)) % T).toNat : Int)) (k := T) (by omega)
  refine ⟨y, by omega, by omega, h1, ?_⟩
  have z0 := Int.emod_nonneg ((x : Int) - (y : Int)) (show (T : Int) ≠ 0 by omega)
  rw [Int.toNat_of_nonneg z0] at h2
  exact h2

/-- The spans of arcs. -/
def arcSpans (t : Int) (l : List (Int × Int)) : List Sp := l.flatMap fun p => arc t (p.1 % t) p.2
theorem arcSpans_append (t : Int) (a b : List (Int × Int)) : arcSpans t (a ++ b) = arcSpans t a ++ arcSpans t b := by simp [arcSpans, List.flatMap_append]
theorem arcSpans_one (t : Int) (p : Int × Int) : arcSpans t [p] = arc t (p.1 % t) p.2 := by simp [arcSpans]
theorem arcSpans_bounds {t : Int} (h1 : 1 ≤ t) (l : List (Int × Int)) : ∀ s ∈ arcSpans t l, 0 ≤ s.1 ∧ s.1 < s.2 ∧ s.2 ≤ t := by
  intro s hs
  obtain ⟨u, _, hu⟩ := List.mem_flatMap.1 hs
  exact arc_bounds _ h1 (Int.emod_nonneg _ (by omega)) (Int.emod_lt_of_pos _ (by omega)) s hu
theorem arcSpans_len (t : Int) : ∀ l : List (Int × Int), (arcSpans t l).length ≤ 2 * l.length
  | [] => by simp [arcSpans]
  | p :: l => by
    have h1 := arcSpans_len t l
    have h2 := arc_length t (p.1 % t) p.2
    simp only [arcSpans, List.flatMap_cons, List.length_append, List.length_cons] at h1 h2 ⊢
    omega
theorem arcSpans_mem {T : Nat} (h1 : 1 ≤ T) (l : List (Int × Int)) {x : Nat} (hx : x < T) : memN (arcSpans T l) x = marked T l x := by
  apply mem_eq_of_iff
  unfold memN
  rw [arcSpans, mem_flat, marked_iff]
  constructor
  · rintro ⟨p, hp, h⟩
    rw [arc_mem _ (Int.emod_nonneg _ (by omega)) (Int.emod_lt_of_pos _ (by omega)) x (by omega) (by omega), decide_eq_true_eq] at h
    exact ⟨p, hp, h⟩
  · rintro ⟨p, hp, h⟩
    refine ⟨p, hp, ?_⟩
    rw [arc_mem _ (Int.emod_nonneg _ (by omega)) (Int.emod_lt_of_pos _ (by omega)) x (by omega) (by omega), decide_eq_true_eq]
    exact h

theorem arcsOf_len (a b : List Sp) : (arcsOf a b).length = a.length * b.length := by
  induction a with
  | nil => simp [arcsOf]
  | cons s a ih =>
    simp only [arcsOf, List.flatMap_cons, List.length_append, List.length_cons] at ih ⊢
    rw [ih, rowArcs, List.length_map, Nat.add_mul, Nat.one_mul]
    omega

/-! ### Counting: how many spans begin at a residue, less those that end there -/
def one (b : Prop) [Decidable b] : Int := if b then 1 else 0
def chg : List Sp → Nat → Int
  | [], _ => 0
  | s :: l, r => one ((r : Int) = s.1) - one ((r : Int) = s.2) + chg l r
def cover : List Sp → Int → Int
  | [], _ => 0
  | s :: l, x => one (s.1 ≤ x ∧ x < s.2) + cover l x
def dep (l : List Sp) : Nat → Int
  | 0 => 0
  | k + 1 => dep l k + chg l k

theorem chg_snoc : ∀ (l : List Sp) (s : Sp) (r : Nat), chg (l ++ [s]) r = chg l r + one ((r : Int) = s.1) - one ((r : Int) = s.2)
  | [], s, r => by simp [chg]
  | u :: l, s, r => by simp only [List.cons_append, chg, chg_snoc l s r]; omega

theorem dep_cons (s : Sp) (l : List Sp) : ∀ k, dep (s :: l) k = (one (s.1 < k ∧ 0 ≤ s.1) - one (s.2 < k ∧ 0 ≤ s.2)) + dep l k
  | 0 => by simp only [dep, one]; split <;> split <;> omega
  | k + 1 => by
    simp only [dep, chg, dep_cons s l k, one]
    have e : ((k + 1 : Nat) : Int) = (k : Int) + 1 := by omega
    rw [e]
    repeat' split
    all_goals omega

theorem dep_cover : ∀ {l : List Sp}, (∀ s ∈ l, 0 ≤ s.1 ∧ s.1 < s.2) → ∀ k : Nat, dep l (k + 1) = cover l k
  | [], _, k => by
    have : ∀ k, dep [] k = 0 := by intro k; induction k with
      | zero => rfl
      | succ k ih => simp [dep, ih, chg]
    rw [this]; rfl
  | s :: l, h, k => by
    obtain ⟨h1, h2⟩ := h s (by simp)
    have ih := dep_cover (l := l) (fun u hu => h u (by simp [hu])) k
    rw [dep_cons, ih]
    simp only [cover, one]
    have e : ((k + 1 : Nat) : Int) = (k : Int) + 1 := by omega
    rw [e]
    repeat' split
    all_goals omega

theorem cover_nonneg : ∀ (l : List Sp) (x : Int), 0 ≤ cover l x ∧ cover l x ≤ l.length
  | [], x => by simp [cover]
  | s :: l, x => by
    have := cover_nonneg l x
    simp only [cover, one, List.length_cons]
    split <;> omega
theorem cover_pos : ∀ (l : List Sp) (x : Int), 0 < cover l x ↔ mem l x = true
  | [], x => by simp [cover, mem]
  | s :: l, x => by
    have := cover_nonneg l x
    have ih := cover_pos l x
    rw [mem_cons, ← ih]
    simp only [cover, one]
    split
    · rename_i h; constructor
      · intro _; exact .inl h
      · intro _; omega
    · rename_i h; constructor
      · intro q; exact .inr (by omega)
      · rintro (q | q)
        · exact absurd q h
        · omega
theorem chg_bound : ∀ (l : List Sp) (r : Nat), -(l.length : Int) ≤ chg l r ∧ chg l r ≤ l.length
  | [], r => by simp [chg]
  | s :: l, r => by
    have := chg_bound l r
    simp only [chg, one, List.length_cons]
    repeat' split
    all_goals omega

/-- The list while it is being collected: the last span is open if the residue ahead is a member. -/
def openL (P : Nat → Bool) : Nat → List Sp
  | 0 => []
  | k + 1 => if P k then (match (runs P (k + 1)).getLast? with | some s => (runs P (k + 1)).dropLast ++ [(s.1, 0)] | none => []) else runs P (k + 1)

def was (P : Nat → Bool) : Nat → Bool
  | 0 => false
  | k + 1 => P k

theorem runs_last_end (P : Nat → Bool) : ∀ k, was P k = true → ∃ r f, runs P k = r ++ [(f, (k : Int))]
  | 0, h => by simp [was] at h
  | k + 1, h => by
    have hk : P k = true := h
    simp only [runs, hk, if_true]
    have e : ((k + 1 : Nat) : Int) = (k : Int) + 1 := by omega
    rw [e]
    rcases snoc_cases (runs P k) with h0 | ⟨r, s, h0⟩
    · rw [h0]; exact ⟨[], _, rfl⟩
    · rw [h0]
      simp only [stepRun, List.getLast?_append, List.getLast?_singleton, Option.some_or, List.dropLast_concat]
      split
      · exact ⟨r, s.1, rfl⟩
      · exact ⟨r ++ [s], _, rfl⟩
theorem runs_last_far (P : Nat → Bool) : ∀ k, was P k = false → ∀ (r : List Sp) (s : Sp), runs P k = r ++ [s] → s.2 ≠ (k : Int)
  | 0, _, r, s, h => by simp [runs] at h
  | k + 1, hw, r, s, h => by
    have hk : P k = false := hw
    simp only [runs, hk, Bool.false_eq_true, if_false] at h
    have hv := runs_valid P k
    rw [h] at hv
    have := (validFrom_snoc.1 hv).2.2.2
    omega

theorem openL_open {P : Nat → Bool} {k : Nat} (h : was P k = true) : ∃ r f, runs P k = r ++ [(f, (k : Int))] ∧ openL P k = r ++ [(f, 0)] := by
  obtain ⟨r, f, e⟩ := runs_last_end P k h
  refine ⟨r, f, e, ?_⟩
  cases k with
  | zero => simp [was] at h
  | succ k =>
    have hk : P k = true := h
    simp only [openL, hk, if_true]
    rw [e]
    simp
theorem openL_shut {P : Nat → Bool} {k : Nat} (h : was P k = false) : openL P k = runs P k := by
  cases k with
  | zero => rfl
  | succ k =>
    have hk : P k = false := h
    simp [openL, hk]

theorem openL_begin {P : Nat → Bool} {k : Nat} (h : was P k = false) (hk : P k = true) : openL P (k + 1) = openL P k ++ [((k : Int), 0)] := by
  rw [openL_shut h]
  have hw : was P (k + 1) = true := hk
  have key : runs P (k + 1) = runs P k ++ [((k : Int), (k : Int) + 1)] := by
    simp only [runs, hk, if_true]
    rcases snoc_cases (runs P k) with h0 | ⟨r, s, h0⟩
    · rw [h0]; rfl
    · have := runs_last_far P k h r s h0
      rw [h0]
      simp [stepRun, this]
  simp only [openL, hk, if_true, key]
  simp
theorem openL_end {P : Nat → Bool} {k : Nat} (h : was P k = true) (hk : P k = false) {r : List Sp} {f : Int} (e : openL P k = r ++ [(f, 0)]) : openL P (k + 1) = r ++ [(f, (k : Int))] := by
  obtain ⟨r', f', e1, e2⟩ := openL_open h
  rw [e2] at e
  have h1 := List.append_inj_left' e rfl
  have h2 := List.append_inj_right' e rfl
  simp only [List.cons.injEq, Prod.mk.injEq, and_true] at h2
  subst h1 h2
  have hw : was P (k + 1) = false := hk
  rw [openL_shut hw]
  simp only [runs, hk, Bool.false_eq_true, if_false]
  exact e1
theorem openL_on {P : Nat → Bool} {k : Nat} (h : was P k = true) (hk : P k = true) : openL P (k + 1) = openL P k := by
  obtain ⟨r, f, e1, e2⟩ := openL_open h
  rw [e2]
  have key : runs P (k + 1) = r ++ [(f, (k : Int) + 1)] := by
    simp only [runs, hk, if_true, e1]
    simp [stepRun]
  simp only [openL, hk, if_true, key]
  simp
theorem openL_off {P : Nat → Bool} {k : Nat} (h : was P k = false) (hk : P k = false) : openL P (k + 1) = openL P k := by
  have hw : was P (k + 1) = false := hk
  rw [openL_shut h, openL_shut hw]
  simp [runs, hk]
theorem openL_len (P : Nat → Bool) (k : Nat) : (openL P k).length ≤ k := by
  have hr : ∀ k, (runs P k).length ≤ k := runs_len P
  cases h : was P k with
  | false => rw [openL_shut h]; exact hr k
  | true =>
    obtain ⟨r, f, e1, e2⟩ := openL_open h
    have := hr k
    rw [e1] at this
    rw [e2]
    simpa using this

end Go.Proofs.Ytbhjnihcmfagjaa
