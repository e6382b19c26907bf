/-
  Plain facts on tables of residues: sums, negatives, closed tables, the greatest closed table.
  Plain facts on the propagation: what holds while pairs wait in the queue.
  Plain facts on the propagation: a step whatever the flag, a pair taken from the queue, the measure.
  Plain facts on the table ahead of the propagation.
-/
import Derived.Test.YtbhjnihcmfagjaaPlain
set_option linter.unusedVariables false
set_option linter.unusedSimpArgs false
namespace RP

/-- The residue of z. -/
def res (T : Nat) (z : Int) : Nat := (z % T).toNat
section
variable {T : Nat} (h1 : 1 ≤ T)
include h1
theorem res_val (z : Int) : (res T z : Int) = z % T := Int.toNat_of_nonneg (Int.emod_nonneg z (by omega))
theorem res_lt (z : Int) : res T z < T := by
  have := res_val h1 z
  have := Int.emod_lt_of_pos z (show (0 : Int) < T by omega)
  omega
theorem res_sub (z : Int) : ∃ q : Int, (res T z : Int) = z - T * q := ⟨z / T, by rw [res_val h1, Int.emod_def]⟩
theorem res_small {x : Nat} (hx : x < T) : res T (x : Int) = x := by
  have := res_val h1 (x : Int)
  rw [Int.emod_eq_of_lt (by omega) (by omega)] at this
  omega
end
theorem res_of {T : Nat} {u v : Int} (k : Int) (h : u = v + T * k) : res T u = res T v := by unfold res; rw [h, Int.add_mul_emod_self_left]

def negB (T : Nat) (P : Nat → Bool) (x : Nat) : Bool := P (res T (-(x : Int)))
def sumB (T : Nat) (P Q : Nat → Bool) (x : Nat) : Bool := (List.range T).any fun a => P a && Q (res T ((x : Int) - a))
theorem sumB_iff {T : Nat} {P Q : Nat → Bool} {x : Nat} : sumB T P Q x = true ↔ ∃ a, a < T ∧ P a = true ∧ Q (res T ((x : Int) - a)) = true := by
  simp [sumB, List.any_eq_true]

section
variable {T : Nat} (h1 : 1 ≤ T)
include h1
theorem res_neg_neg {x : Nat} (hx : x < T) : res T (-(res T (-(x : Int)) : Int)) = x := by
  obtain ⟨q, hq⟩ := res_sub h1 (-(x : Int))
  rw [hq, res_of (v := (x : Int)) q (by omega), res_small h1 hx]
theorem sumB_mono {P Q P' Q' : Nat → Bool} (hp : ∀ x, x < T → P x = true → P' x = true) (hq : ∀ x, x < T → Q x = true → Q' x = true) {x : Nat} (h : sumB T P Q x = true) : sumB T P' Q' x = true := by
  obtain ⟨a, ha, h2, h3⟩ := sumB_iff.1 h
  exact sumB_iff.2 ⟨a, ha, hp a ha h2, hq _ (res_lt h1 _) h3⟩
/-- Two sets with more than T residues together. -/
theorem sumB_full {P Q : Nat → Bool} (h : T < cntN P T + cntN Q T) (x : Nat) : sumB T P Q x = true := by
  rw [← cntN_negI Q h1 x] at h
  obtain ⟨y, hy, a, b⟩ := cntN_both h
  exact sumB_iff.2 ⟨y, hy, a, b⟩
end

theorem cnt_pos {P : Nat → Bool} : ∀ {k : Nat}, 0 < cntN P k ↔ ∃ x, x < k ∧ P x = true
  | 0 => by simp [cntN]
  | k + 1 => by
    simp only [cntN]
    constructor
    · intro h
      by_cases hk : P k = true
      · exact ⟨k, by omega, hk⟩
      · rw [if_neg hk] at h
        obtain ⟨x, hx, q⟩ := (cnt_pos (k := k)).1 (by omega)
        exact ⟨x, by omega, q⟩
    · rintro ⟨x, hx, q⟩
      by_cases e : x = k
      · subst e; rw [if_pos q]; omega
      · have := (cnt_pos (P := P) (k := k)).2 ⟨x, by omega, q⟩
        omega
theorem cnt_le {P Q : Nat → Bool} : ∀ {k : Nat}, (∀ x, x < k → P x = true → Q x = true) → cntN P k ≤ cntN Q k
  | 0, _ => Nat.le_refl _
  | k + 1, h => by
    have ih := cnt_le (P := P) (Q := Q) (k := k) fun x hx => h x (by omega)
    simp only [cntN]
    cases hp : P k with
    | true => rw [h k (by omega) hp]; simp; exact ih
    | false => simp; omega
theorem cnt_eq {P Q : Nat → Bool} : ∀ {k : Nat}, (∀ x, x < k → P x = true → Q x = true) → cntN P k = cntN Q k → ∀ x, x < k → P x = Q x
  | 0, _, _, _, hx => by omega
  | k + 1, h, e, x, hx => by
    have hle := cnt_le (P := P) (Q := Q) (k := k) fun x hx => h x (by omega)
    simp only [cntN] at e
    have hk : P k = Q k ∧ cntN P k = cntN Q k := by
      cases hp : P k with
      | true =>
        have hq := h k (by omega) hp
        rw [hp, hq] at e
        simp at e
        exact ⟨hq.symm, e⟩
      | false =>
        cases hq : Q k with
        | false => rw [hp, hq] at e; simp at e; exact ⟨rfl, e⟩
        | true => rw [hp, hq] at e; simp at e; omega
    by_cases ex : x = k
    · subst ex; exact hk.1
    · exact cnt_eq (fun x hx => h x (by omega)) hk.2 x (by omega)

/-- A table: the residues of each pair. -/
abbrev Tab := Nat → Nat → Nat → Bool
def SubT (m T : Nat) (E D : Tab) : Prop := ∀ i j, i < m → j < m → ∀ x, x < T → E i j x = true → D i j x = true
def TriOk (T : Nat) (D : Tab) (i j k : Nat) : Prop := ∀ x, x < T → D i k x = true → sumB T (D i j) (D j k) x = true
def ClosedT (m T : Nat) (D : Tab) : Prop := ∀ i j k, i < m → j < m → k < m → TriOk T D i j k
structure Great (m T : Nat) (I D : Tab) : Prop where
  sub : SubT m T D I
  closed : ClosedT m T D
  max : ∀ E, SubT m T E I → ClosedT m T E → SubT m T E D

theorem SubT.refl (m T : Nat) (D : Tab) : SubT m T D D := fun _ _ _ _ _ _ h => h
theorem SubT.trans {m T : Nat} {A B C : Tab} (h : SubT m T A B) (h' : SubT m T B C) : SubT m T A C := fun i j hi hj x hx q => h' i j hi hj x hx (h i j hi hj x hx q)
theorem Great.unique {m T : Nat} {I D E : Tab} (a : Great m T I D) (b : Great m T I E) : ∀ i j, i < m → j < m → ∀ x, x < T → D i j x = E i j x := fun i j hi hj x hx => by
  have h1 := b.max D a.sub a.closed i j hi hj x hx
  have h2 := a.max E b.sub b.closed i j hi hj x hx
  cases hd : D i j x with
  | true => rw [h1 hd]
  | false =>
    cases he : E i j x with
    | true => rw [h2 he] at hd; cases hd
    | false => rfl

def NoneAt (T : Nat) (P : Nat → Bool) : Prop := ∀ x, x < T → P x = false
theorem none_iff {T : Nat} {P : Nat → Bool} : NoneAt T P ↔ cntN P T = 0 := by
  constructor
  · intro h
    rcases Nat.eq_zero_or_pos (cntN P T) with q | q
    · exact q
    · obtain ⟨x, hx, e⟩ := cnt_pos.1 q
      rw [h x hx] at e; cases e
  · intro h x hx
    cases e : P x with
    | false => rfl
    | true => have := cnt_pos.2 ⟨x, hx, e⟩; omega
/-- Where one set of a closed table is empty all are. -/
theorem closed_empty {m T : Nat} {D : Tab} (hc : ClosedT m T D) {i j : Nat} (hi : i < m) (hj : j < m) (h : NoneAt T (D i j)) : ∀ k l, k < m → l < m → NoneAt T (D k l) := by
  have hjl : ∀ l, l < m → NoneAt T (D i l) := fun l hl x hx => by
    cases e : D i l x with
    | false => rfl
    | true =>
      obtain ⟨a, ha, q, _⟩ := sumB_iff.1 (hc i j l hi hj hl x hx e)
      rw [h a ha] at q; cases q
  intro k l hk hl x hx
  cases e : D k l x with
  | false => rfl
  | true =>
    obtain ⟨a, ha, _, q⟩ := sumB_iff.1 (hc k i l hk hi hl x hx e)
    rw [hjl l hl _ (res_lt (by omega) _)] at q; cases q

def SymT (m T : Nat) (D : Tab) : Prop := ∀ i j, i < m → j < m → ∀ x, x < T → D j i x = D i j (res T (-(x : Int)))
theorem sym_tri {m T : Nat} (h1 : 1 ≤ T) {D : Tab} (hs : SymT m T D) {i j k : Nat} (hi : i < m) (hj : j < m) (hk : k < m) (h : TriOk T D i j k) : TriOk T D k j i := fun x hx q => by
  rw [hs i k hi hk x hx] at q
  obtain ⟨a, ha, p1, p2⟩ := sumB_iff.1 (h _ (res_lt h1 _) q)
  refine sumB_iff.2 ⟨res T ((x : Int) + a), res_lt h1 _, ?_, ?_⟩
  · rw [hs j k hj hk _ (res_lt h1 _)]
    obtain ⟨u, hu⟩ := res_sub h1 ((x : Int) + a)
    obtain ⟨v, hv⟩ := res_sub h1 (-(x : Int))
    rw [hu]
    rw [hv] at p2
    rw [res_of (v := -(x : Int) - T * v - a) (u + v) (by rw [Int.mul_add]; omega)]
    exact p2
  · rw [hs i j hi hj _ (res_lt h1 _)]
    obtain ⟨u, hu⟩ := res_sub h1 ((x : Int) + a)
    obtain ⟨v, hv⟩ := res_sub h1 ((x : Int) - (res T ((x : Int) + a) : Int))
    rw [hv, hu, res_of (v := (a : Int)) (v - u) (by rw [Int.mul_sub]; omega), res_small h1 ha]
    exact p1
/-- The greatest closed table of a symmetric one is symmetric. -/
theorem Great.sym {m T : Nat} (h1 : 1 ≤ T) {I D : Tab} (hI : SymT m T I) (h : Great m T I D) : SymT m T D := by
  have key : SubT m T (fun i j x => D j i (res T (-(x : Int)))) D := by
    refine h.max _ (fun i j hi hj x hx q => ?_) (fun i j k hi hj hk x hx q => ?_)
    · have := h.sub j i hj hi _ (res_lt h1 _) q
      rw [hI j i hj hi x hx]; exact this
    · obtain ⟨a, ha, p1, p2⟩ := sumB_iff.1 (h.closed k j i hk hj hi _ (res_lt h1 _) q)
      refine sumB_iff.2 ⟨res T ((x : Int) + a), res_lt h1 _, ?_, ?_⟩
      · obtain ⟨u, hu⟩ := res_sub h1 ((x : Int) + a)
        obtain ⟨v, hv⟩ := res_sub h1 (-(x : Int))
        rw [hu]
        rw [hv] at p2
        rw [res_of (v := -(x : Int) - T * v - a) (u + v) (by rw [Int.mul_add]; omega)]
        exact p2
      · obtain ⟨u, hu⟩ := res_sub h1 ((x : Int) + a)
        obtain ⟨v, hv⟩ := res_sub h1 ((x : Int) - (res T ((x : Int) + a) : Int))
        rw [hv, hu, res_of (v := (a : Int)) (v - u) (by rw [Int.mul_sub]; omega), res_small h1 ha]
        exact p1
  intro i j hi hj x hx
  have a1 := key j i hj hi x hx
  have a2 := key i j hi hj (res T (-(x : Int))) (res_lt h1 _)
  dsimp only at a1 a2
  rw [res_neg_neg h1 hx] at a2
  cases e : D i j (res T (-(x : Int))) with
  | true => exact a1 e
  | false =>
    cases e' : D j i x with
    | true => rw [a2 e'] at e; cases e
    | false => rfl
theorem great_none {m T : Nat} {I : Tab} {D : Tab} (hmax : ∀ E, SubT m T E I → ClosedT m T E → SubT m T E D) {i j : Nat} (hi : i < m) (hj : j < m) (h : NoneAt T (D i j)) : Great m T I fun _ _ _ => false where
  sub := fun _ _ _ _ _ _ q => by cases q
  closed := fun _ _ _ _ _ _ _ _ q => by cases q
  max := fun E h1 h2 k l hk hl x hx q => by
    have hE : NoneAt T (E i j) := fun y hy => by
      cases e : E i j y with
      | false => rfl
      | true => have := hmax E h1 h2 i j hi hj y hy e; rw [h y hy] at this; cases this
    rw [closed_empty h2 hi hj hE k l hk hl x hx] at q; cases q

end RP

namespace RP

/-- The set of a and b restricted to S, and with it that of b and a. -/
def resT (T : Nat) (D : Tab) (a b : Nat) (S : Nat → Bool) : Tab := fun i j x =>
  if i = a ∧ j = b then D a b x && S x else if i = b ∧ j = a then D a b (res T (-(x : Int))) && S (res T (-(x : Int))) else D i j x
section
variable {m T : Nat} (h1 : 1 ≤ T) {D : Tab} {a b : Nat} {S : Nat → Bool} (hab : a ≠ b)
theorem resT_ab {x : Nat} : resT T D a b S a b x = (D a b x && S x) := by simp [resT]
theorem resT_other {i j x : Nat} (h : ¬ (i = a ∧ j = b)) (h' : ¬ (i = b ∧ j = a)) : resT T D a b S i j x = D i j x := by simp [resT, h, h']
include hab in
theorem resT_ba {x : Nat} : resT T D a b S b a x = (D a b (res T (-(x : Int))) && S (res T (-(x : Int)))) := by
  unfold resT
  rw [if_neg (fun h => hab h.2), if_pos ⟨rfl, rfl⟩]
include h1 hab in
theorem resT_sym (ha : a < m) (hb : b < m) (hs : SymT m T D) : SymT m T (resT T D a b S) := fun i j hi hj x hx => by
  by_cases q : i = a ∧ j = b
  · obtain ⟨rfl, rfl⟩ := q
    rw [resT_ba hab, resT_ab]
  · by_cases q' : i = b ∧ j = a
    · obtain ⟨rfl, rfl⟩ := q'
      rw [resT_ab, resT_ba hab, res_neg_neg h1 hx]
    · rw [resT_other (fun h => q' ⟨h.2, h.1⟩) (fun h => q ⟨h.2, h.1⟩), resT_other q q', hs i j hi hj x hx]
include hab in
theorem resT_sub (ha : a < m) (hb : b < m) (hs : SymT m T D) : SubT m T (resT T D a b S) D := fun i j hi hj x hx q => by
  by_cases e : i = a ∧ j = b
  · obtain ⟨rfl, rfl⟩ := e
    rw [resT_ab, Bool.and_eq_true] at q; exact q.1
  · by_cases e' : i = b ∧ j = a
    · obtain ⟨rfl, rfl⟩ := e'
      rw [resT_ba hab, Bool.and_eq_true] at q
      rw [hs j i hj hi x hx]; exact q.1
    · rw [resT_other e e'] at q; exact q
end

/-- Sums of numbers. -/
def sumTo (f : Nat → Nat) : Nat → Nat
  | 0 => 0
  | k + 1 => sumTo f k + f k
theorem sumTo_le {f g : Nat → Nat} : ∀ {k : Nat}, (∀ i, i < k → f i ≤ g i) → sumTo f k ≤ sumTo g k
  | 0, _ => Nat.le_refl _
  | k + 1, h => by
    have := sumTo_le (f := f) (g := g) (k := k) fun i hi => h i (by omega)
    have := h k (by omega)
    simp only [sumTo]; omega
theorem sumTo_lt {f g : Nat → Nat} : ∀ {k : Nat}, (∀ i, i < k → f i ≤ g i) → ∀ {i : Nat}, i < k → f i < g i → sumTo f k < sumTo g k
  | 0, _, _, hi, _ => by omega
  | k + 1, h, i, hi, hl => by
    have h2 := h k (by omega)
    simp only [sumTo]
    by_cases e : i = k
    · subst e
      have := sumTo_le (f := f) (g := g) (k := i) fun i hi => h i (by omega)
      omega
    · have := sumTo_lt (f := f) (g := g) (k := k) (fun i hi => h i (by omega)) (i := i) (by omega) hl
      omega
def totT (m T : Nat) (D : Tab) : Nat := sumTo (fun i => sumTo (fun j => cntN (D i j) T) m) m
theorem tot_lt {m T : Nat} {D E : Tab} (h : SubT m T E D) {a b : Nat} (ha : a < m) (hb : b < m) (hl : cntN (E a b) T ≠ cntN (D a b) T) : totT m T E < totT m T D := by
  have hle : ∀ i, i < m → ∀ j, j < m → cntN (E i j) T ≤ cntN (D i j) T := fun i hi j hj => cnt_le fun x hx => h i j hi hj x hx
  refine sumTo_lt (fun i hi => sumTo_le fun j hj => hle i hi j hj) ha (sumTo_lt (fun j hj => hle a ha j hj) hb ?_)
  have := hle a ha b hb
  omega

/-- A pair in order. -/
def pr (i j : Nat) : Nat × Nat := (min i j, max i j)
theorem pr_comm (i j : Nat) : pr i j = pr j i := by unfold pr; rw [Nat.min_comm, Nat.max_comm]
theorem pr_eq {i j a b : Nat} (h : pr i j = pr a b) : (i = a ∧ j = b) ∨ (i = b ∧ j = a) := by
  unfold pr at h; injection h with h1 h2; omega

/-- What holds while the pairs of q wait; X: triangles that are yet to be looked at. -/
structure Prop13 (m T : Nat) (I D : Tab) (q : List (Nat × Nat)) (e : Bool) (X : Nat → Nat → Nat → Prop) : Prop where
  sub : SubT m T D I
  max : ∀ E, SubT m T E I → ClosedT m T E → SubT m T E D
  sym : SymT m T D
  diag : ∀ i, i < m → ∀ x, x < T → D i i x = decide (x = 0)
  emp : e = true → ∃ i j, i < m ∧ j < m ∧ NoneAt T (D i j)
  non : e = false → ∀ i j, i < m → j < m → ¬ NoneAt T (D i j)
  tri : e = false → ∀ i j k, i < m → j < m → k < m → i ≠ j → j ≠ k → i ≠ k → TriOk T D i j k ∨ pr i j ∈ q ∨ pr j k ∈ q ∨ X i j k

theorem Prop13.weaken {m T : Nat} {I D : Tab} {q q' : List (Nat × Nat)} {e : Bool} {X X' : Nat → Nat → Nat → Prop} (h : Prop13 m T I D q e X) (hx : e = false → ∀ i j k, i < m → j < m → k < m → i ≠ j → j ≠ k → i ≠ k → (pr i j ∈ q ∨ pr j k ∈ q ∨ X i j k) → TriOk T D i j k ∨ pr i j ∈ q' ∨ pr j k ∈ q' ∨ X' i j k) : Prop13 m T I D q' e X' :=
  ⟨h.sub, h.max, h.sym, h.diag, h.emp, h.non, fun he i j k hi hj hk n1 n2 n3 => by
    rcases h.tri he i j k hi hj hk n1 n2 n3 with p | p
    · exact .inl p
    · exact hx he i j k hi hj hk n1 n2 n3 p⟩

/-- A step: the set of a and b is restricted to the sums over c. -/
theorem Prop13.step {m T : Nat} (h1 : 1 ≤ T) {I D : Tab} {q q' : List (Nat × Nat)} {e : Bool} {X X' : Nat → Nat → Nat → Prop} (h : Prop13 m T I D q e X) {a b c : Nat} (ha : a < m) (hb : b < m) (hc : c < m) (hab : a ≠ b) (hac : a ≠ c) (hbc : b ≠ c)
    (hq : ∀ p, p ∈ q → p ∈ q') (hq' : pr a b ∈ q') (hX : ∀ i j k, X i j k → X' i j k ∨ (i = a ∧ j = c ∧ k = b) ∨ (i = b ∧ j = c ∧ k = a)) (he : e = false) :
    Prop13 m T I (resT T D a b (sumB T (D a c) (D c b))) q' (decide (cntN (fun x => D a b x && sumB T (D a c) (D c b) x) T = 0)) X' := by
  have hsub := resT_sub (S := sumB T (D a c) (D c b)) hab ha hb h.sym
  have hsym := resT_sym h1 (S := sumB T (D a c) (D c b)) hab ha hb h.sym
  have hnew : ∀ x, x < T → resT T D a b (sumB T (D a c) (D c b)) a b x = true → sumB T (D a c) (D c b) x = true := fun x _ q => by
    rw [resT_ab, Bool.and_eq_true] at q; exact q.2
  have oac : ∀ x, resT T D a b (sumB T (D a c) (D c b)) a c x = D a c x := fun x => resT_other (fun h => hbc h.2.symm) (fun h => hab h.1)
  have ocb : ∀ x, resT T D a b (sumB T (D a c) (D c b)) c b x = D c b x := fun x => resT_other (fun h => hac h.1.symm) (fun h => hbc h.1.symm)
  refine ⟨hsub.trans h.sub, fun E k1 k2 => ?_, hsym, fun i hi x hx => ?_, fun q => ?_, fun q => ?_, fun q i j k hi hj hk n1 n2 n3 => ?_⟩
  · have hE := h.max E k1 k2
    intro i j hi hj x hx q
    by_cases ei : i = a ∧ j = b
    · obtain ⟨rfl, rfl⟩ := ei
      rw [resT_ab, Bool.and_eq_true]
      exact ⟨hE i j hi hj x hx q, sumB_mono h1 (hE i c hi hc) (hE c j hc hj) (k2 i c j hi hc hj x hx q)⟩
    · by_cases ei' : i = b ∧ j = a
      · obtain ⟨rfl, rfl⟩ := ei'
        rw [resT_ba hab, Bool.and_eq_true]
        have hd := hE i j hi hj x hx q
        rw [h.sym j i hj hi x hx] at hd
        refine ⟨hd, ?_⟩
        -- the mirror of E's triangle
        obtain ⟨u, hu, p1, p2⟩ := sumB_iff.1 (k2 i c j hi hc hj x hx q)
        have d1 := hE i c hi hc u hu p1
        have d2 := hE c j hc hj _ (res_lt h1 _) p2
        rw [h.sym c i hc hi u hu] at d1
        rw [h.sym j c hj hc _ (res_lt h1 _)] at d2
        refine sumB_iff.2 ⟨_, res_lt h1 _, d2, ?_⟩
        obtain ⟨v, hv⟩ := res_sub h1 ((x : Int) - u)
        obtain ⟨v2, hv2⟩ := res_sub h1 (-(x : Int))
        obtain ⟨v3, hv3⟩ := res_sub h1 (-(res T ((x : Int) - u) : Int))
        rw [hv3, hv2, hv, res_of (v := -(u : Int)) (v3 - v2 - v) (by rw [Int.mul_sub, Int.mul_sub]; omega)]
        exact d1
      · rw [resT_other ei ei']; exact hE i j hi hj x hx q
  · rw [resT_other (fun e => hab (e.1.symm.trans e.2)) (fun e => hab (e.2.symm.trans e.1)), h.diag i hi x hx]
  · refine ⟨a, b, ha, hb, none_iff.2 ?_⟩
    rw [decide_eq_true_eq] at q
    rw [← q]
    exact cntN_congr fun x _ => resT_ab
  · rw [decide_eq_false_iff_not] at q
    intro i j hi hj hn
    by_cases ei : i = a ∧ j = b
    · obtain ⟨rfl, rfl⟩ := ei
      refine q ((cntN_congr fun x _ => ?_).trans (none_iff.1 hn))
      exact resT_ab.symm
    · by_cases ei' : i = b ∧ j = a
      · obtain ⟨rfl, rfl⟩ := ei'
        refine q (none_iff.1 fun x hx => ?_)
        have := hn (res T (-(x : Int))) (res_lt h1 _)
        rw [resT_ba hab, res_neg_neg h1 hx] at this
        exact this
      · exact h.non he i j hi hj fun x hx => by have := hn x hx; rw [resT_other ei ei'] at this; exact this
  · -- the triangles
    by_cases leg1 : pr i j = pr a b
    · exact .inr (.inl (by rw [leg1]; exact hq'))
    · by_cases leg2 : pr j k = pr a b
      · exact .inr (.inr (.inl (by rw [leg2]; exact hq')))
      · have oij : ∀ x, resT T D a b (sumB T (D a c) (D c b)) i j x = D i j x := fun x => resT_other (fun h => leg1 (by rw [h.1, h.2])) (fun h => leg1 (by rw [h.1, h.2]; exact pr_comm _ _))
        have ojk : ∀ x, resT T D a b (sumB T (D a c) (D c b)) j k x = D j k x := fun x => resT_other (fun h => leg2 (by rw [h.1, h.2])) (fun h => leg2 (by rw [h.1, h.2]; exact pr_comm _ _))
        have keep : TriOk T D i j k → TriOk T (resT T D a b (sumB T (D a c) (D c b))) i j k := fun ht x hx qx =>
          sumB_mono h1 (fun y _ p => by rw [oij]; exact p) (fun y _ p => by rw [ojk]; exact p) (ht x hx (hsub i k hi hk x hx qx))
        have t1 : TriOk T (resT T D a b (sumB T (D a c) (D c b))) a c b := fun x hx qx =>
          sumB_mono h1 (fun y _ p => by rw [oac]; exact p) (fun y _ p => by rw [ocb]; exact p) (hnew x hx qx)
        rcases h.tri he i j k hi hj hk n1 n2 n3 with p | p | p | p
        · exact .inl (keep p)
        · exact .inr (.inl (hq _ p))
        · exact .inr (.inr (.inl (hq _ p)))
        · rcases hX i j k p with p | ⟨rfl, rfl, rfl⟩ | ⟨rfl, rfl, rfl⟩
          · exact .inr (.inr (.inr p))
          · exact .inl t1
          · exact .inl (sym_tri h1 hsym hk hj hi t1)
/-- Nothing changes: the set lies within the sums. -/
theorem Prop13.stay {m T : Nat} (h1 : 1 ≤ T) {I D : Tab} {q : List (Nat × Nat)} {e : Bool} {X X' : Nat → Nat → Nat → Prop} (h : Prop13 m T I D q e X) {a b c : Nat} (ha : a < m) (hb : b < m) (hc : c < m)
    (hin : ∀ x, x < T → D a b x = true → sumB T (D a c) (D c b) x = true) (hX : ∀ i j k, X i j k → X' i j k ∨ (i = a ∧ j = c ∧ k = b) ∨ (i = b ∧ j = c ∧ k = a)) : Prop13 m T I D q e X' :=
  h.weaken fun _ i j k hi hj hk _ _ _ p => by
    rcases p with p | p | p
    · exact .inr (.inl p)
    · exact .inr (.inr (.inl p))
    · rcases hX i j k p with p | ⟨rfl, rfl, rfl⟩ | ⟨rfl, rfl, rfl⟩
      · exact .inr (.inr (.inr p))
      · exact .inl hin
      · exact .inl (sym_tri h1 h.sym ha hc hb hin)
/-- The end. -/
theorem Prop13.done {m T : Nat} (h1 : 1 ≤ T) {I D : Tab} (h : Prop13 m T I D [] false fun _ _ _ => False) : Great m T I D where
  sub := h.sub
  max := h.max
  closed := fun i j k hi hj hk => by
    by_cases e1 : i = j
    · subst e1
      exact fun x hx q => sumB_iff.2 ⟨0, by omega, by rw [h.diag i hi 0 (by omega)]; rfl, by rw [show ((x : Int) - (0 : Nat)) = (x : Int) by omega, res_small h1 hx]; exact q⟩
    · by_cases e2 : j = k
      · subst e2
        exact fun x hx q => sumB_iff.2 ⟨x, hx, q, by rw [show ((x : Int) - (x : Int)) = 0 by omega, h.diag j hj _ (res_lt h1 _)]; simp [res]⟩
      · by_cases e3 : i = k
        · subst e3
          intro x hx q
          rw [h.diag i hi x hx, decide_eq_true_eq] at q
          subst q
          have : ∃ y, y < T ∧ D i j y = true := by
            rcases Nat.eq_zero_or_pos (cntN (D i j) T) with q | q
            · exact absurd (none_iff.2 q) (h.non rfl i j hi hj)
            · exact cnt_pos.1 q
          obtain ⟨y, hy, q⟩ := this
          refine sumB_iff.2 ⟨y, hy, q, ?_⟩
          rw [h.sym i j hi hj _ (res_lt h1 _)]
          rw [show (((0 : Nat) : Int) - (y : Int)) = -(y : Int) by omega, res_neg_neg h1 hy]
          exact q
        · rcases h.tri rfl i j k hi hj hk e1 e2 e3 with p | p | p | p
          · exact p
          · cases p
          · cases p
          · exact p.elim

end RP

namespace RP

/-- A step, whatever the flag. -/
theorem Prop13.stepE {m T : Nat} (h1 : 1 ≤ T) {I D : Tab} {q q' : List (Nat × Nat)} {e : Bool} {X X' : Nat → Nat → Nat → Prop} (h : Prop13 m T I D q e X) {a b c : Nat} (ha : a < m) (hb : b < m) (hc : c < m) (hab : a ≠ b) (hac : a ≠ c) (hbc : b ≠ c)
    (hq : ∀ p, p ∈ q → p ∈ q') (hq' : pr a b ∈ q') (hX : ∀ i j k, X i j k → X' i j k ∨ (i = a ∧ j = c ∧ k = b) ∨ (i = b ∧ j = c ∧ k = a)) :
    Prop13 m T I (resT T D a b (sumB T (D a c) (D c b))) q' (e || decide (cntN (fun x => D a b x && sumB T (D a c) (D c b) x) T = 0)) X' := by
  cases e with
  | false => simpa using h.step h1 ha hb hc hab hac hbc hq hq' hX rfl
  | true =>
    -- the law for the flag false, with the flag let go
    have h0 : Prop13 m T I D q true X := h
    have hsub := resT_sub (S := sumB T (D a c) (D c b)) hab ha hb h.sym
    obtain ⟨i, j, hi, hj, hn⟩ := h.emp rfl
    have hmax : ∀ E, SubT m T E I → ClosedT m T E → SubT m T E (resT T D a b (sumB T (D a c) (D c b))) := fun E k1 k2 => by
      have hE := h.max E k1 k2
      have hnE : NoneAt T (E i j) := fun x hx => by
        cases q : E i j x with
        | false => rfl
        | true => have := hE i j hi hj x hx q; rw [hn x hx] at this; cases this
      intro k l hk hl x hx q
      rw [closed_empty k2 hi hj hnE k l hk hl x hx] at q; cases q
    refine ⟨hsub.trans h.sub, hmax, resT_sym h1 (S := sumB T (D a c) (D c b)) hab ha hb h.sym, fun i hi x hx => ?_, fun _ => ⟨i, j, hi, hj, fun x hx => ?_⟩, fun q => ?_, fun q => ?_⟩
    · rw [resT_other (fun e => hab (e.1.symm.trans e.2)) (fun e => hab (e.2.symm.trans e.1)), h.diag i hi x hx]
    · cases q : resT T D a b (sumB T (D a c) (D c b)) i j x with
      | false => rfl
      | true => have := hsub i j hi hj x hx q; rw [hn x hx] at this; cases this
    · simp at q
    · simp at q

/-- Triangles with a leg p whose third event is not below c. -/
def Legs (p : Nat × Nat) (c : Nat) (i j k : Nat) : Prop := (pr i j = p ∧ c ≤ k) ∨ (pr j k = p ∧ c ≤ i)
theorem Prop13.pop {m T : Nat} {I D : Tab} {p : Nat × Nat} {q : List (Nat × Nat)} {e : Bool} (h : Prop13 m T I D (p :: q) e fun _ _ _ => False) : Prop13 m T I D q e (Legs p 0) :=
  h.weaken fun _ i j k _ _ _ _ _ _ x => by
    rcases x with x | x | x
    · rcases List.mem_cons.1 x with x | x
      · exact .inr (.inr (.inr (.inl ⟨x, Nat.zero_le _⟩)))
      · exact .inr (.inl x)
    · rcases List.mem_cons.1 x with x | x
      · exact .inr (.inr (.inr (.inr ⟨x, Nat.zero_le _⟩)))
      · exact .inr (.inr (.inl x))
    · exact x.elim
theorem Prop13.legs_end {m T : Nat} {I D : Tab} {p : Nat × Nat} {q : List (Nat × Nat)} {e : Bool} (h : Prop13 m T I D q e (Legs p m)) : Prop13 m T I D q e fun _ _ _ => False :=
  h.weaken fun _ i j k hi _ hk _ _ _ x => by
    rcases x with x | x | x
    · exact .inr (.inl x)
    · exact .inr (.inr (.inl x))
    · rcases x with x | x
      · exact absurd x.2 (by omega)
      · exact absurd x.2 (by omega)
theorem Prop13.legs_skip {m T : Nat} {I D : Tab} {a b c : Nat} {q : List (Nat × Nat)} {e : Bool} (h : Prop13 m T I D q e (Legs (pr a b) c)) (hc : c = a ∨ c = b) : Prop13 m T I D q e (Legs (pr a b) (c + 1)) :=
  h.weaken fun _ i j k _ _ _ n1 n2 n3 x => by
    rcases x with x | x | x
    · exact .inr (.inl x)
    · exact .inr (.inr (.inl x))
    · refine .inr (.inr (.inr ?_))
      rcases x with ⟨x, y⟩ | ⟨x, y⟩
      · refine .inl ⟨x, ?_⟩
        have := pr_eq x
        omega
      · refine .inr ⟨x, ?_⟩
        have := pr_eq x
        omega
/-- Behind the first of the two steps of a third event. -/
def Legs1 (a b c : Nat) (i j k : Nat) : Prop := Legs (pr a b) (c + 1) i j k ∨ (i = b ∧ j = a ∧ k = c) ∨ (i = c ∧ j = a ∧ k = b)
theorem legs_first {a b c i j k : Nat} (h : Legs (pr a b) c i j k) : Legs1 a b c i j k ∨ (i = a ∧ j = b ∧ k = c) ∨ (i = c ∧ j = b ∧ k = a) := by
  rcases h with ⟨x, y⟩ | ⟨x, y⟩
  · by_cases e : k = c
    · rcases pr_eq x with ⟨e1, e2⟩ | ⟨e1, e2⟩
      · exact .inr (.inl ⟨e1, e2, e⟩)
      · exact .inl (.inr (.inl ⟨e1, e2, e⟩))
    · exact .inl (.inl (.inl ⟨x, by omega⟩))
  · by_cases e : i = c
    · rcases pr_eq x with ⟨e1, e2⟩ | ⟨e1, e2⟩
      · exact .inl (.inr (.inr ⟨e, e1, e2⟩))
      · exact .inr (.inr ⟨e, e1, e2⟩)
    · exact .inl (.inl (.inr ⟨x, by omega⟩))
theorem legs_second {a b c i j k : Nat} (h : Legs1 a b c i j k) : Legs (pr a b) (c + 1) i j k ∨ (i = b ∧ j = a ∧ k = c) ∨ (i = c ∧ j = a ∧ k = b) := h

/-- What is left to do. -/
def mu (m T : Nat) (D : Tab) (q : List (Nat × Nat)) : Nat := totT m T D * (m * m + 1) + q.length
theorem mu_lt {m T : Nat} {D D' : Tab} {q q' : List (Nat × Nat)} (h : totT m T D' < totT m T D) (hq : q'.length ≤ m * m) : mu m T D' q' < mu m T D q := by
  unfold mu
  have := Nat.mul_le_mul_right (m * m + 1) h
  rw [Nat.succ_mul] at this
  omega
theorem tot_res {m T : Nat} {D : Tab} {a b : Nat} {S : Nat → Bool} (hab : a ≠ b) (ha : a < m) (hb : b < m) (hs : SymT m T D) (h : cntN (fun x => D a b x && S x) T ≠ cntN (D a b) T) : totT m T (resT T D a b S) < totT m T D := by
  refine tot_lt (resT_sub hab ha hb hs) ha hb fun e => h ?_
  rw [← e]
  exact cntN_congr fun x _ => resT_ab.symm

/-- The outcome. -/
structure Fin13 (m T : Nat) (I D : Tab) (e : Bool) : Prop where
  great : Great m T I D
  sym : SymT m T D
  emp : e = true → 0 < m ∧ ∀ i j x, D i j x = false
  non : e = false → (∀ i j, i < m → j < m → ¬ NoneAt T (D i j)) ∧ ∀ i, i < m → ∀ x, x < T → D i i x = decide (x = 0)
theorem Prop13.fin {m T : Nat} (h1 : 1 ≤ T) {I D : Tab} (h : Prop13 m T I D [] false fun _ _ _ => False) : Fin13 m T I D false :=
  ⟨h.done h1, h.sym, (fun q => by cases q), fun _ => ⟨h.non rfl, h.diag⟩⟩
theorem Prop13.finE {m T : Nat} {I D : Tab} {q : List (Nat × Nat)} {X : Nat → Nat → Nat → Prop} (h : Prop13 m T I D q true X) : Fin13 m T I (fun _ _ _ => false) true := by
  obtain ⟨i, j, hi, hj, hn⟩ := h.emp rfl
  exact ⟨great_none h.max hi hj hn, fun _ _ _ _ _ _ => rfl, fun _ => ⟨by omega, fun _ _ _ => rfl⟩, (fun q => by cases q)⟩

end RP

namespace RP

/-- The table before an activity is looked at. -/
def baseT : Tab := fun i j x => if i = j then decide (x = 0) else true
/-- What holds while the activities are looked at. -/
structure Ini (m T : Nat) (D : Tab) (e : Bool) : Prop where
  sym : SymT m T D
  diag : ∀ i, i < m → ∀ x, x < T → D i i x = decide (x = 0)
  emp : e = true → ∃ i j, i < m ∧ j < m ∧ NoneAt T (D i j)
  non : e = false → ∀ i j, i < m → j < m → ¬ NoneAt T (D i j)
theorem res_zero {T : Nat} (h1 : 1 ≤ T) {x : Nat} (hx : x < T) : res T (-(x : Int)) = 0 ↔ x = 0 := by
  refine ⟨fun h => ?_, fun h => by subst h; simp [res]⟩
  have := res_neg_neg h1 hx
  rw [h] at this
  simp [res] at this
  exact this.symm
theorem Ini.base {m T : Nat} (h1 : 1 ≤ T) : Ini m T baseT false where
  sym := fun i j _ _ x hx => by
    unfold baseT
    by_cases e : i = j
    · subst e
      simp only [if_true]
      rw [decide_eq_decide.2 (res_zero h1 hx).symm]
    · rw [if_neg e, if_neg (Ne.symm e)]
  diag := fun i _ x _ => by simp [baseT]
  emp := fun h => by cases h
  non := fun _ i j _ _ h => by
    have := h 0 (by omega)
    simp [baseT] at this
theorem Ini.step {m T : Nat} (h1 : 1 ≤ T) {D : Tab} {e : Bool} (h : Ini m T D e) {a b : Nat} {S : Nat → Bool} (ha : a < m) (hb : b < m) (hab : a ≠ b) : Ini m T (resT T D a b S) (e || decide (cntN (fun x => D a b x && S x) T = 0)) where
  sym := resT_sym h1 hab ha hb h.sym
  diag := fun i hi x hx => by rw [resT_other (fun e => hab (e.1.symm.trans e.2)) (fun e => hab (e.2.symm.trans e.1)), h.diag i hi x hx]
  emp := fun q => by
    rw [Bool.or_eq_true, decide_eq_true_eq] at q
    rcases q with q | q
    · obtain ⟨i, j, hi, hj, hn⟩ := h.emp q
      refine ⟨i, j, hi, hj, fun x hx => ?_⟩
      cases q : resT T D a b S i j x with
      | false => rfl
      | true => have := resT_sub hab ha hb h.sym i j hi hj x hx q; rw [hn x hx] at this; cases this
    · refine ⟨a, b, ha, hb, none_iff.2 ?_⟩
      rw [← q]
      exact cntN_congr fun x _ => resT_ab
  non := fun q => by
    rw [Bool.or_eq_false_iff, decide_eq_false_iff_not] at q
    intro i j hi hj hn
    by_cases ei : i = a ∧ j = b
    · obtain ⟨rfl, rfl⟩ := ei
      refine q.2 ((cntN_congr fun x _ => ?_).trans (none_iff.1 hn))
      exact resT_ab.symm
    · by_cases ei' : i = b ∧ j = a
      · obtain ⟨rfl, rfl⟩ := ei'
        refine q.2 (none_iff.1 fun x hx => ?_)
        have := hn (res T (-(x : Int))) (res_lt h1 _)
        rw [resT_ba hab, res_neg_neg h1 hx] at this
        exact this
      · exact h.non q.1 i j hi hj fun x hx => by have := hn x hx; rw [resT_other ei ei'] at this; exact this
/-- A restriction that takes nothing away. -/
theorem Ini.same {m T : Nat} (h1 : 1 ≤ T) {D : Tab} {e : Bool} (h : Ini m T D e) {a b : Nat} {S : Nat → Bool} (ha : a < m) (hb : b < m) (hab : a ≠ b) (hc : cntN (fun x => D a b x && S x) T = cntN (D a b) T) :
    (∀ i j, i < m → j < m → ∀ x, x < T → D i j x = resT T D a b S i j x) ∧ (e || decide (cntN (fun x => D a b x && S x) T = 0)) = e := by
  have hx := cnt_eq (fun x _ q => (Bool.and_eq_true _ _ ▸ q).1) hc
  refine ⟨fun i j hi hj x hx' => ?_, ?_⟩
  · by_cases ei : i = a ∧ j = b
    · obtain ⟨rfl, rfl⟩ := ei
      rw [resT_ab]; exact (hx x hx').symm
    · by_cases ei' : i = b ∧ j = a
      · obtain ⟨rfl, rfl⟩ := ei'
        rw [resT_ba hab, h.sym j i hj hi x hx']
        exact (hx _ (res_lt h1 _)).symm
      · rw [resT_other ei ei']
  · cases e with
    | true => rfl
    | false =>
      rw [Bool.false_or, decide_eq_false_iff_not, hc]
      exact fun q => h.non rfl a b ha hb (none_iff.2 q)
/-- The pairs all wait. -/
theorem Ini.start {m T : Nat} {D : Tab} {e : Bool} (h : Ini m T D e) {q : List (Nat × Nat)} (hq : ∀ i j, i < j → j < m → (i, j) ∈ q) : Prop13 m T D D q e fun _ _ _ => False :=
  ⟨SubT.refl _ _ _, fun _ h _ => h, h.sym, h.diag, h.emp, h.non, fun _ i j k hi hj hk n1 n2 n3 => .inr (.inl (by
    unfold pr
    exact hq _ _ (by omega) (by omega)))⟩

theorem arc_full {T : Nat} (h1 : 1 ≤ T) {x : Nat} : arcB T (0 % (T : Int)) T x = true := by
  unfold arcB
  rw [decide_eq_true_eq]
  exact Int.emod_lt_of_pos _ (by omega)
theorem arc_one {T : Nat} (h1 : 1 ≤ T) {x : Nat} (hx : x < T) : arcB T (0 % (T : Int)) 1 x = decide (x = 0) := by
  unfold arcB
  rw [decide_eq_decide, Int.zero_emod, Int.sub_zero, Int.emod_eq_of_lt (by omega) (by omega)]
  omega

/-- While the first sets are laid. -/
def fillT (i j : Nat) : Tab := fun a b x => if a < i then baseT a b x else if a = i ∧ b < j then true else false
theorem fill_zero : fillT 0 0 = fun _ _ _ => false := by
  funext a b x; simp [fillT]
theorem fill_end {i m : Nat} : ∀ a b, a < i → b < m → ∀ x, fillT i 0 a b x = baseT a b x := fun a b ha _ x => by simp [fillT, ha]

/-- The restriction of a table by an activity, and by a list of them. -/
def actT (T : Nat) (D : Tab) (a b : Int) (lo hi : Int) : Tab := resT T D a.toNat b.toNat (arcB T (lo % (T : Int)) (hi - lo + 1))

end RP
