/-
  Plain: the table of the differences of times is closed; it lies in the initial table exactly if the times satisfy the activities.
  Plain: the greatest closed table of the example of chapter 13.
-/
import Derived.Test.YtbhjnihcmfagjaaCloseA
import Derived.Test.YtbhjnihcmfagjaaPlain
set_option linter.unusedVariables false
set_option linter.unusedSimpArgs false
namespace RP
/-- The table of the differences of times. -/
def singT (T : Nat) (t : Nat → Int) : Tab := fun i j x => decide (x = res T (t j - t i))
section
variable {m T : Nat} {t : Nat → Int}
theorem sing_at (i j : Nat) : singT T t i j (res T (t j - t i)) = true := by simp [singT]
theorem sing_closed (h1 : 1 ≤ T) : ClosedT m T (singT T t) := fun i j k _ _ _ x _ q => by
  simp only [singT, decide_eq_true_eq] at q
  refine sumB_iff.2 ⟨res T (t j - t i), res_lt h1 _, sing_at i j, ?_⟩
  simp only [singT, decide_eq_true_eq]
  obtain ⟨a, ha⟩ := res_sub (T := T) h1 (t j - t i)
  obtain ⟨b, hb⟩ := res_sub (T := T) h1 (t k - t i)
  rw [q, ha, hb]
  exact res_of (a - b) (by rw [Int.mul_sub]; omega)
theorem sing_base (h1 : 1 ≤ T) : SubT m T (singT T t) baseT := fun i j _ _ x hx q => by
  simp only [singT, decide_eq_true_eq] at q
  unfold baseT
  by_cases h : i = j
  · subst h
    rw [if_pos rfl, q, Int.sub_self, decide_eq_true_eq]
    simp [res]
  · rw [if_neg h]
theorem sing_step (h1 : 1 ≤ T) {D : Tab} (h : SubT m T (singT T t) D) {a b : Nat} {S : Nat → Bool} (ha : a < m) (hb : b < m) (hs : S (res T (t b - t a)) = true) : SubT m T (singT T t) (resT T D a b S) := fun i j hi hj x hx q => by
  have q' := q
  simp only [singT, decide_eq_true_eq] at q
  unfold resT
  by_cases e : i = a ∧ j = b
  · obtain ⟨rfl, rfl⟩ := e
    rw [if_pos ⟨rfl, rfl⟩, Bool.and_eq_true]
    exact ⟨h i j hi hj x hx q', by rw [q]; exact hs⟩
  · rw [if_neg e]
    by_cases e' : i = b ∧ j = a
    · obtain ⟨rfl, rfl⟩ := e'
      have hr : res T (-(x : Int)) = res T (t i - t j) := by
        obtain ⟨k, hk⟩ := res_sub (T := T) h1 (t j - t i)
        rw [q, hk]
        exact res_of k (by omega)
      rw [if_pos ⟨rfl, rfl⟩, Bool.and_eq_true, hr]
      exact ⟨h j i hj hi _ (res_lt h1 _) (sing_at j i), hs⟩
    · rw [if_neg e']
      exact h i j hi hj x hx q'
/-- The duration of an activity for times, beyond its lower bound. -/
def overT (T : Nat) (t : Nat → Int) (a : Acy) : Int := (t a.dst.toNat - t a.src.toNat - a.lo) % T
theorem over_arc (h1 : 1 ≤ T) {a : Acy} (h : overT T t a ≤ a.hi - a.lo) : arcB T (a.lo % (T : Int)) (a.hi - a.lo + 1) (res T (t a.dst.toNat - t a.src.toNat)) = true := by
  unfold arcB
  rw [decide_eq_true_eq, res_val h1, ← Int.sub_emod]
  unfold overT at h
  omega
theorem sing_init (h1 : 1 ≤ T) : ∀ l : List Acy, (∀ a ∈ l, okA m T a) → (∀ a ∈ l, overT T t a ≤ a.hi - a.lo) → SubT m T (singT T t) (initT T l) := fun l => by
  have : ∀ k, k ≤ l.length → (∀ a ∈ l, okA m T a) → (∀ a ∈ l, overT T t a ≤ a.hi - a.lo) → SubT m T (singT T t) (initT T (l.take k)) := fun k => by
    induction k with
    | zero => exact fun _ _ _ => sing_base h1
    | succ k ih =>
      intro hk ho hv
      rw [List.take_succ_eq_append_getElem (by omega), initT_snoc]
      have h2 := ho l[k] (List.getElem_mem _)
      unfold okA at h2
      exact sing_step h1 (ih (by omega) ho hv) (by omega) (by omega) (over_arc h1 (hv _ (List.getElem_mem _)))
  intro ho hv
  have h := this l.length (Nat.le_refl _) ho hv
  rwa [List.take_length] at h
theorem sing_great (h1 : 1 ≤ T) {l : List Acy} {D : Tab} (hg : Great m T (initT T l) D) (ho : ∀ a ∈ l, okA m T a) (hv : ∀ a ∈ l, overT T t a ≤ a.hi - a.lo) : ∀ i j, i < m → j < m → D i j (res T (t j - t i)) = true :=
  fun i j hi hj => hg.max _ (sing_init h1 l ho hv) (sing_closed h1) i j hi hj _ (res_lt h1 _) (sing_at i j)
end
end RP

namespace RP
def exL : List Acy := [⟨0, 0, 1, 2, 3, 0⟩, ⟨0, 1, 2, 4, 4, 0⟩, ⟨0, 0, 2, 7, 9, 0⟩]
def exT (i : Nat) : Int := if i = 0 then 0 else if i = 1 then 3 else 7
theorem exL_ok : netB 10 3 exL = true := by decide
section
variable {D : Tab} (h : Great 3 10 (initT 10 exL) D)
include h
theorem ex_sing : ∀ i j, i < 3 → j < 3 → D i j (res 10 (exT j - exT i)) = true :=
  sing_great (by omega) h (by have := (netB_iff.1 exL_ok).2; simpa using this) (by decide)
theorem ex_01 : ∀ x, x < 10 → D 0 1 x = true → x = 2 ∨ x = 3 := fun x hx q => by
  have := h.sub 0 1 (by omega) (by omega) x hx q
  clear q; revert this; revert x; decide
theorem ex_12 : ∀ x, x < 10 → D 1 2 x = true → x = 4 := fun x hx q => by
  have := h.sub 1 2 (by omega) (by omega) x hx q
  clear q; revert this; revert x; decide
theorem ex_21 : ∀ x, x < 10 → D 2 1 x = true → x = 6 := fun x hx q => by
  have := h.sub 2 1 (by omega) (by omega) x hx q
  clear q; revert this; revert x; decide
theorem ex_02' : ∀ x, x < 10 → D 0 2 x = true → x = 7 ∨ x = 8 ∨ x = 9 := fun x hx q => by
  have := h.sub 0 2 (by omega) (by omega) x hx q
  clear q; revert this; revert x; decide
theorem ex_02 : ∀ x, x < 10 → D 0 2 x = true → x = 7 := fun x hx q => by
  obtain ⟨a, ha, p, r⟩ := sumB_iff.1 (h.closed 0 1 2 (by omega) (by omega) (by omega) x hx q)
  have h1 := ex_01 h a ha p
  have h2 := ex_12 h _ (res_lt (by omega) _) r
  have h3 := ex_02' h x hx q
  have := res_val (T := 10) (by omega) ((x : Int) - a)
  omega
theorem ex_03 : ∀ x, x < 10 → D 0 1 x = true → x = 3 := fun x hx q => by
  obtain ⟨a, ha, p, r⟩ := sumB_iff.1 (h.closed 0 2 1 (by omega) (by omega) (by omega) x hx q)
  have h1 := ex_02 h a ha p
  have h2 := ex_21 h _ (res_lt (by omega) _) r
  have := res_val (T := 10) (by omega) ((x : Int) - a)
  omega
theorem ex_runs1 : runs (D 0 1) 10 = [(3, 4)] := by
  rw [runs_congr (Q := fun x => decide (x = 3)) (fun x hx => by
    cases q : D 0 1 x with
    | true => rw [ex_03 h x hx q]; rfl
    | false =>
      rw [eq_comm, decide_eq_false_iff_not]
      rintro rfl
      have := ex_sing h 0 1 (by omega) (by omega)
      rw [show res 10 (exT 1 - exT 0) = 3 by decide, q] at this
      cases this)]
  decide
theorem ex_runs2 : runs (D 0 2) 10 = [(7, 8)] := by
  rw [runs_congr (Q := fun x => decide (x = 7)) (fun x hx => by
    cases q : D 0 2 x with
    | true => rw [ex_02 h x hx q]; rfl
    | false =>
      rw [eq_comm, decide_eq_false_iff_not]
      rintro rfl
      have := ex_sing h 0 2 (by omega) (by omega)
      rw [show res 10 (exT 2 - exT 0) = 7 by decide, q] at this
      cases this)]
  decide
end
end RP
