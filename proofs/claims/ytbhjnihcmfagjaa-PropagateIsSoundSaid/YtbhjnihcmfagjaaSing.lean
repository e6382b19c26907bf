/-
  Plain: the table of the differences of times is closed; it lies in the initial table exactly if the times satisfy the activities.
-/
import Derived.Test.YtbhjnihcmfagjaaCloseA
set_option linter.unusedVariables false
set_option linter.unusedSimpArgs false
namespace RP
/-- The table of the differences of times. -/
def singT (T : Nat) (t : Nat → Int) : Tab := fun i j x => decide (x = res T (t j - t i))
section
variable {m T : Nat} {t : Nat → Int}
theorem sing_at (i j : Nat) : singT T t i j (res T (t j - t i)) = true := by simp [singT]
theorem sing_closed (h1 : 1 ≤ T) : ClosedT m T (singT T t) := fun i j k _ _ _ x _ q => by
  simp only [singT, decide_eq_true_eq] at q
  refine sumB_iff.2 ⟨res T (t j - t i), res_lt h1 _, sing_at i j, ?_⟩
  simp only [singT, decide_eq_true_eq]
  obtain ⟨a, ha⟩ := res_sub (T := T) h1 (t j - t i)
  obtain ⟨b, hb⟩ := res_sub (T := T) h1 (t k - t i)
  rw [q, ha, hb]
  exact res_of (a - b) (by rw [Int.mul_sub]; omega)
theorem sing_base (h1 : 1 ≤ T) : SubT m T (singT T t) baseT := fun i j _ _ x hx q => by
  simp only [singT, decide_eq_true_eq] at q
  unfold baseT
  by_cases h : i = j
  · subst h
    rw [if_pos rfl, q, Int.sub_self, decide_eq_true_eq]
    simp [res]
  · rw [if_neg h]
theorem sing_step (h1 : 1 ≤ T) {D : Tab} (h : SubT m T (singT T t) D) {a b : Nat} {S : Nat → Bool} (ha : a < m) (hb : b < m) (hs : S (res T (t b - t a)) = true) : SubT m T (singT T t) (resT T D a b S) := fun i j hi hj x hx q => by
  have q' := q
  simp only [singT, decide_eq_true_eq] at q
  unfold resT
  by_cases e : i = a ∧ j = b
  · obtain ⟨rfl, rfl⟩ := e
    rw [if_pos ⟨rfl, rfl⟩, Bool.and_eq_true]
    exact ⟨h i j hi hj x hx q', by rw [q]; exact hs⟩
  · rw [if_neg e]
    by_cases e' : i = b ∧ j = a
    · obtain ⟨rfl, rfl⟩ := e'
      have hr : res T (-(x : Int)) = res T (t i - t j) := by
        obtain ⟨k, hk⟩ := res_sub (T := T) h1 (t j - t i)
        rw [q, hk]
        exact res_of k (by omega)
      rw [if_pos ⟨rfl, rfl⟩, Bool.and_eq_true, hr]
      exact ⟨h j i hj hi _ (res_lt h1 _) (sing_at j i), hs⟩
    · rw [if_neg e']
      exact h i j hi hj x hx q'
/-- The duration of an activity for times, beyond its lower bound. -/
def overT (T : Nat) (t : Nat → Int) (a : Acy) : Int := (t a.dst.toNat - t a.src.toNat - a.lo) % T
theorem over_arc (h1 : 1 ≤ T) {a : Acy} (h : overT T t a ≤ a.hi - a.lo) : arcB T (a.lo % (T : Int)) (a.hi - a.lo + 1) (res T (t a.dst.toNat - t a.src.toNat)) = true := by
  unfold arcB
  rw [decide_eq_true_eq, res_val h1, ← Int.sub_emod]
  unfold overT at h
  omega
theorem sing_init (h1 : 1 ≤ T) : ∀ l : List Acy, (∀ a ∈ l, okA m T a) → (∀ a ∈ l, overT T t a ≤ a.hi - a.lo) → SubT m T (singT T t) (initT T l) := fun l => by
  have : ∀ k, k ≤ l.length → (∀ a ∈ l, okA m T a) → (∀ a ∈ l, overT T t a ≤ a.hi - a.lo) → SubT m T (singT T t) (initT T (l.take k)) := fun k => by
    induction k with
    | zero => exact fun _ _ _ => sing_base h1
    | succ k ih =>
      intro hk ho hv
      rw [List.take_succ_eq_append_getElem (by omega), initT_snoc]
      have h2 := ho l[k] (List.getElem_mem _)
      unfold okA at h2
      exact sing_step h1 (ih (by omega) ho hv) (by omega) (by omega) (over_arc h1 (hv _ (List.getElem_mem _)))
  intro ho hv
  have h := this l.length (Nat.le_refl _) ho hv
  rwa [List.take_length] at h
theorem sing_great (h1 : 1 ≤ T) {l : List Acy} {D : Tab} (hg : Great m T (initT T l) D) (ho : ∀ a ∈ l, okA m T a) (hv : ∀ a ∈ l, overT T t a ≤ a.hi - a.lo) : ∀ i j, i < m → j < m → D i j (res T (t j - t i)) = true :=
  fun i j hi hj => hg.max _ (sing_init h1 l ho hv) (sing_closed h1) i j hi hj _ (res_lt h1 _) (sing_at i j)
end
end RP
