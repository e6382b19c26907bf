/-
  Jobs that stand 50 seconds apart: each is placed at its start with its first option; plain facts.
-/
import Derived.Test.YtlillkfelfoafaaDivMd
set_option linter.unusedVariables false
set_option linter.unusedSimpArgs false
namespace Go.Proofs.Ytlillkfelfoafaa
open RP

/-- Made jobs whose starts are 50, 100, .. -/
structure FarJ (jobs : List JobP) : Prop where
  st : ∀ i < jobs.length, (jobAt jobs i).start = 50 * ((i : Int) + 1)
  op : ∀ j ∈ jobs, 1 ≤ j.opts.length ∧ j.opts.length ≤ 2 ∧ ∀ o ∈ j.opts, MadeOp 6 o.steps o.occs
  l1 : jobs.length ≤ 3
theorem FarJ.ok {jobs : List JobP} (h : FarJ jobs) : checkJ jobs = true := by
  refine checkJ_iff.2 ⟨by have := h.l1; omega, fun j hj => ?_⟩
  obtain ⟨i, hi, rfl⟩ := List.mem_iff_getElem.1 hj
  have hs := h.st i hi
  rw [show jobAt jobs i = jobs[i] from by simp [jobAt, List.getD_eq_getElem?_getD, hi]] at hs
  obtain ⟨o0, o1, o2⟩ := h.op _ hj
  have := h.l1
  exact okJob_iff.2 ⟨⟨by omega, by omega⟩, ⟨o0, by omega⟩, fun o ho => (o2 o ho).valid⟩
theorem FarJ.ord {jobs : List JobP} (h : FarJ jobs) : InOrd jobs (List.range jobs.length) :=
  ⟨List.Perm.refl _, by
    rw [List.pairwise_iff_getElem]
    intro i j hi hj hij
    rw [List.length_range] at hi hj
    rw [List.getElem_range, List.getElem_range]
    left
    rw [h.st i hi, h.st j hj]
    omega⟩
theorem FarJ.opt {jobs : List JobP} (h : FarJ jobs) {i : Nat} (hi : i < jobs.length) : MadeOp 6 (optAt (jobAt jobs i) 0).steps (optAt (jobAt jobs i) 0).occs := by
  obtain ⟨o0, _, o2⟩ := h.op (jobAt jobs i) (getD_mem' hi _)
  exact o2 _ (getD_mem' (by omega) _)
theorem far_no {a b : OptP} (ha : MadeOp 6 a.steps a.occs) (hb : MadeOp 6 b.steps b.occs) {x y : Int} (h : x + 50 ≤ y) : meetB a x b y = false := by
  unfold meetB
  rw [Bool.and_eq_false_iff]
  right
  rw [Bool.and_eq_false_iff]
  right
  rw [List.any_eq_false]
  intro c hc
  rw [Bool.not_eq_true, List.any_eq_false]
  intro d hd
  rw [Bool.not_eq_true, Bool.and_eq_false_iff]
  right
  rw [← Bool.not_eq_true, touch_iff]
  have := ha.oc c hc
  have := hb.oc d hd
  omega
theorem free_admits {o : OptP} (h : MadeOp 6 o.steps o.occs) {x : Int} (h0 : 0 ≤ x) (h1 : x ≤ 1099511627776) : admitsB [] [] o x = true := by
  unfold admitsB
  rw [h.valid, bigB_iff.2 ⟨h0, h1⟩, Bool.true_and, Bool.true_and, Bool.and_eq_true]
  refine ⟨?_, rfl⟩
  unfold entersC
  rw [Bool.and_eq_true, List.all_eq_true]
  refine ⟨by unfold smallC; rw [Bool.and_eq_true, decide_eq_true_eq, decide_eq_true_eq]; omega, fun z hz => ?_⟩
  have := h.oc z hz
  rw [Bool.and_eq_true]
  exact ⟨by unfold smallC; rw [Bool.and_eq_true, decide_eq_true_eq, decide_eq_true_eq]; omega, rfl⟩
def farL (n k : Nat) : List Cho := (List.range n).map fun i => if i < k then (0, 50 * ((i : Int) + 1)) else (-1, 0)
theorem farL_get {n k i : Nat} (hi : i < n) : (farL n k).getD i (0, 0) = if i < k then (0, 50 * ((i : Int) + 1)) else (-1, 0) := by
  unfold farL
  rw [List.getD_eq_getElem?_getD, List.getElem?_map, List.getElem?_range hi]; rfl
theorem farL_set {n k : Nat} : (farL n k).set k (0, 50 * ((k : Int) + 1)) = farL n (k + 1) := by
  refine List.ext_getElem? fun i => ?_
  unfold farL
  rw [List.getElem?_set, List.getElem?_map, List.getElem?_map, List.length_map, List.length_range]
  by_cases hin : i < n
  · rw [List.getElem?_range hin]
    by_cases hik : k = i
    · subst hik
      simp [hin]
    · have e1 : (i < k) = (i < k + 1) := by simp; omega
      simp [hik, e1]
  · have e2 : (List.range n)[i]? = none := by simp; omega
    rw [e2]
    by_cases hik : k = i
    · subst hik; simp [hin]
    · simp [hik]
theorem far_plan {jobs : List JobP} (h : FarJ jobs) (M : Nat) : ∀ k, k ≤ jobs.length → planF jobs [] [] M ((List.range jobs.length).take k) = (farL jobs.length k, k)
  | 0, _ => by
    show (List.replicate jobs.length ((-1, 0) : Cho), 0) = _
    unfold farL
    rw [Prod.mk.injEq]
    refine ⟨?_, rfl⟩
    refine List.ext_getElem (by simp) fun i h1 h2 => ?_
    simp
  | k + 1, hk => by
    have hk' : k < (List.range jobs.length).length := by rw [List.length_range]; omega
    rw [planF_snoc jobs [] [] M hk', far_plan h M k (by omega), List.getElem_range]
    obtain ⟨o0, o1, _⟩ := h.op (jobAt jobs k) (getD_mem' (by omega) _)
    have hst := h.st k (by omega)
    have hl := h.l1
    have e1 : (0 : Nat) % (jobAt jobs k).opts.length = 0 := Nat.zero_mod _
    have e2 : (0 : Nat) / (jobAt jobs k).opts.length = 0 := Nat.zero_div _
    have hc : candOk jobs [] [] (farL jobs.length k) k 0 = true := by
      unfold candOk permB
      rw [e1, e2, Bool.and_eq_true, List.all_eq_true]
      refine ⟨free_admits (h.opt (by omega)) (by rw [hst]; omega) (by rw [hst]; omega), fun i hi => ?_⟩
      rw [List.mem_range] at hi
      have hin : i < jobs.length := by simpa [farL] using hi
      rw [farL_get hin]
      by_cases hik : i < k
      · rw [if_pos hik, Bool.or_eq_true]
        right
        rw [Bool.not_eq_true', hst]
        exact far_no (h.opt hin) (h.opt (by omega)) (by show 50 * ((i : Int) + 1) + 50 ≤ _; omega)
      · rw [if_neg hik]; rfl
    have hp : placeN jobs [] [] M (farL jobs.length k) k = some 0 :=
      find_here (Nat.mul_pos (by omega) (by omega)) hc (fun s hs => by omega)
    unfold placeStep
    simp only [hp, foundC, choOf, e1, e2]
    rw [hst]
    rw [Prod.mk.injEq]
    refine ⟨?_, rfl⟩
    have := farL_set (n := jobs.length) (k := k)
    rw [← this]
    congr 1
/-- What Plan gives. -/
theorem far_is {jobs : List JobP} (h : FarJ jobs) {M : Int} (h0 : 0 ≤ M) (h1 : M ≤ 3600) {l : List Cho} {n e : Int} (hp : PlanIs jobs [] [] M 1048576 l n e) : e = 0 ∧ n = jobs.length ∧ l.length = jobs.length ∧ ∀ i < l.length, l.getD i (0, 0) = (0, 50 * ((i : Int) + 1)) := by
  have hl := h.l1
  rcases hp with ⟨a, _⟩ | ⟨_, b, _⟩ | ⟨_, _, _, _, _, o, ho, hq⟩
  · rw [h.ok] at a; cases a
  · omega
  · rw [ho.unique h.ord] at hq
    have hf := far_plan h M.toNat jobs.length (Nat.le_refl _)
    rw [List.take_of_length_le (by rw [List.length_range]; omega)] at hf
    rw [hf] at hq
    rcases hq with ⟨hx, _⟩ | ⟨_, rfl, rfl, rfl⟩
    · simp only at hx; omega
    · have e3 : (farL jobs.length jobs.length).length = jobs.length := by simp [farL]
      refine ⟨rfl, rfl, e3, fun i hi => ?_⟩
      rw [e3] at hi
      simp only
      rw [farL_get hi, if_pos hi]
end Go.Proofs.Ytlillkfelfoafaa
