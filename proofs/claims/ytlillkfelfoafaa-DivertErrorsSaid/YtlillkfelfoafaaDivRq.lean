/-
  How the reference's search goes; plain facts.
-/
import Derived.Test.YtlillkfelfoafaaDivOp
set_option linter.unusedVariables false
set_option linter.unusedSimpArgs false
namespace Go.Proofs.Ytlillkfelfoafaa
open RP

/-- The reference's choices agree with the plan on the jobs that had their turn. -/
structure Agr (jobs : List JobP) (cl : List Clo) (ow : List OWy) (M : Nat) (ord : List Nat) (n : Nat) (ou : List Cho) : Prop where
  len : ou.length = jobs.length
  eq : ∀ i ∈ ord.take n, ou.getD i (0, 0) = (planF jobs cl ow M (ord.take n)).1.getD i (0, 0)
section
variable {jobs : List JobP} {cl : List Clo} {ow : List OWy} {M : Nat} {ord : List Nat} {n : Nat} {ou : List Cho}
def cndB (jobs : List JobP) (cl : List Clo) (ow : List OWy) (M : Nat) (ord : List Nat) (n i t : Nat) : Bool := candOk jobs cl ow (planF jobs cl ow M (ord.take n)).1 i t
theorem Agr.cnd (h : Agr jobs cl ow M ord n ou) (ho : InOrd jobs ord) (i t : Nat) :
    cndB jobs cl ow M ord n i t = (admitsB cl ow (optAt (jobAt jobs i) (t % (jobAt jobs i).opts.length)) ((jobAt jobs i).start + (t / (jobAt jobs i).opts.length : Nat)) && plcB jobs ou (ord.take n) (optAt (jobAt jobs i) (t % (jobAt jobs i).opts.length)) ((jobAt jobs i).start + (t / (jobAt jobs i).opts.length : Nat))) := by
  have hm : ∀ i ∈ ord.take n, i < jobs.length := fun i hi => ho.mem.1 (List.mem_of_mem_take hi)
  unfold cndB candOk
  exact perm_plc (fun i hi => by rw [planF_len]; exact hm i hi) h.eq (fun i hi hn => by
    rw [planF_len] at hi
    rw [planF_not jobs cl ow M _ hi hn]; show (-1 : Int) < 0; omega)
theorem Agr.rng (h : Agr jobs cl ow M ord n ou) (ho : InOrd jobs ord) (hj : checkJ jobs = true) : ∀ i ∈ ord.take n, i < jobs.length ∧ i < ou.length ∧ ((ou.getD i (0, 0)).1 < 0 ∨ ∃ k : Nat, (ou.getD i (0, 0)).1 = (k : Int) ∧ k < (jobAt jobs i).opts.length) := fun i hi => by
  have hlt := ho.mem.1 (List.mem_of_mem_take hi)
  refine ⟨hlt, by rw [h.len]; exact hlt, ?_⟩
  rw [h.eq i hi]
  rcases planF_at jobs cl ow M (ord.take n) i hlt with e | ⟨t, _, e⟩
  · left; rw [e]; show (-1 : Int) < 0; omega
  · right
    have hK := (okJob_iff.1 ((checkJ_iff.1 hj).2 (jobAt jobs i) (getD_mem' hlt _))).2.1.1
    obtain ⟨_, q2, q3, _⟩ := choOf_get (t := t) hK
    rw [e]
    exact ⟨(choOf (jobAt jobs i) t).1.toNat, by omega, by omega⟩
theorem Agr.start (ou : List Cho) (h : ou.length = jobs.length) : Agr jobs cl ow M ord 0 ou := ⟨h, fun i hi => by simp at hi⟩
theorem getD_set_eq {l : List Cho} {i : Nat} (c : Cho) (h : i < l.length) : (l.set i c).getD i (0, 0) = c := by
  rw [List.getD_eq_getElem?_getD, List.getElem?_set_self h]; rfl
theorem getD_set_ne {l : List Cho} {i j : Nat} (c : Cho) (h : i ≠ j) : (l.set i c).getD j (0, 0) = l.getD j (0, 0) := by
  rw [List.getD_eq_getElem?_getD, List.getElem?_set_ne h, List.getD_eq_getElem?_getD]
/-- Writing the choice of the job that has its turn keeps the agreement on those before it. -/
theorem Agr.set (h : Agr jobs cl ow M ord n ou) (ho : InOrd jobs ord) (hn : n < ord.length) (c : Cho) : Agr jobs cl ow M ord n (ou.set ord[n] c) :=
  ⟨by rw [List.length_set]; exact h.len, fun i hi => by
    have hne : ord[n] ≠ i := fun e => by
      obtain ⟨m, hm, e2⟩ := List.mem_take_iff_getElem.1 hi
      exact List.pairwise_iff_getElem.1 ho.nodup m n (by omega) hn (by omega) (e2.trans e.symm)
    rw [getD_set_ne c hne]; exact h.eq i hi⟩
/-- What the search has come to: nothing among the first t candidates, or the first that is permitted. -/
def SrO (jobs : List JobP) (cl : List Clo) (ow : List OWy) (M : Nat) (ord : List Nat) (n i t : Nat) (ou : List Cho) (u : Int) : Prop :=
  (ou.getD i (0, 0) = (-1, 0) ∧ (∀ s, s < t → cndB jobs cl ow M ord n i s = false) ∧ u = ((planF jobs cl ow M (ord.take n)).2 : Int) + t) ∨
  (∃ s, s < (M + 1) * (jobAt jobs i).opts.length ∧ s < t ∧ cndB jobs cl ow M ord n i s = true ∧ (∀ r, r < s → cndB jobs cl ow M ord n i r = false) ∧ ou.getD i (0, 0) = choOf (jobAt jobs i) s ∧ u = ((planF jobs cl ow M (ord.take n)).2 : Int) + (s + 1 : Nat))
theorem SrO.done (h : Agr jobs cl ow M ord n ou) (ho : InOrd jobs ord) (hn : n < ord.length) {u : Int} (hs : SrO jobs cl ow M ord n ord[n] ((M + 1) * (jobAt jobs ord[n]).opts.length) ou u) :
    Agr jobs cl ow M ord (n + 1) ou ∧ u = ((planF jobs cl ow M (ord.take (n + 1))).2 : Int) := by
  have hlt : ord[n] < jobs.length := ho.mem.1 (List.getElem_mem hn)
  rw [show planF jobs cl ow M (ord.take (n + 1)) = placeStep jobs cl ow M (planF jobs cl ow M (ord.take n)) ord[n] from planF_snoc jobs cl ow M hn]
  have hf : ou.getD ord[n] (0, 0) = (foundC (jobAt jobs ord[n]) M (placeN jobs cl ow M (planF jobs cl ow M (ord.take n)).1 ord[n])).1 ∧ u = ((planF jobs cl ow M (ord.take n)).2 : Int) + ((foundC (jobAt jobs ord[n]) M (placeN jobs cl ow M (planF jobs cl ow M (ord.take n)).1 ord[n])).2 : Nat) := by
    rcases hs with ⟨h1, h2, h3⟩ | ⟨s, h0, _, h1, h2, h3, h4⟩
    · have hp : placeN jobs cl ow M (planF jobs cl ow M (ord.take n)).1 ord[n] = none := find_no h2
      rw [hp]
      exact ⟨h1, h3⟩
    · have hp : placeN jobs cl ow M (planF jobs cl ow M (ord.take n)).1 ord[n] = some s := find_here h0 h1 h2
      rw [hp]
      exact ⟨h3, h4⟩
  refine ⟨⟨h.len, fun i hi => ?_⟩, by rw [hf.2]; unfold placeStep; simp only; omega⟩
  rw [show planF jobs cl ow M (ord.take (n + 1)) = placeStep jobs cl ow M (planF jobs cl ow M (ord.take n)) ord[n] from planF_snoc jobs cl ow M hn]
  unfold placeStep
  simp only
  by_cases e : ord[n] = i
  · subst e
    rw [getD_set_eq _ (by rw [planF_len]; exact hlt), hf.1]
  · rw [getD_set_ne _ e]
    refine h.eq i ?_
    rw [List.take_succ_eq_append_getElem hn] at hi
    rcases List.mem_append.1 hi with hi | hi
    · exact hi
    · exact absurd (List.mem_singleton.1 hi).symm e
theorem Agr.full (h : Agr jobs cl ow M ord ord.length ou) (ho : InOrd jobs ord) : ou = (planF jobs cl ow M ord).1 := by
  have he := h.eq
  rw [List.take_length] at he
  refine List.ext_getElem (by rw [h.len, planF_len]) fun i h1 h2 => ?_
  have := he i (ho.mem.2 (by rw [h.len] at h1; exact h1))
  rw [List.getD_eq_getElem?_getD, List.getElem?_eq_getElem h1, List.getD_eq_getElem?_getD, List.getElem?_eq_getElem h2] at this
  exact this
/-- The budget is spent: the plan spends more. -/
theorem SrO.over (ho : InOrd jobs ord) (hn : n < ord.length) {t : Nat} (ht : t < (M + 1) * (jobAt jobs ord[n]).opts.length) (h2 : ∀ s, s < t → cndB jobs cl ow M ord n ord[n] s = false) {B : Int} (hB : B < ((planF jobs cl ow M (ord.take n)).2 : Int) + t + 1) : B < ((planF jobs cl ow M ord).2 : Int) := by
  have hm := planF_mono jobs cl ow M ord (n + 1) (by omega)
  rw [show planF jobs cl ow M (ord.take (n + 1)) = placeStep jobs cl ow M (planF jobs cl ow M (ord.take n)) ord[n] from planF_snoc jobs cl ow M hn] at hm
  unfold placeStep at hm
  simp only at hm
  have hf : t + 1 ≤ (foundC (jobAt jobs ord[n]) M (placeN jobs cl ow M (planF jobs cl ow M (ord.take n)).1 ord[n])).2 := by
    cases hp : placeN jobs cl ow M (planF jobs cl ow M (ord.take n)).1 ord[n] with
    | none => show t + 1 ≤ (M + 1) * _; omega
    | some s =>
      show t + 1 ≤ s + 1
      have hc : candOk jobs cl ow (planF jobs cl ow M (ord.take n)).1 ord[n] s = true := List.find?_some hp
      apply Classical.byContradiction
      intro q
      have := h2 s (by omega)
      unfold cndB at this
      rw [this] at hc; cases hc
  omega
end
end Go.Proofs.Ytlillkfelfoafaa
