/-
  What DivertEarliest looks at; plain facts.
-/
import Derived.Test.YtlillkfelfoafaaDivPl
set_option linter.unusedVariables false
set_option linter.unusedSimpArgs false
namespace Go.Proofs.Ytlillkfelfoafaa
open Go.RowKit RP

def fstB (jobs : List JobP) (x i : Nat) : Bool := decide ((jobAt jobs x).start < (jobAt jobs i).start) || (decide ((jobAt jobs x).start = (jobAt jobs i).start) && decide (x < i))
/-- Job x, which stands ahead of job i, blocks a candidate. -/
def blkB (jobs : List JobP) (ch : List Cho) (o : OptP) (s : Int) (i x : Nat) : Bool :=
  fstB jobs x i && (decide (0 ≤ (ch.getD x (0, 0)).1) && (decide ((ch.getD x (0, 0)).1 < ((jobAt jobs x).opts.length : Int)) && meetB (optAt (jobAt jobs x) (ch.getD x (0, 0)).1.toNat) (ch.getD x (0, 0)).2 o s))
structure EaP (jobs : List JobP) (cl : List Clo) (ow : List OWy) (M : Nat) (ch : List Cho) : Prop where
  len : ch.length = jobs.length
  rng : ∀ i < jobs.length, (ch.getD i (0, 0)).1 < 0 ∨ ∃ k : Nat, (ch.getD i (0, 0)).1 = (k : Int) ∧ k < (jobAt jobs i).opts.length
  early : ∀ i < jobs.length, ∀ d ≤ M, ∀ k < (jobAt jobs i).opts.length,
    ((ch.getD i (0, 0)).1 < 0 ∨ (jobAt jobs i).start + (d : Int) < (ch.getD i (0, 0)).2 ∨ ((jobAt jobs i).start + (d : Int) = (ch.getD i (0, 0)).2 ∧ (k : Int) < (ch.getD i (0, 0)).1)) →
    admitsB cl ow (optAt (jobAt jobs i) k) ((jobAt jobs i).start + (d : Int)) = true → (List.range ch.length).any (blkB jobs ch (optAt (jobAt jobs i) k) ((jobAt jobs i).start + (d : Int)) i) = true
theorem eap_of {jobs : List JobP} (hj : checkJ jobs = true) (cl : List Clo) (ow : List OWy) (M : Nat) {ord : List Nat} (h : InOrd jobs ord) : EaP jobs cl ow M (planF jobs cl ow M ord).1 := by
  refine ⟨planF_len _ _ _ _ _, fun i hi => plan_rng hj cl ow M h hi, fun i hi d hd k hk hb ha => ?_⟩
  obtain ⟨x, hx, hjl, h0, hm⟩ := plan_early hj cl ow M h hi hd hk hb ha
  rw [List.any_eq_true]
  refine ⟨x, by rw [planF_len]; exact List.mem_range.2 hx, ?_⟩
  unfold blkB
  rw [Bool.and_eq_true, Bool.and_eq_true, Bool.and_eq_true, decide_eq_true_eq, decide_eq_true_eq]
  refine ⟨?_, h0, ?_, hm⟩
  · unfold fstB
    rw [Bool.or_eq_true, Bool.and_eq_true, decide_eq_true_eq, decide_eq_true_eq, decide_eq_true_eq]
    exact hjl
  · rcases plan_rng hj cl ow M h hx with q | ⟨k', q, q2⟩
    · omega
    · rw [q]; omega
theorem anyR_snoc {n : Nat} {p : Nat → Bool} : (List.range (n + 1)).any p = ((List.range n).any p || p n) := by
  rw [List.range_succ, List.any_append]; simp
end Go.Proofs.Ytlillkfelfoafaa
