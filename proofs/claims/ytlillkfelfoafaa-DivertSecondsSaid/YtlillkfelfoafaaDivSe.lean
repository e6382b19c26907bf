/-
  Seconds that are held, as a row of marks; plain facts.
-/
import Derived.Test.YtlillkfelfoafaaDivMd
set_option linter.unusedVariables false
set_option linter.unusedSimpArgs false
namespace Go.Proofs.Ytlillkfelfoafaa
open RP

def spanB (c : Occ) (s : Int) (j : Nat) : Bool := decide (c.1 * 100 + s + c.2.1 + 10 ≤ (j : Int)) && decide ((j : Int) < c.1 * 100 + s + c.2.2 + 10)
def heldF (l : List Occ) (s : Int) (j : Nat) : Bool := l.any fun c => spanB c s j
/-- The marks while an occupation is laid: up to second k. -/
def heldK (l : List Occ) (c : Occ) (s k : Int) (j : Nat) : Bool := heldF l s j || (decide (c.1 * 100 + s + c.2.1 + 10 ≤ (j : Int)) && decide ((j : Int) < c.1 * 100 + k + 10))
theorem heldK_start (l : List Occ) (c : Occ) (s : Int) (j : Nat) : heldK l c s (s + c.2.1) j = heldF l s j := by
  unfold heldK
  have : (decide (c.1 * 100 + s + c.2.1 + 10 ≤ (j : Int)) && decide ((j : Int) < c.1 * 100 + (s + c.2.1) + 10)) = false := by
    rw [← Bool.not_eq_true, Bool.and_eq_true, decide_eq_true_eq, decide_eq_true_eq]; omega
  rw [this, Bool.or_false]
theorem heldK_step (l : List Occ) (c : Occ) {s k : Int} (h : s + c.2.1 ≤ k) (j : Nat) : heldK l c s (k + 1) j = (heldK l c s k j || decide ((j : Int) = c.1 * 100 + k + 10)) := by
  unfold heldK
  rw [Bool.or_assoc]
  congr 1
  rw [Bool.eq_iff_iff, Bool.or_eq_true, Bool.and_eq_true, Bool.and_eq_true, decide_eq_true_eq, decide_eq_true_eq, decide_eq_true_eq, decide_eq_true_eq]
  omega
theorem heldK_end {l : List Occ} {i : Nat} (hi : i < l.length) (s : Int) (j : Nat) : heldK (l.take i) l[i] s (s + l[i].2.2) j = heldF (l.take (i + 1)) s j := by
  unfold heldK heldF
  rw [List.take_succ_eq_append_getElem hi, List.any_append]
  congr 1
  rw [List.any_cons, List.any_nil, Bool.or_false]
  unfold spanB
  congr 2
  rw [show l[i].1 * 100 + (s + l[i].2.2) + 10 = l[i].1 * 100 + s + l[i].2.2 + 10 by omega]
def anyN (f : Nat → Bool) (b n : Nat) : Bool := (List.range n).any fun z => f (b + z)
theorem anyN_succ (f : Nat → Bool) (b n : Nat) : anyN f b (n + 1) = (anyN f b n || f (b + n)) := by
  unfold anyN
  rw [List.range_succ, List.any_append]; simp
def baseN (c : Occ) (s : Int) : Nat := (c.1 * 100 + s + c.2.1 + 10).toNat
def lenN (c : Occ) : Nat := (c.2.2 - c.2.1).toNat
theorem seconds_meet {a b : OptP} {s t : Int} (ha : MadeOp 6 a.steps a.occs) (hb : MadeOp 6 b.steps b.occs) (hs : 0 ≤ s ∧ s < 60) (ht : 0 ≤ t ∧ t < 60) :
    (b.occs.any fun d => anyN (heldF a.occs s) (baseN d t) (lenN d)) = meetB a s b t := by
  unfold meetB
  rw [ha.valid, hb.valid, bigB_iff.2 ⟨hs.1, by omega⟩, bigB_iff.2 ⟨ht.1, by omega⟩, any_swap]
  simp only [Bool.and_self, Bool.true_and]
  rw [Bool.eq_iff_iff, List.any_eq_true, List.any_eq_true]
  constructor
  · rintro ⟨d, hd, h⟩
    refine ⟨d, hd, ?_⟩
    unfold anyN at h
    rw [List.any_eq_true] at h
    obtain ⟨z, hz, h⟩ := h
    rw [List.mem_range] at hz
    unfold heldF at h
    rw [List.any_eq_true] at h ⊢
    obtain ⟨c, hc, h⟩ := h
    unfold spanB at h
    rw [Bool.and_eq_true, decide_eq_true_eq, decide_eq_true_eq] at h
    have h1 := ha.oc c hc
    have h2 := hb.oc d hd
    unfold baseN at h
    unfold lenN at hz
    refine ⟨c, hc, ?_⟩
    rw [Bool.and_eq_true, decide_eq_true_eq, touch_iff]
    refine ⟨by omega, by omega, by omega⟩
  · rintro ⟨d, hd, h⟩
    refine ⟨d, hd, ?_⟩
    rw [List.any_eq_true] at h
    obtain ⟨c, hc, h⟩ := h
    rw [Bool.and_eq_true, decide_eq_true_eq, touch_iff] at h
    have h1 := ha.oc c hc
    have h2 := hb.oc d hd
    unfold anyN
    rw [List.any_eq_true]
    refine ⟨(max 0 (s + c.2.1 - t - d.2.1)).toNat, by rw [List.mem_range]; unfold lenN; omega, ?_⟩
    unfold heldF
    rw [List.any_eq_true]
    refine ⟨c, hc, ?_⟩
    unfold spanB baseN
    rw [Bool.and_eq_true, decide_eq_true_eq, decide_eq_true_eq]
    omega
end Go.Proofs.Ytlillkfelfoafaa
