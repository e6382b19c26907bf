/-
  Options and jobs that keep2 makes; plain facts.
-/
import Derived.Test.YtlillkfelfoafaaDivP
set_option linter.unusedVariables false
set_option linter.unusedSimpArgs false
namespace Go.Proofs.Ytlillkfelfoafaa
open RP

/-- What option makes of the resources below k. -/
structure MadeOp (k : Nat) (st : List Ste) (os : List Occ) : Prop where
  sl : st.length ≤ k
  ol : os.length ≤ k
  st_ : ∀ s ∈ st, 0 ≤ s.1 ∧ s.1 < k ∧ (s.2 = 0 ∨ s.2 = 1)
  oc : ∀ z ∈ os, 0 ≤ z.1 ∧ z.1 < k ∧ -5 ≤ z.2.1 ∧ z.2.1 ≤ 14 ∧ z.2.1 < z.2.2 ∧ z.2.2 ≤ z.2.1 + 12
  ok : validO (-1) os = true
theorem MadeOp.nil : MadeOp 0 [] [] := ⟨by simp, by simp, by simp, by simp, rfl⟩
theorem MadeOp.skip {k : Nat} {st : List Ste} {os : List Occ} (h : MadeOp k st os) : MadeOp (k + 1) st os :=
  ⟨by have := h.sl; omega, by have := h.ol; omega, fun s hs => by have := h.st_ s hs; omega, fun z hz => by have := h.oc z hz; omega, h.ok⟩
theorem lastR_mem {p : Int} {l : List Occ} : lastR p l = p ∨ ∃ o ∈ l, lastR p l = o.1 := by
  unfold lastR
  cases h : l.getLast? with
  | none => exact .inl rfl
  | some o => exact .inr ⟨o, List.mem_of_getLast? h, rfl⟩
theorem MadeOp.put {k : Nat} {st : List Ste} {os : List Occ} (h : MadeOp k st os) {d f t : Int} (d0 : 0 ≤ d) (d1 : d < 2) (f0 : -5 ≤ f) (f1 : f ≤ 14) (t0 : f < t) (t1 : t ≤ f + 12) : MadeOp (k + 1) (st ++ [((k : Int), d)]) (os ++ [((k : Int), f, t)]) := by
  refine ⟨by have := h.sl; simp; omega, by have := h.ol; simp; omega, fun s hs => ?_, fun z hz => ?_, ?_⟩
  · rcases List.mem_append.1 hs with hs | hs
    · have := h.st_ s hs; omega
    · rw [List.mem_singleton.1 hs]; simp only; omega
  · rcases List.mem_append.1 hz with hz | hz
    · have := h.oc z hz; omega
    · rw [List.mem_singleton.1 hz]; simp only; omega
  · refine validO_snoc.2 ⟨h.ok, ?_⟩
    have : lastR (-1) os < k := by
      rcases lastR_mem (p := -1) (l := os) with e | ⟨o, ho, e⟩
      · rw [e]; omega
      · rw [e]; exact (h.oc o ho).2.1
    exact ⟨this, by simp only; omega, t0, by simp only; omega⟩
theorem MadeOp.valid {st : List Ste} {os : List Occ} (h : MadeOp 6 st os) : validOp ⟨st, os⟩ = true := by
  refine validOp_iff.2 ⟨by have := h.sl; show st.length ≤ 24; omega, by have := h.ol; show os.length ≤ 144; omega, h.ok, ?_⟩
  rw [List.all_eq_true]
  intro s hs
  obtain ⟨h1, _, h2⟩ := h.st_ s hs
  unfold okSt
  rw [decide_eq_true h1, Bool.true_and, Bool.or_eq_true]
  rcases h2 with h2 | h2
  · exact .inl (decide_eq_true h2)
  · exact .inr (decide_eq_true h2)
def MadeW (l : List OWy) : Prop := l.length ≤ 3 ∧ ∀ w ∈ l, 0 ≤ w.1 ∧ w.1 < 6 ∧ 0 ≤ w.2.1 ∧ w.2.1 < 2 ∧ 0 ≤ w.2.2.1 ∧ w.2.2.1 < 60 ∧ w.2.2.1 < w.2.2.2 ∧ w.2.2.2 ≤ w.2.2.1 + 30
/-- A job that Jobs makes. -/
structure MadeJ (j : JobP) : Prop where
  s0 : 5 ≤ j.start
  s1 : j.start < 45
  o0 : 1 ≤ j.opts.length
  o1 : j.opts.length ≤ 2
  at_ : ∀ o ∈ j.opts, MadeOp 6 o.steps o.occs
structure MadeJs (l : List JobP) : Prop where
  l0 : 1 ≤ l.length
  l1 : l.length ≤ 3
  at_ : ∀ j ∈ l, MadeJ j
theorem MadeJ.ok {j : JobP} (h : MadeJ j) : okJob j = true :=
  okJob_iff.2 ⟨⟨by have := h.s0; omega, by have := h.s1; omega⟩, ⟨h.o0, by have := h.o1; omega⟩, fun o ho => (h.at_ o ho).valid⟩
theorem MadeJs.ok {l : List JobP} (h : MadeJs l) : checkJ l = true :=
  checkJ_iff.2 ⟨by have := h.l1; omega, fun j hj => (h.at_ j hj).ok⟩
end Go.Proofs.Ytlillkfelfoafaa
