/-
  Contract of appendArc: the spans of an arc are appended to a row of the caller's own.
  Contract of Same at spans: it answers whether two lists are equal.
  Contracts of the reference's helpers bad and spans, and of Make of both packages.
  Contract of the reference's spans: the set of the marked residues.
  Contract of the reference's Make: it returns the same set and error as Make.
  Contract of the reference's marks: for each residue, whether a valid set contains it.
-/
import Derived.Test.YtlillkfelfoafaaValid
import Derived.Test.YtlillkfelfoafaaPlain
import Derived.Deep.OwnRows
set_option linter.unusedVariables false
set_option linter.unusedSimpArgs false
namespace Go.Proofs.Ytlillkfelfoafaa
open Go.RowKit RP

theorem own_at {a b : Option Nat} {n : Nat} (h : a = b ∨ a = some (n + 1)) : ∀ g, a = some g → b = some g ∨ n ≤ g := fun g hg => by
  rcases h with h | h
  · exact .inl (by rw [← h, hg])
  · rw [h] at hg; injection hg with hg; exact .inr (by omega)

end Go.Proofs.Ytlillkfelfoafaa

namespace Go.Proofs.Ytlillkfelfoafaa
open Go.RowKit RP

theorem list_ne_at {α : Type} {a b : List α} {k : Nat} (ha : k < a.length) (hb : k < b.length) (h : a[k] ≠ b[k]) : a ≠ b := by
  rintro rfl; exact h rfl
theorem take_eq_snoc {α : Type} {a b : List α} {k : Nat} (ha : k < a.length) (hb : k < b.length) (h : a.take k = b.take k) (h' : a[k] = b[k]) : a.take (k + 1) = b.take (k + 1) := by
  rw [List.take_succ_eq_append_getElem ha, List.take_succ_eq_append_getElem hb, h, h']

end Go.Proofs.Ytlillkfelfoafaa

namespace Go.Proofs.Ytlillkfelfoafaa
open Go.RowKit RP

def makeL (t f n : Int) : List Sp := if inRange t then arc t (modI f t) n else []
def rangeErr (t : Int) : Int := if inRange t then 0 else 4

/-- What bad answers. -/
def badI (t : Int) (a b : List Sp) : Int := if inRange t then (if validL t a && validL t b then 0 else 1) else 4

end Go.Proofs.Ytlillkfelfoafaa

namespace Go.Proofs.Ytlillkfelfoafaa
open Go.RowKit RP

theorem Lst.bo {w : World} {B : Nat} {A : Option Addr} {l : List Bool} (h : Lst encB 1 w B A l) (i : Nat) (hi : i < l.length) :
    ∃ b off, A = some ⟨b, off, none⟩ ∧ b < B ∧ w.cell? ⟨b, off + i, none⟩ = some (.bool l[i]) := by
  obtain ⟨b, off, e, hb, hc⟩ := h (by intro h0; subst h0; simp at hi)
  have := hc i l[i] (List.getElem?_eq_getElem hi) 0 _ rfl
  rw [Nat.mul_one, Nat.add_zero] at this
  exact ⟨b, off, e, hb, this⟩

def bitAt (l : List Bool) (i : Nat) : Bool := l.getD i false
theorem bitAt_get {l : List Bool} {i : Nat} (h : i < l.length) : bitAt l i = l[i] := by simp [bitAt, h]

theorem runs_no {P : Nat → Bool} {k : Nat} (h : P k = false) : runs P (k + 1) = runs P k := by simp [runs, h]
theorem runs_first {P : Nat → Bool} {k : Nat} (h : P k = true) (h0 : runs P k = []) : runs P (k + 1) = [] ++ [((k : Int), (k : Int) + 1)] := by simp [runs, h, h0, stepRun]
theorem runs_far {P : Nat → Bool} {k : Nat} (h : P k = true) {r : List Sp} {s : Sp} (h0 : runs P k = r ++ [s]) (h1 : s.2 ≠ k) : runs P (k + 1) = (r ++ [s]) ++ [((k : Int), (k : Int) + 1)] := by simp [runs, h, h0, stepRun, h1]
theorem runs_near {P : Nat → Bool} {k : Nat} (h : P k = true) {r : List Sp} {s : Sp} (h0 : runs P k = r ++ [s]) (h1 : s.2 = k) : runs P (k + 1) = (r ++ [s]).set r.length (s.1, (k : Int) + 1) := by
  simp [runs, h, h0, stepRun, h1]
theorem runs_len (P : Nat → Bool) : ∀ k, (runs P k).length ≤ k
  | 0 => by simp [runs]
  | k + 1 => by
    have ih := runs_len P k
    simp only [runs]
    split
    · unfold stepRun
      split
      · split
        · simp; omega
        · simp; omega
      · simp
    · omega

end Go.Proofs.Ytlillkfelfoafaa

namespace Go.Proofs.Ytlillkfelfoafaa
open Go.RowKit RP

theorem bitAt_bitsOf {t : Nat} {P : Nat → Bool} {i : Nat} (h : i < t) : bitAt (bitsOf t P) i = P i := by simp [bitAt, bitsOf, h]
theorem runs_bits (t : Nat) (P : Nat → Bool) : runs (bitAt (bitsOf t P)) (bitsOf t P).length = runs P t := by
  rw [bitsOf_length]
  exact runs_congr fun x hx => bitAt_bitsOf hx

theorem infoBool : (Try.prog.info? 4).map (fun i => (i.zero, i.size, i.bytes)) = some (some (.bool false), 1, 1) := by kernel_rfl

theorem flat_bools : ∀ t : Nat, (List.replicate t false).flatMap encB = List.replicate t (.bool false)
  | 0 => rfl
  | t + 1 => by rw [List.replicate_succ, List.flatMap_cons, flat_bools t, List.replicate_succ]; rfl

theorem Own.bools (w : World) (t : Nat) (h : t ≤ 4294967296) : Own encB 1 4 (w.alloc (.cells (madeCells #[.bool false] t) 4)) w.heap.size (.slice (some ⟨w.heap.size, 0, none⟩) t t) (bitsOf t fun _ => false) := by
  refine Own.lit w _ _ _ _ _ (by rw [bitsOf_length]) encB_len ?_ (Nat.le_refl _) (by rw [bitsOf_length]; simp only [Go.maxLen]; omega)
  rw [madeCells_toList, ← bitsOf_false, flat_bools]

/-- A row of bools: a cell, that it may be written, and the row behind the store. -/
theorem Own.boAt {w : World} {base g n c : Nat} {l : List Bool} (h : Own encB 1 4 w base (.slice (some ⟨g, 0, none⟩) n c) l) (i : Nat) (hi : i < l.length) (b : Bool) :
    w.cell? ⟨g, i, none⟩ = some (.bool l[i]) ∧ w.frozen? ⟨g, i, none⟩ = false ∧ Own encB 1 4 (w.setCell ⟨g, i, none⟩ (.bool b)) base (.slice (some ⟨g, 0, none⟩) n c) (l.set i b) := by
  obtain ⟨g', c', hv, _, _, _, hc, hf⟩ := h.at_ encB_len (by intro h0; subst h0; simp at hi)
  injection hv with hv
  simp only [Option.some.injEq, Addr.mk.injEq, and_true] at hv
  subst hv
  have h1 := hc i l[i] (List.getElem?_eq_getElem hi) 0 _ rfl
  have h2 := (h.stored encB_len i 0 (.bool b) b hi (by omega) rfl).1
  rw [Nat.mul_one, Nat.add_zero] at h1 h2
  exact ⟨h1, hf i, h2⟩

theorem makeL_eq {t : Nat} {f n : Int} (h1 : 1 ≤ t) (h2 : t ≤ 7200) : makeL t f n = runs (arcB t (modI f t) n) t := by
  have hr : inRange (t : Int) = true := by simp [inRange]; omega
  have := modI_range f t (by omega)
  rw [makeL, hr, if_pos rfl]
  exact arc_eq n h1 this.1 this.2

end Go.Proofs.Ytlillkfelfoafaa

namespace Go.Proofs.Ytlillkfelfoafaa
open Go.RowKit RP

/-- The marks while a span is being marked. -/
def mk (r : List Sp) (f x : Int) (y : Nat) : Bool := mem r y || (decide (f ≤ (y : Int)) && decide ((y : Int) < x))
def memN (l : List Sp) (y : Nat) : Bool := mem l y

theorem mk_set {T : Nat} {r : List Sp} {f : Int} {X : Nat} (h : f ≤ X) : (bitsOf T (mk r f X)).set X true = bitsOf T (mk r f ((X : Int) + 1)) := by
  rw [bitsOf_set]
  refine bitsOf_congr fun y hy => ?_
  unfold mk
  by_cases e : y = X
  · subst e
    rw [if_pos rfl]
    symm
    simp
    right
    omega
  · rw [if_neg e]
    congr 2
    simp
    omega
theorem mk_first {T : Nat} (r : List Sp) (f : Int) : bitsOf T (mk r f f) = bitsOf T (memN r) :=
  bitsOf_congr fun y _ => by
    unfold mk memN
    have : (decide (f ≤ (y : Int)) && decide ((y : Int) < f)) = false := by simp
    rw [this, Bool.or_false]
theorem mk_last {T : Nat} (r : List Sp) (s : Sp) : bitsOf T (mk r s.1 s.2) = bitsOf T (memN (r ++ [s])) :=
  bitsOf_congr fun y _ => by simp [mk, memN, mem, List.any_append]

theorem valid_at {t p : Int} {l : List Sp} (hv : validFrom t p l = true) {k : Nat} (hk : k < l.length) (hp : -1 ≤ p) : 0 ≤ l[k].1 ∧ l[k].1 < l[k].2 ∧ l[k].2 ≤ t := by
  induction l generalizing p k with
  | nil => simp at hk
  | cons s r ih =>
    obtain ⟨h1, h2, h3, h4⟩ := validFrom_cons.1 hv
    cases k with
    | zero => simp only [List.getElem_cons_zero]; omega
    | succ k => simp only [List.getElem_cons_succ]; exact ih h4 (by simpa using hk) (by omega)

end Go.Proofs.Ytlillkfelfoafaa
