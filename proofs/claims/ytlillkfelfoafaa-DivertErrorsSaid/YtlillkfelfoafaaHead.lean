/-
  Contracts of together, of common with the closure of Least, of Least and of awake.
  Contracts of common with the closure of Least, of Least and of awake of chapter 9.
  Contracts of Least and of awake of chapter 9.
-/
import Derived.Test.YtlillkfelfoafaaOcc
import Derived.Test.YtlillkfelfoafaaOff
import Derived.RegionTactic
import Derived.Deep.RegionHeld3
set_option linter.unusedVariables false
set_option linter.unusedSimpArgs false
namespace Go.Proofs.Ytlillkfelfoafaa
open Go.RowKit RP

theorem any_take_snoc {α : Type} {p : α → Bool} {l : List α} {k : Nat} (hk : k < l.length) (h : (l.take k).any p = false) (hp : p l[k] = false) : (l.take (k + 1)).any p = false := by
  rw [take_snoc l k hk, List.any_append, h]; simp [hp]
theorem any_yes {α : Type} {p : α → Bool} {l : List α} {k : Nat} (hk : k < l.length) (hp : p l[k] = true) : l.any p = true := by
  rw [List.any_eq_true]; exact ⟨l[k], List.getElem_mem hk, hp⟩

/-- The bounds under which no sum wraps. -/
def NearO (l : List Occ) : Prop := ∀ o ∈ l, -1000000000 ≤ o.2.1 ∧ o.2.1 ≤ 1000000000 ∧ -1000000000 ≤ o.2.2 ∧ o.2.2 ≤ 1000000000
theorem NearO.get {l : List Occ} (h : NearO l) {k : Nat} (hk : k < l.length) : -1000000000 ≤ l[k].2.1 ∧ l[k].2.1 ≤ 1000000000 ∧ -1000000000 ≤ l[k].2.2 ∧ l[k].2.2 ≤ 1000000000 := h l[k] (List.getElem_mem hk)
theorem NearO.of_valid {p : Int} {l : List Occ} (h : validO p l = true) : NearO l := fun o ho => by have := validO_lt h o ho; omega

end Go.Proofs.Ytlillkfelfoafaa

namespace Go.Proofs.Ytlillkfelfoafaa
open Go.RowKit RP

/-- The two captured variables of Least. -/
def LeastAt (w : World) (gl gb : Nat) (s : Int × Bool) : Prop := w.heap[gl]? = some (.cells #[.int .i64 s.1] 3 (0, 0)) ∧ w.heap[gb]? = some (.cells #[.bool s.2] 4 (0, 0)) ∧ gl ≠ gb
def two (a b : Nat) (k : Nat) : Prop := k = a ∨ k = b

theorem LeastAt.alloc {w : World} {gl gb : Nat} {s : Int × Bool} (h : LeastAt w gl gb s) (o : Obj) : LeastAt (w.alloc o) gl gb s :=
  ⟨(Below.heap_alloc _ _ _ (lt_of_block h.1)).trans h.1, (Below.heap_alloc _ _ _ (lt_of_block h.2.1)).trans h.2.1, h.2.2⟩
theorem LeastAt.drew {w : World} {gl gb : Nat} {s : Int × Bool} (h : LeastAt w gl gb s) : LeastAt w.drew gl gb s := h
theorem LeastAt.store {w : World} {gl gb : Nat} {s : Int × Bool} (h : LeastAt w gl gb s) (x : Int) (b : Bool) : LeastAt ((w.setCell ⟨gl, 0, none⟩ (.int .i64 x)).setCell ⟨gb, 0, none⟩ (.bool b)) gl gb (x, b) :=
  ⟨(Below.heap_setCell _ _ _ _ h.2.2).trans (one_setCell h.1), one_setCell ((Below.heap_setCell _ _ _ _ (Ne.symm h.2.2)).trans h.2.1), h.2.2⟩
theorem LeastAt.off {S : Nat → Prop} {w w' : World} {gl gb : Nat} {s : Int × Bool} (h : LeastAt w gl gb s) (ho : Off S w w') (h1 : ¬ S gl) (h2 : ¬ S gb) : LeastAt w' gl gb s :=
  ⟨(ho.block _ (lt_of_block h.1) h1).trans h.1, (ho.block _ (lt_of_block h.2.1) h2).trans h.2.1, h.2.2⟩

def LeastPost (w : World) (gl gb : Nat) (s : Int × Bool) (e : Ending) (w' : World) : Prop := e = .returned (.tuple #[]) ∧ LeastAt w' gl gb s ∧ Off (two gl gb) w w'

/-- A valid list in memory below block B, as a slice that may be cut. -/
structure Cut (w : World) (B : Nat) (v : Value) (p : Int) (l : List Occ) : Prop where
  ex : ∃ A c, v = .slice A l.length c ∧ Lst encO 3 w B A l ∧ l.length ≤ c ∧ c ≤ 9223372036854775807
  ok : validO p l = true

theorem Lst.tail {α : Type} {enc : α → List Value} {k : Nat} {w : World} {B b off : Nat} {x : α} {xs : List α} (h : Lst enc k w B (some ⟨b, off, none⟩) (x :: xs)) : Lst enc k w B (some ⟨b, off + k, none⟩) xs := fun hn => by
  obtain ⟨b', off', e, hb, hc⟩ := h (by simp)
  injection e with e
  injection e with e1 e2
  subst e1 e2
  refine ⟨b, off + k, rfl, hb, fun i y hy j v hv => ?_⟩
  have := hc (i + 1) y (by simpa using hy) j v hv
  rw [Nat.add_mul, Nat.one_mul] at this
  rw [← this]
  congr 2
  omega
theorem Cut.keep {w w' : World} {B : Nat} {v : Value} {p : Int} {l : List Occ} (h : Cut w B v p l) (hb : Below B w w') : Cut w' B v p l := by
  obtain ⟨⟨A, c, e, h1, h2⟩, h3⟩ := h
  exact ⟨⟨A, c, e, h1.below hb, h2⟩, h3⟩
theorem Cut.whole {w : World} {B c : Nat} {A : Option Addr} {p : Int} {l : List Occ} {n : Nat} (hl : Lst encO 3 w B A l) (hv : validO p l = true) (hc : l.length ≤ c) (hm : c ≤ 9223372036854775807) (hn : n = l.length) : Cut w B (.slice A n c) p l := by
  subst hn; exact ⟨⟨_, _, rfl, hl, hc, hm⟩, hv⟩
theorem Cut.tail1 {w : World} {B b off : Nat} {p : Int} {x : Occ} {xs : List Occ} (hv : validO p (x :: xs) = true) (hc : xs.length + 1 ≤ 1) : Cut w B (.slice (some ⟨b, off, none⟩) xs.length 0) x.1 xs := by
  obtain rfl : xs = [] := List.eq_nil_of_length_eq_zero (by omega)
  exact ⟨⟨_, _, rfl, Lst.nil, by simp, by omega⟩, rfl⟩
theorem Cut.tail2 {w : World} {B b off c : Nat} {p : Int} {x : Occ} {xs : List Occ} (hl : Lst encO 3 w B (some ⟨b, off, none⟩) (x :: xs)) (hv : validO p (x :: xs) = true) (hc : xs.length + 1 ≤ c) (hm : c ≤ 9223372036854775807) : Cut w B (.slice (some ⟨b, off + 3, none⟩) xs.length (c - 1)) x.1 xs :=
  ⟨⟨_, _, rfl, hl.tail, by omega, by omega⟩, (validO_cons.1 hv).2⟩

theorem two_fst (w : World) (c1 c2 : Array Value) (t t' : TypeId) (j : Nat) : ((w.alloc (.cells c1 t)).alloc (.cells c2 t')).drew.cell? ⟨w.heap.size, j, none⟩ = c1[j]? := by
  show ((w.alloc (.cells c1 t)).alloc (.cells c2 t')).cell? _ = _
  rw [World.cell?_alloc_lt _ _ _ (by simp), cell_of_row _ w.heap.size j c1 t (0, 0) (heap_alloc_new w _)]
theorem two_snd (w : World) (c1 c2 : Array Value) (t t' : TypeId) (j : Nat) : ((w.alloc (.cells c1 t)).alloc (.cells c2 t')).drew.cell? ⟨w.heap.size + 1, j, none⟩ = c2[j]? := by
  show ((w.alloc (.cells c1 t)).alloc (.cells c2 t')).cell? _ = _
  exact World.cell?_alloc_at c2 t' _ j (by simp)
theorem two_size (w : World) (o o' : Obj) : w.heap.size + 1 < ((w.alloc o).alloc o').drew.heap.size := by
  show _ < ((w.alloc o).alloc o').heap.size
  simp
end Go.Proofs.Ytlillkfelfoafaa

namespace Go.Proofs.Ytlillkfelfoafaa
open Go.RowKit RP

def leastL (a b : List Occ) : Int × Bool := if validO (-1) a && validO (-1) b then leastO (pairsO a b) else (0, false)

end Go.Proofs.Ytlillkfelfoafaa
