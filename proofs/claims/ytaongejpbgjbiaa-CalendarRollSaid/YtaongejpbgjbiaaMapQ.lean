/-
  A map of the call's own from pairs of ints to bools, as a function.
-/
import Derived.Test.YtaongejpbgjbiaaLift
import Derived.Maps.Own
import Derived.Maps.Views
import Derived.Maps.Keyed
import Derived.WideKeyPair
set_option linter.unusedVariables false
set_option linter.unusedSimpArgs false
namespace Go.Proofs.Ytaongejpbgjbiaa
open Go.RowKit Go.Maps Go.WideMaps RP

theorem arrQ : ArrKey Try.prog 70 3 2 := ⟨Try.underlying70, by kernel_rfl, by kernel_rfl, by kernel_rfl⟩
theorem keyedQ : Keyed Try.prog 70 := Keyed.of_law arrQ.law
def kq (x y : Int) : Lit := .string (keyBytes [.int .i64 x, .int .i64 y])
theorem wfQ {x : Int} (h : R64 x) : (Lit.int .i64 x).wf = true := WalkArith.wf_i64 (by have := h.1; have := h.2; omega)
theorem typesQ : ∃ m, Try.prog.types.size = m + 1 := ⟨Try.prog.types.size - 1, by
  have : 0 < Try.prog.types.size := of_decide_eq_true (by kernel_rfl)
  omega⟩
theorem keyQ {x y : Int} (hx : R64 x) (hy : R64 y) : keyOf Try.prog 70 (.agg #[.int .i64 x, .int .i64 y]) = some (kq x y) := keyOf_pair arrQ Try.underlying3 typesQ (wfQ hx) (wfQ hy)
theorem kq_inj {x y x' y' : Int} (hx : R64 x) (hy : R64 y) (hx' : R64 x') (hy' : R64 y') (h : kq x y = kq x' y') : x = x' ∧ y = y' := by
  have := arrQ.law.inj (keyQ hx hy) (h ▸ keyQ hx' hy')
  injection this with this
  simp at this
  exact this
/-- An element reads as itself. -/
def RQ (v : Value) : Option (DataW Value × List MemPlace) := some (.held v, [])
/-- Block b is a map of at most n entries that holds F x y at the key (x, y). -/
def MapQ (w : World) (b n : Nat) (F : Int → Int → Bool) : Prop :=
  ∃ D : DataW Value, w.ownsMap Try.prog 70 RQ b n D ∧ ∀ x y, R64 x → R64 y → D.atKey (kq x y) (.held (.bool false)) = .held (.bool (F x y))

section
variable {w w' : World} {b n : Nat} {F : Int → Int → Bool}
theorem MapQ.made (w : World) : MapQ (w.alloc (.map #[] 0)) w.heap.size 0 (fun _ _ => false) := ⟨.map [], World.ownsMap_made w _ _ _, fun _ _ _ _ => rfl⟩
theorem MapQ.lt (h : MapQ w b n F) : b < w.heap.size := by obtain ⟨D, h1, _⟩ := h; exact h1.lt
theorem MapQ.kept {row : Option Nat} (h : MapQ w b n F) (hg : w.grownBy w' row) (hne : some b ≠ row) : MapQ w' b n F := by obtain ⟨D, h1, h2⟩ := h; exact ⟨D, h1.kept hg hne, h2⟩
theorem MapQ.below (h : MapQ w b n F) (hb : Below w.heap.size w w') : MapQ w' b n F := h.kept (grownBy_of_below hb none) (by simp)
theorem MapQ.lookup {t e : TypeId} (h : MapQ w b n F) (ht : Try.prog.underlying t = some (.map 70 e)) (hz : (zeroValue e).run Try.prog w = .ok (.bool false) w) {x y : Int} (hx : R64 x) (hy : R64 y) :
    (Instr.lookup t (.map (some b)) (.agg #[.int .i64 x, .int .i64 y]) false).run Try.prog w = .ok (.bool (F x y)) w := by
  obtain ⟨D, h1, h2⟩ := h
  obtain ⟨v, ps, hrun, hv⟩ := h1.lookup keyedQ ht hz (zd := .held (.bool false)) (zp := []) rfl (keyQ hx hy)
  rw [h2 x y hx hy] at hv
  have : v = .bool (F x y) := by
    simp only [RQ, Option.some.injEq, Prod.mk.injEq] at hv
    injection hv.1
  rw [← this]; exact hrun
theorem MapQ.update {t e : TypeId} (h : MapQ w b n F) (ht : Try.prog.underlying t = some (.map 70 e)) (hn : n < maxLen) {x y : Int} (hx : R64 x) (hy : R64 y) (v : Bool) :
    ∃ w', (Instr.mapUpdate t (.map (some b)) (.agg #[.int .i64 x, .int .i64 y]) (.bool v)).run Try.prog w = .ok () w' ∧ MapQ w' b (n + 1) (fun x' y' => if x' = x ∧ y' = y then v else F x' y') ∧ w.grownBy w' (some b) := by
  obtain ⟨D, h1, h2⟩ := h
  have hD : IsMap D := by
    obtain ⟨es, clock, _, _, _, rfl⟩ := h1
    first | exact ⟨_, rfl⟩ | exact .inr ⟨_, rfl⟩ | simp [IsMap]
  obtain ⟨w', hrun, h3, h4⟩ := h1.update keyedQ ht hn (d := .held (.bool v)) (ps := []) (keyQ hx hy) rfl
  refine ⟨w', hrun, ⟨_, h3, fun x' y' hx' hy' => ?_⟩, h4⟩
  show (D.put (kq x y) (.held (.bool v))).atKey (kq x' y') (.held (.bool false)) = .held (.bool (if x' = x ∧ y' = y then v else F x' y'))
  by_cases e : x' = x ∧ y' = y
  · obtain ⟨rfl, rfl⟩ := e
    rw [if_pos ⟨rfl, rfl⟩, atKey_put_same hD (by trivial)]
  · rw [if_neg e, atKey_put_other (by intro q; exact e (by obtain ⟨a, b⟩ := kq_inj hx hy hx' hy' (by first | exact q | exact q.symm); exact ⟨a.symm, b.symm⟩)), h2 x' y' hx' hy']
end

end Go.Proofs.Ytaongejpbgjbiaa
