/-
  A map with int keys of the call's own: what it holds at each key, as a function.
-/
import Derived.Test.YtlillkfelfoafaaKit
import Derived.Maps.Own
import Derived.Maps.Views
import Derived.Maps.Keyed
set_option linter.unusedVariables false
set_option linter.unusedSimpArgs false
namespace Go.Proofs.Ytlillkfelfoafaa
open Go.RowKit Go.Maps RP

/-- An element reads as itself. -/
def RV (v : Value) : Option (DataW Value × List MemPlace) := some (.held v, [])
/-- Block b is a map of at most n entries that holds F x at key x; z stands where there is none. -/
def MapV (w : World) (b n : Nat) (z : Value) (F : Int → Value) : Prop :=
  ∃ D : DataW Value, w.ownsMap Try.prog 3 RV b n D ∧ ∀ x, R64 x → D.atKey (.int .i64 x) (.held z) = .held (F x)

section
variable {w w' : World} {b n : Nat} {z : Value} {F : Int → Value}
theorem wf_of_r64 {x : Int} (h : R64 x) : (Lit.int .i64 x).wf = true := WalkArith.wf_i64 (by have := h.1; have := h.2; omega)
theorem MapV.made (w : World) (z : Value) : MapV (w.alloc (.map #[] 0)) w.heap.size 0 z (fun _ => z) := ⟨.map [], World.ownsMap_made w _ _ _, fun _ _ => rfl⟩
theorem MapV.lt (h : MapV w b n z F) : b < w.heap.size := by obtain ⟨D, h1, _⟩ := h; exact h1.lt
theorem MapV.kept {row : Option Nat} (h : MapV w b n z F) (hg : w.grownBy w' row) (hne : some b ≠ row) : MapV w' b n z F := by obtain ⟨D, h1, h2⟩ := h; exact ⟨D, h1.kept hg hne, h2⟩
theorem MapV.alloc (h : MapV w b n z F) (o : Obj) : MapV (w.alloc o) b n z F := by obtain ⟨D, h1, h2⟩ := h; exact ⟨D, h1.alloc o, h2⟩
theorem MapV.drewN (h : MapV w b n z F) (k : Nat) : MapV (w.drewN k) b n z F := h
theorem MapV.below (h : MapV w b n z F) (hb : Below w.heap.size w w') : MapV w' b n z F := h.kept (grownBy_of_below hb none) (by simp)
theorem MapV.lookup {t e : TypeId} (h : MapV w b n z F) (ht : Try.prog.underlying t = some (.map 3 e)) (hz : (zeroValue e).run Try.prog w = .ok z w) {x : Int} (hx : R64 x) :
    (Instr.lookup t (.map (some b)) (.int .i64 x) false).run Try.prog w = .ok (F x) w := by
  obtain ⟨D, h1, h2⟩ := h
  obtain ⟨v, ps, hrun, hv⟩ := h1.lookup (int_keyed Try.underlying3) ht hz (zd := .held z) (zp := []) rfl (keyOf_int_mk Try.underlying3 (wf_of_r64 hx))
  rw [h2 x hx] at hv
  have : v = F x := by
    simp only [RV, Option.some.injEq, Prod.mk.injEq] at hv
    injection hv.1
  rw [← this]; exact hrun
theorem MapV.update {t e : TypeId} (h : MapV w b n z F) (ht : Try.prog.underlying t = some (.map 3 e)) (hn : n < maxLen) {x : Int} (hx : R64 x) (v : Value) :
    ∃ w', (Instr.mapUpdate t (.map (some b)) (.int .i64 x) v).run Try.prog w = .ok () w' ∧ MapV w' b (n + 1) z (fun y => if y = x then v else F y) ∧ w.grownBy w' (some b) := by
  obtain ⟨D, h1, h2⟩ := h
  have hD : IsMap D := by
    obtain ⟨es, clock, _, _, _, rfl⟩ := h1
    first | exact ⟨_, rfl⟩ | exact .inr ⟨_, rfl⟩ | simp [IsMap]
  obtain ⟨w', hrun, h3, h4⟩ := h1.update (int_keyed Try.underlying3) ht hn (d := .held v) (ps := []) (keyOf_int_mk Try.underlying3 (wf_of_r64 hx)) rfl
  refine ⟨w', hrun, ⟨_, h3, fun y hy => ?_⟩, h4⟩
  show (D.put (.int .i64 x) (.held v)).atKey (.int .i64 y) (.held z) = .held (if y = x then v else F y)
  by_cases e : y = x
  · subst e
    rw [if_pos rfl, atKey_put_same hD (by trivial)]
  · rw [if_neg e, atKey_put_other (by intro q; injection q with _ q; exact e q), h2 y hy]
end

end Go.Proofs.Ytlillkfelfoafaa
