/-
  A network that came in: its value, and its activities as a list.
-/
import Derived.Test.YtaongejpbgjbiaaLift
import Derived.Test.YtaongejpbgjbiaaNet
import Derived.Lib.SmallJoins
set_option linter.unusedVariables false
set_option linter.unusedSimpArgs false
namespace Go.Proofs.Ytaongejpbgjbiaa
open Go.ChangeShapes Go.WideShapes Go.ChangeAt Go.RowKit Go.Deep Go.Joins RP

abbrev ArgA := Arg encA 6 fun _ : Acy => True
section
variable {H : Type} {enc : TypeId × Value → H} {W : World} {v : Value} {d : DataW H} {p : List MemPlace}
theorem open_argA (hsl : ∃ A len cap, v = .slice A len cap) (h : DataW.Trod enc Try.prog W 0 (fun _ => true) true 41 v d p) : ∃ A c l, v = .slice A l.length c ∧ ArgA W A c l := by
  have := open_recs (recEnc := encA) (rng := fun _ : Acy => True) (fun zs => ⟨zs.getD 0 0, zs.getD 1 0, zs.getD 2 0, zs.getD 3 0, zs.getD 4 0, zs.getD 5 0⟩) Try.underlying41 Try.underlying60 (by kernel_rfl) (by kernel_rfl)
    (fun j f hj => by
      match j, hj with
      | 0, hj => simp at hj; subst hj; exact Try.underlying3
      | 1, hj => simp at hj; subst hj; exact Try.underlying3
      | 2, hj => simp at hj; subst hj; exact Try.underlying3
      | 3, hj => simp at hj; subst hj; exact Try.underlying3
      | 4, hj => simp at hj; subst hj; exact Try.underlying3
      | 5, hj => simp at hj; subst hj; exact Try.underlying3
      | j + 6, hj => simp at hj)
    (fun zs hz hr => by
      match zs, hz with
      | [_, _, _, _, _, _], _ => exact ⟨rfl, trivial⟩) (by simp) (.inr trivial) h hsl
  exact this
theorem slice_form {T E : TypeId} {n : Nat} {u : Value} {y : DataW H × List MemPlace} (ht : Try.prog.underlying T = some (.slice E)) (h : DataW.trod enc Try.prog W 0 (fun _ => true) true n T [u] = some y) : ∃ A len cap, u = .slice A len cap := by
  rcases open_slice ht h with ⟨hcs, _⟩ | ⟨a, len', cap', m, n, D, Pl, hcs, _, _, _, _, hx, _⟩
  · simp at hcs; exact ⟨_, _, _, hcs⟩
  · simp at hcs; exact ⟨_, _, _, hcs⟩
set_option maxRecDepth 100000 in
theorem open_argN (hv : Value.okWide Try.prog W .any 0 43 v) (h : DataW.Trod enc Try.prog W 0 (fun _ => true) true 43 v d p) :
    ∃ T E m cE A c l, v = netV T E m cE A l.length c ∧ R64 T ∧ ArgA W A c l := by
  obtain ⟨c0, c1, c2, y0, y1, y2, n, rfl, rfl, rfl, hy0, hy1, hy2⟩ := open_agg3 Try.underlying43 (by kernel_rfl) (by kernel_rfl) hv h
  obtain ⟨x, e0, _, wx⟩ := DataW.trod_int Try.underlying3 hy0
  simp at e0
  subst e0
  obtain ⟨E, m, cE, rfl⟩ := slice_form Try.underlying40 hy1
  have hs := slice_form Try.underlying41 hy2
  obtain ⟨A, c, l, rfl, g⟩ := open_argA (d := y2.1) (p := y2.2) hs ⟨n, by
    obtain ⟨A, len, cap, rfl⟩ := hs
    exact hy2⟩
  exact ⟨x, E, m, cE, A, c, l, rfl, r64_of_wf wx, g⟩
end

end Go.Proofs.Ytaongejpbgjbiaa
