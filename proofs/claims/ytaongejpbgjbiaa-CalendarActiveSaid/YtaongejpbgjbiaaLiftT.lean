/-
  Trips that came in, as a list.
-/
import Derived.Test.YtaongejpbgjbiaaLiftX
import Derived.Test.YtaongejpbgjbiaaLiftN
import Derived.Test.YtaongejpbgjbiaaCalT
set_option linter.unusedVariables false
set_option linter.unusedSimpArgs false
namespace Go.Proofs.Ytaongejpbgjbiaa
open Go.ChangeShapes Go.WideShapes Go.ChangeAt Go.RowKit Go.Deep RP

/-- A slice value that reads as a list of numbers. -/
def SvI (W : World) (s : Sv) (l : List Int) : Prop := s.n = l.length ∧ ArgI W s.a s.c l
abbrev ArgT (W : World) := Arg encT 4 (fun t : TripM => SvI W t.dv t.dep ∧ SvI W t.av t.arr) W
def fieldT (W : World) (j : Nat) (u : Value) : Prop := if j < 2 then ∃ z : Int, u = .int .i64 z ∧ R64 z else ∃ A c l, u = .slice A (List.length l) c ∧ ArgI W A c l
section
variable {H : Type} {enc : TypeId × Value → H} {W : World} {v : Value} {d : DataW H} {p : List MemPlace}
theorem open_cellI {n : Nat} {u : Value} {y : DataW H × List MemPlace} (h : DataW.trod enc Try.prog W 0 (fun _ => true) true n 29 [u] = some y) : ∃ A c l, u = .slice A (List.length l) c ∧ ArgI W A c l := by
  have hs := slice_form Try.underlying29 h
  exact open_argI (d := y.1) (p := y.2) hs ⟨n, by
    obtain ⟨A, len, cap, rfl⟩ := hs
    exact h⟩
theorem open_argT (hsl : ∃ A len cap, v = .slice A len cap) (h : DataW.Trod enc Try.prog W 0 (fun _ => true) true 47 v d p) : ∃ A c l, v = .slice A l.length c ∧ ArgT W A c l := by
  have := open_recsV (recEnc := encT) (rng := fun t : TripM => SvI W t.dv t.dep ∧ SvI W t.av t.arr) ⟨0, 0, [], [], ⟨none, 0, 0⟩, ⟨none, 0, 0⟩⟩ (fieldT W) Try.underlying47 Try.underlying51 (by kernel_rfl) (by kernel_rfl)
    (fun j f hj n u y ht => by
      match j, hj with
      | 0, hj =>
        simp at hj; subst hj
        obtain ⟨z, e0, _, wz⟩ := DataW.trod_int Try.underlying3 ht
        simp at e0
        exact ⟨z, e0, r64_of_wf wz⟩
      | 1, hj =>
        simp at hj; subst hj
        obtain ⟨z, e0, _, wz⟩ := DataW.trod_int Try.underlying3 ht
        simp at e0
        exact ⟨z, e0, r64_of_wf wz⟩
      | 2, hj =>
        simp at hj; subst hj
        exact open_cellI ht
      | 3, hj =>
        simp at hj; subst hj
        exact open_cellI ht
      | j + 4, hj => simp at hj)
    (fun us hz hr => by
      match us, hz with
      | [u0, u1, u2, u3], _ =>
        obtain ⟨z0, rfl, r0⟩ : ∃ z : Int, u0 = .int .i64 z ∧ R64 z := hr 0 u0 rfl
        obtain ⟨z1, rfl, r1⟩ : ∃ z : Int, u1 = .int .i64 z ∧ R64 z := hr 1 u1 rfl
        obtain ⟨A2, c2, l2, rfl, h2⟩ : ∃ A c l, u2 = .slice A (List.length l) c ∧ ArgI W A c l := hr 2 u2 rfl
        obtain ⟨A3, c3, l3, rfl, h3⟩ : ∃ A c l, u3 = .slice A (List.length l) c ∧ ArgI W A c l := hr 3 u3 rfl
        exact ⟨⟨z0, z1, l2, l3, ⟨A2, _, c2⟩, ⟨A3, _, c3⟩⟩, rfl, ⟨rfl, h2⟩, ⟨rfl, h3⟩⟩) (by simp) (.inr trivial) h hsl
  exact this
end
end Go.Proofs.Ytaongejpbgjbiaa
