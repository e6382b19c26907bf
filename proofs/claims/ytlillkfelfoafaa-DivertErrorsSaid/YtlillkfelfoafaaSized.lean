/-
  What the reach gives: a bound on the length of a slice that came in.
-/
import Derived.Test.YtlillkfelfoafaaKit
import Derived.SizedLaws
set_option linter.unusedVariables false
set_option linter.unusedSimpArgs false
namespace Go.Proofs.Ytlillkfelfoafaa
open Go.ChangeShapes Go.WideShapes Go.ChangeAt Go.RowKit Go.Deep RP

section
variable {H : Type} {enc : TypeId × Value → H} {W : World} {d : DataW H} {p : List MemPlace}
theorem trod_slice_len {T e : TypeId} {A : Option Addr} {len cap : Nat} (ht : Try.prog.underlying T = some (.slice e)) (h : DataW.Trod enc Try.prog W 0 (fun _ => true) true T (.slice A len cap) d p) : len = 0 ∨ ∃ es sp, d = .slice es sp ∧ es.length = len := by
  obtain ⟨fuel, hf⟩ := h
  rcases open_slice ht hf with ⟨hcs, _⟩ | ⟨a, len', cap', m, n, D, Pl, hcs, _, _, _, _, hx, _⟩
  · simp [Value.cells] at hcs
    exact .inl hcs.2.1
  · simp [Value.cells] at hcs
    obtain ⟨_, rfl, _⟩ := hcs
    injection hx with hx _
    exact .inr ⟨_, _, hx, by simp⟩
/-- The reach, as a bound on a length. -/
theorem reach_of {ts : List TypeId} {ds : List (DataW H)} {j : Nat} {T e : TypeId} {A : Option Addr} {len cap bytes : Nat} (hsz : (DataW.weightsEach Try.prog ts ds).all (· ≤ reachBytes) = true) (ht : ts[j]? = some T) (hd : ds[j]? = some d)
    (hu : Try.prog.underlying T = some (.slice e)) (hb : Try.prog.bytesOf e = bytes) (h : DataW.Trod enc Try.prog W 0 (fun _ => true) true T (.slice A len cap) d p) : len * bytes ≤ 140737488355328 := by
  rcases trod_slice_len hu h with q | ⟨es, sp, q, ql⟩
  · rw [q]; omega
  · subst q
    have := sized_slice hsz ht hd hu
    rw [hb] at this
    simp only [reachBytes] at this
    rw [← ql]
    have h2 : es.length * bytes ≤ (es.length + sp.length) * bytes := Nat.mul_le_mul_right _ (by omega)
    omega
end

end Go.Proofs.Ytlillkfelfoafaa
