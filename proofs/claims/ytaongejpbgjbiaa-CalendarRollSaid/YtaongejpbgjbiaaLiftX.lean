/-
  Services and exceptions that came in, as lists.
-/
import Derived.Test.YtaongejpbgjbiaaLift
import Derived.Test.YtaongejpbgjbiaaCal
set_option linter.unusedVariables false
set_option linter.unusedSimpArgs false
namespace Go.Proofs.Ytaongejpbgjbiaa
open Go.ChangeShapes Go.WideShapes Go.ChangeAt Go.RowKit Go.Deep RP

abbrev ArgV := Arg encV 4 fun x : Svc => R64 x.line ∧ R64 x.days ∧ R64 x.fst ∧ R64 x.lst
abbrev ArgX := Arg encX 3 fun x : Exc => R64 x.line ∧ R64 x.day
section
variable {H : Type} {enc : TypeId × Value → H} {W : World} {v : Value} {d : DataW H} {p : List MemPlace}
/-- A slice of records of one-cell fields: as a list (the fields' forms given by P). -/
theorem open_recsV {α : Type} {T E : TypeId} {fs : Array Field} {recEnc : α → List Value} {rng : α → Prop} (x0 : α) (PV : Nat → Value → Prop)
    (ht : Try.prog.underlying T = some (.slice E)) (he : Try.prog.underlying E = some (.struct fs)) (hone : oneCellFields Try.prog fs = true) (hC : Try.prog.cellsOf E = fs.size)
    (hfv : ∀ (j : Nat) (f : Field), fs[j]? = some f → ∀ (n : Nat) (u : Value) (y : DataW H × List MemPlace), DataW.trod enc Try.prog W 0 (fun _ => true) true n f.type [u] = some y → PV j u)
    (hmk : ∀ us : List Value, us.length = fs.size → (∀ j u, us[j]? = some u → PV j u) → ∃ x : α, recEnc x = us ∧ rng x) (hpos : 0 < fs.size)
    (hv : Value.okWide Try.prog W .any 0 T v ∨ True) (h : DataW.Trod enc Try.prog W 0 (fun _ => true) true T v d p) (hsl : ∃ A len cap, v = .slice A len cap) :
    ∃ A c l, v = .slice A l.length c ∧ Arg recEnc fs.size rng W A c l := by
  obtain ⟨A, len, cap, rfl⟩ := hsl
  obtain ⟨fuel, hf⟩ := h
  rcases open_slice_fields ht he hone hC hf with ⟨hcs, _⟩ | ⟨a, len', cap', m, D, Pl, hcs, _, hl, hm, hmm, _, hi⟩
  · simp [Value.cells] at hcs
    obtain ⟨rfl, rfl, rfl⟩ := hcs
    exact ⟨none, 0, [], rfl, Lst.nil, by simp, by simp, by simp, by omega⟩
  · simp [Value.cells] at hcs
    obtain ⟨rfl, rfl, rfl⟩ := hcs
    simp only [if_true] at hmm
    subst hmm
    have key : ∀ i, i < len → ∃ x : α, rng x ∧ ∀ j u, (recEnc x)[j]? = some u → W.cell? (a.add (i * fs.size + j)) = some u := by
      intro i hil
      obtain ⟨ys, n, _, _, _, hfld⟩ := hi i (by omega)
      have hz : ∀ j, ∃ u : Value, j < fs.size → (PV j u ∧ W.cell? (a.add (i * fs.size + j)) = some u) := by
        intro j
        by_cases hj : j < fs.size
        · obtain ⟨u, y, hc, _, ht'⟩ := hfld j fs[j] (by simp [hj])
          exact ⟨u, fun _ => ⟨hfv j fs[j] (by simp [hj]) _ u y ht', hc⟩⟩
        · exact ⟨.bool false, fun h => absurd h hj⟩
      let zf := fun j => Classical.choose (hz j)
      have hzf := fun j => Classical.choose_spec (hz j)
      obtain ⟨xx, h1, h2⟩ := hmk ((List.range fs.size).map zf) (by simp) (by
        intro j u hu
        simp only [List.getElem?_map, Option.map_eq_some_iff] at hu
        obtain ⟨j', hj', rfl⟩ := hu
        obtain ⟨hlt, rfl⟩ := List.getElem?_eq_some_iff.1 hj'
        simp only [List.getElem_range]
        exact (hzf j (by simpa using hlt)).1)
      refine ⟨xx, h2, fun j u hu => ?_⟩
      rw [h1] at hu
      simp only [List.getElem?_map, Option.map_eq_some_iff] at hu
      obtain ⟨j', hj', rfl⟩ := hu
      obtain ⟨hlt, rfl⟩ := List.getElem?_eq_some_iff.1 hj'
      simp only [List.getElem_range]
      exact (hzf j (by simpa using hlt)).2
    let xf := fun i : Nat => if h : i < len then Classical.choose (key i h) else x0
    have hxf : ∀ i, i < len → rng (xf i) ∧ ∀ j u, (recEnc (xf i))[j]? = some u → W.cell? (a.add (i * fs.size + j)) = some u := fun i h => by
      have := Classical.choose_spec (key i h)
      simp only [xf, h, dif_pos]
      exact this
    refine ⟨some a, m, (List.range len).map xf, by simp, ?_, by simp only [maxLen] at hm; simp; omega, ?_, by simpa using hl, by simp only [maxLen] at hm; omega⟩
    · intro hne
      have hlen : 0 < len := by
        rcases Nat.eq_zero_or_pos len with h0 | h0
        · subst h0; simp at hne
        · exact h0
      obtain ⟨ys, n, _, _, _, hfld⟩ := hi 0 (by omega)
      obtain ⟨u, y, hc, _, _⟩ := hfld 0 fs[0] (by simp [hpos])
      obtain ⟨b, off, spot⟩ := a
      have hspot : spot = none := by simpa [Addr.add] using World.cell?_spot hc
      subst hspot
      rw [add_none] at hc
      refine ⟨b, off, rfl, cell_lt hc, fun i x hx j u hu => ?_⟩
      simp only [List.getElem?_map, Option.map_eq_some_iff] at hx
      obtain ⟨i', hi', rfl⟩ := hx
      obtain ⟨hlt, rfl⟩ := List.getElem?_eq_some_iff.1 hi'
      simp only [List.getElem_range] at hu
      have := (hxf i (by simpa using hlt)).2 j u hu
      rw [add_none, ← Nat.add_assoc] at this
      exact this
    · intro x hx
      obtain ⟨i, hi', rfl⟩ := List.mem_map.1 hx
      exact (hxf i (by simpa using hi')).1


theorem open_argV (hsl : ∃ A len cap, v = .slice A len cap) (h : DataW.Trod enc Try.prog W 0 (fun _ => true) true 22 v d p) : ∃ A c l, v = .slice A l.length c ∧ ArgV W A c l := by
  have := open_recs (recEnc := encV) (rng := fun x : Svc => R64 x.line ∧ R64 x.days ∧ R64 x.fst ∧ R64 x.lst) (fun zs => ⟨zs.getD 0 0, zs.getD 1 0, zs.getD 2 0, zs.getD 3 0⟩) Try.underlying22 Try.underlying34 (by kernel_rfl) (by kernel_rfl)
    (fun j f hj => by
      match j, hj with
      | 0, hj => simp at hj; subst hj; exact Try.underlying3
      | 1, hj => simp at hj; subst hj; exact Try.underlying3
      | 2, hj => simp at hj; subst hj; exact Try.underlying3
      | 3, hj => simp at hj; subst hj; exact Try.underlying3
      | j + 4, hj => simp at hj)
    (fun zs hz hr => by
      match zs, hz with
      | [_, _, _, _], _ => exact ⟨rfl, hr _ (by simp), hr _ (by simp), hr _ (by simp), hr _ (by simp)⟩) (by simp) (.inr trivial) h hsl
  exact this
def fieldX (j : Nat) (u : Value) : Prop := if j < 2 then ∃ z : Int, u = .int .i64 z ∧ R64 z else ∃ b : Bool, u = .bool b
theorem open_argX (hsl : ∃ A len cap, v = .slice A len cap) (h : DataW.Trod enc Try.prog W 0 (fun _ => true) true 23 v d p) : ∃ A c l, v = .slice A l.length c ∧ ArgX W A c l := by
  have := open_recsV (recEnc := encX) (rng := fun x : Exc => R64 x.line ∧ R64 x.day) ⟨0, 0, false⟩ fieldX Try.underlying23 Try.underlying36 (by kernel_rfl) (by kernel_rfl)
    (fun j f hj n u y ht => by
      match j, hj with
      | 0, hj =>
        simp at hj; subst hj
        obtain ⟨z, e0, _, wz⟩ := DataW.trod_int Try.underlying3 ht
        simp at e0
        exact ⟨z, e0, r64_of_wf wz⟩
      | 1, hj =>
        simp at hj; subst hj
        obtain ⟨z, e0, _, wz⟩ := DataW.trod_int Try.underlying3 ht
        simp at e0
        exact ⟨z, e0, r64_of_wf wz⟩
      | 2, hj =>
        simp at hj; subst hj
        obtain ⟨z, e0, _⟩ := DataW.trod_bool Try.underlying4 ht
        simp at e0
        exact ⟨z, e0⟩
      | j + 3, hj => simp at hj)
    (fun us hz hr => by
      match us, hz with
      | [u0, u1, u2], _ =>
        obtain ⟨z0, rfl, r0⟩ : ∃ z : Int, u0 = .int .i64 z ∧ R64 z := hr 0 u0 rfl
        obtain ⟨z1, rfl, r1⟩ : ∃ z : Int, u1 = .int .i64 z ∧ R64 z := hr 1 u1 rfl
        obtain ⟨b, rfl⟩ : ∃ b : Bool, u2 = .bool b := hr 2 u2 rfl
        exact ⟨⟨z0, z1, b⟩, rfl, r0, r1⟩) (by simp) (.inr trivial) h hsl
  exact this
end
end Go.Proofs.Ytaongejpbgjbiaa
