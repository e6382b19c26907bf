/-
  From the row's readings to the walk's words: an int argument, a slice of ints, a slice of spans. (The theorem open_slice_fields is the kit's own text, extra-structs.md.)
-/
import Derived.Test.YtaongejpbgjbiaaKit
import Derived.ProofKit
import Derived.OpenShut
import Derived.Deep.Slices
import Derived.Deep.Fields
import Derived.ChangeSame
set_option linter.unusedVariables false
set_option linter.unusedSimpArgs false
namespace Go.Proofs.Ytaongejpbgjbiaa
open Go.ChangeShapes Go.WideShapes Go.ChangeAt Go.RowKit Go.Deep RP

section
variable {H : Type} {enc : TypeId × Value → H} {P : Program} {w : World} {base : Nat} {spare : Nat → Bool} {held : Bool}
theorem open_slice_fields {t e : TypeId} {fs : Array Field} {fuel : Nat} {cs : List Value} {x : DataW H × List MemPlace} (ht : P.underlying t = some (.slice e)) (he : P.underlying e = some (.struct fs))
    (hone : oneCellFields P fs = true) (hC : P.cellsOf e = fs.size) (h : DataW.trod enc P w base spare held fuel t cs = some x) :
    (cs = [.slice none 0 0] ∧ x = (.nil, [])) ∨
    ∃ (a : Addr) (len cap m : Nat) (D : Nat → DataW H) (Pl : Nat → List MemPlace), cs = [.slice (some a) len cap] ∧ base ≤ a.block ∧ len ≤ cap ∧ cap ≤ maxLen ∧ m = (if spare a.block then cap else len) ∧
      x = (.slice ((List.range len).map D) ((List.range (m - len)).map fun j => D (len + j)), MemPlace.row a (m * fs.size) ++ (List.range m).flatMap Pl) ∧
      ∀ i, i < m → ∃ (ys : List (DataW H × List MemPlace)) (n : Nat), D i = .agg (ys.map (·.1)) ∧ Pl i = ys.flatMap (·.2) ∧ ys.length = fs.size ∧
        ∀ (j : Nat) (f : Field), fs[j]? = some f → ∃ (v : Value) (y : DataW H × List MemPlace), w.cell? (a.add (i * fs.size + j)) = some v ∧ ys[j]? = some y ∧ DataW.trod enc P w base spare held n f.type [v] = some y := by
  rcases open_slice ht h with h0 | ⟨a, len, cap, m, n, D, Pl, hcs, hb, hl, hm, hmm, hx, hi⟩
  · exact .inl h0
  · refine .inr ⟨a, len, cap, m, D, Pl, hcs, hb, hl, hm, hmm, by rw [hC] at hx; exact hx, fun i him => ?_⟩
    obtain ⟨cs', hc, ht'⟩ := hi i him
    rw [hC] at hc
    obtain ⟨ys, n', hn', hy, hlen, hyl, hf⟩ := DataW.trod_struct he ht'
    obtain ⟨_, hcl, hat⟩ := World.cells?_some hc
    simp only [Prod.mk.injEq] at hy
    refine ⟨ys, n', hy.1, hy.2, hyl, fun j f hj => ?_⟩
    obtain ⟨ho, hk⟩ := hone_of hone j f hj
    have hjl : j < fs.size := (Array.getElem?_eq_some_iff.1 hj).1
    have hcell := hat j hjl
    have hv : cs'[j]? = some (cs'[j]'(by omega)) := List.getElem?_eq_getElem (by omega)
    have h1 := hf j f hj
    rw [ho, hk] at h1
    have hone' : (cs'.drop j).take 1 = [cs'[j]'(by omega)] := by
      rw [List.drop_eq_getElem_cons (by omega)]
      rfl
    rw [hone'] at h1
    have hys : ys[j]? = some (ys[j]'(by omega)) := List.getElem?_eq_getElem (by omega)
    refine ⟨_, _, ?_, hys, h1.trans hys⟩
    rw [← Go.Deep.add_add, hcell, hv]
end

/-- Within the range of int. -/
def R64 (a : Int) : Prop := -9223372036854775808 ≤ a ∧ a ≤ 9223372036854775807

theorem r64_of_wf {n : Int} (h : (Lit.int .i64 n).wf = true) : R64 n := by
  have := bounds_i64 h
  exact ⟨by omega, by omega⟩

/-- Ints. -/
def encI (x : Int) : List Value := [.int .i64 x]
theorem encI_len (x : Int) : (encI x).length = 1 := rfl

/-- A slice of records of ints that came in. -/
structure Arg {α : Type} (enc : α → List Value) (k : Nat) (rng : α → Prop) (w : World) (A : Option Addr) (c : Nat) (l : List α) : Prop where
  lst : Lst enc k w w.heap.size A l
  len : l.length ≤ 9223372036854775807
  rng : ∀ x ∈ l, rng x
  cap : l.length ≤ c
  cap63 : c ≤ 9223372036854775807

theorem Arg.below {α : Type} {enc : α → List Value} {k : Nat} {rng : α → Prop} {w w' : World} {A : Option Addr} {c : Nat} {l : List α} (h : Arg enc k rng w A c l) (hb : Below w.heap.size w w') : Arg enc k rng w' A c l :=
  ⟨h.lst.belowMore hb hb.size, h.len, h.rng, h.cap, h.cap63⟩

abbrev ArgI := Arg encI 1 R64
abbrev ArgS := Arg encS 2 fun x : Sp => R64 x.1 ∧ R64 x.2

section
variable {H : Type} {enc : TypeId × Value → H} {W : World} {v : Value} {d : DataW H} {p : List MemPlace}

theorem cell_lt {w : World} {b off : Nat} {u : Value} (h : w.cell? ⟨b, off, none⟩ = some u) : b < w.heap.size := World.block_lt_of_cell? w ⟨b, off, none⟩ h

theorem add_none (b off j : Nat) : (⟨b, off, none⟩ : Addr).add j = ⟨b, off + j, none⟩ := by
  unfold Addr.add
  split
  · rename_i h0; have : j = 0 := by simpa using h0
    rw [this, Nat.add_zero]
  · simp

/-- A slice of records of one-cell int fields: as a list. -/
theorem open_recs {α : Type} {T E : TypeId} {fs : Array Field} {recEnc : α → List Value} {rng : α → Prop} (mk : List Int → α)
    (ht : Try.prog.underlying T = some (.slice E)) (he : Try.prog.underlying E = some (.struct fs)) (hone : oneCellFields Try.prog fs = true) (hC : Try.prog.cellsOf E = fs.size)
    (hint : ∀ (j : Nat) (f : Field), fs[j]? = some f → Try.prog.underlying f.type = some (.int .i64))
    (hmk : ∀ zs : List Int, zs.length = fs.size → (∀ z ∈ zs, R64 z) → recEnc (mk zs) = zs.map (Value.int .i64) ∧ rng (mk zs)) (hpos : 0 < fs.size)
    (hv : Value.okWide Try.prog W .any 0 T v ∨ True) (h : DataW.Trod enc Try.prog W 0 (fun _ => true) true T v d p) (hsl : ∃ A len cap, v = .slice A len cap) :
    ∃ A c l, v = .slice A l.length c ∧ Arg recEnc fs.size rng W A c l := by
  obtain ⟨A, len, cap, rfl⟩ := hsl
  obtain ⟨fuel, hf⟩ := h
  rcases open_slice_fields ht he hone hC hf with ⟨hcs, _⟩ | ⟨a, len', cap', m, D, Pl, hcs, _, hl, hm, hmm, _, hi⟩
  · simp [Value.cells] at hcs
    obtain ⟨rfl, rfl, rfl⟩ := hcs
    exact ⟨none, 0, [], rfl, Lst.nil, by simp, by simp, by simp, by omega⟩
  · simp [Value.cells] at hcs
    obtain ⟨rfl, rfl, rfl⟩ := hcs
    simp only [if_true] at hmm
    subst hmm
    have key : ∀ i, i < len → ∃ x : α, rng x ∧ ∀ j u, (recEnc x)[j]? = some u → W.cell? (a.add (i * fs.size + j)) = some u := by
      intro i hil
      obtain ⟨ys, n, _, _, _, hfld⟩ := hi i (by omega)
      have hz : ∀ j, ∃ z : Int, j < fs.size → (R64 z ∧ W.cell? (a.add (i * fs.size + j)) = some (.int .i64 z)) := by
        intro j
        by_cases hj : j < fs.size
        · obtain ⟨u, y, hc, _, ht'⟩ := hfld j fs[j] (by simp [hj])
          obtain ⟨z, e0, _, wz⟩ := DataW.trod_int (hint j fs[j] (by simp [hj])) ht'
          simp at e0
          subst e0
          exact ⟨z, fun _ => ⟨r64_of_wf wz, hc⟩⟩
        · exact ⟨0, fun h => absurd h hj⟩
      let zf := fun j => Classical.choose (hz j)
      have hzf := fun j => Classical.choose_spec (hz j)
      obtain ⟨h1, h2⟩ := hmk ((List.range fs.size).map zf) (by simp) (by
        intro z hz'
        obtain ⟨j, hj, rfl⟩ := List.mem_map.1 hz'
        exact (hzf j (by simpa using hj)).1)
      refine ⟨_, h2, fun j u hu => ?_⟩
      rw [h1] at hu
      simp only [List.map_map, List.getElem?_map, Option.map_eq_some_iff] at hu
      obtain ⟨j', hj', rfl⟩ := hu
      obtain ⟨hlt, rfl⟩ := List.getElem?_eq_some_iff.1 hj'
      simp only [List.getElem_range]
      exact (hzf j (by simpa using hlt)).2
    let xf := fun i : Nat => if h : i < len then Classical.choose (key i h) else mk []
    have hxf : ∀ i, i < len → rng (xf i) ∧ ∀ j u, (recEnc (xf i))[j]? = some u → W.cell? (a.add (i * fs.size + j)) = some u := fun i h => by
      have := Classical.choose_spec (key i h)
      simp only [xf, h, dif_pos]
      exact this
    refine ⟨some a, m, (List.range len).map xf, by simp, ?_, by simp only [maxLen] at hm; simp; omega, ?_, by simpa using hl, by simp only [maxLen] at hm; omega⟩
    · intro hne
      have hlen : 0 < len := by
        rcases Nat.eq_zero_or_pos len with h0 | h0
        · subst h0; simp at hne
        · exact h0
      obtain ⟨ys, n, _, _, _, hfld⟩ := hi 0 (by omega)
      obtain ⟨u, y, hc, _, _⟩ := hfld 0 fs[0] (by simp [hpos])
      obtain ⟨b, off, spot⟩ := a
      have hspot : spot = none := by simpa [Addr.add] using World.cell?_spot hc
      subst hspot
      rw [add_none] at hc
      refine ⟨b, off, rfl, cell_lt hc, fun i x hx j u hu => ?_⟩
      simp only [List.getElem?_map, Option.map_eq_some_iff] at hx
      obtain ⟨i', hi', rfl⟩ := hx
      obtain ⟨hlt, rfl⟩ := List.getElem?_eq_some_iff.1 hi'
      simp only [List.getElem_range] at hu
      have := (hxf i (by simpa using hlt)).2 j u hu
      rw [add_none, ← Nat.add_assoc] at this
      exact this
    · intro x hx
      obtain ⟨i, hi', rfl⟩ := List.mem_map.1 hx
      exact (hxf i (by simpa using hi')).1

theorem open_argI (hsl : ∃ A len cap, v = .slice A len cap) (h : DataW.Trod enc Try.prog W 0 (fun _ => true) true 29 v d p) : ∃ A c l, v = .slice A l.length c ∧ ArgI W A c l := by
  obtain ⟨A, len, cap, rfl⟩ := hsl
  obtain ⟨fuel, hf⟩ := h
  rcases open_ints Try.underlying29 Try.underlying3 (by kernel_rfl) hf with ⟨hcs, _⟩ | ⟨a, len', cap', zs, hcs, _, hl, hm, hz, _, hcell, hwz⟩
  · simp [Value.cells] at hcs
    obtain ⟨rfl, rfl, rfl⟩ := hcs
    exact ⟨none, 0, [], rfl, Lst.nil, by simp, by simp, by simp, by omega⟩
  · simp [Value.cells] at hcs
    obtain ⟨rfl, rfl, rfl⟩ := hcs
    have hzl : zs.length = cap := by simpa using hz
    refine ⟨some a, cap, zs.take len, by rw [List.length_take, hzl, Nat.min_eq_left hl], ?_, by rw [List.length_take]; simp only [maxLen] at hm; omega, fun x hx => r64_of_wf (hwz x (List.mem_of_mem_take hx)), by rw [List.length_take]; omega, by simp only [maxLen] at hm; omega⟩
    intro hne
    have hlen : 0 < len := by
      rcases Nat.eq_zero_or_pos len with h0 | h0
      · subst h0; simp at hne
      · exact h0
    have hc := hcell 0 (by omega)
    obtain ⟨b, off, spot⟩ := a
    have hspot : spot = none := by simpa [Addr.add] using World.cell?_spot hc
    subst hspot
    rw [add_none] at hc
    refine ⟨b, off, rfl, cell_lt hc, fun i x hx j u hu => ?_⟩
    have hil : i < (zs.take len).length := (List.getElem?_eq_some_iff.1 hx).1
    rw [List.length_take] at hil
    rw [List.getElem?_take, if_pos (by omega)] at hx
    match j, hu with
    | 0, hu =>
      simp only [encI, List.getElem?_cons_zero, Option.some.injEq] at hu
      subst hu
      have := hcell i (by omega)
      rw [add_none] at this
      rw [Nat.mul_one, Nat.add_zero, this]
      simp [hx]
    | j + 1, hu => simp [encI] at hu
end

theorem laidOut : laidOutB Try.prog = true := by kernel_rfl
theorem own : ownKnob Try.prog.godebug = none := by kernel_rfl

end Go.Proofs.Ytaongejpbgjbiaa
