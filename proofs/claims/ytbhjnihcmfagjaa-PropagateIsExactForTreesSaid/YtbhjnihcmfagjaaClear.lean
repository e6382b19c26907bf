/-
  clear of a slice of records of two cells.
-/
import Derived.Test.YtbhjnihcmfagjaaTabF
import Derived.Lib.SliceRun
import Derived.Deep.Upon
set_option linter.unusedVariables false
set_option linter.unusedSimpArgs false
namespace Go.Proofs.Ytbhjnihcmfagjaa
open Go.RowKit Go.Shelf RP

theorem zeroCells2 (z0 z1 : Value) (n : Nat) : (Builtin.zeroCells #[z0, z1] n).size = n * 2 ∧ ∀ k, k < n → (Builtin.zeroCells #[z0, z1] n)[k * 2]? = some z0 ∧ (Builtin.zeroCells #[z0, z1] n)[k * 2 + 1]? = some z1 := by
  have hs : (Builtin.zeroCells #[z0, z1] n).size = n * 2 := by rw [size_zeroCells]; rfl
  refine ⟨hs, fun k hk => ⟨?_, ?_⟩⟩
  · rw [Array.getElem?_eq_getElem (by rw [hs]; omega)]
    simp [Builtin.zeroCells]
  · rw [Array.getElem?_eq_getElem (by rw [hs]; omega)]
    have : (k * 2 + 1) % 2 = 1 := by omega
    simp [Builtin.zeroCells, this]

theorem run_clear2 {P : Program} (w : World) (t e ty : TypeId) (z z0 z1 : Value) (ht : P.underlying t = some (.slice e)) (hv : ∀ w, (zeroValue e).run P w = .ok z w) (hz : z.cells = #[z0, z1]) (h0 : z0.oneCell' = true) (h1 : z1.oneCell' = true) (b o n c : Nat) (hn : 0 < n)
    (hc : ∀ j, j < n * 2 → (w.cell? ⟨b, o + j, none⟩).isSome = true) (hf : ∀ j, j < n * 2 → w.frozen? ⟨b, o + j, none⟩ = false) :
    (Builtin.clear_ #[t] ty #[.slice (some ⟨b, o, none⟩) n c]).run P w = .ok (.tuple #[]) (w.setCells b o (Builtin.zeroCells #[z0, z1] n).toList) := by
  have hs := (zeroCells2 z0 z1 n).1
  have hst := run_storeCells_cells (P := P) b o (Builtin.zeroCells #[z0, z1] n).toList 0 w (by simpa [hs] using hc) (by simpa [hs] using hf) (by
    intro v hv'
    obtain ⟨i, hi, rfl⟩ := List.mem_iff_getElem.1 hv'
    simp only [Array.length_toList, hs] at hi
    obtain ⟨g0, g1⟩ := (zeroCells2 z0 z1 n).2 (i / 2) (by omega)
    rw [Array.getElem_toList]
    rcases Nat.mod_two_eq_zero_or_one i with hm | hm
    · rw [show i / 2 * 2 = i by omega, Array.getElem?_eq_getElem (by rw [hs]; omega)] at g0
      injection g0 with g0; rw [g0]; exact h0
    · rw [show i / 2 * 2 + 1 = i by omega, Array.getElem?_eq_getElem (by rw [hs]; omega)] at g1
      injection g1 with g1; rw [g1]; exact h1)
  simp only [Nat.add_zero] at hst
  obtain ⟨m, rfl⟩ : ∃ m, n = m + 1 := ⟨n - 1, by omega⟩
  simp [Builtin.clear_, run_underlying ht, hv, hz, hst]

theorem set_blocks {g : Nat} {t : TypeId} {fr : Nat × Nat} : ∀ (vs : List Value) (o : Nat) (w : World) (cs : Array Value), w.heap[g]? = some (.cells cs t fr) → ∃ cs', (w.setCells g o vs).heap[g]? = some (.cells cs' t fr) ∧ cs'.size = cs.size
  | [], _, _, cs, h => ⟨cs, h, rfl⟩
  | v :: vs, o, w, cs, h => by
    obtain ⟨cs', h1, h2⟩ := set_blocks vs (o + 1) (w.setCell ⟨g, o, none⟩ v) _ (set_block v h)
    exact ⟨cs', h1, by rw [h2]; simp⟩

theorem Kept.setCells {M : List Nat} {w : World} {b : Nat} (hb : b ∈ M) : ∀ (vs : List Value) (o : Nat) (w' : World), Kept M w w' → Kept M w (w'.setCells b o vs)
  | [], _, _, h => h
  | v :: vs, o, w', h => Kept.setCells hb vs (o + 1) (w'.setCell ⟨b, o, none⟩ v) (h.setCell b o v (.inl hb))
/-- The sets are cleared. -/
theorem Tb.clear {w : World} {gt gs : Nat} {M : List Nat} {m T : Nat} {E : Option Addr} {cE : Nat} {va vq vw : Value} {D : Tab} {e : Bool} (h : Tb w gt gs M m T E cE va vq vw D e) :
    Tb (w.setCells gs 0 (Builtin.zeroCells #[.slice none 0 0, .int .i64 0] (m * m)).toList) gt gs M m T E cE va vq vw (fun _ _ _ => false) e ∧ Kept [gs] w (w.setCells gs 0 (Builtin.zeroCells #[.slice none 0 0, .int .i64 0] (m * m)).toList) := by
  have hz := zeroCells2 (.slice none 0 0) (.int .i64 0) (m * m)
  generalize hZ : Builtin.zeroCells #[.slice none 0 0, .int .i64 0] (m * m) = zs at *
  obtain ⟨cur, hg, hcs⟩ := h.sets
  obtain ⟨cur', hg', hcs'⟩ := set_blocks zs.toList 0 w cur hg
  have hin := World.cell?_setCells_in gs zs.toList 0 w (fun j hj => by
    rw [Nat.zero_add, cell_of_row w gs j _ _ _ hg, Array.getElem?_eq_getElem (by rw [hcs, ← hz.1]; simpa using hj)]; rfl)
  have hkk : Kept [gs] w (w.setCells gs 0 zs.toList) := Kept.setCells (by simp) _ 0 w (.refl _ w)
  refine ⟨⟨?_, ⟨cur', hg', by rw [hcs', hcs]⟩, fun i j hi hj => ?_, h.inM, h.mT⟩, hkk⟩
  · rw [hkk.block gt h.gtlt (by simpa using h.inM.2.2)]; exact h.tab
  · have hix := idx_lt hi hj
    obtain ⟨g0, g1⟩ := hz.2 (i * m + j) hix
    have e0 : runs (fun _ => false) T = [] := runs_none T fun _ _ => rfl
    refine ⟨none, 0, ?_, ?_, by rw [e0]; exact Row.nil, by rw [e0]; simp, by simp [maxLen]⟩
    · have := hin ((i * m + j) * 2) (by rw [Array.length_toList, hz.1]; omega)
      rw [Nat.zero_add] at this
      rw [this, Array.getElem_toList, e0]
      rw [Array.getElem?_eq_getElem (by rw [hz.1]; omega)] at g0
      injection g0 with g0; rw [g0]; rfl
    · have := hin ((i * m + j) * 2 + 1) (by rw [Array.length_toList, hz.1]; omega)
      rw [Nat.zero_add] at this
      rw [this, Array.getElem_toList]
      rw [Array.getElem?_eq_getElem (by rw [hz.1]; omega)] at g1
      injection g1 with g1; rw [g1, show cntN (fun _ => false) T = 0 from none_iff.1 fun _ _ => rfl]; rfl

theorem wpList_clear2 {P : Program} {ops : Array Oper} {rest : List Oper} {o : Oper} {a : Act} {Q : Exit → Act → World → Prop} {W W' : World} {v : Value}
    (hgd : o.guard = none) (s : Operand) (t : TypeId) (ho : o.op = .call { callee := .builtin .clear, args := #[s], argTypes := #[t] })
    (hs : a.eval s = v) (hr : (Builtin.clear_ #[t] o.type #[v]).run P W = .ok (.tuple #[]) W') (h : wpList P ops Q rest (a.put o.dst (.tuple #[])) W') : wpList P ops Q (o :: rest) a W := by
  refine wpList_plain hgd fun K hK0 => ?_
  unfold Oper.wp execOp
  simp only [ho, resolve, invoke, builtin, Sem.run_bind, Sem.run_pure, Result.andThen_ok, List.map_toArray, List.map_cons, List.map_nil, hs, hr]
  exact hK0 _ _ h

end Go.Proofs.Ytbhjnihcmfagjaa
