/-
  The bridge between a row of the call's own and the library sort's words on rows.
-/
import Derived.Test.YtbhjnihcmfagjaaKit
import Derived.Shelf.SlSortCmp.WholeK
import Derived.Shelf.SlSortCmp.NoneTotal
set_option linter.unusedVariables false
set_option linter.unusedSimpArgs false
namespace Go.Proofs.Ytbhjnihcmfagjaa
open Go.RowKit RP Go.Sort

section
variable {α : Type} [Inhabited α] {enc : α → List Value} {k : Nat} {e : TypeId} {w : World} {base g n cap : Nat} {l : List α}

theorem flatK_toList (he : ∀ x, (enc x).length = k) (hk : 0 < k) (d : Array α) : (flatK enc k d).toList = d.toList.flatMap enc := by
  apply List.ext_getElem
  · rw [flatMap_length he]; simp
  · intro t h1 h2
    have ht : t < d.size * k := by simpa using h1
    have hi : t / k < d.size := Nat.div_lt_of_lt_mul (by rw [Nat.mul_comm]; exact ht)
    have hj : t % k < k := Nat.mod_lt _ hk
    have h3 := flatMap_get he d.toList (t / k) d[t / k] (by simp [hi]) (t % k) hj
    rw [Nat.div_add_mod' t k, List.getElem?_eq_getElem h2] at h3
    have hl : t % k < (enc d[t / k]).length := by rw [he]; exact hj
    rw [List.getElem?_eq_getElem hl] at h3
    injection h3 with h3
    rw [h3]
    simp [flatK, getElem!_pos, hi, hl]

theorem Own.holdsK (he : ∀ x, (enc x).length = k) (hk : 0 < k) (h : Own enc k e w base (.slice (some ⟨g, 0, none⟩) n cap) l) : HoldsK enc k w g 0 l.toArray := by
  have hn : n = l.length := by
    obtain ⟨A, c', hv⟩ := h.form
    injection hv
  subst hn
  intro j hj
  have hj' : j < l.length * k := by simpa using hj
  refine ⟨?_, by rw [Nat.zero_add]; exact World.ownsRow.frozenAt h j⟩
  rw [Nat.zero_add, World.ownsRow.cellAt h j hj', ← flatK_toList he hk l.toArray, Array.getElem?_toList]
  simp [getElem!_pos, hj']

theorem Own.sorted (he : ∀ x, (enc x).length = k) (hk : 0 < k) (h : Own enc k e w base (.slice (some ⟨g, 0, none⟩) n cap) l) (m : Nat) (d' : Array α) (hd : d'.size = l.length) (os : Array Obj) :
    Own enc k e (sortWorldK enc k w g 0 m d' os) base (.slice (some ⟨g, 0, none⟩) n cap) d'.toList ∧ w.grownBy (sortWorldK enc k w g 0 m d' os) (some g) := by
  have hn : n = l.length := by
    obtain ⟨A, c', hv⟩ := h.form
    injection hv
  subst hn
  rcases h.2 with ⟨e0, _⟩ | ⟨g', cap', cur, e0, hb, hg, hnc, hm, hs, ht⟩
  · cases e0
  · injection e0 with e1 _ e3
    injection e1 with e1
    injection e1 with e1
    subst e1; subst e3
    have hlt : g < w.heap.size := (Array.getElem?_eq_some_iff.1 hg).1
    have hheap : (sortWorldK enc k w g 0 m d' os).heap[g]? = some (.cells (putCells id 0 (flatK enc k d') cur) e (0, 0)) := by
      unfold sortWorldK putRowK
      rw [heap_grow_old _ _ (by simpa using hlt)]
      simp [putRow, mapBlock, Sort.ahead, Array.getElem?_modify, hg, onCells]
    have hlen : d'.toList.length = l.length := by simpa using hd
    constructor
    · show World.ownsRow _ _ _ _ _ d'.toList.length _
      refine ⟨flatMap_length he _, .inr ⟨g, cap, _, by rw [hlen], hb, hheap, by rw [hlen]; exact hnc, hm, by simpa [putCells] using hs, ?_⟩⟩
      rw [← flatK_toList he hk]
      have hsz : (flatK enc k d').size = l.length * k := by simp [hd]
      have hle : l.length * k ≤ cur.size := by rw [hs]; exact Nat.mul_le_mul_right k hnc
      rw [hlen]
      apply List.ext_getElem?
      intro j
      by_cases hj : j < l.length * k
      · rw [List.getElem?_take_of_lt hj, Array.getElem?_toList, Array.getElem?_toList]
        have hj2 : j < (flatK enc k d').size := by omega
        have hj3 : j < cur.size := by omega
        rw [Array.getElem?_eq_getElem hj2]
        have hjd : j < d'.size * k := by rw [hd]; exact hj
        simp only [putCells, Array.getElem?_mapIdx, Array.getElem?_eq_getElem hj3, Option.map_some, Nat.zero_add, Nat.sub_zero, Nat.zero_le, true_and, if_pos hj2, id]
        rw [getElem!_pos _ j hj2]
      · rw [List.getElem?_take_eq_none (by omega), List.getElem?_eq_none (by rw [Array.length_toList, hsz]; omega)]
    · refine ⟨rfl, rfl, rfl, by simp [sortWorldK, putRowK, putRow, mapBlock, Sort.ahead, grow], fun i hi hne => ?_⟩
      unfold sortWorldK putRowK
      rw [heap_grow_old _ _ (by simpa using hi)]
      have : g ≠ i := fun e => hne (by rw [e])
      simp [putRow, mapBlock, Sort.ahead, Array.getElem?_modify, this]

/-- The library's sort, as a fact on lists. -/
theorem perm_sorted {lt : α → α → Bool} {l : List α} {d' : Array α} (hp : PermIn 0 l.toArray.size l.toArray d') (hs : SortedIn lt 0 l.toArray.size d') :
    d'.toList.Perm l ∧ d'.size = l.length ∧ d'.toList.Pairwise fun x y => lt y x = false := by
  obtain ⟨h1, _, h3⟩ := hp
  have h1' : d'.size = l.length := by simpa using h1
  refine ⟨?_, h1', ?_⟩
  · have e1 : d'.extract 0 l.toArray.size = d' := by
      rw [Array.extract_eq_self_of_le (by simp [h1'])]
    have e2 : l.toArray.extract 0 l.toArray.size = l.toArray := by
      rw [Array.extract_eq_self_of_le (Nat.le_refl _)]
    rw [e1, e2] at h3
    simpa using h3
  · rw [List.pairwise_iff_getElem]
    intro i j hi hj hij
    have hi' : i < d'.size := by simpa using hi
    have hj' : j < d'.size := by simpa using hj
    have := hs i j (Nat.zero_le _) hij (by simp; omega)
    rw [getElem!_pos d' j hj', getElem!_pos d' i hi'] at this
    simpa using this
end

end Go.Proofs.Ytbhjnihcmfagjaa
