/-
  The queue of the table, and append onto it.
-/
import Derived.Test.YtbhjnihcmfagjaaTabC
import Derived.Deep.AppendSrc
import Derived.Laws.IdiomCopy
set_option linter.unusedVariables false
set_option linter.unusedSimpArgs false
namespace Go.Proofs.Ytbhjnihcmfagjaa
open Go.RowKit Go.Shelf RP

/-- Numbers below n in a list without repetition. -/
theorem nodup_len : ∀ (n : Nat) (l : List Nat), l.Nodup → (∀ x ∈ l, x < n) → l.length ≤ n
  | 0, l, _, h => by
    cases l with
    | nil => simp
    | cons x r => have := h x (by simp); omega
  | n + 1, l, hd, h => by
    by_cases hn : n ∈ l
    · have h1 : (l.erase n).length ≤ n := nodup_len n _ (hd.erase n) fun x hx => by
        have hx' := List.mem_of_mem_erase hx
        have := h x hx'
        have : x ≠ n := fun e => by subst e; exact (List.Nodup.mem_erase_iff hd).1 hx |>.1 rfl
        omega
      rw [List.length_erase_of_mem hn] at h1
      omega
    · have := nodup_len n l hd fun x hx => by
        have := h x hx
        have : x ≠ n := fun e => hn (e ▸ hx)
        omega
      omega
/-- Pairs of events in order, without repetition. -/
def GoodQ (m : Nat) (q : List (Nat × Nat)) : Prop := q.Nodup ∧ ∀ p ∈ q, p.1 < p.2 ∧ p.2 < m
theorem GoodQ.len {m : Nat} {q : List (Nat × Nat)} (h : GoodQ m q) : q.length ≤ m * m := by
  have := nodup_len (m * m) (q.map fun p => p.1 * m + p.2) (by
    rw [List.Nodup, List.pairwise_map]
    refine List.Pairwise.imp_of_mem ?_ h.1
    intro a b ha hb hne e
    have h1 := h.2 a ha
    have h2 := h.2 b hb
    obtain ⟨e1, e2⟩ := idx_inj (m := m) (by omega) (by omega) e
    exact hne (Prod.ext e1 e2)) (fun x hx => by
    obtain ⟨p, hp, rfl⟩ := List.mem_map.1 hx
    have := h.2 p hp
    exact idx_lt (by omega) (by omega))
  simpa using this

/-- The queue: pairs in a block of its own, from an offset on. -/
def Que (w : World) (gt gs gw : Nat) (M : List Nat) (vq : Value) (q : List (Nat × Nat)) : Prop :=
  (vq = .slice none 0 0 ∧ q = []) ∨
  ∃ gq off c, vq = .slice (some ⟨gq, off, none⟩) q.length c ∧ gq ∈ M ∧ gq < w.heap.size ∧ gq ≠ gt ∧ gq ≠ gs ∧ gq ≠ gw ∧ q.length ≤ c ∧ c ≤ maxLen ∧
    (∀ k p, q[k]? = some p → w.cell? ⟨gq, off + k * 2, none⟩ = some (.int .i64 (p.1 : Nat)) ∧ w.cell? ⟨gq, off + k * 2 + 1, none⟩ = some (.int .i64 (p.2 : Nat))) ∧
    (∀ o, o < c * 2 → (w.cell? ⟨gq, off + o, none⟩).isSome = true) ∧ (∀ o, w.frozen? ⟨gq, o, none⟩ = false)

section
variable {w w' : World} {gt gs gw : Nat} {M M' : List Nat} {vq : Value} {q : List (Nat × Nat)}
theorem Que.kept (h : Que w gt gs gw M vq q) (hk : ∀ g, g < w.heap.size → g ∈ M → g ≠ gt → g ≠ gs → g ≠ gw → w'.heap[g]? = w.heap[g]?) (hz : w.heap.size ≤ w'.heap.size) (hM : ∀ k ∈ M, k ∈ M') : Que w' gt gs gw M' vq q := by
  rcases h with h | ⟨gq, off, c, h1, h2, h3, h4, h5, h6, h7, h8, h9, h10, h11⟩
  · exact .inl h
  · have e := hk gq h3 h2 h4 h5 h6
    have ec : ∀ o, w'.cell? ⟨gq, o, none⟩ = w.cell? ⟨gq, o, none⟩ := fun o => World.cell?_of_block (a := ⟨gq, o, none⟩) e
    have ef : ∀ o, w'.frozen? ⟨gq, o, none⟩ = w.frozen? ⟨gq, o, none⟩ := fun o => World.frozen?_of_block (a := ⟨gq, o, none⟩) e
    refine .inr ⟨gq, off, c, h1, hM _ h2, by omega, h4, h5, h6, h7, h8, fun k p hp => by rw [ec, ec]; exact h9 k p hp, fun o ho => by rw [ec]; exact h10 o ho, fun o => by rw [ef]; exact h11 o⟩

def encP (p : Nat × Nat) : List Value := [.int .i64 (p.1 : Nat), .int .i64 (p.2 : Nat)]
theorem encP_len (p : Nat × Nat) : (encP p).length = 2 := rfl
/-- .. in a block just made. -/
theorem que_new (w : World) (gt gs gw : Nat) (M : List Nat) (e : TypeId) (q : List (Nat × Nat)) (zs : Array Value) (c : Nat) (hzs : (q.length * 2 + zs.size) = c * 2) (hc : c ≤ maxLen) (hgt : gt < w.heap.size) (hgs : gs < w.heap.size) (hgw : gw < w.heap.size) :
    Que (w.drew.alloc (.cells ((q.flatMap encP).toArray ++ zs) e)) gt gs gw (w.heap.size :: M) (.slice (some ⟨w.heap.size, 0, none⟩) q.length c) q := by
  have hb : (w.drew.alloc (.cells ((q.flatMap encP).toArray ++ zs) e)).heap[w.heap.size]? = some (.cells ((q.flatMap encP).toArray ++ zs) e (0, 0)) := heap_alloc_new w.drew _
  have hl := flatMap_length encP_len q
  have hsz : ((q.flatMap encP).toArray ++ zs).size = c * 2 := by rw [Array.size_append, List.size_toArray, hl]; exact hzs
  have hget : ∀ o, o < q.length * 2 → ((q.flatMap encP).toArray ++ zs)[o]? = (q.flatMap encP)[o]? := fun o ho => by
    rw [Array.getElem?_append_left (by rw [List.size_toArray, hl]; exact ho)]; simp
  refine .inr ⟨w.heap.size, 0, c, rfl, by simp, by show w.heap.size < (w.drew.alloc _).heap.size; simp, by omega, by omega, by omega, by omega, hc, fun k p hp => ?_, fun o ho => ?_, fun o => ?_⟩
  · have hk := (List.getElem?_eq_some_iff.1 hp).1
    refine ⟨?_, ?_⟩
    · rw [cell_of_row _ _ _ _ _ _ hb, Nat.zero_add, hget _ (by omega)]
      exact flatMap_get encP_len q k p hp 0 (by omega)
    · rw [cell_of_row _ _ _ _ _ _ hb, Nat.zero_add, hget _ (by omega)]
      exact flatMap_get encP_len q k p hp 1 (by omega)
  · rw [cell_of_row _ _ _ _ _ _ hb, Nat.zero_add, Array.getElem?_eq_getElem (by rw [hsz]; exact ho)]; rfl
  · unfold World.frozen?
    rw [show (w.drew.alloc (.cells ((q.flatMap encP).toArray ++ zs) e)).heap[(⟨w.heap.size, o, none⟩ : Addr).block]? = _ from hb]
    simp

/-- A pair more. -/
theorem que_append {P : Program} (t ty e : TypeId) (i : TypeInfo) (z : Value) (ht : P.underlying t = some (.slice e)) (hi : P.info? e = some i) (hz : i.zero = some z) (hsz : i.size = 2) (hby : i.bytes = 16) (hzs : z.cells.size = 2)
    (h : Que w gt gs gw M vq q) (hl : q.length ≤ 2304) (hgt : gt < w.heap.size) (hgs : gs < w.heap.size) (hgw : gw < w.heap.size) (a b : Nat) (g : Nat) (t' : TypeId) (hblk : w.heap[g]? = some (.cells #[.int .i64 a, .int .i64 b] t' (0, 0))) :
    ∃ v' w' M', (Builtin.append_ #[t, t] ty #[vq, .slice (some ⟨g, 0, none⟩) 1 1]).run P w = .ok v' w' ∧ Que w' gt gs gw M' v' (q ++ [(a, b)]) ∧
      (∀ k, k < w.heap.size → (k ∉ M ∨ k = gt ∨ k = gs ∨ k = gw) → w'.heap[k]? = w.heap[k]?) ∧ w.heap.size ≤ w'.heap.size ∧ w'.os = w.os ∧ w'.tape = w.tape ∧ w'.output = w.output ∧
      (∀ k ∈ M, k ∈ M') ∧ (∀ k ∈ M', k ∈ M ∨ (w.heap.size ≤ k ∧ k < w'.heap.size)) := by
  have hc : ∀ j u, [Value.int .i64 a, Value.int .i64 b][j]? = some u → w.cell? ((⟨g, 0, none⟩ : Addr).add j) = some u := fun j u hu => by
    have e1 : ((⟨g, 0, none⟩ : Addr).add j) = ⟨g, j, none⟩ := by
      unfold Addr.add
      split
      · rename_i h0; have : j = 0 := by simpa using h0
        rw [this]
      · simp
    rw [e1, cell_of_row w g j _ t' (0, 0) hblk]
    simpa using hu
  have hsrc : Go.Src P i.size t (.slice (some ⟨g, 0, none⟩) 1 1) 1 [.int .i64 a, .int .i64 b] w := Go.Src.ofSlice w ht ⟨g, 0, none⟩ 1 1 _ (by rw [hsz]; rfl) hc (by simp [Value.oneCell'])
  have news : [Value.int .i64 a, Value.int .i64 b] = encP (a, b) := rfl
  have grow : ∀ (base : Option Addr) (c : Nat), c < q.length + 1 → (Builtin.firstCells i.size q.length (.slice base q.length c)).run P w.drew = .ok (q.flatMap encP).toArray w.drew → vq = .slice base q.length c →
      ∃ v' w' M', (Builtin.append_ #[t, t] ty #[vq, .slice (some ⟨g, 0, none⟩) 1 1]).run P w = .ok v' w' ∧ Que w' gt gs gw M' v' (q ++ [(a, b)]) ∧
      (∀ k, k < w.heap.size → (k ∉ M ∨ k = gt ∨ k = gs ∨ k = gw) → w'.heap[k]? = w.heap[k]?) ∧ w.heap.size ≤ w'.heap.size ∧ w'.os = w.os ∧ w'.tape = w.tape ∧ w'.output = w.output ∧
      (∀ k ∈ M, k ∈ M') ∧ (∀ k ∈ M', k ∈ M ∨ (w.heap.size ≤ k ∧ k < w'.heap.size)) := by
    intro base c hlt hold hv
    subst hv
    have hr := run_append_grow_src (P := P) w t t ty e i z ht hi hz base q.length c (q.flatMap encP) hold _ 1 _ hsrc hlt (by omega) (growslice_fits hlt (by rw [hby]; omega))
    have hge := grownCap_ge w (q.length + 1) c e
    have hcm : grownCap w (q.length + 1) c e ≤ maxLen := grownCap_le_maxLen w (q.length + 1) c e (by simp only [maxLen]; omega)
    have hq := que_new w gt gs gw M e (q ++ [(a, b)]) (Builtin.zeroCells z.cells (grownCap w (q.length + 1) c e - (q.length + 1))) (grownCap w (q.length + 1) c e) (by simp only [size_zeroCells, hzs, List.length_append, List.length_cons, List.length_nil]; omega) hcm hgt hgs hgw
    rw [List.flatMap_append, List.length_append] at hq
    refine ⟨_, _, _, hr, hq, fun k hk _ => heap_alloc_old w.drew _ hk, by simp, rfl, rfl, rfl, fun k hk => by simp [hk], fun k hk => ?_⟩
    rcases List.mem_cons.1 hk with rfl | hk
    · exact .inr ⟨Nat.le_refl _, by show w.heap.size < (w.drew.alloc _).heap.size; simp⟩
    · exact .inl hk
  rcases h with ⟨rfl, rfl⟩ | ⟨gq, off, c, rfl, h2, h3, h4, h5, h6, h7, h8, h9, h10, h11⟩
  · exact grow none 0 (by simp) (by simp [Builtin.firstCells]) rfl
  · by_cases hroom : q.length + 1 ≤ c
    · have hr := run_append_room_src (P := P) w t t ty e i ht hi gq off q.length c _ 1 _ hsrc hroom (fun j hj => by
        rw [hsz, Nat.add_assoc]; exact h10 _ (by simp at hj; omega)) (fun j _ => h11 _)
      rw [hsz] at hr
      have hw : w.setCells gq (off + q.length * 2) [.int .i64 a, .int .i64 b] = (w.setCell ⟨gq, off + q.length * 2, none⟩ (.int .i64 a)).setCell ⟨gq, off + q.length * 2 + 1, none⟩ (.int .i64 b) := rfl
      rw [hw] at hr
      have hk : Kept [gq] w ((w.setCell ⟨gq, off + q.length * 2, none⟩ (.int .i64 a)).setCell ⟨gq, off + q.length * 2 + 1, none⟩ (.int .i64 b)) := ((Kept.refl [gq] w).setCell gq _ _ (.inl (by simp))).setCell gq _ _ (.inl (by simp))
      have d0 := h10 (q.length * 2) (by omega)
      have d1 := h10 (q.length * 2 + 1) (by omega)
      have hz' : ((w.setCell ⟨gq, off + q.length * 2, none⟩ (.int .i64 a)).setCell ⟨gq, off + q.length * 2 + 1, none⟩ (.int .i64 b)).heap.size = w.heap.size := by simp [World.setCell]
      refine ⟨_, _, M, hr, .inr ⟨gq, off, c, by simp, h2, by omega, h4, h5, h6, by simpa using hroom, h8, fun k p hp => ?_, fun o ho => ?_, fun o => ?_⟩, fun k hk' hn => hk.block k hk' ?_, hk.size, hk.os, hk.tape, hk.output, fun _ h => h, fun _ h => .inl h⟩
      · by_cases hkq : k < q.length
        · rw [List.getElem?_append_left hkq] at hp
          obtain ⟨x1, x2⟩ := h9 k p hp
          refine ⟨?_, ?_⟩
          · rw [World.cell?_setCell_other _ _ _ _ (fun q => by injection q; omega), World.cell?_setCell_other _ _ _ _ (fun q => by injection q; omega)]; exact x1
          · rw [World.cell?_setCell_other _ _ _ _ (fun q => by injection q; omega), World.cell?_setCell_other _ _ _ _ (fun q => by injection q; omega)]; exact x2
        · have hk2 := (List.getElem?_eq_some_iff.1 hp).1
          simp at hk2
          obtain rfl : k = q.length := by omega
          simp at hp
          subst hp
          refine ⟨?_, ?_⟩
          · rw [World.cell?_setCell_other _ _ _ _ (fun q => by injection q; omega), World.cell?_setCell_same' _ _ _ d0]
          · rw [World.cell?_setCell_same' _ _ _ (by rw [World.cell?_setCell_other _ _ _ _ (fun q => by injection q; omega)]; exact d1)]
      · by_cases e0 : off + o = off + q.length * 2
        · rw [e0, World.cell?_setCell_other _ _ _ _ (fun q => by injection q; omega), World.cell?_setCell_same' _ _ _ d0]; rfl
        · by_cases e1 : off + o = off + q.length * 2 + 1
          · rw [e1, World.cell?_setCell_same' _ _ _ (by rw [World.cell?_setCell_other _ _ _ _ (fun q => by injection q; omega)]; exact d1)]; rfl
          · rw [World.cell?_setCell_other _ _ _ _ (fun q => by injection q; omega), World.cell?_setCell_other _ _ _ _ (fun q => by injection q; omega)]; exact h10 o ho
      · rw [World.frozen?_setCell, World.frozen?_setCell]; exact h11 o
      · intro e
        have e := List.mem_singleton.1 e
        subst e
        rcases hn with hn | hn | hn | hn
        · exact hn h2
        · exact h4 hn
        · exact h5 hn
        · exact h6 hn
    · refine grow (some ⟨gq, off, none⟩) c (by omega) (run_firstCells_some w.drew i.size q.length ⟨gq, off, none⟩ q.length c (q.flatMap encP) (by rw [hsz, flatMap_length encP_len]) fun j u hu => ?_) rfl
      have hjl : j < q.length * 2 := by rw [← flatMap_length encP_len q]; exact (List.getElem?_eq_some_iff.1 hu).1
      have hi' : j / 2 < q.length := by omega
      have h3' := flatMap_get encP_len q (j / 2) q[j / 2] (by simp [hi']) (j % 2) (by omega)
      rw [Nat.div_add_mod' j 2, hu] at h3'
      obtain ⟨x1, x2⟩ := h9 (j / 2) q[j / 2] (by simp [hi'])
      have e1 : (⟨gq, off, none⟩ : Addr).add j = ⟨gq, off + j, none⟩ := by
        unfold Addr.add
        split
        · rename_i h0; have : j = 0 := by simpa using h0
          rw [this, Nat.add_zero]
        · simp
      rw [e1]
      show w.cell? ⟨gq, off + j, none⟩ = some u
      rcases Nat.mod_two_eq_zero_or_one j with hm | hm
      · rw [hm] at h3'
        have : off + j = off + j / 2 * 2 := by omega
        rw [this, x1]
        exact h3'.symm
      · rw [hm] at h3'
        have : off + j = off + j / 2 * 2 + 1 := by omega
        rw [this, x2]
        exact h3'.symm
end

end Go.Proofs.Ytbhjnihcmfagjaa
