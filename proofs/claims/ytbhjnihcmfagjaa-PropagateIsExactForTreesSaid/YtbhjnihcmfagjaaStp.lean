/-
  append of records that stand in a block, as one step of a region that draws its order.
  append of a slice that lies below, or is nil, onto a row of the call's own.
  append of a slice that lies below, or is nil, as one step of a region that draws its order.
-/
import Derived.Test.YtbhjnihcmfagjaaKit
import Derived.Deep.RegionHeld3
set_option linter.unusedVariables false
set_option linter.unusedSimpArgs false
namespace Go.Proofs.Ytbhjnihcmfagjaa
open Go.RowKit RP

theorem step_append_blk {α : Type} {enc : α → List Value} {k : Nat} {P : Program} {ops : Array Oper} {o : Oper} {a : Act} {w : World} {K : Act → World → Prop} {Q : Exit → Act → World → Prop} {E0 : Prop}
    (hgd : o.guard = none) (s x : Operand) (t : TypeId)
    (ho : o.op = .call { callee := .builtin .append, args := #[s, x], argTypes := #[t, t] })
    (base : Nat) (e : TypeId) (bytes : Nat) (ht : P.underlying t = some (.slice e)) (E : ElemOk P enc k e bytes)
    (v : Value) (l : List α) (hs : a.eval s = v) (hown : Own enc k e w base v l)
    (new : List α) (g m c : Nat) (hx : a.eval x = .slice (some ⟨g, 0, none⟩) m c) (hm : m = new.length) (e' : TypeId) (hblk : w.heap[g]? = some (.cells (new.flatMap enc).toArray e' (0, 0)))
    (h63 : l.length + new.length ≤ maxLen) (hbytes : (l.length + new.length) * bytes ≤ 140737488355328) (hbase : base ≤ w.heap.size)
    (h : ∀ v' w', Own enc k e w' base v' (l ++ new) → w.grownBy w' v.ownBlock → (v'.ownBlock = v.ownBlock ∨ v'.ownBlock = some w.heap.size) → K (a.put o.dst v') w') :
    if Region.wanted o (yielded ops a.tmps) = true then Oper.wp P o a w K Q else E0 := by
  subst hm
  obtain ⟨i, z, hi, hz, hsz, hby, hzs⟩ := E.info
  have hcells : ∀ j u, (new.flatMap enc)[j]? = some u → w.cell? ((⟨g, 0, none⟩ : Addr).add j) = some u := fun j u hu => by
    have e1 : ((⟨g, 0, none⟩ : Addr).add j) = ⟨g, j, none⟩ := by
      unfold Addr.add
      split
      · rename_i h0; have : j = 0 := by simpa using h0
        rw [this]
      · simp
    rw [e1, cell_of_row w g j (new.flatMap enc).toArray e' (0, 0) hblk]
    simpa using hu
  obtain ⟨v', w', hrun, h2, h3, _, h5⟩ := run_append_own_at (P := P) w base t o.type e i z k bytes ht hi hz hsz hby hzs E.pos v l.length (l.flatMap enc) hown
    ⟨g, 0, none⟩ new.length c (new.flatMap enc) (flatMap_length E.len new) hcells (fun u hu => by
      obtain ⟨x, _, hx⟩ := List.mem_flatMap.1 hu
      exact E.one x u hx) h63 hbytes hbase
  have hK := h v' w' (by
      show w'.ownsRow base e k v' (l ++ new).length ((l ++ new).flatMap enc)
      rw [List.length_append, List.flatMap_append]; exact h2) h3 h5
  have hw : Region.wanted o (yielded ops a.tmps) = true := by simp [Region.wanted, hgd]
  rw [if_pos hw]
  unfold Oper.wp execOp
  simp only [ho, resolve, invoke, builtin, Sem.run_bind, Sem.run_pure, Result.andThen_ok, List.map_toArray, List.map_cons, List.map_nil, hs, hx, hrun]
  exact hK

end Go.Proofs.Ytbhjnihcmfagjaa

namespace Go.Proofs.Ytbhjnihcmfagjaa
open Go.RowKit RP

/-- append of a slice that lies below, or is nil, onto a row of the call's own. -/
theorem wpList_append_lst {α : Type} {enc : α → List Value} {k : Nat} {P : Program} {ops : Array Oper} {rest : List Oper} {o : Oper} {a : Act} {Q : Exit → Act → World → Prop} {W : World}
    (hgd : o.guard = none) (s x : Operand) (t : TypeId)
    (ho : o.op = .call { callee := .builtin .append, args := #[s, x], argTypes := #[t, t] })
    (base : Nat) (e : TypeId) (bytes : Nat) (ht : P.underlying t = some (.slice e)) (E : ElemOk P enc k e bytes)
    (v : Value) (l : List α) (hs : a.eval s = v) (hown : Own enc k e W base v l)
    (new : List α) (A : Option Addr) (m c B : Nat) (hx : a.eval x = .slice A m c) (hm : m = new.length) (hl : Lst enc k W B A new)
    (h63 : l.length + new.length ≤ maxLen) (hbytes : (l.length + new.length) * bytes ≤ 140737488355328) (hbase : base ≤ W.heap.size)
    (h : ∀ v' w', Own enc k e w' base v' (l ++ new) → W.grownBy w' v.ownBlock → (v'.ownBlock = v.ownBlock ∨ v'.ownBlock = some W.heap.size) → wpList P ops Q rest (a.put o.dst v') w') :
    wpList P ops Q (o :: rest) a W := by
  subst hm
  obtain ⟨i, z, hi, hz, hsz, hby, hzs⟩ := E.info
  refine wpList_plain hgd fun K hK => ?_
  have key : ∃ v' w', (Builtin.append_ #[t, t] o.type #[v, .slice A new.length c]).run P W = .ok v' w' ∧ Own enc k e w' base v' (l ++ new) ∧ W.grownBy w' v.ownBlock ∧ (v'.ownBlock = v.ownBlock ∨ v'.ownBlock = some W.heap.size) := by
    rcases A with _ | ad
    · have hnil : new = [] := by
        cases new with
        | nil => rfl
        | cons x r => obtain ⟨b, off, h0, _⟩ := hl (by simp); cases h0
      subst hnil
      refine ⟨v, W, ?_, by rw [List.append_nil]; exact hown, grownBy_refl _ _, .inl rfl⟩
      rcases hown.2 with ⟨rfl, h0⟩ | ⟨g, cap, cur, rfl, _, _, hnc, _⟩
      · simp [Builtin.append_, run_underlying ht, sizeOf, typeInfo, hi, Builtin.lenOf, Builtin.firstCells]
      · simp [Builtin.append_, run_underlying ht, sizeOf, typeInfo, hi, Builtin.lenOf, Builtin.firstCells, hnc, storeCells]
    · have hcells : ∀ j u, (new.flatMap enc)[j]? = some u → W.cell? (ad.add j) = some u := by
        intro j u hu
        by_cases h0 : new = []
        · subst h0; simp at hu
        · obtain ⟨b, off, hA, _, hc⟩ := hl h0
          injection hA with hA
          subst hA
          have hjl : j < new.length * k := by
            rw [← flatMap_length E.len]; exact (List.getElem?_eq_some_iff.1 hu).1
          have hi' : j / k < new.length := Nat.div_lt_of_lt_mul (by rw [Nat.mul_comm]; exact hjl)
          have hj' : j % k < k := Nat.mod_lt _ E.pos
          have h3 := flatMap_get E.len new (j / k) new[j / k] (by simp [hi']) (j % k) hj'
          rw [Nat.div_add_mod' j k, hu] at h3
          have := hc (j / k) new[j / k] (by simp [hi']) (j % k) u h3.symm
          rw [Nat.add_assoc, Nat.div_add_mod' j k] at this
          have e1 : (⟨b, off, none⟩ : Addr).add j = ⟨b, off + j, none⟩ := by
            unfold Addr.add
            split
            · rename_i h0; have : j = 0 := by simpa using h0
              rw [this, Nat.add_zero]
            · simp
          rw [e1]; exact this
      obtain ⟨v', w', hrun, h2, h3, _, h5⟩ := run_append_own_at (P := P) W base t o.type e i z k bytes ht hi hz hsz hby hzs E.pos v l.length (l.flatMap enc) hown
        ad new.length c (new.flatMap enc) (flatMap_length E.len new) hcells (fun u hu => by
          obtain ⟨x, _, hx⟩ := List.mem_flatMap.1 hu
          exact E.one x u hx) h63 hbytes hbase
      exact ⟨v', w', hrun, by
        show w'.ownsRow base e k v' (l ++ new).length ((l ++ new).flatMap enc)
        rw [List.length_append, List.flatMap_append]; exact h2, h3, h5⟩
  obtain ⟨v', w', hrun, h2, h3, h5⟩ := key
  have hK' := hK (a.put o.dst v') w' (h v' w' h2 h3 h5)
  unfold Oper.wp execOp
  simp only [ho, resolve, invoke, builtin, Sem.run_bind, Sem.run_pure, Result.andThen_ok, List.map_toArray, List.map_cons, List.map_nil, hs, hx, hrun]
  exact hK'

end Go.Proofs.Ytbhjnihcmfagjaa

namespace Go.Proofs.Ytbhjnihcmfagjaa
open Go.RowKit RP

theorem step_append_lst {α : Type} {enc : α → List Value} {k : Nat} {P : Program} {ops : Array Oper} {o : Oper} {a : Act} {W : World} {K : Act → World → Prop} {Q : Exit → Act → World → Prop} {E0 : Prop}
    (hgd : o.guard = none) (s x : Operand) (t : TypeId)
    (ho : o.op = .call { callee := .builtin .append, args := #[s, x], argTypes := #[t, t] })
    (base : Nat) (e : TypeId) (bytes : Nat) (ht : P.underlying t = some (.slice e)) (E : ElemOk P enc k e bytes)
    (v : Value) (l : List α) (hs : a.eval s = v) (hown : Own enc k e W base v l)
    (new : List α) (A : Option Addr) (m c B : Nat) (hx : a.eval x = .slice A m c) (hm : m = new.length) (hl : Lst enc k W B A new)
    (h63 : l.length + new.length ≤ maxLen) (hbytes : (l.length + new.length) * bytes ≤ 140737488355328) (hbase : base ≤ W.heap.size)
    (h : ∀ v' w', Own enc k e w' base v' (l ++ new) → W.grownBy w' v.ownBlock → (v'.ownBlock = v.ownBlock ∨ v'.ownBlock = some W.heap.size) → K (a.put o.dst v') w') :
    if Region.wanted o (yielded ops a.tmps) = true then Oper.wp P o a W K Q else E0 := by
  subst hm
  obtain ⟨i, z, hi, hz, hsz, hby, hzs⟩ := E.info
  have key : ∃ v' w', (Builtin.append_ #[t, t] o.type #[v, .slice A new.length c]).run P W = .ok v' w' ∧ Own enc k e w' base v' (l ++ new) ∧ W.grownBy w' v.ownBlock ∧ (v'.ownBlock = v.ownBlock ∨ v'.ownBlock = some W.heap.size) := by
    rcases A with _ | ad
    · have hnil : new = [] := by
        cases new with
        | nil => rfl
        | cons x r => obtain ⟨b, off, h0, _⟩ := hl (by simp); cases h0
      subst hnil
      refine ⟨v, W, ?_, by rw [List.append_nil]; exact hown, grownBy_refl _ _, .inl rfl⟩
      rcases hown.2 with ⟨rfl, h0⟩ | ⟨g, cap, cur, rfl, _, _, hnc, _⟩
      · simp [Builtin.append_, run_underlying ht, sizeOf, typeInfo, hi, Builtin.lenOf, Builtin.firstCells]
      · simp [Builtin.append_, run_underlying ht, sizeOf, typeInfo, hi, Builtin.lenOf, Builtin.firstCells, hnc, storeCells]
    · have hcells : ∀ j u, (new.flatMap enc)[j]? = some u → W.cell? (ad.add j) = some u := by
        intro j u hu
        by_cases h0 : new = []
        · subst h0; simp at hu
        · obtain ⟨b, off, hA, _, hc⟩ := hl h0
          injection hA with hA
          subst hA
          have hjl : j < new.length * k := by
            rw [← flatMap_length E.len]; exact (List.getElem?_eq_some_iff.1 hu).1
          have hi' : j / k < new.length := Nat.div_lt_of_lt_mul (by rw [Nat.mul_comm]; exact hjl)
          have hj' : j % k < k := Nat.mod_lt _ E.pos
          have h3 := flatMap_get E.len new (j / k) new[j / k] (by simp [hi']) (j % k) hj'
          rw [Nat.div_add_mod' j k, hu] at h3
          have := hc (j / k) new[j / k] (by simp [hi']) (j % k) u h3.symm
          rw [Nat.add_assoc, Nat.div_add_mod' j k] at this
          have e1 : (⟨b, off, none⟩ : Addr).add j = ⟨b, off + j, none⟩ := by
            unfold Addr.add
            split
            · rename_i h0; have : j = 0 := by simpa using h0
              rw [this, Nat.add_zero]
            · simp
          rw [e1]; exact this
      obtain ⟨v', w', hrun, h2, h3, _, h5⟩ := run_append_own_at (P := P) W base t o.type e i z k bytes ht hi hz hsz hby hzs E.pos v l.length (l.flatMap enc) hown
        ad new.length c (new.flatMap enc) (flatMap_length E.len new) hcells (fun u hu => by
          obtain ⟨x, _, hx⟩ := List.mem_flatMap.1 hu
          exact E.one x u hx) h63 hbytes hbase
      exact ⟨v', w', hrun, by
        show w'.ownsRow base e k v' (l ++ new).length ((l ++ new).flatMap enc)
        rw [List.length_append, List.flatMap_append]; exact h2, h3, h5⟩
  obtain ⟨v', w', hrun, h2, h3, h5⟩ := key
  have hK := h v' w' h2 h3 h5
  have hw : Region.wanted o (yielded ops a.tmps) = true := by simp [Region.wanted, hgd]
  rw [if_pos hw]
  unfold Oper.wp execOp
  simp only [ho, resolve, invoke, builtin, Sem.run_bind, Sem.run_pure, Result.andThen_ok, List.map_toArray, List.map_cons, List.map_nil, hs, hx, hrun]
  exact hK

/-- .. of a list of operations, under a guard that is met. -/
theorem wpList_append_blk_w {α : Type} {enc : α → List Value} {k : Nat} {P : Program} {ops : Array Oper} {o : Oper} {a : Act} {w : World} {rest : List Oper} {Q : Exit → Act → World → Prop}
    (hwt : Region.wanted o (yielded ops a.tmps) = true) (s x : Operand) (t : TypeId)
    (ho : o.op = .call { callee := .builtin .append, args := #[s, x], argTypes := #[t, t] })
    (base : Nat) (e : TypeId) (bytes : Nat) (ht : P.underlying t = some (.slice e)) (E : ElemOk P enc k e bytes)
    (v : Value) (l : List α) (hs : a.eval s = v) (hown : Own enc k e w base v l)
    (new : List α) (g m c : Nat) (hx : a.eval x = .slice (some ⟨g, 0, none⟩) m c) (hm : m = new.length) (e' : TypeId) (hblk : w.heap[g]? = some (.cells (new.flatMap enc).toArray e' (0, 0)))
    (h63 : l.length + new.length ≤ maxLen) (hbytes : (l.length + new.length) * bytes ≤ 140737488355328) (hbase : base ≤ w.heap.size)
    (h : ∀ v' w', Own enc k e w' base v' (l ++ new) → w.grownBy w' v.ownBlock → (v'.ownBlock = v.ownBlock ∨ v'.ownBlock = some w.heap.size) → wpList P ops Q rest (a.put o.dst v') w') :
    wpList P ops Q (o :: rest) a w := by
  refine wpList_step fun K hK0 => ?_
  subst hm
  obtain ⟨i, z, hi, hz, hsz, hby, hzs⟩ := E.info
  have hcells : ∀ j u, (new.flatMap enc)[j]? = some u → w.cell? ((⟨g, 0, none⟩ : Addr).add j) = some u := fun j u hu => by
    have e1 : ((⟨g, 0, none⟩ : Addr).add j) = ⟨g, j, none⟩ := by
      unfold Addr.add
      split
      · rename_i h0; have : j = 0 := by simpa using h0
        rw [this]
      · simp
    rw [e1, cell_of_row w g j (new.flatMap enc).toArray e' (0, 0) hblk]
    simpa using hu
  obtain ⟨v', w', hrun, h2, h3, _, h5⟩ := run_append_own_at (P := P) w base t o.type e i z k bytes ht hi hz hsz hby hzs E.pos v l.length (l.flatMap enc) hown
    ⟨g, 0, none⟩ new.length c (new.flatMap enc) (flatMap_length E.len new) hcells (fun u hu => by
      obtain ⟨x, _, hx⟩ := List.mem_flatMap.1 hu
      exact E.one x u hx) h63 hbytes hbase
  have hK := hK0 _ _ (h v' w' (by
      show w'.ownsRow base e k v' (l ++ new).length ((l ++ new).flatMap enc)
      rw [List.length_append, List.flatMap_append]; exact h2) h3 h5)
  rw [if_pos hwt]
  unfold Oper.wp execOp
  simp only [ho, resolve, invoke, builtin, Sem.run_bind, Sem.run_pure, Result.andThen_ok, List.map_toArray, List.map_cons, List.map_nil, hs, hx, hrun]
  exact hK

end Go.Proofs.Ytbhjnihcmfagjaa
