/-
  append of records, with the wider bound on the row's bytes (the capacity may come to 2^48).
-/
import Derived.Test.YtlillkfelfoafaaOrd
import Derived.Test.YtlillkfelfoafaaStp
import Derived.Deep.DeepAppendWide
set_option linter.unusedVariables false
set_option linter.unusedSimpArgs false
namespace Go.Proofs.Ytlillkfelfoafaa
open Go.RowKit RP

theorem step_append_blkW {α : Type} {enc : α → List Value} {k : Nat} {P : Program} {ops : Array Oper} {o : Oper} {a : Act} {w : World} {K : Act → World → Prop} {Q : Exit → Act → World → Prop} {E0 : Prop}
    (hgd : o.guard = none) (s x : Operand) (t : TypeId)
    (ho : o.op = .call { callee := .builtin .append, args := #[s, x], argTypes := #[t, t] })
    (base : Nat) (e : TypeId) (bytes : Nat) (ht : P.underlying t = some (.slice e)) (E : ElemOk P enc k e bytes)
    (v : Value) (l : List α) (hs : a.eval s = v) (hown : Own enc k e w base v l)
    (new : List α) (g m c : Nat) (hx : a.eval x = .slice (some ⟨g, 0, none⟩) m c) (hm : m = new.length) (e' : TypeId) (hblk : w.heap[g]? = some (.cells (new.flatMap enc).toArray e' (0, 0)))
    (h63 : l.length + new.length ≤ maxLen) (hbytes : ((l.length + new.length) + (l.length + new.length) / 4 + 192) * bytes ≤ 281474976710656) (hbase : base ≤ w.heap.size)
    (h : ∀ v' w', Own enc k e w' base v' (l ++ new) → w.grownBy w' v.ownBlock → K (a.put o.dst v') w') :
    if Region.wanted o (yielded ops a.tmps) = true then Oper.wp P o a w K Q else E0 := by
  subst hm
  obtain ⟨i, z, hi, hz, hsz, hby, hzs⟩ := E.info
  have hcells : ∀ j u, (new.flatMap enc)[j]? = some u → w.cell? ((⟨g, 0, none⟩ : Addr).add j) = some u := fun j u hu => by
    have e1 : ((⟨g, 0, none⟩ : Addr).add j) = ⟨g, j, none⟩ := by
      unfold Addr.add
      split
      · rename_i h0; have : j = 0 := by simpa using h0
        rw [this]
      · simp
    rw [e1, cell_of_row w g j (new.flatMap enc).toArray e' (0, 0) hblk]
    simpa using hu
  obtain ⟨v', w', hrun, h2, h3, _⟩ := run_append_own_wide (P := P) w base t o.type e i z k bytes ht hi hz hsz hby hzs E.pos v l.length (l.flatMap enc) hown
    ⟨g, 0, none⟩ new.length c (new.flatMap enc) (flatMap_length E.len new) hcells (fun u hu => by
      obtain ⟨x, _, hx⟩ := List.mem_flatMap.1 hu
      exact E.one x u hx) h63 hbytes hbase
  have hK := h v' w' (by
      show w'.ownsRow base e k v' (l ++ new).length ((l ++ new).flatMap enc)
      rw [List.length_append, List.flatMap_append]; exact h2) h3
  have hw : Region.wanted o (yielded ops a.tmps) = true := by simp [Region.wanted, hgd]
  rw [if_pos hw]
  unfold Oper.wp execOp
  simp only [ho, resolve, invoke, builtin, Sem.run_bind, Sem.run_pure, Result.andThen_ok, List.map_toArray, List.map_cons, List.map_nil, hs, hx, hrun]
  exact hK
theorem wpListIn_append_recW {α : Type} {F : Fence} {nF : Nat} {enc : α → List Value} {k : Nat} {P : Program} {ops : Array Oper} {rest : List Oper} {o : Oper} {a : Act} {Q : Exit → Act → World → Prop} {W : World}
    (hgd : o.guard = none) (s x : Operand) (t : TypeId)
    (ho : o.op = .call { callee := .builtin .append, args := #[s, x], argTypes := #[t, t] })
    (base : Nat) (e : TypeId) (bytes : Nat) (ht : P.underlying t = some (.slice e)) (E : ElemOk P enc k e bytes)
    (v : Value) (l : List α) (hs : a.eval s = v) (hown : Own enc k e W base v l)
    (new : List α) (cs : Array Value) (hcs : cs = (new.flatMap enc).toArray) (m c : Nat) (hx : a.eval x = .slice (some ⟨W.heap.size, 0, none⟩) m c) (hm : m = new.length)
    (h63 : l.length + new.length ≤ maxLen) (hbytes : ((l.length + new.length) + (l.length + new.length) / 4 + 192) * bytes ≤ 281474976710656) (hbase : base ≤ W.heap.size)
    (h : ∀ v' w', Own enc k e w' base v' (l ++ new) → (W.alloc (.cells cs e)).grownBy w' v.ownBlock → wpListIn F nF P ops Q rest (a.put o.dst v') w') :
    wpListIn F nF P ops Q (o :: rest) a (W.alloc (.cells cs e)) := by
  subst hcs hm
  obtain ⟨i, z, hi, hz, hsz, hby, hzs⟩ := E.info
  have hcells : ∀ j u, (new.flatMap enc)[j]? = some u → (W.alloc (.cells (new.flatMap enc).toArray e)).cell? ((⟨W.heap.size, 0, none⟩ : Addr).add j) = some u := fun j u hu => by
    have e1 : ((⟨W.heap.size, 0, none⟩ : Addr).add j) = ⟨W.heap.size, j, none⟩ := by
      unfold Addr.add
      split
      · rename_i h0; have : j = 0 := by simpa using h0
        rw [this]
      · simp
    rw [e1, cell_of_row (W.alloc _) W.heap.size j (new.flatMap enc).toArray e (0, 0) (heap_alloc_new W _)]
    simpa using hu
  obtain ⟨v', w', hr, h2, h3, _⟩ := run_append_own_wide (P := P) (W.alloc (.cells (new.flatMap enc).toArray e)) base t o.type e i z k bytes ht hi hz hsz hby hzs E.pos v l.length (l.flatMap enc) (World.ownsRow.alloc hown _)
    ⟨W.heap.size, 0, none⟩ new.length c (new.flatMap enc) (flatMap_length E.len new) hcells (fun u hu => by
      obtain ⟨x, _, hx⟩ := List.mem_flatMap.1 hu
      exact E.one x u hx) h63 hbytes (by simp; omega)
  refine wpListIn_plain hgd fun K hK => ?_
  unfold Oper.wpIn
  refine ⟨by simp [Oper.about, ho, resolve, Target.leads, Sem.run_pure], ?_⟩
  rw [Oper.semAt_plain F _ _ (by rw [ho]; intro c hc'; cases hc')]
  simp [execOp, ho, resolve, invoke, builtin, hs, hx, hr, Result.andThen]
  refine hK _ _ (h v' w' ?_ h3)
  show w'.ownsRow base e k v' (l ++ new).length ((l ++ new).flatMap enc)
  rw [List.length_append, List.flatMap_append]; exact h2
end Go.Proofs.Ytlillkfelfoafaa
