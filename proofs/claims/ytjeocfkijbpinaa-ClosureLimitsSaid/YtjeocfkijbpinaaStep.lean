/-
  append of records that stand in a block, as one step of a region that draws its order.
-/
import Derived.Test.YtjeocfkijbpinaaKit
import Derived.Deep.RegionHeld3
set_option linter.unusedVariables false
set_option linter.unusedSimpArgs false
namespace Go.Proofs.Ytjeocfkijbpinaa
open Go.RowKit RP

theorem step_append_blk {α : Type} {enc : α → List Value} {k : Nat} {P : Program} {ops : Array Oper} {o : Oper} {a : Act} {w : World} {K : Act → World → Prop} {Q : Exit → Act → World → Prop} {E0 : Prop}
    (hgd : o.guard = none) (s x : Operand) (t : TypeId)
    (ho : o.op = .call { callee := .builtin .append, args := #[s, x], argTypes := #[t, t] })
    (base : Nat) (e : TypeId) (bytes : Nat) (ht : P.underlying t = some (.slice e)) (E : ElemOk P enc k e bytes)
    (v : Value) (l : List α) (hs : a.eval s = v) (hown : Own enc k e w base v l)
    (new : List α) (g m c : Nat) (hx : a.eval x = .slice (some ⟨g, 0, none⟩) m c) (hm : m = new.length) (e' : TypeId) (hblk : w.heap[g]? = some (.cells (new.flatMap enc).toArray e' (0, 0)))
    (h63 : l.length + new.length ≤ maxLen) (hbytes : (l.length + new.length) * bytes ≤ 140737488355328) (hbase : base ≤ w.heap.size)
    (h : ∀ v' w', Own enc k e w' base v' (l ++ new) → w.grownBy w' v.ownBlock → (v'.ownBlock = v.ownBlock ∨ v'.ownBlock = some w.heap.size) → K (a.put o.dst v') w') :
    if Region.wanted o (yielded ops a.tmps) = true then Oper.wp P o a w K Q else E0 := by
  subst hm
  obtain ⟨i, z, hi, hz, hsz, hby, hzs⟩ := E.info
  have hcells : ∀ j u, (new.flatMap enc)[j]? = some u → w.cell? ((⟨g, 0, none⟩ : Addr).add j) = some u := fun j u hu => by
    have e1 : ((⟨g, 0, none⟩ : Addr).add j) = ⟨g, j, none⟩ := by
      unfold Addr.add
      split
      · rename_i h0; have : j = 0 := by simpa using h0
        rw [this]
      · simp
    rw [e1, cell_of_row w g j (new.flatMap enc).toArray e' (0, 0) hblk]
    simpa using hu
  obtain ⟨v', w', hrun, h2, h3, _, h5⟩ := run_append_own_at (P := P) w base t o.type e i z k bytes ht hi hz hsz hby hzs E.pos v l.length (l.flatMap enc) hown
    ⟨g, 0, none⟩ new.length c (new.flatMap enc) (flatMap_length E.len new) hcells (fun u hu => by
      obtain ⟨x, _, hx⟩ := List.mem_flatMap.1 hu
      exact E.one x u hx) h63 hbytes hbase
  have hK := h v' w' (by
      show w'.ownsRow base e k v' (l ++ new).length ((l ++ new).flatMap enc)
      rw [List.length_append, List.flatMap_append]; exact h2) h3 h5
  have hw : Region.wanted o (yielded ops a.tmps) = true := by simp [Region.wanted, hgd]
  rw [if_pos hw]
  unfold Oper.wp execOp
  simp only [ho, resolve, invoke, builtin, Sem.run_bind, Sem.run_pure, Result.andThen_ok, List.map_toArray, List.map_cons, List.map_nil, hs, hx, hrun]
  exact hK

end Go.Proofs.Ytjeocfkijbpinaa
