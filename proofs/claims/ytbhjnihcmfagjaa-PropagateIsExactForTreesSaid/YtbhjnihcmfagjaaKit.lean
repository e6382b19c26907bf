/-
  Words for memory: a slice value that reads as a list of records ('Lst'), and what keeps it.
  From the row's readings to the walk's words: an int argument, a slice of ints, a slice of spans. (The theorem open_slice_fields is the kit's own text, extra-structs.md.)
  Contracts of the small arithmetic functions: Mod of both packages, inRange, Pick, Period.
-/
import Derived.Test.YtbhjnihcmfagjaaProg
import Derived.Test.YtbhjnihcmfagjaaPlain
import Derived.WalkKit
import Derived.WalkSpells
import Derived.WalkLawsBesides
import Derived.Lib.Hide
import Derived.KernelRfl
import Derived.Deep.QuietTactic
import Derived.BigQuiet
import Derived.Deep.LoopGhost
import Derived.Deep.DeepCutAuto
import Derived.Deep.Draws
import Derived.ProofKit
import Derived.OpenShut
import Derived.Deep.Slices
import Derived.Deep.Fields
import Derived.ChangeSame
set_option linter.unusedVariables false
set_option linter.unusedSimpArgs false
namespace Go.Proofs.Ytbhjnihcmfagjaa
open Go.RowKit RP

/-- The slice value '.slice A n c' with n = l.length reads as the list l of records of k cells; its block lies below B. -/
def Lst {α : Type} (enc : α → List Value) (k : Nat) (w : World) (B : Nat) (A : Option Addr) (l : List α) : Prop :=
  l ≠ [] → ∃ b off, A = some ⟨b, off, none⟩ ∧ b < B ∧ ∀ i x, l[i]? = some x → ∀ j v, (enc x)[j]? = some v → w.cell? ⟨b, off + i * k + j, none⟩ = some v

section
variable {α : Type} {enc : α → List Value} {k : Nat} {w w' : World} {B B' : Nat} {A : Option Addr} {l : List α}
theorem Lst.nil : Lst enc k w B A [] := fun h => absurd rfl h
theorem Lst.keep (h : Lst enc k w B A l) (hk : ∀ p : Addr, p.block < B → w'.cell? p = w.cell? p) : Lst enc k w' B A l := fun hl => by
  obtain ⟨b, off, e, hb, hc⟩ := h hl
  exact ⟨b, off, e, hb, fun i x hx j v hv => (hk _ hb).trans (hc i x hx j v hv)⟩
theorem Lst.more (h : Lst enc k w B A l) (hB : B ≤ B') : Lst enc k w B' A l := fun hl => by
  obtain ⟨b, off, e, hb, hc⟩ := h hl
  exact ⟨b, off, e, by omega, hc⟩
theorem Lst.below (h : Lst enc k w B A l) (hb : Below B w w') : Lst enc k w' B A l := h.keep fun _ hp => hb.cell hp
theorem Lst.belowMore (h : Lst enc k w B A l) (hb : Below B w w') (hB : B ≤ B') : Lst enc k w' B' A l := (h.below hb).more hB
end

theorem take_snoc {α : Type} (l : List α) (k : Nat) (h : k < l.length) : l.take (k + 1) = l.take k ++ [l[k]] := by
  rw [List.take_succ_eq_append_getElem h]

/-- A span's two cells. -/
def encS (x : Sp) : List Value := [.int .i64 x.1, .int .i64 x.2]

theorem Lst.sp {w : World} {B : Nat} {A : Option Addr} {l : List Sp} (h : Lst encS 2 w B A l) (i : Nat) (hi : i < l.length) :
    ∃ b off, A = some ⟨b, off, none⟩ ∧ b < B ∧ w.cell? ⟨b, off + i * 2, none⟩ = some (.int .i64 l[i].1) ∧ w.cell? ⟨b, off + i * 2 + 1, none⟩ = some (.int .i64 l[i].2) := by
  obtain ⟨b, off, e, hb, hc⟩ := h (by intro h0; subst h0; simp at hi)
  exact ⟨b, off, e, hb, hc i l[i] (List.getElem?_eq_getElem hi) 0 _ rfl, hc i l[i] (List.getElem?_eq_getElem hi) 1 _ rfl⟩

theorem below_drewN {B : Nat} {a w : World} (h : Below B a w) (n : Nat) : Below B a (w.drewN n) := ⟨h.os, h.tape, h.output, h.size, h.block⟩

theorem belA (w : World) (o : Obj) : Below w.heap.size w (w.alloc o) := (Below.refl _ _).alloc (Nat.le_refl _) _

theorem ret_int {k : IntKind} {a b : Int} (h : a = b) : Ending.returned (.int k a) = .returned (.int k b) := by rw [h]
theorem ret_bool {a b : Bool} (h : a = b) : Ending.returned (.bool a) = .returned (.bool b) := by rw [h]

/-- The value v owns, from block base on, a row that holds the records l. -/
def Own {α : Type} (enc : α → List Value) (k : Nat) (e : TypeId) (w : World) (base : Nat) (v : Value) (l : List α) : Prop :=
  w.ownsRow base e k v l.length (l.flatMap enc)

/-- What the append law asks of the element's type. -/
structure ElemOk {α : Type} (P : Program) (enc : α → List Value) (k : Nat) (e : TypeId) (bytes : Nat) : Prop where
  len : ∀ x, (enc x).length = k
  pos : 0 < k
  one : ∀ x, ∀ u ∈ enc x, u.oneCell' = true
  info : ∃ i z, P.info? e = some i ∧ i.zero = some z ∧ i.size = k ∧ i.bytes = bytes ∧ z.cells.size = k

theorem flatMap_length {α : Type} {enc : α → List Value} {k : Nat} (h : ∀ x, (enc x).length = k) : ∀ l : List α, (l.flatMap enc).length = l.length * k
  | [] => by simp
  | x :: l => by rw [List.flatMap_cons, List.length_append, h, flatMap_length h l, List.length_cons, Nat.add_mul, Nat.one_mul, Nat.add_comm]

theorem flatMap_get {α : Type} {enc : α → List Value} {k : Nat} (h : ∀ x, (enc x).length = k) : ∀ (l : List α) (i : Nat) (x : α), l[i]? = some x → ∀ j, j < k → (l.flatMap enc)[i * k + j]? = (enc x)[j]?
  | [], _, _, hx, _, _ => by simp at hx
  | y :: l, 0, x, hx, j, hj => by
    simp only [List.getElem?_cons_zero, Option.some.injEq] at hx
    subst hx
    rw [List.flatMap_cons, Nat.zero_mul, Nat.zero_add, List.getElem?_append_left (by rw [h]; exact hj)]
  | y :: l, i + 1, x, hx, j, hj => by
    rw [List.getElem?_cons_succ] at hx
    rw [List.flatMap_cons, List.getElem?_append_right (by rw [h, Nat.add_mul, Nat.one_mul]; omega), h, ← flatMap_get h l i x hx j hj]
    congr 1
    rw [Nat.add_mul, Nat.one_mul]
    omega

section
variable {α : Type} {enc : α → List Value} {k : Nat} {e : TypeId} {w w' : World} {base : Nat} {v : Value} {l : List α}

theorem Own.nil (enc : α → List Value) (k : Nat) (e : TypeId) (w : World) (base : Nat) : Own enc k e w base (.slice none 0 0) [] := World.ownsRow_nil w base e k
theorem Own.alloc (h : Own enc k e w base v l) (o : Obj) : Own enc k e (w.alloc o) base v l := World.ownsRow.alloc h o
theorem Own.form (h : Own enc k e w base v l) : ∃ A c, v = .slice A l.length c := by
  rcases h.2 with ⟨rfl, h0⟩ | ⟨g, cap, cur, rfl, _⟩
  · exact ⟨none, 0, by rw [h0]⟩
  · exact ⟨_, _, rfl⟩
theorem Own.kept {row : Option Nat} (h : Own enc k e w base v l) (hg : w.grownBy w' row) (hne : v.ownBlock = none ∨ v.ownBlock ≠ row) : Own enc k e w' base v l := World.ownsRow.kept h hg hne
theorem Own.below {B : Nat} (h : Own enc k e w base v l) (hb : Below B w w') (hB : ∀ g, v.ownBlock = some g → g < B) : Own enc k e w' base v l := by
  refine ⟨h.1, ?_⟩
  rcases h.2 with h0 | ⟨g, cap, cur, rfl, hg, hh, r⟩
  · exact .inl h0
  · exact .inr ⟨g, cap, cur, rfl, hg, (hb.block g (hB g rfl)).trans hh, r⟩
theorem Own.below' (h : Own enc k e w base v l) (hb : Below w.heap.size w w') : Own enc k e w' base v l := h.below hb fun g hg => (World.ownsRow.lt h g hg).2
theorem Own.rebase {b' : Nat} (h : Own enc k e w base v l) (hb : b' ≤ base) : Own enc k e w b' v l := by
  refine ⟨h.1, ?_⟩
  rcases h.2 with h0 | ⟨g, cap, cur, rfl, hg, r⟩
  · exact .inl h0
  · exact .inr ⟨g, cap, cur, rfl, by omega, r⟩
theorem Own.le (h : Own enc k e w base v l) {B : Nat} (hB : B ≤ base) : ∀ g, v.ownBlock = some g → B ≤ g := fun g hg => Nat.le_trans hB (World.ownsRow.lt h g hg).1
theorem Own.lst {A : Option Addr} {n c : Nat} (he : ∀ x, (enc x).length = k) (h : Own enc k e w base (.slice A n c) l) : Lst enc k w w.heap.size A l := fun hl => by
  rcases h.2 with ⟨h0, h1⟩ | ⟨g, cap, cur, hv, hg, hh, hn, hm, hs, ht⟩
  · exact absurd (List.eq_nil_of_length_eq_zero h1) hl
  · injection hv with hA
    subst hA
    refine ⟨g, 0, rfl, (World.ownsRow.lt h g rfl).2, fun i x hx j u hu => ?_⟩
    have hj : j < k := by rw [← he x]; exact (List.getElem?_eq_some_iff.1 hu).1
    have h3 := flatMap_get he l i x hx j hj
    have hil : i < l.length := (List.getElem?_eq_some_iff.1 hx).1
    have := h.cells (g := g) rfl (i * k + j) u (by rw [h3]; exact hu)
    have e1 : ((⟨g, 0, none⟩ : Addr).add (i * k + j)) = ⟨g, 0 + i * k + j, none⟩ := by
      unfold Addr.add
      split
      · rename_i h0; have : i * k + j = 0 := by simpa using h0
        rw [Nat.zero_add, this]
      · simp
    rw [← e1]; exact this
end

/-- append of records that stand in a block that was just laid, onto a row of the call's own. -/
theorem wpList_append_rec {α : Type} {enc : α → List Value} {k : Nat} {P : Program} {ops : Array Oper} {rest : List Oper} {o : Oper} {a : Act} {Q : Exit → Act → World → Prop} {W : World}
    (hgd : o.guard = none) (s x : Operand) (t : TypeId)
    (ho : o.op = .call { callee := .builtin .append, args := #[s, x], argTypes := #[t, t] })
    (base : Nat) (e : TypeId) (bytes : Nat) (ht : P.underlying t = some (.slice e)) (E : ElemOk P enc k e bytes)
    (v : Value) (l : List α) (hs : a.eval s = v) (hown : Own enc k e W base v l)
    (new : List α) (cs : Array Value) (hcs : cs = (new.flatMap enc).toArray) (m c : Nat) (hx : a.eval x = .slice (some ⟨W.heap.size, 0, none⟩) m c) (hm : m = new.length)
    (h63 : l.length + new.length ≤ maxLen) (hbytes : (l.length + new.length) * bytes ≤ 140737488355328) (hbase : base ≤ W.heap.size)
    (h : ∀ v' w', Own enc k e w' base v' (l ++ new) → W.grownBy w' v.ownBlock → (v'.ownBlock = v.ownBlock ∨ v'.ownBlock = some (W.heap.size + 1)) → wpList P ops Q rest (a.put o.dst v') w') :
    wpList P ops Q (o :: rest) a (W.alloc (.cells cs e)) := by
  subst hcs hm
  obtain ⟨i, z, hi, hz, hsz, hby, hzs⟩ := E.info
  refine wpList_plain hgd fun K hK => ?_
  have hcells : ∀ j u, (new.flatMap enc)[j]? = some u → (W.alloc (.cells (new.flatMap enc).toArray e)).cell? ((⟨W.heap.size, 0, none⟩ : Addr).add j) = some u := fun j u hu => by
    have e1 : ((⟨W.heap.size, 0, none⟩ : Addr).add j) = ⟨W.heap.size, j, none⟩ := by
      unfold Addr.add
      split
      · rename_i h0; have : j = 0 := by simpa using h0
        rw [this]
      · simp
    rw [e1, cell_of_row (W.alloc _) W.heap.size j (new.flatMap enc).toArray e (0, 0) (heap_alloc_new W _)]
    simpa using hu
  obtain ⟨v', w', hrun, h2, h3, _, h5⟩ := run_append_own_at (P := P) (W.alloc (.cells (new.flatMap enc).toArray e)) base t o.type e i z k bytes ht hi hz hsz hby hzs E.pos v l.length (l.flatMap enc) (World.ownsRow.alloc hown _)
    ⟨W.heap.size, 0, none⟩ new.length c (new.flatMap enc) (flatMap_length E.len new) hcells (fun u hu => by
      obtain ⟨x, _, hx⟩ := List.mem_flatMap.1 hu
      exact E.one x u hx) h63 hbytes (by simp; omega)
  have hK' := hK (a.put o.dst v') w' (h v' w' (by
      show w'.ownsRow base e k v' (l ++ new).length ((l ++ new).flatMap enc)
      rw [List.length_append, List.flatMap_append]; exact h2)
    ⟨h3.os, h3.tape, h3.output, Nat.le_trans (by simp) h3.size, fun g hg hne => (h3.block g (by simp; omega) hne).trans (Below.heap_alloc _ _ _ hg)⟩
    (by simpa using h5))
  unfold Oper.wp execOp
  simp only [ho, resolve, invoke, builtin, Sem.run_bind, Sem.run_pure, Result.andThen_ok, List.map_toArray, List.map_cons, List.map_nil, hs, hx, hrun]
  exact hK'

section
variable {α : Type} {enc : α → List Value} {k : Nat} {e : TypeId} {w w' : World} {base : Nat} {v : Value} {l : List α}

theorem flatMap_set (he : ∀ x, (enc x).length = k) : ∀ (l : List α) (i j : Nat) (u : Value) (x' : α) (hi : i < l.length), j < k → enc x' = (enc l[i]).set j u → (l.set i x').flatMap enc = (l.flatMap enc).set (i * k + j) u
  | [], i, _, _, _, hi, _, _ => by simp at hi
  | y :: l, 0, j, u, x', _, hj, hx => by
    simp only [List.getElem_cons_zero] at hx
    rw [List.set_cons_zero, List.flatMap_cons, List.flatMap_cons, hx, Nat.zero_mul, Nat.zero_add, List.set_append_left _ _ (by rw [he]; exact hj)]
  | y :: l, i + 1, j, u, x', hi, hj, hx => by
    simp only [List.getElem_cons_succ] at hx
    have ih := flatMap_set he l i j u x' (by simpa using hi) hj hx
    rw [List.set_cons_succ, List.flatMap_cons, List.flatMap_cons, ih, List.set_append_right _ _ (by rw [he, Nat.add_mul, Nat.one_mul]; omega), he]
    congr 2
    rw [Nat.add_mul, Nat.one_mul]
    omega

/-- A row that is not empty: where it lies, and its cells. -/
theorem Own.at_ (he : ∀ x, (enc x).length = k) (h : Own enc k e w base v l) (hl : l ≠ []) : ∃ g c, v = .slice (some ⟨g, 0, none⟩) l.length c ∧ base ≤ g ∧ g < w.heap.size ∧ l.length ≤ c ∧
    (∀ i x, l[i]? = some x → ∀ j u, (enc x)[j]? = some u → w.cell? ⟨g, i * k + j, none⟩ = some u) ∧ ∀ j, w.frozen? ⟨g, j, none⟩ = false := by
  rcases h.2 with ⟨h0, h1⟩ | ⟨g, cap, cur, rfl, hg, hh, hn, hm, hs, ht⟩
  · exact absurd (List.eq_nil_of_length_eq_zero h1) hl
  · refine ⟨g, cap, rfl, hg, (World.ownsRow.lt h g rfl).2, hn, fun i x hx j u hu => ?_, fun j => World.ownsRow.frozenAt h j⟩
    have hj : j < k := by rw [← he x]; exact (List.getElem?_eq_some_iff.1 hu).1
    have hil : i < l.length := (List.getElem?_eq_some_iff.1 hx).1
    have hlt : i * k + j < l.length * k := by
      have := Nat.mul_le_mul_right k (show i + 1 ≤ l.length from hil)
      rw [Nat.add_mul, Nat.one_mul] at this
      omega
    rw [World.ownsRow.cellAt h _ hlt, flatMap_get he l i x hx j hj, hu]

/-- A field of a record of the row is written. -/
theorem Own.stored (he : ∀ x, (enc x).length = k) {g n c : Nat} (h : Own enc k e w base (.slice (some ⟨g, 0, none⟩) n c) l) (i j : Nat) (u : Value) (x' : α) (hi : i < l.length) (hj : j < k) (hx : enc x' = (enc l[i]).set j u) :
    Own enc k e (w.setCell ⟨g, i * k + j, none⟩ u) base (.slice (some ⟨g, 0, none⟩) n c) (l.set i x') ∧ w.grownBy (w.setCell ⟨g, i * k + j, none⟩ u) (some g) := by
  have hn : n = l.length := by
    obtain ⟨A, c', hv⟩ := h.form
    injection hv with _ h2
  subst hn
  have := World.ownsRow.stored h (i * k + j) u
  refine ⟨?_, this.2⟩
  show World.ownsRow _ _ _ _ _ (l.set i x').length _
  rw [List.length_set, flatMap_set he l i j u x' hi hj hx]
  exact this.1

/-- A row that was just laid whole. -/
theorem Own.lit (w : World) (e : TypeId) (base : Nat) (cs : Array Value) (l : List α) (n : Nat) (hn : n = l.length) (he : ∀ x, (enc x).length = k) (hcs : cs.toList = l.flatMap enc) (hb : base ≤ w.heap.size) (hm : l.length ≤ maxLen) :
    Own enc k e (w.alloc (.cells cs e)) base (.slice (some ⟨w.heap.size, 0, none⟩) n n) l := by
  subst hn
  have hs : cs.size = l.length * k := by rw [← Array.length_toList, hcs, flatMap_length he]
  have := World.ownsRow_lit (base := base) (e := e) (size := k) w cs l.length hb hm hs
  rw [hcs] at this
  exact this

theorem Own.drew (h : Own enc k e w base v l) : Own enc k e w.drew base v l := ⟨h.1, h.2⟩
theorem Own.drewN (h : Own enc k e w base v l) (n : Nat) : Own enc k e (w.drewN n) base v l := ⟨h.1, h.2⟩
theorem Own.setBelow (h : Own enc k e w base v l) {a : Addr} (ha : a.block < base) (u : Value) : Own enc k e (w.setCell a u) base v l := ownsRow_setCell_below h ha u
theorem Own.maxLen (h : Own enc k e w base v l) : l.length ≤ maxLen := by
  rcases h.2 with ⟨_, h1⟩ | ⟨g, cap, cur, rfl, hg, hh, hn, hm, _⟩
  · rw [h1]; exact Nat.zero_le _
  · omega
end

theorem grownBy_refl (w : World) (row : Option Nat) : w.grownBy w row := ⟨rfl, rfl, rfl, Nat.le_refl _, fun _ _ _ => rfl⟩
theorem grownBy_of_below {w w' : World} (h : Below w.heap.size w w') (row : Option Nat) : w.grownBy w' row := ⟨h.os, h.tape, h.output, h.size, fun k hk _ => h.block k hk⟩
theorem below_of_grownBy {w w' : World} {row : Option Nat} (h : w.grownBy w' row) {B : Nat} (hB : B ≤ w.heap.size) (hr : ∀ k, row = some k → B ≤ k) : Below B w w' := (Below.refl B w).grown h hB hr

/-- Bools. -/
def encB (x : Bool) : List Value := [.bool x]
theorem encB_len (x : Bool) : (encB x).length = 1 := rfl
theorem encS_len (x : Sp) : (encS x).length = 2 := rfl
theorem madeCells_toList (z : Value) (n : Nat) : (madeCells #[z] n).toList = List.replicate n z := by
  apply List.ext_getElem
  · simp [madeCells]
  · intro i h1 h2
    simp [madeCells]
    have : i % 1 = 0 := Nat.mod_one i
    simp [this]

/-- Spans. -/
abbrev OwnS (w : World) (base : Nat) (v : Value) (l : List Sp) : Prop := Own encS 2 46 w base v l

theorem infoSpan : (Try.prog.info? 46).map (fun i => (i.zero, i.size, i.bytes)) = some (some (.agg #[.int .i64 0, .int .i64 0]), 2, 16) := by kernel_rfl
theorem encS_one (x : Sp) : ∀ u ∈ encS x, u.oneCell' = true := by
  intro u hu
  simp only [encS, List.mem_cons, List.not_mem_nil, or_false] at hu
  rcases hu with rfl | rfl <;> rfl
theorem elemS : ElemOk Try.prog encS 2 46 16 :=
  ⟨fun _ => rfl, by omega, encS_one, by
    obtain ⟨i, hi, h0, h1, h2⟩ := info_parts infoSpan
    exact ⟨i, _, hi, h0, h1, h2, rfl⟩⟩

end Go.Proofs.Ytbhjnihcmfagjaa

namespace Go.Proofs.Ytbhjnihcmfagjaa
open Go.ChangeShapes Go.WideShapes Go.ChangeAt Go.RowKit Go.Deep RP

section
variable {H : Type} {enc : TypeId × Value → H} {P : Program} {w : World} {base : Nat} {spare : Nat → Bool} {held : Bool}
theorem open_slice_fields {t e : TypeId} {fs : Array Field} {fuel : Nat} {cs : List Value} {x : DataW H × List MemPlace} (ht : P.underlying t = some (.slice e)) (he : P.underlying e = some (.struct fs))
    (hone : oneCellFields P fs = true) (hC : P.cellsOf e = fs.size) (h : DataW.trod enc P w base spare held fuel t cs = some x) :
    (cs = [.slice none 0 0] ∧ x = (.nil, [])) ∨
    ∃ (a : Addr) (len cap m : Nat) (D : Nat → DataW H) (Pl : Nat → List MemPlace), cs = [.slice (some a) len cap] ∧ base ≤ a.block ∧ len ≤ cap ∧ cap ≤ maxLen ∧ m = (if spare a.block then cap else len) ∧
      x = (.slice ((List.range len).map D) ((List.range (m - len)).map fun j => D (len + j)), MemPlace.row a (m * fs.size) ++ (List.range m).flatMap Pl) ∧
      ∀ i, i < m → ∃ (ys : List (DataW H × List MemPlace)) (n : Nat), D i = .agg (ys.map (·.1)) ∧ Pl i = ys.flatMap (·.2) ∧ ys.length = fs.size ∧
        ∀ (j : Nat) (f : Field), fs[j]? = some f → ∃ (v : Value) (y : DataW H × List MemPlace), w.cell? (a.add (i * fs.size + j)) = some v ∧ ys[j]? = some y ∧ DataW.trod enc P w base spare held n f.type [v] = some y := by
  rcases open_slice ht h with h0 | ⟨a, len, cap, m, n, D, Pl, hcs, hb, hl, hm, hmm, hx, hi⟩
  · exact .inl h0
  · refine .inr ⟨a, len, cap, m, D, Pl, hcs, hb, hl, hm, hmm, by rw [hC] at hx; exact hx, fun i him => ?_⟩
    obtain ⟨cs', hc, ht'⟩ := hi i him
    rw [hC] at hc
    obtain ⟨ys, n', hn', hy, hlen, hyl, hf⟩ := DataW.trod_struct he ht'
    obtain ⟨_, hcl, hat⟩ := World.cells?_some hc
    simp only [Prod.mk.injEq] at hy
    refine ⟨ys, n', hy.1, hy.2, hyl, fun j f hj => ?_⟩
    obtain ⟨ho, hk⟩ := hone_of hone j f hj
    have hjl : j < fs.size := (Array.getElem?_eq_some_iff.1 hj).1
    have hcell := hat j hjl
    have hv : cs'[j]? = some (cs'[j]'(by omega)) := List.getElem?_eq_getElem (by omega)
    have h1 := hf j f hj
    rw [ho, hk] at h1
    have hone' : (cs'.drop j).take 1 = [cs'[j]'(by omega)] := by
      rw [List.drop_eq_getElem_cons (by omega)]
      rfl
    rw [hone'] at h1
    have hys : ys[j]? = some (ys[j]'(by omega)) := List.getElem?_eq_getElem (by omega)
    refine ⟨_, _, ?_, hys, h1.trans hys⟩
    rw [← Go.Deep.add_add, hcell, hv]
end

/-- Within the range of int. -/
def R64 (a : Int) : Prop := -9223372036854775808 ≤ a ∧ a ≤ 9223372036854775807

theorem r64_of_wf {n : Int} (h : (Lit.int .i64 n).wf = true) : R64 n := by
  have := bounds_i64 h
  exact ⟨by omega, by omega⟩

/-- Ints. -/
def encI (x : Int) : List Value := [.int .i64 x]
theorem encI_len (x : Int) : (encI x).length = 1 := rfl

/-- A slice of records of ints that came in. -/
structure Arg {α : Type} (enc : α → List Value) (k : Nat) (rng : α → Prop) (w : World) (A : Option Addr) (c : Nat) (l : List α) : Prop where
  lst : Lst enc k w w.heap.size A l
  len : l.length ≤ 9223372036854775807
  rng : ∀ x ∈ l, rng x
  cap : l.length ≤ c
  cap63 : c ≤ 9223372036854775807

theorem Arg.below {α : Type} {enc : α → List Value} {k : Nat} {rng : α → Prop} {w w' : World} {A : Option Addr} {c : Nat} {l : List α} (h : Arg enc k rng w A c l) (hb : Below w.heap.size w w') : Arg enc k rng w' A c l :=
  ⟨h.lst.belowMore hb hb.size, h.len, h.rng, h.cap, h.cap63⟩

abbrev ArgI := Arg encI 1 R64
abbrev ArgS := Arg encS 2 fun x : Sp => R64 x.1 ∧ R64 x.2

section
variable {H : Type} {enc : TypeId × Value → H} {W : World} {v : Value} {d : DataW H} {p : List MemPlace}

theorem cell_lt {w : World} {b off : Nat} {u : Value} (h : w.cell? ⟨b, off, none⟩ = some u) : b < w.heap.size := World.block_lt_of_cell? w ⟨b, off, none⟩ h

theorem add_none (b off j : Nat) : (⟨b, off, none⟩ : Addr).add j = ⟨b, off + j, none⟩ := by
  unfold Addr.add
  split
  · rename_i h0; have : j = 0 := by simpa using h0
    rw [this, Nat.add_zero]
  · simp

/-- A slice of records of one-cell int fields: as a list. -/
theorem open_recs {α : Type} {T E : TypeId} {fs : Array Field} {recEnc : α → List Value} {rng : α → Prop} (mk : List Int → α)
    (ht : Try.prog.underlying T = some (.slice E)) (he : Try.prog.underlying E = some (.struct fs)) (hone : oneCellFields Try.prog fs = true) (hC : Try.prog.cellsOf E = fs.size)
    (hint : ∀ (j : Nat) (f : Field), fs[j]? = some f → Try.prog.underlying f.type = some (.int .i64))
    (hmk : ∀ zs : List Int, zs.length = fs.size → (∀ z ∈ zs, R64 z) → recEnc (mk zs) = zs.map (Value.int .i64) ∧ rng (mk zs)) (hpos : 0 < fs.size)
    (hv : Value.okWide Try.prog W .any 0 T v ∨ True) (h : DataW.Trod enc Try.prog W 0 (fun _ => true) true T v d p) (hsl : ∃ A len cap, v = .slice A len cap) :
    ∃ A c l, v = .slice A l.length c ∧ Arg recEnc fs.size rng W A c l := by
  obtain ⟨A, len, cap, rfl⟩ := hsl
  obtain ⟨fuel, hf⟩ := h
  rcases open_slice_fields ht he hone hC hf with ⟨hcs, _⟩ | ⟨a, len', cap', m, D, Pl, hcs, _, hl, hm, hmm, _, hi⟩
  · simp [Value.cells] at hcs
    obtain ⟨rfl, rfl, rfl⟩ := hcs
    exact ⟨none, 0, [], rfl, Lst.nil, by simp, by simp, by simp, by omega⟩
  · simp [Value.cells] at hcs
    obtain ⟨rfl, rfl, rfl⟩ := hcs
    simp only [if_true] at hmm
    subst hmm
    have key : ∀ i, i < len → ∃ x : α, rng x ∧ ∀ j u, (recEnc x)[j]? = some u → W.cell? (a.add (i * fs.size + j)) = some u := by
      intro i hil
      obtain ⟨ys, n, _, _, _, hfld⟩ := hi i (by omega)
      have hz : ∀ j, ∃ z : Int, j < fs.size → (R64 z ∧ W.cell? (a.add (i * fs.size + j)) = some (.int .i64 z)) := by
        intro j
        by_cases hj : j < fs.size
        · obtain ⟨u, y, hc, _, ht'⟩ := hfld j fs[j] (by simp [hj])
          obtain ⟨z, e0, _, wz⟩ := DataW.trod_int (hint j fs[j] (by simp [hj])) ht'
          simp at e0
          subst e0
          exact ⟨z, fun _ => ⟨r64_of_wf wz, hc⟩⟩
        · exact ⟨0, fun h => absurd h hj⟩
      let zf := fun j => Classical.choose (hz j)
      have hzf := fun j => Classical.choose_spec (hz j)
      obtain ⟨h1, h2⟩ := hmk ((List.range fs.size).map zf) (by simp) (by
        intro z hz'
        obtain ⟨j, hj, rfl⟩ := List.mem_map.1 hz'
        exact (hzf j (by simpa using hj)).1)
      refine ⟨_, h2, fun j u hu => ?_⟩
      rw [h1] at hu
      simp only [List.map_map, List.getElem?_map, Option.map_eq_some_iff] at hu
      obtain ⟨j', hj', rfl⟩ := hu
      obtain ⟨hlt, rfl⟩ := List.getElem?_eq_some_iff.1 hj'
      simp only [List.getElem_range]
      exact (hzf j (by simpa using hlt)).2
    let xf := fun i : Nat => if h : i < len then Classical.choose (key i h) else mk []
    have hxf : ∀ i, i < len → rng (xf i) ∧ ∀ j u, (recEnc (xf i))[j]? = some u → W.cell? (a.add (i * fs.size + j)) = some u := fun i h => by
      have := Classical.choose_spec (key i h)
      simp only [xf, h, dif_pos]
      exact this
    refine ⟨some a, m, (List.range len).map xf, by simp, ?_, by simp only [maxLen] at hm; simp; omega, ?_, by simpa using hl, by simp only [maxLen] at hm; omega⟩
    · intro hne
      have hlen : 0 < len := by
        rcases Nat.eq_zero_or_pos len with h0 | h0
        · subst h0; simp at hne
        · exact h0
      obtain ⟨ys, n, _, _, _, hfld⟩ := hi 0 (by omega)
      obtain ⟨u, y, hc, _, _⟩ := hfld 0 fs[0] (by simp [hpos])
      obtain ⟨b, off, spot⟩ := a
      have hspot : spot = none := by simpa [Addr.add] using World.cell?_spot hc
      subst hspot
      rw [add_none] at hc
      refine ⟨b, off, rfl, cell_lt hc, fun i x hx j u hu => ?_⟩
      simp only [List.getElem?_map, Option.map_eq_some_iff] at hx
      obtain ⟨i', hi', rfl⟩ := hx
      obtain ⟨hlt, rfl⟩ := List.getElem?_eq_some_iff.1 hi'
      simp only [List.getElem_range] at hu
      have := (hxf i (by simpa using hlt)).2 j u hu
      rw [add_none, ← Nat.add_assoc] at this
      exact this
    · intro x hx
      obtain ⟨i, hi', rfl⟩ := List.mem_map.1 hx
      exact (hxf i (by simpa using hi')).1

/-- A slice of records of one-cell fields: as a list (the fields' forms given by P). -/
theorem open_recsV {α : Type} {T E : TypeId} {fs : Array Field} {recEnc : α → List Value} {rng : α → Prop} (x0 : α) (PV : Nat → Value → Prop)
    (ht : Try.prog.underlying T = some (.slice E)) (he : Try.prog.underlying E = some (.struct fs)) (hone : oneCellFields Try.prog fs = true) (hC : Try.prog.cellsOf E = fs.size)
    (hfv : ∀ (j : Nat) (f : Field), fs[j]? = some f → ∀ (n : Nat) (u : Value) (y : DataW H × List MemPlace), DataW.trod enc Try.prog W 0 (fun _ => true) true n f.type [u] = some y → PV j u)
    (hmk : ∀ us : List Value, us.length = fs.size → (∀ j u, us[j]? = some u → PV j u) → ∃ x : α, recEnc x = us ∧ rng x) (hpos : 0 < fs.size)
    (hv : Value.okWide Try.prog W .any 0 T v ∨ True) (h : DataW.Trod enc Try.prog W 0 (fun _ => true) true T v d p) (hsl : ∃ A len cap, v = .slice A len cap) :
    ∃ A c l, v = .slice A l.length c ∧ Arg recEnc fs.size rng W A c l := by
  obtain ⟨A, len, cap, rfl⟩ := hsl
  obtain ⟨fuel, hf⟩ := h
  rcases open_slice_fields ht he hone hC hf with ⟨hcs, _⟩ | ⟨a, len', cap', m, D, Pl, hcs, _, hl, hm, hmm, _, hi⟩
  · simp [Value.cells] at hcs
    obtain ⟨rfl, rfl, rfl⟩ := hcs
    exact ⟨none, 0, [], rfl, Lst.nil, by simp, by simp, by simp, by omega⟩
  · simp [Value.cells] at hcs
    obtain ⟨rfl, rfl, rfl⟩ := hcs
    simp only [if_true] at hmm
    subst hmm
    have key : ∀ i, i < len → ∃ x : α, rng x ∧ ∀ j u, (recEnc x)[j]? = some u → W.cell? (a.add (i * fs.size + j)) = some u := by
      intro i hil
      obtain ⟨ys, n, _, _, _, hfld⟩ := hi i (by omega)
      have hz : ∀ j, ∃ u : Value, j < fs.size → (PV j u ∧ W.cell? (a.add (i * fs.size + j)) = some u) := by
        intro j
        by_cases hj : j < fs.size
        · obtain ⟨u, y, hc, _, ht'⟩ := hfld j fs[j] (by simp [hj])
          exact ⟨u, fun _ => ⟨hfv j fs[j] (by simp [hj]) _ u y ht', hc⟩⟩
        · exact ⟨.bool false, fun h => absurd h hj⟩
      let zf := fun j => Classical.choose (hz j)
      have hzf := fun j => Classical.choose_spec (hz j)
      obtain ⟨xx, h1, h2⟩ := hmk ((List.range fs.size).map zf) (by simp) (by
        intro j u hu
        simp only [List.getElem?_map, Option.map_eq_some_iff] at hu
        obtain ⟨j', hj', rfl⟩ := hu
        obtain ⟨hlt, rfl⟩ := List.getElem?_eq_some_iff.1 hj'
        simp only [List.getElem_range]
        exact (hzf j (by simpa using hlt)).1)
      refine ⟨xx, h2, fun j u hu => ?_⟩
      rw [h1] at hu
      simp only [List.getElem?_map, Option.map_eq_some_iff] at hu
      obtain ⟨j', hj', rfl⟩ := hu
      obtain ⟨hlt, rfl⟩ := List.getElem?_eq_some_iff.1 hj'
      simp only [List.getElem_range]
      exact (hzf j (by simpa using hlt)).2
    let xf := fun i : Nat => if h : i < len then Classical.choose (key i h) else x0
    have hxf : ∀ i, i < len → rng (xf i) ∧ ∀ j u, (recEnc (xf i))[j]? = some u → W.cell? (a.add (i * fs.size + j)) = some u := fun i h => by
      have := Classical.choose_spec (key i h)
      simp only [xf, h, dif_pos]
      exact this
    refine ⟨some a, m, (List.range len).map xf, by simp, ?_, by simp only [maxLen] at hm; simp; omega, ?_, by simpa using hl, by simp only [maxLen] at hm; omega⟩
    · intro hne
      have hlen : 0 < len := by
        rcases Nat.eq_zero_or_pos len with h0 | h0
        · subst h0; simp at hne
        · exact h0
      obtain ⟨ys, n, _, _, _, hfld⟩ := hi 0 (by omega)
      obtain ⟨u, y, hc, _, _⟩ := hfld 0 fs[0] (by simp [hpos])
      obtain ⟨b, off, spot⟩ := a
      have hspot : spot = none := by simpa [Addr.add] using World.cell?_spot hc
      subst hspot
      rw [add_none] at hc
      refine ⟨b, off, rfl, cell_lt hc, fun i x hx j u hu => ?_⟩
      simp only [List.getElem?_map, Option.map_eq_some_iff] at hx
      obtain ⟨i', hi', rfl⟩ := hx
      obtain ⟨hlt, rfl⟩ := List.getElem?_eq_some_iff.1 hi'
      simp only [List.getElem_range] at hu
      have := (hxf i (by simpa using hlt)).2 j u hu
      rw [add_none, ← Nat.add_assoc] at this
      exact this
    · intro x hx
      obtain ⟨i, hi', rfl⟩ := List.mem_map.1 hx
      exact (hxf i (by simpa using hi')).1

theorem slice_form {T E : TypeId} {n : Nat} {u : Value} {y : DataW H × List MemPlace} (ht : Try.prog.underlying T = some (.slice E)) (h : DataW.trod enc Try.prog W 0 (fun _ => true) true n T [u] = some y) : ∃ A len cap, u = .slice A len cap := by
  rcases open_slice ht h with ⟨hcs, _⟩ | ⟨a, len', cap', m, n, D, Pl, hcs, _, _, _, _, hx, _⟩
  · simp at hcs; exact ⟨_, _, _, hcs⟩
  · simp at hcs; exact ⟨_, _, _, hcs⟩

theorem open_argS (hsl : ∃ A len cap, v = .slice A len cap) (h : DataW.Trod enc Try.prog W 0 (fun _ => true) true 40 v d p) : ∃ A c l, v = .slice A l.length c ∧ ArgS W A c l := by
  have := open_recs (recEnc := encS) (rng := fun x : Sp => R64 x.1 ∧ R64 x.2) (fun zs => (zs.getD 0 0, zs.getD 1 0)) Try.underlying40 Try.underlying46 (by kernel_rfl) (by kernel_rfl)
    (fun j f hj => by
      match j, hj with
      | 0, hj => simp at hj; subst hj; exact Try.underlying3
      | 1, hj => simp at hj; subst hj; exact Try.underlying3
      | j + 2, hj => simp at hj)
    (fun zs hz hr => by
      match zs, hz with
      | [a, b], _ => exact ⟨rfl, hr _ (by simp), hr _ (by simp)⟩) (by simp) (.inr trivial) h hsl
  exact this

theorem open_argI (hsl : ∃ A len cap, v = .slice A len cap) (h : DataW.Trod enc Try.prog W 0 (fun _ => true) true 26 v d p) : ∃ A c l, v = .slice A l.length c ∧ ArgI W A c l := by
  obtain ⟨A, len, cap, rfl⟩ := hsl
  obtain ⟨fuel, hf⟩ := h
  rcases open_ints Try.underlying26 Try.underlying3 (by kernel_rfl) hf with ⟨hcs, _⟩ | ⟨a, len', cap', zs, hcs, _, hl, hm, hz, _, hcell, hwz⟩
  · simp [Value.cells] at hcs
    obtain ⟨rfl, rfl, rfl⟩ := hcs
    exact ⟨none, 0, [], rfl, Lst.nil, by simp, by simp, by simp, by omega⟩
  · simp [Value.cells] at hcs
    obtain ⟨rfl, rfl, rfl⟩ := hcs
    have hzl : zs.length = cap := by simpa using hz
    refine ⟨some a, cap, zs.take len, by rw [List.length_take, hzl, Nat.min_eq_left hl], ?_, by rw [List.length_take]; simp only [maxLen] at hm; omega, fun x hx => r64_of_wf (hwz x (List.mem_of_mem_take hx)), by rw [List.length_take]; omega, by simp only [maxLen] at hm; omega⟩
    intro hne
    have hlen : 0 < len := by
      rcases Nat.eq_zero_or_pos len with h0 | h0
      · subst h0; simp at hne
      · exact h0
    have hc := hcell 0 (by omega)
    obtain ⟨b, off, spot⟩ := a
    have hspot : spot = none := by simpa [Addr.add] using World.cell?_spot hc
    subst hspot
    rw [add_none] at hc
    refine ⟨b, off, rfl, cell_lt hc, fun i x hx j u hu => ?_⟩
    have hil : i < (zs.take len).length := (List.getElem?_eq_some_iff.1 hx).1
    rw [List.length_take] at hil
    rw [List.getElem?_take, if_pos (by omega)] at hx
    match j, hu with
    | 0, hu =>
      simp only [encI, List.getElem?_cons_zero, Option.some.injEq] at hu
      subst hu
      have := hcell i (by omega)
      rw [add_none] at this
      rw [Nat.mul_one, Nat.add_zero, this]
      simp [hx]
    | j + 1, hu => simp [encI] at hu
end

theorem laidOut : laidOutB Try.prog = true := by kernel_rfl
theorem own : ownKnob Try.prog.godebug = none := by kernel_rfl

end Go.Proofs.Ytbhjnihcmfagjaa

namespace Go.Proofs.Ytbhjnihcmfagjaa
open Go.RowKit RP

/-- Mod. -/
def modI (a b : Int) : Int := if b < 1 then 0 else a % b

theorem tmod_neg (a b : Int) (hb : 1 ≤ b) (h : a.tmod b < 0) : a.tmod b + b = a % b := by
  have h1 := Int.emod_nonneg a (show b ≠ 0 by omega)
  have h2 := Int.emod_lt_of_pos a (show 0 < b by omega)
  have h3 : (b.natAbs : Int) = b := by omega
  rw [Int.tmod_eq_emod] at h ⊢
  split at h <;> rename_i hc
  · omega
  · rw [if_neg hc]; omega
theorem tmod_pos (a b : Int) (hb : 1 ≤ b) (h : 0 ≤ a.tmod b) : a.tmod b = a % b := by
  have h2 := Int.emod_lt_of_pos a (show 0 < b by omega)
  have h3 : (b.natAbs : Int) = b := by omega
  rw [Int.tmod_eq_emod] at h ⊢
  split at h <;> rename_i hc
  · rw [if_pos hc]; omega
  · omega

theorem modI_range (a b : Int) (h : 1 ≤ b) : 0 ≤ modI a b ∧ modI a b < b := by
  unfold modI
  rw [if_neg (by omega)]
  exact ⟨Int.emod_nonneg a (by omega), Int.emod_lt_of_pos a (by omega)⟩

set_option maxHeartbeats 400000 in
theorem mod_any (a b : Int) (w : World) (hb1 : -9223372036854775808 ≤ b) (hb2 : b ≤ 9223372036854775807) :
    Calls Try.prog 76 #[.int .i64 a, .int .i64 b] w fun e w' => e = .returned (.int .i64 (modI a b)) ∧ w = w' := by
  by_cases hb : b < 1
  · go_enter Try.func76, Try.ntmps76
    go_wp2
    go_ret
    exact ⟨ret_int (by simp [modI, hb]), rfl⟩
  · have h1 := Int.emod_nonneg a (show b ≠ 0 by omega)
    have h2 := Int.emod_lt_of_pos a (show 0 < b by omega)
    by_cases hr : a.tmod b < 0
    · have hlo : -b ≤ a.tmod b := by have := tmod_neg a b (by omega) hr; omega
      have H := Lib.hid (tmod_neg a b (by omega) hr)
      go_enter Try.func76, Try.ntmps76
      go_wp2
      go_ret
      exact ⟨ret_int (by rw [modI, if_neg (by omega)]; exact H.out), rfl⟩
    · have H := Lib.hid (tmod_pos a b (by omega) (by omega))
      go_enter Try.func76, Try.ntmps76
      go_wp2
      go_ret
      exact ⟨ret_int (by rw [modI, if_neg (by omega)]; exact H.out), rfl⟩

set_option maxHeartbeats 400000 in
theorem refMod_any (a b : Int) (w : World) (hb1 : -9223372036854775808 ≤ b) (hb2 : b ≤ 9223372036854775807) :
    Calls Try.prog 44 #[.int .i64 a, .int .i64 b] w fun e w' => e = .returned (.int .i64 (modI a b)) ∧ w = w' := by
  by_cases hb : b < 1
  · go_enter Try.func44, Try.ntmps44
    go_wp2
    go_ret
    exact ⟨ret_int (by simp [modI, hb]), rfl⟩
  · have h1 := Int.emod_nonneg a (show b ≠ 0 by omega)
    have h2 := Int.emod_lt_of_pos a (show 0 < b by omega)
    by_cases hr : a.tmod b < 0
    · have hlo : -b ≤ a.tmod b := by have := tmod_neg a b (by omega) hr; omega
      have H := Lib.hid (tmod_neg a b (by omega) hr)
      go_enter Try.func44, Try.ntmps44
      go_wp2
      go_ret
      exact ⟨ret_int (by rw [modI, if_neg (by omega)]; exact H.out), rfl⟩
    · have H := Lib.hid (tmod_pos a b (by omega) (by omega))
      go_enter Try.func44, Try.ntmps44
      go_wp2
      go_ret
      exact ⟨ret_int (by rw [modI, if_neg (by omega)]; exact H.out), rfl⟩

set_option maxHeartbeats 400000 in
theorem inRange_any (t : Int) (w : World) :
    Calls Try.prog 74 #[.int .i64 t] w fun e w' => e = .returned (.bool (inRange t)) ∧ w = w' := by
  by_cases h1 : 1 ≤ t
  · by_cases h2 : t ≤ 7200
    · go_enter Try.func74, Try.ntmps74
      go_wp2
      go_ret
      exact ⟨ret_bool (by simp [inRange, h1, h2]), rfl⟩
    · go_enter Try.func74, Try.ntmps74
      go_wp2
      go_ret
      exact ⟨ret_bool (by simp [inRange, h1, h2]), rfl⟩
  · go_enter Try.func74, Try.ntmps74
    go_wp2
    go_ret
    exact ⟨ret_bool (by simp [inRange]; omega), rfl⟩

/-- The unsigned reading of an int. -/
def unsI (v : Int) : Int := IntKind.u64.wrap v
/-- Pick: for n from 1 on. -/
def pickI (v n : Int) : Int := unsI v % n

theorem pickI_range (v n : Int) (h : 1 ≤ n) : 0 ≤ pickI v n ∧ pickI v n < n :=
  ⟨Int.emod_nonneg _ (by omega), Int.emod_lt_of_pos _ (by omega)⟩

theorem unsI_nonneg (v : Int) : 0 ≤ unsI v := by
  unfold unsI
  rw [IntKind.wrap_u64]
  omega

set_option maxHeartbeats 400000 in
theorem pick_any (v n : Int) (w : World) (h1 : 1 ≤ n) (h2 : n ≤ 4294967296) :
    Calls Try.prog 13 #[.int .i64 v, .int .i64 n] w fun e w' => e = .returned (.int .i64 (pickI v n)) ∧ w = w' := by
  have hu : 0 ≤ IntKind.u64.wrap v := unsI_nonneg v
  have hr := pickI_range v n h1
  have H := Lib.hid (show pickI v n = IntKind.u64.wrap v % n from rfl)
  go_enter Try.func13, Try.ntmps13
  go_wp2
  go_ret
  refine ⟨ret_int ?_, rfl⟩
  rw [H.out]
  rw [H.out] at hr
  have e1 : (IntKind.u64.wrap v).tmod n = IntKind.u64.wrap v % n := Int.tmod_eq_emod_of_nonneg hu
  first | exact IntWalk.wrap64_in _ ⟨by omega, by omega⟩ | (rw [e1]; exact IntWalk.wrap64_in _ ⟨by omega, by omega⟩)

/-- Period. -/
def perI (v : Int) : Int := if pickI v 8 = 7 then 1 + pickI (v.tdiv 8) 600 else 1 + pickI (v.tdiv 8) 30

theorem perI_range (v : Int) : 1 ≤ perI v ∧ perI v ≤ 600 := by
  have h1 := pickI_range (v.tdiv 8) 600 (by omega)
  have h2 := pickI_range (v.tdiv 8) 30 (by omega)
  unfold perI
  split <;> omega

end Go.Proofs.Ytbhjnihcmfagjaa
