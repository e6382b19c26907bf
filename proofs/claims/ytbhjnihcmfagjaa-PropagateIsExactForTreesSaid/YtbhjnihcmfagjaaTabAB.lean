/-
  The table's small functions: at, set, arc; and negative on canonical lists.
  Words for the table: blocks that are written, rows outside them, the sets, the queue.
-/
import Derived.Test.YtbhjnihcmfagjaaProR
set_option linter.unusedVariables false
set_option linter.unusedSimpArgs false
namespace Go.Proofs.Ytbhjnihcmfagjaa
open Go.RowKit Go.Shelf RP

theorem idx_lt {i j m : Nat} (hi : i < m) (hj : j < m) : i * m + j < m * m :=
  calc i * m + j < i * m + m := by omega
    _ = (i + 1) * m := by rw [Nat.add_mul, Nat.one_mul]
    _ ≤ m * m := Nat.mul_le_mul_right m hi

theorem set_block {w : World} {g o : Nat} {cs : Array Value} {t : TypeId} {fr : Nat × Nat} (v : Value) (h : w.heap[g]? = some (.cells cs t fr)) : (w.setCell ⟨g, o, none⟩ v).heap[g]? = some (.cells (cs.setIfInBounds o v) t fr) := by
  obtain ⟨hlt, hk⟩ := Array.getElem?_eq_some_iff.1 h
  show (w.heap.modify g _)[g]? = _
  rw [Array.getElem?_eq_getElem (by rw [Array.size_modify]; exact hlt), Array.getElem_modify_self, hk]
  rfl

set_option maxHeartbeats 1000000 in
theorem at_any (gt m : Nat) (E : Option Addr) (cE : Nat) (i j : Nat) (w : World) (hE : w.cell? ⟨gt, 1, none⟩ = some (.slice E m cE)) (hm : m ≤ 48) (hi : i < m) (hj : j < m) :
    Calls Try.prog 38 #[.pointer (some ⟨gt, 0, none⟩), .int .i64 i, .int .i64 j] w fun e w' => e = .returned (.int .i64 ((i * m + j : Nat) : Int)) ∧ w' = w := by
  have h1 := idx_lt hi hj
  have h2 : m * m ≤ 48 * 48 := Nat.mul_le_mul hm hm
  have e1 : (i : Int) * m = ((i * m : Nat) : Int) := by simp
  have h3 : IntKind.i64.wrap ((i : Int) * m) = (i : Int) * m := IntWalk.i64_in _ (by omega)
  have h4 : IntKind.i64.wrap ((i : Int) * m + j) = (i : Int) * m + j := IntWalk.i64_in _ (by omega)
  clear e1
  go_enter Try.func38, Try.ntmps38
  go_wp2_with fail
  go_ret
  exact ⟨by simp, rfl⟩

set_option maxHeartbeats 1000000 in
theorem tset_any (gt T : Nat) (P : Nat → Bool) (A : Option Addr) (c : Nat) (w : World) (hT : w.cell? ⟨gt, 0, none⟩ = some (.int .i64 T)) (h1 : 1 ≤ T) (h2 : T ≤ 7200) (hl : Lst encS 2 w w.heap.size A (runs P T)) :
    Calls Try.prog 65 #[.pointer (some ⟨gt, 0, none⟩), .slice A (runs P T).length c] w fun e w' => e = .returned (.agg #[.slice A (runs P T).length c, .int .i64 (cntN P T)]) ∧ Below w.heap.size w w' := by
  have hgt := cell_lt hT
  have hln := runs_len P T
  go_enter Try.func65, Try.ntmps65
  go_wp2_with fail
  refine (countPub_any T A c (runs P T) _ (hl.belowMore ((Below.refl _ _).alloc (Nat.le_refl _) _) (by simp)) (by omega)).mono ?_
  rw [count_runs h1 h2]
  rintro e w1 ⟨rfl, hb⟩
  have hb1 : Below w.heap.size w w1 := ((Below.refl _ w).alloc (Nat.le_refl _) _).trans (hb.mono (by simp))
  have hblk := (hb.block w.heap.size (by simp)).trans (heap_alloc_new w _)
  have c0 : w1.cell? ⟨w.heap.size, 0, none⟩ = some (.slice none 0 0) := by rw [cell_of_row w1 _ 0 _ _ _ hblk]; rfl
  have c1 : w1.cell? ⟨w.heap.size, 1, none⟩ = some (.int .i64 0) := by rw [cell_of_row w1 _ 1 _ _ _ hblk]; rfl
  have f0 : w1.frozen? ⟨w.heap.size, 0, none⟩ = false := by simp [World.frozen?, hblk]
  have f1 : w1.frozen? ⟨w.heap.size, 1, none⟩ = false := by simp [World.frozen?, hblk]
  go_wp2_with fail
  have hb2 := set_block (o := 1) (.int .i64 (cntN P T)) (set_block (o := 0) (.slice A (runs P T).length c) hblk)
  refine bodyPost_ret (results_cell_row rfl _ _ w.heap.size 75 _ _ _ rfl hb2 Try.underlying75 rfl (by kernel_rfl)) rfl ?_
  exact ⟨rfl, (hb1.setCell (p := ⟨w.heap.size, 0, none⟩) (Nat.le_refl _) _).setCell (p := ⟨w.heap.size, 1, none⟩) (Nat.le_refl _) _⟩

set_option maxHeartbeats 1000000 in
theorem tarc_any (gt T : Nat) (f n : Int) (w : World) (hT : w.cell? ⟨gt, 0, none⟩ = some (.int .i64 T)) (h1 : 1 ≤ T) (h2 : T ≤ 7200) (n2 : n ≤ 9223372036854775807) :
    Calls Try.prog 37 #[.pointer (some ⟨gt, 0, none⟩), .int .i64 f, .int .i64 n] w fun e w' => ∃ A c, e = .returned (.agg #[.slice A (runs (arcB T (f % T) n) T).length c, .int .i64 (cntN (arcB T (f % T) n) T)]) ∧
      OwnS w' w.heap.size (.slice A (runs (arcB T (f % T) n) T).length c) (runs (arcB T (f % T) n) T) ∧ Below w.heap.size w w' := by
  have hgt := cell_lt hT
  have ba : Below w.heap.size w (w.alloc (Obj.cells #[Value.slice none 0 0, Value.int IntKind.i64 0] 75)) := (Below.refl _ _).alloc (Nat.le_refl _) _
  have hmk := fun W => make_any T f n W (by omega) (by omega) n2
  simp only [make_runs h1 h2] at hmk
  generalize arcB T (f % T) n = P at *
  go_enter Try.func37, Try.ntmps37
  go_wp2_with fail
  refine (hmk _).mono ?_
  rintro e w1 ⟨v, rfl, ho, hb⟩
  rw [World.size_alloc] at ho hb
  have hb1 : Below w.heap.size w w1 := ba.trans (hb.mono (by simp))
  have hblk := (hb.block w.heap.size (by simp)).trans (heap_alloc_new w _)
  have hT1 := (hb1.cell (p := ⟨gt, 0, none⟩) hgt).trans hT
  obtain ⟨A, c, rfl⟩ := ho.form
  have z1 := hb.size
  rw [World.size_alloc] at z1
  go_wp2_with fail
  refine (tset_any gt T P A c w1 hT1 h1 h2 (Own.lst (fun _ => rfl) ho)).mono ?_
  rintro e w2 ⟨rfl, hbb⟩
  replace ho := ho.below' hbb
  have hb2 : Below w.heap.size w w2 := hb1.trans (hbb.mono (by omega))
  replace hblk := (hbb.block w.heap.size (by omega)).trans hblk
  have c0 : w2.cell? ⟨w.heap.size, 0, none⟩ = some (.slice none 0 0) := by rw [cell_of_row w2 _ 0 _ _ _ hblk]; rfl
  have c1 : w2.cell? ⟨w.heap.size, 1, none⟩ = some (.int .i64 0) := by rw [cell_of_row w2 _ 1 _ _ _ hblk]; rfl
  have f0 : w2.frozen? ⟨w.heap.size, 0, none⟩ = false := by simp [World.frozen?, hblk]
  have f1 : w2.frozen? ⟨w.heap.size, 1, none⟩ = false := by simp [World.frozen?, hblk]
  go_wp2_with fail
  have hb3 := set_block (o := 1) (.int .i64 (cntN P T)) (set_block (o := 0) (.slice A (runs P T).length c) hblk)
  refine bodyPost_ret (results_cell_row rfl _ _ w.heap.size 75 _ _ _ rfl hb3 Try.underlying75 rfl (by kernel_rfl)) rfl ?_
  refine ⟨A, c, rfl, ?_, (hb2.setCell (p := ⟨w.heap.size, 0, none⟩) (Nat.le_refl _) _).setCell (p := ⟨w.heap.size, 1, none⟩) (Nat.le_refl _) _⟩
  exact ((ho.setBelow (a := ⟨w.heap.size, 0, none⟩) (show w.heap.size < w.heap.size + 1 by omega) _).setBelow (a := ⟨w.heap.size, 1, none⟩) (show w.heap.size < w.heap.size + 1 by omega) _).rebase (by omega)

theorem tneg_any (gt T : Nat) (P : Nat → Bool) (A : Option Addr) (c : Nat) (w : World) (hT : w.cell? ⟨gt, 0, none⟩ = some (.int .i64 T)) (h1 : 1 ≤ T) (h2 : T ≤ 7200) (hl : Lst encS 2 w w.heap.size A (runs P T)) :
    Calls Try.prog 67 #[.pointer (some ⟨gt, 0, none⟩), .slice A (runs P T).length c] w fun e w' => ∃ A' c', e = .returned (.slice A' (runs (negB T P) T).length c') ∧
      OwnS w' w.heap.size (.slice A' (runs (negB T P) T).length c') (runs (negB T P) T) ∧ Below w.heap.size w w' := by
  have := runs_len P T
  have h := reversed_any gt T A c (runs P T) w hT h1 h2 hl (runs_small h2 P) (by omega)
  rw [neg_runs h1 h2] at h
  refine h.mono ?_
  rintro e w' ⟨v, rfl, ho, hb⟩
  obtain ⟨A', c', rfl⟩ := ho.form
  exact ⟨A', c', rfl, ho, hb⟩

end Go.Proofs.Ytbhjnihcmfagjaa

namespace Go.Proofs.Ytbhjnihcmfagjaa
open Go.RowKit Go.Shelf RP

/-- All old blocks but those of M are as they were. -/
structure Kept (M : List Nat) (w w' : World) : Prop where
  os : w'.os = w.os
  tape : w'.tape = w.tape
  output : w'.output = w.output
  size : w.heap.size ≤ w'.heap.size
  block : ∀ k, k < w.heap.size → k ∉ M → w'.heap[k]? = w.heap[k]?

section
variable {M M' : List Nat} {w w' w1 w2 : World}
theorem Kept.refl (M : List Nat) (w : World) : Kept M w w := ⟨rfl, rfl, rfl, Nat.le_refl _, fun _ _ _ => rfl⟩
theorem Kept.of_below (M : List Nat) (h : Below w.heap.size w w') : Kept M w w' := ⟨h.os, h.tape, h.output, h.size, fun k hk _ => h.block k hk⟩
theorem Kept.trans (h : Kept M w w1) (h' : Kept M' w1 w2) (hM : ∀ k ∈ M', k ∈ M ∨ w.heap.size ≤ k) : Kept M w w2 :=
  ⟨h'.os.trans h.os, h'.tape.trans h.tape, h'.output.trans h.output, Nat.le_trans h.size h'.size, fun k hk hn => (h'.block k (Nat.lt_of_lt_of_le hk h.size) (fun q => by
    rcases hM k q with e | e
    · exact hn e
    · omega)).trans (h.block k hk hn)⟩
theorem Kept.more (h : Kept M w w') (hM : ∀ k ∈ M, k ∈ M' ∨ w.heap.size ≤ k) : Kept M' w w' := ⟨h.os, h.tape, h.output, h.size, fun k hk hn => h.block k hk fun q => by
  rcases hM k q with e | e
  · exact hn e
  · omega⟩
theorem Kept.below {n₀ : Nat} (h : Kept M w w') (hM : ∀ k ∈ M, n₀ ≤ k) (hn : n₀ ≤ w.heap.size) : Below n₀ w w' :=
  ⟨h.os, h.tape, h.output, h.size, fun k hk => h.block k (by omega) fun q => by have := hM k q; omega⟩
theorem Kept.setCell (h : Kept M w w') (b o : Nat) (v : Value) (hb : b ∈ M ∨ w.heap.size ≤ b) : Kept M w (w'.setCell ⟨b, o, none⟩ v) :=
  ⟨h.os, h.tape, h.output, Nat.le_trans h.size (by simp [World.setCell]), fun k hk hn => (Below.heap_setCell w' ⟨b, o, none⟩ v k (fun e => by
    subst e
    rcases hb with e | e
    · exact hn e
    · exact absurd hk (Nat.not_lt.2 e))).trans (h.block k hk hn)⟩
theorem Kept.drew (h : Kept M w w') : Kept M w w'.drew := ⟨h.os, h.tape, h.output, h.size, h.block⟩
theorem Kept.cell {b o : Nat} (h : Kept M w w') (hb : b < w.heap.size) (hn : b ∉ M) : w'.cell? ⟨b, o, none⟩ = w.cell? ⟨b, o, none⟩ := World.cell?_of_block (a := ⟨b, o, none⟩) (h.block b hb hn)
end

/-- A list of spans in a block that is not written. -/
def Row (w : World) (M : List Nat) (A : Option Addr) (l : List Sp) : Prop :=
  l ≠ [] → ∃ b off, A = some ⟨b, off, none⟩ ∧ b < w.heap.size ∧ b ∉ M ∧ ∀ i x, l[i]? = some x → ∀ j v, (encS x)[j]? = some v → w.cell? ⟨b, off + i * 2 + j, none⟩ = some v
section
variable {M M' : List Nat} {w w' : World} {A : Option Addr} {l : List Sp}
theorem Row.lst (h : Row w M A l) : Lst encS 2 w w.heap.size A l := fun hl => by
  obtain ⟨b, off, h1, h2, _, h4⟩ := h hl
  exact ⟨b, off, h1, h2, h4⟩
theorem Row.kept (h : Row w M A l) (hk : Kept M w w') : Row w' M A l := fun hl => by
  obtain ⟨b, off, h1, h2, h3, h4⟩ := h hl
  exact ⟨b, off, h1, Nat.lt_of_lt_of_le h2 hk.size, h3, fun i x hx j v hv => (hk.cell h2 h3).trans (h4 i x hx j v hv)⟩
theorem Row.swap (h : Row w M A l) (hM : ∀ k ∈ M', k ∈ M ∨ w.heap.size ≤ k) : Row w M' A l := fun hl => by
  obtain ⟨b, off, h1, h2, h3, h4⟩ := h hl
  exact ⟨b, off, h1, h2, fun q => by
    rcases hM b q with e | e
    · exact h3 e
    · omega, h4⟩
theorem Row.own {base n c : Nat} (h : OwnS w base (.slice A n c) l) (hM : ∀ k ∈ M, k < base) : Row w M A l := fun hl => by
  obtain ⟨b, off, h1, h2, h4⟩ := Own.lst encS_len h hl
  refine ⟨b, off, h1, h2, fun q => ?_, h4⟩
  subst h1
  have := (World.ownsRow.lt h b rfl).1
  have := hM b q
  omega
theorem Row.nil : Row w M A [] := fun h => absurd rfl h
end

/-- Element p of the sets. -/
def Cell2 (w : World) (gs p : Nat) (M : List Nat) (T : Nat) (P : Nat → Bool) : Prop :=
  ∃ A c, w.cell? ⟨gs, p * 2, none⟩ = some (.slice A (runs P T).length c) ∧ w.cell? ⟨gs, p * 2 + 1, none⟩ = some (.int .i64 (cntN P T)) ∧ Row w M A (runs P T) ∧ (runs P T).length ≤ c ∧ c ≤ maxLen

/-- The table but for the queue. -/
structure Tb (w : World) (gt gs : Nat) (M : List Nat) (m T : Nat) (E : Option Addr) (cE : Nat) (va vq vw : Value) (D : Tab) (e : Bool) : Prop where
  tab : w.heap[gt]? = some (.cells #[.int .i64 T, .slice E m cE, va, .slice (some ⟨gs, 0, none⟩) (m * m) (m * m), vq, vw, .bool e] 73 (0, 0))
  sets : ∃ cur, w.heap[gs]? = some (.cells cur 75 (0, 0)) ∧ cur.size = m * m * 2
  set : ∀ i j, i < m → j < m → Cell2 w gs (i * m + j) M T (D i j)
  inM : gt ∈ M ∧ gs ∈ M ∧ gt ≠ gs
  mT : m ≤ 48 ∧ 1 ≤ T ∧ T ≤ 7200

section
variable {w w' : World} {gt gs : Nat} {M : List Nat} {m T : Nat} {E : Option Addr} {cE : Nat} {va vq vw : Value} {D : Tab} {e : Bool}
theorem Tb.gtlt (h : Tb w gt gs M m T E cE va vq vw D e) : gt < w.heap.size := (Array.getElem?_eq_some_iff.1 h.tab).1
theorem Tb.gslt (h : Tb w gt gs M m T E cE va vq vw D e) : gs < w.heap.size := by obtain ⟨cur, h1, _⟩ := h.sets; exact (Array.getElem?_eq_some_iff.1 h1).1
theorem Tb.c0 (h : Tb w gt gs M m T E cE va vq vw D e) : w.cell? ⟨gt, 0, none⟩ = some (.int .i64 T) := by rw [cell_of_row w gt 0 _ _ _ h.tab]; rfl
theorem Tb.c1 (h : Tb w gt gs M m T E cE va vq vw D e) : w.cell? ⟨gt, 1, none⟩ = some (.slice E m cE) := by rw [cell_of_row w gt 1 _ _ _ h.tab]; rfl
theorem Tb.c3 (h : Tb w gt gs M m T E cE va vq vw D e) : w.cell? ⟨gt, 3, none⟩ = some (.slice (some ⟨gs, 0, none⟩) (m * m) (m * m)) := by rw [cell_of_row w gt 3 _ _ _ h.tab]; rfl
theorem Tb.c4 (h : Tb w gt gs M m T E cE va vq vw D e) : w.cell? ⟨gt, 4, none⟩ = some vq := by rw [cell_of_row w gt 4 _ _ _ h.tab]; rfl
theorem Tb.c5 (h : Tb w gt gs M m T E cE va vq vw D e) : w.cell? ⟨gt, 5, none⟩ = some vw := by rw [cell_of_row w gt 5 _ _ _ h.tab]; rfl
theorem Tb.c6 (h : Tb w gt gs M m T E cE va vq vw D e) : w.cell? ⟨gt, 6, none⟩ = some (.bool e) := by rw [cell_of_row w gt 6 _ _ _ h.tab]; rfl
theorem Tb.fz (h : Tb w gt gs M m T E cE va vq vw D e) (o : Nat) : w.frozen? ⟨gt, o, none⟩ = false := by simp [World.frozen?, h.tab]
theorem Tb.fs (h : Tb w gt gs M m T E cE va vq vw D e) (o : Nat) : w.frozen? ⟨gs, o, none⟩ = false := by obtain ⟨cur, h1, _⟩ := h.sets; simp [World.frozen?, h1]
/-- The table over what leaves its blocks and rows alone. -/
theorem Tb.kept (h : Tb w gt gs M m T E cE va vq vw D e) (hk : Kept M w w') (ht : w'.heap[gt]? = w.heap[gt]?) (hs : w'.heap[gs]? = w.heap[gs]?) : Tb w' gt gs M m T E cE va vq vw D e where
  tab := ht.trans h.tab
  sets := by obtain ⟨cur, h1, h2⟩ := h.sets; exact ⟨cur, hs.trans h1, h2⟩
  set := fun i j hi hj => by
    obtain ⟨A, c, k1, k2, k3, k4, k5⟩ := h.set i j hi hj
    exact ⟨A, c, (World.cell?_of_block (a := ⟨gs, _, none⟩) hs).trans k1, (World.cell?_of_block (a := ⟨gs, _, none⟩) hs).trans k2, k3.kept hk, k4, k5⟩
  inM := h.inM
  mT := h.mT
theorem Tb.below (h : Tb w gt gs M m T E cE va vq vw D e) (hb : Below w.heap.size w w') : Tb w' gt gs M m T E cE va vq vw D e := h.kept (.of_below M hb) (hb.block gt h.gtlt) (hb.block gs h.gslt)
/-- A set is written. -/
def putT (D : Tab) (i j : Nat) (P : Nat → Bool) : Tab := fun a b => if a = i ∧ b = j then P else D a b
theorem idx_inj {i j a b m : Nat} (hj : j < m) (hb : b < m) (h : a * m + b = i * m + j) : a = i ∧ b = j := by
  have h1 : (a * m + b) / m = a := by rw [Nat.mul_comm, Nat.mul_add_div (by omega), Nat.div_eq_of_lt hb, Nat.add_zero]
  have h2 : (i * m + j) / m = i := by rw [Nat.mul_comm, Nat.mul_add_div (by omega), Nat.div_eq_of_lt hj, Nat.add_zero]
  have : a = i := by rw [← h1, h, h2]
  subst this
  exact ⟨rfl, by omega⟩
theorem Tb.store (h : Tb w gt gs M m T E cE va vq vw D e) {i j : Nat} (hi : i < m) (hj : j < m) {P : Nat → Bool} {A : Option Addr} {c : Nat} (hr : Row w M A (runs P T)) (h1 : (runs P T).length ≤ c) (h2 : c ≤ maxLen) :
    Tb ((w.setCell ⟨gs, (i * m + j) * 2, none⟩ (.slice A (runs P T).length c)).setCell ⟨gs, (i * m + j) * 2 + 1, none⟩ (.int .i64 (cntN P T))) gt gs M m T E cE va vq vw (putT D i j P) e ∧
    Kept [gs] w ((w.setCell ⟨gs, (i * m + j) * 2, none⟩ (.slice A (runs P T).length c)).setCell ⟨gs, (i * m + j) * 2 + 1, none⟩ (.int .i64 (cntN P T))) := by
  have hk0 : Kept [gs] w ((w.setCell ⟨gs, (i * m + j) * 2, none⟩ (.slice A (runs P T).length c)).setCell ⟨gs, (i * m + j) * 2 + 1, none⟩ (.int .i64 (cntN P T))) := ((Kept.refl [gs] w).setCell gs _ _ (.inl (by simp))).setCell gs _ _ (.inl (by simp))
  have hk : Kept M w ((w.setCell ⟨gs, (i * m + j) * 2, none⟩ (.slice A (runs P T).length c)).setCell ⟨gs, (i * m + j) * 2 + 1, none⟩ (.int .i64 (cntN P T))) := ((Kept.refl M w).setCell gs _ _ (.inl h.inM.2.1)).setCell gs _ _ (.inl h.inM.2.1)
  refine ⟨⟨?_, ?_, fun a b ha hb => ?_, h.inM, h.mT⟩, hk0⟩
  · rw [Below.heap_setCell _ _ _ gt h.inM.2.2, Below.heap_setCell _ _ _ gt h.inM.2.2]; exact h.tab
  · obtain ⟨cur, k1, k2⟩ := h.sets
    exact ⟨_, set_block _ (set_block _ k1), by simp [k2]⟩
  · obtain ⟨A0, c0, k1, k2, k3, k4, k5⟩ := h.set a b ha hb
    obtain ⟨A1, c1, l1, l2, _⟩ := h.set i j hi hj
    by_cases hab : a = i ∧ b = j
    · obtain ⟨rfl, rfl⟩ := hab
      have : putT D a b P a b = P := by simp [putT]
      rw [this]
      refine ⟨A, c, ?_, ?_, hr.kept hk, h1, h2⟩
      · rw [World.cell?_setCell_other _ _ _ _ (by simp), World.cell?_setCell_same _ _ _ k1]
      · rw [World.cell?_setCell_same _ _ _ ((World.cell?_setCell_other _ _ _ _ (by simp)).trans k2)]
    · have : putT D i j P a b = D a b := by simp [putT, hab]
      rw [this]
      have hne : a * m + b ≠ i * m + j := fun q => hab (idx_inj hj hb q)
      refine ⟨A0, c0, ?_, ?_, k3.kept hk, k4, k5⟩
      · rw [World.cell?_setCell_other _ _ _ _ (fun q => by injection q; omega), World.cell?_setCell_other _ _ _ _ (fun q => by injection q; omega)]; exact k1
      · rw [World.cell?_setCell_other _ _ _ _ (fun q => by injection q; omega), World.cell?_setCell_other _ _ _ _ (fun q => by injection q; omega)]; exact k2
/-- The flag is written. -/
theorem Tb.flag (h : Tb w gt gs M m T E cE va vq vw D e) (e' : Bool) : Tb (w.setCell ⟨gt, 6, none⟩ (.bool e')) gt gs M m T E cE va vq vw D e' ∧ Kept [gt] w (w.setCell ⟨gt, 6, none⟩ (.bool e')) := by
  have hk0 : Kept [gt] w (w.setCell ⟨gt, 6, none⟩ (.bool e')) := (Kept.refl [gt] w).setCell gt _ _ (.inl (by simp))
  have hk : Kept M w (w.setCell ⟨gt, 6, none⟩ (.bool e')) := (Kept.refl M w).setCell gt _ _ (.inl h.inM.1)
  have hs : (w.setCell ⟨gt, 6, none⟩ (.bool e')).heap[gs]? = w.heap[gs]? := Below.heap_setCell _ _ _ gs (fun q => h.inM.2.2 q.symm)
  refine ⟨⟨set_block _ h.tab, ?_, fun a b ha hb => ?_, h.inM, h.mT⟩, hk0⟩
  · obtain ⟨cur, k1, k2⟩ := h.sets; exact ⟨cur, hs.trans k1, k2⟩
  · obtain ⟨A, c, k1, k2, k3, k4, k5⟩ := h.set a b ha hb
    exact ⟨A, c, (World.cell?_of_block (a := ⟨gs, _, none⟩) hs).trans k1, (World.cell?_of_block (a := ⟨gs, _, none⟩) hs).trans k2, k3.kept hk, k4, k5⟩
theorem Tb.congr {D' : Tab} (h : Tb w gt gs M m T E cE va vq vw D e) (hD : ∀ i j, i < m → j < m → ∀ x, x < T → D i j x = D' i j x) : Tb w gt gs M m T E cE va vq vw D' e :=
  ⟨h.tab, h.sets, fun i j hi hj => by
    have h1 := h.set i j hi hj
    unfold Cell2 at h1 ⊢
    rw [runs_congr (hD i j hi hj), cntN_congr (hD i j hi hj)] at h1
    exact h1, h.inM, h.mT⟩
end

end Go.Proofs.Ytbhjnihcmfagjaa
