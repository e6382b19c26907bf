/-
  copy of records into a row, and the contract of slices.Insert at closures: one closure put in at a place.
-/
import Derived.Test.YtjeocfkijbpinaaCloD
import Derived.Test.YtjeocfkijbpinaaAppendLst
import Derived.Lib.Overlaps
import Derived.Lib.AppendZerosOnto
import Derived.Laws.CopyRow
set_option linter.unusedVariables false
set_option linter.unusedSimpArgs false
namespace Go.Proofs.Ytjeocfkijbpinaa
open Go.RowKit RP Go.Sort

theorem run_copyK {P : Program} (w : World) (dT sT ty elem : TypeId) (k g o dLen dCap : Nat) (a : Addr) (sLen sCap : Nat) (cur : Array Value) (t : TypeId) (cs : List Value)
    (hu : P.underlying dT = some (.slice elem)) (hs : (P.info? elem).map (·.size) = some k)
    (hg : w.heap[g]? = some (.cells cur t (0, 0))) (hn : cs.length = Nat.min sLen dLen * k)
    (hsrc : ∀ j v, cs[j]? = some v → w.cell? (a.add j) = some v) (hfit : o + cs.length ≤ cur.size) (h1 : ∀ v ∈ cs, v.oneCell' = true) :
    (Builtin.copy_ #[dT, sT] ty #[.slice (some ⟨g, o, none⟩) dLen dCap, .slice (some a) sLen sCap]).run P w =
      .ok (goInt (Nat.min sLen dLen)) (w.setRow g (cur.toList.take o ++ cs ++ cur.toList.drop (o + cs.length)).toArray) := by
  have hl := run_firstCells_some (P := P) (w := w) k (Nat.min sLen dLen) a sLen sCap cs hn hsrc
  have hst := run_storeCells_at P g o t cs 0 cur w hg (by simpa using hfit) h1
  cases hq : P.info? elem with
  | none => simp [hq] at hs
  | some i =>
    have hi : i.size = k := by simpa [hq] using hs
    simp [Builtin.copy_, run_underlying hu, Builtin.lenOf, sizeOf, typeInfo, hq, hi, hl, hst]

theorem wpList_copy_run {P : Program} {ops : Array Oper} {rest : List Oper} {o : Oper} {a : Act} {Q : Exit → Act → World → Prop} {w w' : World} {v' : Value} (hgd : o.guard = none) (d s : Operand) (t t' : TypeId)
    (ho : o.op = .call { callee := .builtin .copy, args := #[d, s], argTypes := #[t, t'] }) (v u : Value) (hd : a.eval d = v) (hs : a.eval s = u)
    (hr : (Builtin.copy_ #[t, t'] o.type #[v, u]).run P w = .ok v' w') (h : wpList P ops Q rest (a.put o.dst v') w') : wpList P ops Q (o :: rest) a w := by
  refine wpList_plain hgd fun K hK => ?_
  have hK' := hK _ _ h
  unfold Oper.wp execOp
  simp only [ho, resolve, invoke, builtin, Sem.run_bind, Sem.run_pure, Result.andThen_ok, List.map_toArray, List.map_cons, List.map_nil, hd, hs, hr]
  exact hK'
theorem wpList_append_run0 {P : Program} {ops : Array Oper} {rest : List Oper} {o : Oper} {a : Act} {Q : Exit → Act → World → Prop} {w w' : World} {v' : Value} (hgd : o.guard = none) (d s : Operand) (t t' : TypeId)
    (ho : o.op = .call { callee := .builtin .append, args := #[d, s], argTypes := #[t, t'] }) (v u : Value) (hd : a.eval d = v) (hs : a.eval s = u)
    (hr : (Builtin.append_ #[t, t'] o.type #[v, u]).run P w = .ok v' w') (h : wpList P ops Q rest (a.put o.dst v') w') : wpList P ops Q (o :: rest) a w := by
  refine wpList_plain hgd fun K hK => ?_
  have hK' := hK _ _ h
  unfold Oper.wp execOp
  simp only [ho, resolve, invoke, builtin, Sem.run_bind, Sem.run_pure, Result.andThen_ok, List.map_toArray, List.map_cons, List.map_nil, hd, hs, hr]
  exact hK'

/-- What two copies leave: the new ones first. -/
theorem put_first {α : Type} (r T X D : List α) (a x d : Nat) (ha : r.take a = T) (hT : T.length = a) (hX : X.length = x) (hD : D.length = d) :
    (((r.take a ++ X ++ r.drop (a + x)).take (a + x) ++ D ++ (r.take a ++ X ++ r.drop (a + x)).drop (a + x + d)).take (a + x + d)) = T ++ X ++ D := by
  rw [ha]
  have e1 : (T ++ X ++ r.drop (a + x)).take (a + x) = T ++ X := List.take_left' (by rw [List.length_append]; omega)
  rw [e1]
  exact List.take_left' (by rw [List.length_append, List.length_append]; omega)
/-- .. the tail first. -/
theorem put_last {α : Type} (r T X D : List α) (a x d : Nat) (ha : r.take a = T) (hT : T.length = a) (hX : X.length = x) (hD : D.length = d) (hr : a + x ≤ r.length) :
    (((r.take (a + x) ++ D ++ r.drop (a + x + d)).take a ++ X ++ (r.take (a + x) ++ D ++ r.drop (a + x + d)).drop (a + x)).take (a + x + d)) = T ++ X ++ D := by
  have l1 : (r.take (a + x)).length = a + x := by rw [List.length_take]; omega
  have e1 : (r.take (a + x) ++ D ++ r.drop (a + x + d)).take a = T := by
    rw [List.append_assoc, List.take_append_of_le_length (by omega), List.take_take, Nat.min_eq_left (by omega), ha]
  have e2 : (r.take (a + x) ++ D ++ r.drop (a + x + d)).drop (a + x) = D ++ r.drop (a + x + d) := by
    rw [List.append_assoc]; exact List.drop_left' l1
  rw [e1, e2, ← List.append_assoc]
  exact List.take_left' (by rw [List.length_append, List.length_append]; omega)

theorem setRow_grown (w : World) (g : Nat) (cs : Array Value) : w.grownBy (w.setRow g cs) (some g) :=
  ⟨rfl, rfl, rfl, by simp, fun k _ hk => setRow_other w g k cs (fun e => hk (by rw [e]))⟩
theorem grownBy_drew {w w' : World} {row : Option Nat} (h : w.grownBy w' row) : w.grownBy w'.drew row := ⟨h.os, h.tape, h.output, h.size, h.block⟩
theorem grownBy_trans {w w1 w2 : World} {row : Option Nat} (h : w.grownBy w1 row) (h' : w1.grownBy w2 row) : w.grownBy w2 row :=
  ⟨h'.os.trans h.os, h'.tape.trans h.tape, h'.output.trans h.output, Nat.le_trans h.size h'.size, fun k hk hn => (h'.block k (Nat.lt_of_lt_of_le hk h.size) hn).trans (h.block k hk hn)⟩

def InsPost {α : Type} (enc : α → List Value) (k : Nat) (e : TypeId) (base : Nat) (v : Value) (l : List α) (w : World) (en : Ending) (w' : World) : Prop :=
  ∃ v', en = .returned v' ∧ Own enc k e w' base v' l ∧ w.grownBy w' v.ownBlock ∧ (v'.ownBlock = v.ownBlock ∨ v'.ownBlock = some w.heap.size)

theorem insert_split {α : Type} (S : List α) (x : α) (enc : α → List Value) (i : Nat) : (S.take i ++ x :: S.drop i).flatMap enc = (S.take i).flatMap enc ++ enc x ++ (S.drop i).flatMap enc := by
  simp [List.flatMap_append, List.flatMap_cons]

set_option maxHeartbeats 2000000 in
set_option maxRecDepth 100000 in
/-- At the end. -/
theorem insert_end (A : Option Addr) (c : Nat) (S : List Clo) (x : Clo) (base vb : Nat) (w : World) (ho : OwnC w base (.slice A S.length c) S) (hv : Lst encO 3 w w.heap.size (some ⟨vb, 0, none⟩) [x]) (hn : S.length ≤ 64) (hbase : base ≤ w.heap.size) :
    Calls Try.prog 32 #[.slice A S.length c, .int .i64 S.length, .slice (some ⟨vb, 0, none⟩) 1 1] w (InsPost encO 3 27 base (.slice A S.length c) (S ++ [x]) w) := by
  by_cases hc : c = S.length
  · subst hc
    go_enter Try.func32, Try.ntmps32
    go_wp2_with (at_builtin; refine wpList_append_lst rfl _ _ 23 rfl base 27 24 Try.underlying23 elemC _ S rfl ho [x] _ _ _ w.heap.size rfl rfl hv (by simp only [Go.maxLen, List.length_cons, List.length_nil]; omega) (by simp only [List.length_cons, List.length_nil]; omega) hbase ?_; intro v1 w2 ho2 hg2 hat2)
    go_ret
    exact ⟨_, rfl, ho2, hg2, hat2⟩
  · go_enter Try.func32, Try.ntmps32
    go_wp2_with (at_builtin; refine wpList_append_lst rfl _ _ 23 rfl base 27 24 Try.underlying23 elemC _ S rfl ho [x] _ _ _ w.heap.size rfl rfl hv (by simp only [Go.maxLen, List.length_cons, List.length_nil]; omega) (by simp only [List.length_cons, List.length_nil]; omega) hbase ?_; intro v1 w2 ho2 hg2 hat2)
    go_ret
    exact ⟨_, rfl, ho2, hg2, hat2⟩

theorem sizeC : (Try.prog.info? 27).map (·.size) = some 3 := by kernel_rfl
theorem take_flat (S : List Clo) (cur : List Value) (i : Nat) (hi : i ≤ S.length) (h : cur.take (S.length * 3) = S.flatMap encO) : cur.take (i * 3) = (S.take i).flatMap encO := by
  have h1 : cur.take (i * 3) = (cur.take (S.length * 3)).take (i * 3) := by rw [List.take_take, Nat.min_eq_left (by omega)]
  rw [h1, h]
  have h2 : S.flatMap encO = (S.take i).flatMap encO ++ (S.drop i).flatMap encO := by rw [← List.flatMap_append, List.take_append_drop]
  rw [h2]
  exact List.take_left' (by rw [flatMap_length encO_len, List.length_take]; omega)
theorem drop_cell {S : List Clo} {i j : Nat} {v : Value} (hi : i ≤ S.length) (h : ((S.drop i).flatMap encO)[j]? = some v) : (S.flatMap encO)[i * 3 + j]? = some v := by
  have h2 : S.flatMap encO = (S.take i).flatMap encO ++ (S.drop i).flatMap encO := by rw [← List.flatMap_append, List.take_append_drop]
  rw [h2, List.getElem?_append_right (by rw [flatMap_length encO_len, List.length_take]; omega), flatMap_length encO_len, List.length_take, Nat.min_eq_left hi, Nat.add_sub_cancel_left]
  exact h

set_option maxHeartbeats 4000000 in
set_option maxRecDepth 100000 in
/-- Inside, with room. -/
theorem insert_shift (g c i : Nat) (S : List Clo) (x : Clo) (base vb : Nat) (w : World) (t' : TypeId) (ho : OwnC w base (.slice (some ⟨g, 0, none⟩) S.length c) S) (hv : w.heap[vb]? = some (.cells (encO x).toArray t' (0, 0))) (hn : S.length ≤ 64) (hi : i < S.length) (hc : S.length + 1 ≤ c) (hne : vb ≠ g) :
    Calls Try.prog 32 #[.slice (some ⟨g, 0, none⟩) S.length c, .int .i64 i, .slice (some ⟨vb, 0, none⟩) 1 1] w (InsPost encO 3 27 base (.slice (some ⟨g, 0, none⟩) S.length c) (S.take i ++ x :: S.drop i) w) := by
  obtain ⟨cur, hgb, hh, hcm, hcs, hct⟩ : ∃ cur : Array Value, base ≤ g ∧ w.heap[g]? = some (.cells cur 27 (0, 0)) ∧ c ≤ maxLen ∧ cur.size = c * 3 ∧ cur.toList.take (S.length * 3) = S.flatMap encO := by
    rcases ho.2 with ⟨h0, _⟩ | ⟨g', cap, cur, hq, hgb, hh, _, hcm, hcs, hct⟩
    · cases h0
    · injection hq with q1 _ q3
      injection q1 with q1
      injection q1 with q1
      subst q1 q3
      exact ⟨cur, hgb, hh, hcm, hcs, hct⟩
  have hov : ∀ o lb cb, (callFunc 40 #[.slice (some ⟨vb, 0, none⟩) 1 1, .slice (some ⟨g, o, none⟩) lb cb]).run Try.prog w = .ok (.value (.bool false)) w := fun o lb cb => by
    rw [run_callFunc_extern Try.func40 (by kernel_rfl) (by kernel_rfl) (by kernel_rfl) (e := Extern.SlicesOverlaps.overlaps #[23, 23] #[4]) (by kernel_rfl),
      Lib.run_overlaps_apart w 23 4 27 Try.underlying23 3 Try.sizeOf27 ⟨vb, 0, none⟩ ⟨g, o, none⟩ 1 1 lb cb hne t' 27 3 (c * 3) (by simp [World.shape?, hv, encO]) (by simp [World.shape?, hh, hcs]) (by omega) (by simp [World.frozen?, hv]) (by simp [World.frozen?, hv])]
    rfl
  have hd : ((S.drop i).flatMap encO).length = (S.length - i) * 3 := by rw [flatMap_length encO_len, List.length_drop]
  have hcp1 : ∀ (W : World), (∀ b : Nat, W.heap[b]? = w.heap[b]?) → ∀ ty dc sc, (Builtin.copy_ #[23, 23] ty #[.slice (some ⟨g, (i + 1) * 3, none⟩) (S.length - i) dc, .slice (some ⟨g, i * 3, none⟩) (S.length + 1 - i) sc]).run Try.prog W = .ok (goInt ((S.length - i : Nat) : Int)) (W.setRow g (cur.toList.take ((i + 1) * 3) ++ (S.drop i).flatMap encO ++ cur.toList.drop ((i + 1) * 3 + (S.length - i) * 3)).toArray) := fun W hW ty dc sc => by
    have hmin : Nat.min (S.length + 1 - i) (S.length - i) = S.length - i := by simp only [Nat.min_def]; split <;> omega
    have := run_copyK (P := Try.prog) W 23 23 ty 27 3 g ((i + 1) * 3) (S.length - i) dc ⟨g, i * 3, none⟩ (S.length + 1 - i) sc cur 27 ((S.drop i).flatMap encO) Try.underlying23 sizeC ((hW g).trans hh)
      (by rw [hmin, hd]) (fun j v hj => by
        have hjl := (List.getElem?_eq_some_iff.1 hj).1
        rw [add_none, cell_of_row W g (i * 3 + j) cur 27 (0, 0) ((hW g).trans hh)]
        have := drop_cell (by omega) hj
        rw [← hct, List.getElem?_take, if_pos (by omega)] at this
        simpa using this) (by rw [hd]; omega) (fun u hu => by
          obtain ⟨y, _, hy⟩ := List.mem_flatMap.1 hu
          exact encO_one y u hy)
    rw [hmin, hd] at this
    exact this
  obtain ⟨r1, hr1⟩ : ∃ r1, r1 = cur.toList.take ((i + 1) * 3) ++ (S.drop i).flatMap encO ++ cur.toList.drop ((i + 1) * 3 + (S.length - i) * 3) := ⟨_, rfl⟩
  have hl1 : r1.length = c * 3 := by
    rw [hr1, List.length_append, List.length_append, List.length_take, List.length_drop, hd, Array.length_toList, hcs]; omega
  rw [← hr1] at hcp1
  have hcp2 : ∀ (W : World), (∀ b : Nat, W.heap[b]? = (w.setRow g r1.toArray).heap[b]?) → ∀ ty dc, (Builtin.copy_ #[23, 23] ty #[.slice (some ⟨g, i * 3, none⟩) (S.length + 1 - i) dc, .slice (some ⟨vb, 0, none⟩) 1 1]).run Try.prog W = .ok (goInt ((1 : Nat) : Int)) (W.setRow g (r1.take (i * 3) ++ encO x ++ r1.drop (i * 3 + 3)).toArray) := fun W hW ty dc => by
    have hmin : Nat.min 1 (S.length + 1 - i) = 1 := by simp only [Nat.min_def]; split <;> omega
    have hWg : W.heap[g]? = some (.cells r1.toArray 27 (0, 0)) := (hW g).trans (setRow_heap w g cur _ _ _ hh)
    have hWv : W.heap[vb]? = some (.cells (encO x).toArray t' (0, 0)) := (hW vb).trans ((setRow_other w g vb _ hne).trans hv)
    have := run_copyK (P := Try.prog) W 23 23 ty 27 3 g (i * 3) (S.length + 1 - i) dc ⟨vb, 0, none⟩ 1 1 r1.toArray 27 (encO x) Try.underlying23 sizeC hWg
      (by rw [hmin]; rfl) (fun j v hj => by
        rw [add_none, cell_of_row W vb (0 + j) (encO x).toArray t' (0, 0) hWv, Nat.zero_add]
        simpa using hj) (by rw [List.size_toArray, hl1]; show i * 3 + 3 ≤ _; omega) (encO_one x)
    rw [hmin] at this
    exact this
  obtain ⟨r2, hr2⟩ : ∃ r2, r2 = r1.take (i * 3) ++ encO x ++ r1.drop (i * 3 + 3) := ⟨_, rfl⟩
  rw [← hr2] at hcp2
  have hfin : InsPost encO 3 27 base (.slice (some ⟨g, 0, none⟩) S.length c) (S.take i ++ x :: S.drop i) w (.returned (.slice (some ⟨g, 0, none⟩) (S.length + 1) c)) ((w.drew.setRow g r1.toArray).setRow g r2.toArray) := by
    rw [hr2]
    have hln : (S.take i ++ x :: S.drop i).length = S.length + 1 := by rw [List.length_append, List.length_cons, List.length_take, List.length_drop]; omega
    refine ⟨_, rfl, ?_, grownBy_trans (grownBy_trans (grownBy_drew (grownBy_refl w _)) (setRow_grown _ g _)) (setRow_grown _ g _), .inl rfl⟩
    show World.ownsRow _ _ _ _ _ (S.take i ++ x :: S.drop i).length _
    rw [hln]
    refine ⟨by rw [flatMap_length encO_len, hln], .inr ⟨g, c, _, rfl, hgb, setRow_heap _ g r1.toArray _ _ _ (setRow_heap w.drew g cur _ _ _ hh), hc, hcm, ?_, ?_⟩⟩
    · simp only [List.size_toArray, List.length_append, List.length_take, List.length_drop, hl1]
      show min (i * 3) (c * 3) + 3 + _ = _
      omega
    · have hT := take_flat S cur.toList i (by omega) hct
      have := put_last cur.toList ((S.take i).flatMap encO) (encO x) ((S.drop i).flatMap encO) (i * 3) 3 ((S.length - i) * 3) hT (by rw [flatMap_length encO_len, List.length_take]; omega) rfl hd (by rw [Array.length_toList, hcs]; omega)
      rw [show i * 3 + 3 = (i + 1) * 3 by omega, ← hr1] at this
      rw [insert_split, List.toList_toArray, ← this, show (S.length + 1) * 3 = (i + 1) * 3 + (S.length - i) * 3 by omega]
      rw [show i * 3 + 3 = (i + 1) * 3 by omega]
  have HFIN := Lib.hid hfin
  have hE1 : ∀ b : Nat, w.drew.heap[b]? = w.heap[b]? := fun _ => rfl
  have hE2 : ∀ b : Nat, (w.drew.setRow g r1.toArray).heap[b]? = (w.setRow g r1.toArray).heap[b]? := fun _ => rfl
  have hz2 : ¬ ((i : Int) = (S.length : Int)) := by omega
  have hin : i ≤ S.length := by omega
  have hin1 : i ≤ S.length + 1 := by omega
  have hdc : decide ((c : Int) < (S.length : Int) + 1) = false := by simp; omega
  have hb2 : ¬ (c = i + 1) := by omega
  have hb4 : ¬ (c = i) := by omega
  simp only [maxLen] at hcm
  have HR1 := Lib.hid hr1
  have HL1 := Lib.hid hl1
  clear hfin hr1 hr2 hl1 hd hct hcs hh hv ho
  have hw1 : IntKind.i64.wrap ((i : Int) + 1) = (i : Int) + 1 := by rw [IntKind.wrap_i64]; omega
  have hb1 : (0 : Int) ≤ (i : Int) + 1 := by omega
  have hb3 : (i : Int) ≤ (S.length : Int) + 1 := by omega
  have htn : ((i : Int) + 1).toNat = i + 1 := by omega
  go_enter Try.func32, Try.ntmps32
  go_upto_region 15 with (simp only [hov])
  refine wp_region_still_tail 8 (by kernel_rfl) (by kernel_rfl) ?_
  simp only [List.take_succ_cons, List.take_zero, List.drop_succ_cons, List.drop_zero]
  still_step
  still_step
  still_step
  still_step
  still_step
  still_step
  still_step
  still_step
  refine wpStill_nil ?_
  have HC2 := Lib.hid hcp2
  clear hcp2
  refine wpList_copy_run (w := w.drew) rfl _ _ 23 23 rfl _ _ rfl rfl (hcp1 w.drew hE1 _ _ _) ?_
  clear hcp1
  go_wp2_with (with_reducible refine wpList_copy_run (w := w.drew.setRow g r1.toArray) rfl _ _ 23 23 rfl _ _ rfl rfl (HC2.out _ hE2 _ _) ?_)
  go_ret
  exact HFIN.out

set_option maxHeartbeats 4000000 in
set_option maxRecDepth 100000 in
/-- Inside, without room. -/
theorem insert_grow (g i : Nat) (S : List Clo) (x : Clo) (base vb : Nat) (w : World) (t' : TypeId) (ho : OwnC w base (.slice (some ⟨g, 0, none⟩) S.length S.length) S) (hv : w.heap[vb]? = some (.cells (encO x).toArray t' (0, 0))) (hn : S.length ≤ 64) (hi : i < S.length) (hbase : base ≤ w.heap.size) :
    Calls Try.prog 32 #[.slice (some ⟨g, 0, none⟩) S.length S.length, .int .i64 i, .slice (some ⟨vb, 0, none⟩) 1 1] w (InsPost encO 3 27 base (.slice (some ⟨g, 0, none⟩) S.length S.length) (S.take i ++ x :: S.drop i) w) := by
  obtain ⟨cur, hgb, hh, hcs, hct⟩ : ∃ cur : Array Value, base ≤ g ∧ w.heap[g]? = some (.cells cur 27 (0, 0)) ∧ cur.size = S.length * 3 ∧ cur.toList.take (S.length * 3) = S.flatMap encO := by
    rcases ho.2 with ⟨h0, _⟩ | ⟨g', cap, cur, hq, hgb, hh, _, hcm, hcs, hct⟩
    · cases h0
    · injection hq with q1 _ q3
      injection q1 with q1
      injection q1 with q1
      subst q1 q3
      exact ⟨cur, hgb, hh, hcs, hct⟩
  have hgl : g < w.heap.size := (World.ownsRow.lt ho g rfl).2
  have hvl : vb < w.heap.size := lt_of_block hv
  obtain ⟨i0, hi0, hz0, hz1, hz2⟩ := info_parts infoClo
  have hd : ((S.drop i).flatMap encO).length = (S.length - i) * 3 := by rw [flatMap_length encO_len, List.length_drop]
  have hT := take_flat S cur.toList i (by omega) hct
  have hTl : ((S.take i).flatMap encO).length = i * 3 := by rw [flatMap_length encO_len, List.length_take]; omega
  have hcg : ∀ j v, (S.flatMap encO)[j]? = some v → w.cell? ⟨g, j, none⟩ = some v := fun j v hj => by
    have hjl := (List.getElem?_eq_some_iff.1 hj).1
    rw [flatMap_length encO_len] at hjl
    rw [cell_of_row w g j cur 27 (0, 0) hh]
    rw [← hct, List.getElem?_take, if_pos (by omega)] at hj
    simpa using hj
  have hold : (Builtin.firstCells i0.size i (.slice (some ⟨g, 0, none⟩) i S.length)).run Try.prog w.drew = .ok ((S.take i).flatMap encO).toArray w.drew := by
    rw [hz1]
    refine run_firstCells_some (P := Try.prog) (w := w.drew) 3 i ⟨g, 0, none⟩ i S.length _ hTl fun j v hj => ?_
    rw [add_none, Nat.zero_add]
    have hjl := (List.getElem?_eq_some_iff.1 hj).1
    refine hcg j v ?_
    rw [← hT, List.getElem?_take, if_pos (by omega)] at hj
    rw [← hct, List.getElem?_take, if_pos (by omega)]
    exact hj
  have hik : i + (S.length + 1 - i) = S.length + 1 := by omega
  obtain ⟨G, ROW, hG1, hG2, hR1, hR2, hrz⟩ : ∃ (G : Nat) (ROW : Array Value), S.length + 1 ≤ G ∧ G ≤ maxLen ∧ ROW.size = G * 3 ∧ ROW.toList.take (i * 3) = (S.take i).flatMap encO ∧
      ∀ ty, (Builtin.append_ #[23, 3] ty #[.slice (some ⟨g, 0, none⟩) i S.length, .int .i64 ((S.length : Int) + 1 - (i : Int))]).run Try.prog w = .ok (.slice (some ⟨w.heap.size, 0, none⟩) (S.length + 1) G) (w.drew.alloc (.cells ROW 27)) := by
    have hge := grownCap_ge w (S.length + 1) S.length 27
    refine ⟨grownCap w (S.length + 1) S.length 27, _, hge, grownCap_le_maxLen w _ _ _ (by simp only [maxLen]; omega), ?_, ?_, fun ty => by
      have h := Lib.run_append_grow_zeros (P := Try.prog) w 23 3 ty 27 i0 _ .i64 .i64 Try.underlying23 Try.underlying3 hi0 hz0 (some ⟨g, 0, none⟩) i S.length _ hold (S.length + 1 - i) (by omega) (by omega) (by omega) (by omega) (by rw [hz2]; omega) (by rw [hz2, hik]; exact growslice_fits (by omega) (by omega))
      rw [hik] at h
      rw [show (S.length : Int) + 1 - (i : Int) = ((S.length + 1 - i : Nat) : Int) by omega]
      exact h⟩
    · simp only [Array.size_append, size_zeroCells, List.size_toArray, hTl]
      show _ + _ * 3 + _ * 3 = _
      omega
    · rw [Array.append_assoc, Array.toList_append, List.toList_toArray]
      exact List.take_left' hTl
  clear hold hcs hh
  obtain ⟨r1, hr1⟩ : ∃ r1, r1 = ROW.toList.take (i * 3) ++ encO x ++ ROW.toList.drop (i * 3 + 3) := ⟨_, rfl⟩
  have hl1 : r1.length = G * 3 := by
    rw [hr1, List.length_append, List.length_append, List.length_take, List.length_drop, Array.length_toList, hR1]; show min (i * 3) (G * 3) + 3 + _ = _; omega
  have hN : (w.drew.alloc (.cells ROW 27)).heap[w.heap.size]? = some (.cells ROW 27 (0, 0)) := heap_alloc_new w.drew _
  have hcp1 : ∀ (W : World), (∀ b : Nat, W.heap[b]? = (w.drew.alloc (.cells ROW 27)).heap[b]?) → ∀ ty dc, (Builtin.copy_ #[23, 23] ty #[.slice (some ⟨w.heap.size, i * 3, none⟩) (S.length + 1 - i) dc, .slice (some ⟨vb, 0, none⟩) 1 1]).run Try.prog W = .ok (goInt ((1 : Nat) : Int)) (W.setRow w.heap.size r1.toArray) := fun W hW ty dc => by
    have hmin : Nat.min 1 (S.length + 1 - i) = 1 := by simp only [Nat.min_def]; split <;> omega
    have hWv : W.heap[vb]? = some (.cells (encO x).toArray t' (0, 0)) := (hW vb).trans ((Below.heap_alloc w.drew _ _ hvl).trans hv)
    have := run_copyK (P := Try.prog) W 23 23 ty 27 3 w.heap.size (i * 3) (S.length + 1 - i) dc ⟨vb, 0, none⟩ 1 1 ROW 27 (encO x) Try.underlying23 sizeC ((hW _).trans hN)
      (by rw [hmin]; rfl) (fun j v hj => by
        rw [add_none, cell_of_row W vb (0 + j) (encO x).toArray t' (0, 0) hWv, Nat.zero_add]
        simpa using hj) (by rw [hR1]; show i * 3 + 3 ≤ _; omega) (encO_one x)
    rw [hmin] at this
    rw [hr1]
    exact this
  obtain ⟨r2, hr2⟩ : ∃ r2, r2 = r1.take ((i + 1) * 3) ++ (S.drop i).flatMap encO ++ r1.drop ((i + 1) * 3 + (S.length - i) * 3) := ⟨_, rfl⟩
  have hcp2 : ∀ (W : World), (∀ b : Nat, W.heap[b]? = ((w.drew.alloc (.cells ROW 27)).setRow w.heap.size r1.toArray).heap[b]?) → ∀ ty dc sc, (Builtin.copy_ #[23, 23] ty #[.slice (some ⟨w.heap.size, (i + 1) * 3, none⟩) (S.length - i) dc, .slice (some ⟨g, i * 3, none⟩) (S.length - i) sc]).run Try.prog W = .ok (goInt ((S.length - i : Nat) : Int)) (W.setRow w.heap.size r2.toArray) := fun W hW ty dc sc => by
    have hmin : Nat.min (S.length - i) (S.length - i) = S.length - i := by simp only [Nat.min_def]; split <;> omega
    have hWc : ∀ j, W.cell? ⟨g, j, none⟩ = w.cell? ⟨g, j, none⟩ := fun j => World.cell?_of_block ((hW g).trans ((setRow_other _ _ g _ (by omega)).trans (Below.heap_alloc w.drew _ _ hgl)))
    have := run_copyK (P := Try.prog) W 23 23 ty 27 3 w.heap.size ((i + 1) * 3) (S.length - i) dc ⟨g, i * 3, none⟩ (S.length - i) sc r1.toArray 27 ((S.drop i).flatMap encO) Try.underlying23 sizeC ((hW _).trans (setRow_heap _ _ ROW _ _ _ hN))
      (by rw [hmin, hd]) (fun j v hj => by rw [add_none, hWc]; exact hcg _ v (drop_cell (by omega) hj)) (by rw [hd, List.size_toArray, hl1]; omega) (fun u hu => by
          obtain ⟨y, _, hy⟩ := List.mem_flatMap.1 hu
          exact encO_one y u hy)
    rw [hmin, hd] at this
    rw [hr2]
    exact this
  have hfin : InsPost encO 3 27 base (.slice (some ⟨g, 0, none⟩) S.length S.length) (S.take i ++ x :: S.drop i) w (.returned (.slice (some ⟨w.heap.size, 0, none⟩) (S.length + 1) G)) (((w.drew.alloc (.cells ROW 27)).setRow w.heap.size r1.toArray).drew.setRow w.heap.size r2.toArray) := by
    have hln : (S.take i ++ x :: S.drop i).length = S.length + 1 := by rw [List.length_append, List.length_cons, List.length_take, List.length_drop]; omega
    refine ⟨_, rfl, ?_, ⟨rfl, rfl, rfl, ?_, fun b hb _ => ?_⟩, .inr rfl⟩
    · show World.ownsRow _ _ _ _ _ (S.take i ++ x :: S.drop i).length _
      rw [hln]
      refine ⟨by rw [flatMap_length encO_len, hln], .inr ⟨w.heap.size, G, _, rfl, hbase, setRow_heap _ _ r1.toArray _ _ _ (setRow_heap _ _ ROW _ _ _ hN), hG1, hG2, ?_, ?_⟩⟩
      · rw [List.size_toArray, hr2, List.length_append, List.length_append, List.length_take, List.length_drop, hl1, hd]; omega
      · have := put_first ROW.toList ((S.take i).flatMap encO) (encO x) ((S.drop i).flatMap encO) (i * 3) 3 ((S.length - i) * 3) hR2 hTl rfl hd
        rw [← hr1, show i * 3 + 3 = (i + 1) * 3 by omega, ← hr2] at this
        rw [insert_split, List.toList_toArray, ← this, show (S.length + 1) * 3 = (i + 1) * 3 + (S.length - i) * 3 by omega]
    · simp
    · exact (setRow_other _ _ b _ (by omega)).trans ((setRow_other _ _ b _ (by omega)).trans (Below.heap_alloc w.drew _ _ hb))
  have HFIN := Lib.hid hfin
  have hE1 : ∀ b : Nat, (w.drew.alloc (.cells ROW 27)).heap[b]? = (w.drew.alloc (.cells ROW 27)).heap[b]? := fun _ => rfl
  have hE2 : ∀ b : Nat, ((w.drew.alloc (.cells ROW 27)).setRow w.heap.size r1.toArray).drew.heap[b]? = ((w.drew.alloc (.cells ROW 27)).setRow w.heap.size r1.toArray).heap[b]? := fun _ => rfl
  have hz2 : ¬ ((i : Int) = (S.length : Int)) := by omega
  have hin : i ≤ S.length := by omega
  have hin1 : i ≤ S.length + 1 := by omega
  have hdc : decide ((S.length : Int) < (S.length : Int) + 1) = true := by simp; omega
  have hb2 : ¬ (G = i + 1) := by omega
  have hb4 : ¬ (G = i) := by omega
  have hb5 : ¬ (S.length = i) := by omega
  simp only [maxLen] at hG2
  have HC1 := Lib.hid hcp1
  have HC2 := Lib.hid hcp2
  have HRZ := Lib.hid hrz
  have HI1 := Lib.hid hE1
  have HI2 := Lib.hid hE2
  clear hfin hr1 hr2 hl1 hd hct hv ho hR1 hR2 hTl hT hN hcp1 hcp2 hrz hcg hi0 hz0 hz1 hE1 hE2 hik
  have hw1 : IntKind.i64.wrap ((i : Int) + 1) = (i : Int) + 1 := by rw [IntKind.wrap_i64]; omega
  have hb1 : (0 : Int) ≤ (i : Int) + 1 := by omega
  have hb3 : (i : Int) ≤ (S.length : Int) + 1 := by omega
  have htn : ((i : Int) + 1).toNat = i + 1 := by omega
  go_enter Try.func32, Try.ntmps32
  have hcpA : ∀ ty dc, (Builtin.copy_ #[23, 23] ty #[.slice (some ⟨w.heap.size, i * 3, none⟩) (S.length + 1 - i) dc, .slice (some ⟨vb, 0, none⟩) 1 1]).run Try.prog (w.alloc (.cells ROW 27)).drew = .ok (goInt ((1 : Nat) : Int)) ((w.alloc (.cells ROW 27)).drew.setRow w.heap.size r1.toArray) := fun ty dc => HC1.out _ (fun _ => rfl) ty dc
  go_upto_region 11 with (at_builtin; refine wpList_append_run0 rfl _ _ 23 3 rfl _ _ rfl rfl (HRZ.out _) ?_)
  clear hcpA
  refine wp_region_still_tail 8 (by kernel_rfl) (by kernel_rfl) ?_
  simp only [List.take_succ_cons, List.take_zero, List.drop_succ_cons, List.drop_zero]
  still_step
  still_step
  still_step
  still_step
  still_step
  still_step
  still_step
  still_step
  refine wpStill_nil ?_
  refine wpList_copy_run (w := ((w.alloc (.cells ROW 27)).drew.setRow w.heap.size r1.toArray).drew) rfl _ _ 23 23 rfl _ _ rfl rfl (HC2.out ((w.alloc (.cells ROW 27)).drew.setRow w.heap.size r1.toArray).drew (fun _ => rfl) _ _ _) ?_
  go_wp2_with fail
  go_ret
  exact HFIN.out

theorem insert_any (A : Option Addr) (c i : Nat) (S : List Clo) (x : Clo) (base vb : Nat) (w : World) (t' : TypeId) (ho : OwnC w base (.slice A S.length c) S) (hv : w.heap[vb]? = some (.cells (encO x).toArray t' (0, 0))) (hn : S.length ≤ 64) (hi : i ≤ S.length) (hbase : base ≤ w.heap.size) (hne : ∀ g, Value.ownBlock (.slice A S.length c) = some g → vb ≠ g) :
    Calls Try.prog 32 #[.slice A S.length c, .int .i64 i, .slice (some ⟨vb, 0, none⟩) 1 1] w (InsPost encO 3 27 base (.slice A S.length c) (S.take i ++ x :: S.drop i) w) := by
  by_cases he : i = S.length
  · subst he
    rw [List.take_length, List.drop_length]
    refine insert_end A c S x base vb w ho (fun _ => ⟨vb, 0, rfl, lt_of_block hv, fun j y hy k v hk => ?_⟩) hn hbase
    cases j with
    | zero =>
      simp only [List.getElem?_cons_zero, Option.some.injEq] at hy
      subst hy
      rw [cell_of_row w vb _ _ _ _ hv]
      simpa using hk
    | succ j => simp at hy
  · obtain ⟨g, c', hq, hgb, hgl, hcc, _, _⟩ := ho.at_ encO_len (by intro h; subst h; simp at hi; exact he hi)
    injection hq with q1 _ q3
    subst q1 q3
    by_cases hc : S.length + 1 ≤ c
    · exact insert_shift g c i S x base vb w t' ho hv hn (by omega) hc (hne g rfl)
    · obtain rfl : c = S.length := by omega
      exact insert_grow g i S x base vb w t' ho hv hn (by omega) hbase

end Go.Proofs.Ytjeocfkijbpinaa
