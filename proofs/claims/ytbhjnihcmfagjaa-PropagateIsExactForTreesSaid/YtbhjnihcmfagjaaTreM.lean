/-
  Rows of numbers in memory; contract of the reference's merge (chapter 13, PropagateIsExactForTrees).
  Contracts of the reference's Forest and Values on a forest (chapter 13, PropagateIsExactForTrees).
  Contracts of the reference's Components and Values (chapter 13, PropagateIsExactForTrees).
  Contract of the reference's path along a forest (chapter 13, PropagateIsExactForTrees).
  Contract of the reference's Potentials on an acyclic network (chapter 13, PropagateIsExactForTrees).
  Contract of the reference's Tree (chapter 13, PropagateIsExactForTrees).
-/
import Derived.Test.YtbhjnihcmfagjaaTreP
import Derived.Test.YtbhjnihcmfagjaaRf13
import Derived.Test.YtbhjnihcmfagjaaTimes
set_option linter.unusedVariables false
set_option linter.unusedSimpArgs false
namespace Go.Proofs.Ytbhjnihcmfagjaa
open Go.RowKit RP

/-- A row of numbers. -/
def numA (m : Nat) (R : Nat → Int) : Array Value := ((List.range m).map fun d => Value.int .i64 (R d)).toArray
theorem numA_get {m : Nat} {R : Nat → Int} {d : Nat} (h : d < m) : (numA m R)[d]? = some (.int .i64 (R d)) := by
  unfold numA
  rw [List.getElem?_toArray, List.getElem?_map, List.getElem?_range h]; rfl
theorem numA_set {m : Nat} {P Q : Nat → Int} {d : Nat} {z : Int} (hd : Q d = z) (ho : ∀ x, x < m → x ≠ d → Q x = P x) : (numA m P).setIfInBounds d (.int .i64 z) = numA m Q := by
  refine Array.ext_getElem? fun i => ?_
  rw [Array.getElem?_setIfInBounds]
  by_cases hi : i < m
  · have hp := numA_get (R := P) hi
    have hq := numA_get (R := Q) hi
    rw [hp, hq]
    by_cases e : d = i
    · subst e
      rw [if_pos rfl, if_pos (by unfold numA; simp [hi]), hd]
    · rw [if_neg e, ho i hi (fun q => e q.symm)]
  · have h1 : (numA m Q)[i]? = none := by unfold numA; simp; omega
    have h2 : (numA m P)[i]? = none := by unfold numA; simp; omega
    rw [h1, h2]
    by_cases e : d = i
    · subst e
      rw [if_pos rfl, if_neg (by unfold numA; simp; omega)]
    · rw [if_neg e]
theorem numA_congr {m : Nat} {P Q : Nat → Int} (h : ∀ x, x < m → P x = Q x) : numA m P = numA m Q := by
  unfold numA
  congr 1
  exact List.map_congr_left fun x hx => by rw [h x (List.mem_range.1 hx)]
abbrev RowN (w : World) (g m : Nat) (R : Nat → Int) : Prop := w.heap[g]? = some (.cells (numA m R) 3 (0, 0))
abbrev RowB (w : World) (g m : Nat) (P : Nat → Bool) : Prop := w.heap[g]? = some (.cells (bitsA m P) 4 (0, 0))
theorem rowN_congr {w : World} {g m : Nat} {P Q : Nat → Int} (h : RowN w g m P) (he : ∀ x, x < m → Q x = P x) : RowN w g m Q := by
  show w.heap[g]? = _
  rw [numA_congr he]; exact h
theorem rowN_lt {w : World} {g m : Nat} {R : Nat → Int} (h : RowN w g m R) : g < w.heap.size := (Array.getElem?_eq_some_iff.1 h).1
theorem rowB_lt {w : World} {g m : Nat} {R : Nat → Bool} (h : RowB w g m R) : g < w.heap.size := (Array.getElem?_eq_some_iff.1 h).1
theorem rowN_get {w : World} {g m : Nat} {R : Nat → Int} (h : RowN w g m R) {d : Nat} (hd : d < m) : w.cell? ⟨g, d, none⟩ = some (.int .i64 (R d)) ∧ w.frozen? ⟨g, d, none⟩ = false :=
  ⟨by rw [cell_of_row w _ d _ _ _ h]; exact numA_get hd, by simp [World.frozen?, show w.heap[g]? = _ from h]⟩
theorem rowB_get {w : World} {g m : Nat} {R : Nat → Bool} (h : RowB w g m R) {d : Nat} (hd : d < m) : w.cell? ⟨g, d, none⟩ = some (.bool (R d)) ∧ w.frozen? ⟨g, d, none⟩ = false :=
  ⟨by rw [cell_of_row w _ d _ _ _ h]; exact bitsA_get hd, by simp [World.frozen?, show w.heap[g]? = _ from h]⟩
theorem rowN_set {w : World} {g m : Nat} {P Q : Nat → Int} (h : RowN w g m P) {d : Nat} {z : Int} (hd : Q d = z) (ho : ∀ x, x < m → x ≠ d → Q x = P x) : RowN (w.setCell ⟨g, d, none⟩ (.int .i64 z)) g m Q := by
  show (w.setCell ⟨g, d, none⟩ (.int .i64 z)).heap[g]? = _
  rw [set_block (w := w) _ h, numA_set hd ho]
theorem rowB_set {w : World} {g m : Nat} {P Q : Nat → Bool} (h : RowB w g m P) {d : Nat} {b : Bool} (hd : Q d = b) (ho : ∀ x, x ≠ d → Q x = P x) : RowB (w.setCell ⟨g, d, none⟩ (.bool b)) g m Q := by
  show (w.setCell ⟨g, d, none⟩ (.bool b)).heap[g]? = _
  rw [set_block (w := w) _ h, bitsA_set b hd ho]
theorem kept_at {M : List Nat} {w w' : World} (h : Kept M w w') {g : Nat} {o : Obj} (hg : w.heap[g]? = some o) (hn : g ∉ M) : w'.heap[g]? = some o := (h.block g (Array.getElem?_eq_some_iff.1 hg).1 hn).trans hg
theorem Kept.drewN {M : List Nat} {w w' : World} (h : Kept M w w') (q : Nat) : Kept M w (w'.drewN q) := ⟨h.os, h.tape, h.output, h.size, h.block⟩

set_option maxRecDepth 100000 in
set_option maxHeartbeats 2000000 in
theorem merge13_any (g m : Nat) (R : Nat → Int) (kd lo hi wt : Int) (s d : Nat) (w : World) (hr : RowN w g m R) (hs : s < m) (hd : d < m) (hm : m ≤ 48) :
    Calls Try.prog 53 #[.slice (some ⟨g, 0, none⟩) m m, .agg #[.int .i64 kd, .int .i64 s, .int .i64 d, .int .i64 lo, .int .i64 hi, .int .i64 wt]] w fun e w' => e = .returned (.bool (!decide (R s = R d))) ∧ RowN w' g m (mrg R s d) ∧ Kept [g] w w' := by
  have hglt := rowN_lt hr
  have ba := belA w (.cells #[.int .i64 kd, .int .i64 s, .int .i64 d, .int .i64 lo, .int .i64 hi, .int .i64 wt] 30)
  have hk := Kept.of_below [g] ba
  have hnew := heap_alloc_new w (.cells #[.int .i64 kd, .int .i64 s, .int .i64 d, .int .i64 lo, .int .i64 hi, .int .i64 wt] 30)
  have hr0 : RowN (w.alloc (.cells #[.int .i64 kd, .int .i64 s, .int .i64 d, .int .i64 lo, .int .i64 hi, .int .i64 wt] 30)) g m R := (ba.block g hglt).trans hr
  go_enter Try.func53, Try.ntmps53
  go_wp2_with fail
  generalize w.alloc (.cells #[.int .i64 kd, .int .i64 s, .int .i64 d, .int .i64 lo, .int .i64 hi, .int .i64 wt] 30) = w1 at *
  have c1 : w1.cell? ⟨w.heap.size, 1, none⟩ = some (.int .i64 s) := by rw [cell_of_row w1 _ 1 _ _ _ hnew]; rfl
  have c2 : w1.cell? ⟨w.heap.size, 2, none⟩ = some (.int .i64 d) := by rw [cell_of_row w1 _ 2 _ _ _ hnew]; rfl
  obtain ⟨rs, _⟩ := rowN_get hr0 hs
  obtain ⟨rd, _⟩ := rowN_get hr0 hd
  have s0 : (0 : Int) ≤ (s : Int) := by omega
  have s1 : (s : Int) < (m : Int) := by omega
  have d0 : (0 : Int) ≤ (d : Int) := by omega
  have d1 : (d : Int) < (m : Int) := by omega
  generalize w.heap.size = gb at *
  obtain ⟨x, hx⟩ : ∃ x, R s = x := ⟨_, rfl⟩
  obtain ⟨y, hy⟩ : ∃ y, R d = y := ⟨_, rfl⟩
  rw [hx] at rs
  rw [hy] at rd
  have HX := Lib.hid hx
  have HY := Lib.hid hy
  have HR := Lib.hid hr0
  have HK := Lib.hid hk
  clear hx hy hr hr0 hk ba hnew
  go_quiet (fail)
  have HR1 := Lib.hid (show RowN (w1.drewN nq) g m R from HR.out)
  have HK1 := Lib.hid (HK.out.drewN nq)
  clear c1 c2 rs rd HR HK
  generalize w1.drewN nq = w2 at *
  by_cases e : x = y
  · have HE := Lib.hid e
    subst e
    go_wp2_with fail
    go_ret
    have he : R s = R d := HX.out.trans HY.out.symm
    exact ⟨ret_bool (by rw [decide_eq_true he]; rfl), by rw [mrg_same he]; exact HR1.out, HK1.out⟩
  · go_wp2_with fail
    go_loopg [7, 23] m (fun q s7 s23 wr => ∃ k : Nat, k ≤ m ∧ q = m - k ∧ s23 = .int .i64 k ∧ RowN wr g m (fun u => if u < k then mrg R s d u else R u) ∧ Kept [g] w wr)
    case atStart => exact ⟨0, by omega, by omega, rfl, rowN_congr HR1.out (fun u _ => if_neg (Nat.not_lt_zero u)), HK1.out⟩
    case round =>
      obtain ⟨k, hk, hg, rfl, hrow, hkp⟩ := hrel
      have HROW := Lib.hid hrow
      have HKP := Lib.hid hkp
      clear hrow hkp
      by_cases hlt : k < m
      · obtain ⟨r0, f0⟩ := rowN_get HROW.out hlt
        rw [if_neg (Nat.lt_irrefl k)] at r0
        have k0 : (0 : Int) ≤ (k : Int) := by omega
        have k1 : (k : Int) < (m : Int) := by omega
        by_cases q : R k = y
        · have HSET := Lib.hid (rowN_set HROW.out (Q := fun u => if u < k + 1 then mrg R s d u else R u) (d := k) (z := x) (by
            simp only [if_pos (Nat.lt_succ_self k), mrg]
            rw [if_pos (q.trans HY.out.symm), HX.out]) (fun u _ hu => by
            by_cases e1 : u < k
            · rw [if_pos e1, if_pos (by omega)]
            · rw [if_neg e1, if_neg (by omega)]))
          have HKS := Lib.hid (HKP.out.setCell g k (.int .i64 x) (.inl List.mem_cons_self))
          rw [q] at r0
          clear q
          go_wp2_with fail
          go_roundg (m - (k + 1))
          case measure => omega
          case rel => exact ⟨k + 1, by omega, rfl, by go_num, HSET.out, HKS.out⟩
        · have HSET := Lib.hid (show RowN wr g m (fun u => if u < k + 1 then mrg R s d u else R u) by
            refine rowN_congr HROW.out (fun u _ => ?_)
            by_cases e1 : u = k
            · subst e1
              rw [if_pos (Nat.lt_succ_self u), if_neg (Nat.lt_irrefl u), mrg, if_neg (by rw [HY.out]; exact q)]
            · by_cases e2 : u < k
              · rw [if_pos e2, if_pos (by omega)]
              · rw [if_neg e2, if_neg (by omega)])
          generalize R k = z at *
          go_wp2_with fail
          go_roundg (m - (k + 1))
          case measure => omega
          case rel => exact ⟨k + 1, by omega, rfl, by go_num, HSET.out, HKP.out⟩
      · have HD := Lib.hid (show RowN wr g m (mrg R s d) from rowN_congr HROW.out (fun u hu => by rw [if_pos (by omega)]))
        go_wp2_with fail
        go_ret
        exact ⟨ret_bool (by rw [decide_eq_false (by rw [HX.out, HY.out]; exact e)]; rfl), HD.out, HKP.out⟩
theorem mk_nums (m : Nat) (h : m ≤ 4294967296) : ∀ W : World, (Instr.makeSlice 26 (.int .i64 (m : Int)) (.int .i64 (m : Int))).run Try.prog W = .ok (.slice (some ⟨W.heap.size, 0, none⟩) m m) (W.alloc (.cells (numA m fun _ => 0) 3)) := fun W => by
  obtain ⟨i1, hi1, hy0, hy1, hy2⟩ := info_parts infoIntT
  have mk0 := run_make_rowN (P := Try.prog) 26 3 i1 _ Try.underlying26 hi1 hy0 .i64 .i64 m m (Nat.le_refl _) (by rw [hy2]; omega) (by omega) W
  rw [hy1] at mk0
  refine mk0.trans ?_
  rw [show numA m (fun _ => 0) = madeCells #[.int .i64 0] (m * 1) by
    rw [Nat.mul_one]
    refine Array.ext_getElem? fun i => ?_
    rw [← Array.getElem?_toList (xs := madeCells _ _), madeCells_toList]
    unfold numA
    rw [List.getElem?_toArray, List.getElem?_map, List.getElem?_replicate]
    by_cases hi : i < m
    · rw [if_pos hi, List.getElem?_range hi]; rfl
    · rw [if_neg hi, List.getElem?_eq_none (by simp; omega)]; rfl]
  rfl
theorem mk_bits (m : Nat) (h : m ≤ 4294967296) : ∀ W : World, (Instr.makeSlice 70 (.int .i64 (m : Int)) (.int .i64 (m : Int))).run Try.prog W = .ok (.slice (some ⟨W.heap.size, 0, none⟩) m m) (W.alloc (.cells (bitsA m fun _ => false) 4)) := fun W => by
  obtain ⟨i1, hi1, hy0, hy1, hy2⟩ := info_parts infoBl
  have mk0 := run_make_rowN (P := Try.prog) 70 4 i1 _ Try.underlying70 hi1 hy0 .i64 .i64 m m (Nat.le_refl _) (by rw [hy2]; omega) (by omega) W
  rw [hy1] at mk0
  refine mk0.trans ?_
  rw [← made_bits]; rfl
/-- The indices of a list. -/
def rngI (n : Nat) : List Int := (List.range n).map fun i : Nat => (i : Int)
theorem rngI_len (n : Nat) : (rngI n).length = n := by simp [rngI]
theorem rng_at {w : World} {B : Nat} {A : Option Addr} {n : Nat} (h : Lst encI 1 w B A (rngI n)) {i : Nat} (hi : i < n) : ∃ b off, A = some ⟨b, off, none⟩ ∧ b < B ∧ w.cell? ⟨b, off + i, none⟩ = some (.int .i64 i) := by
  obtain ⟨b, off, e, hb, hc⟩ := h (by intro h0; have := rngI_len n; rw [h0] at this; simp at this; omega)
  have := hc i (i : Int) (by simp [rngI, hi]) 0 _ rfl
  rw [Nat.mul_one, Nat.add_zero] at this
  exact ⟨b, off, e, hb, this⟩
theorem rng_all {w : World} {B : Nat} {A : Option Addr} {n : Nat} (h : Lst encI 1 w B A (rngI n)) (hn : 0 < n) : ∃ b off, A = some ⟨b, off, none⟩ ∧ b < B ∧ ∀ i, i < n → w.cell? ⟨b, off + i, none⟩ = some (.int .i64 i) := by
  obtain ⟨b, off, rfl, hb, _⟩ := rng_at h hn
  refine ⟨b, off, rfl, hb, fun i hi => ?_⟩
  obtain ⟨b', off', e, _, hc⟩ := rng_at h hi
  injection e with e
  injection e with e1 e2
  subst e1 e2
  exact hc
theorem act_at {w : World} {B : Nat} {A : Option Addr} {l : List Acy} (h : Lst encA 6 w B A l) {m : Nat} {T : Int} (hok : ∀ x ∈ l, okA m T x) {i : Nat} (hi : i < l.length) :
    ∃ b off kd lo hi' wt, A = some ⟨b, off, none⟩ ∧ b < B ∧ w.cell? ⟨b, off + i * 6, none⟩ = some (.int .i64 kd) ∧ w.cell? ⟨b, off + i * 6 + 1, none⟩ = some (.int .i64 (sN l i)) ∧ w.cell? ⟨b, off + i * 6 + 2, none⟩ = some (.int .i64 (dN l i)) ∧
      w.cell? ⟨b, off + i * 6 + 3, none⟩ = some (.int .i64 lo) ∧ w.cell? ⟨b, off + i * 6 + 4, none⟩ = some (.int .i64 hi') ∧ w.cell? ⟨b, off + i * 6 + 5, none⟩ = some (.int .i64 wt) ∧ sN l i < m ∧ dN l i < m ∧ sN l i ≠ dN l i ∧ lo = l[i].lo ∧ hi' = l[i].hi ∧ -65536 ≤ lo ∧ lo ≤ hi' ∧ hi' ≤ 65536 ∧ hi' - lo < T := by
  obtain ⟨b, off, e, hb, a0, a1, a2, a3, a4, a5⟩ := h.ac i hi
  obtain ⟨k1, k2, k3, k4, k5⟩ := sd_ok hok hi
  rw [k4] at a1
  rw [k5] at a2
  have hx := hok l[i] (List.getElem_mem hi)
  exact ⟨b, off, _, _, _, _, e, hb, a0, a1, a2, a3, a4, a5, k1, k2, k3, rfl, rfl, hx.2.2.2.2.2.1, hx.2.2.2.2.2.2.1, hx.2.2.2.2.2.2.2.1, hx.2.2.2.2.2.2.2.2.1⟩
theorem encI_one13 (x : Int) : ∀ u ∈ encI x, u.oneCell' = true := by
  intro u hu
  simp only [encI, List.mem_cons, List.not_mem_nil, or_false] at hu
  subst hu; rfl
theorem elem13 : ElemOk Try.prog encI 1 3 8 :=
  ⟨fun _ => rfl, by omega, encI_one13, by
    obtain ⟨i, hi, h0, h1, h2⟩ := info_parts infoIntT
    exact ⟨i, _, hi, h0, h1, h2, rfl⟩⟩
theorem Lst.num13 {w : World} {B : Nat} {A : Option Addr} {l : List Int} (h : Lst encI 1 w B A l) (i : Nat) (hi : i < l.length) : ∃ b off, A = some ⟨b, off, none⟩ ∧ b < B ∧ w.cell? ⟨b, off + i, none⟩ = some (.int .i64 l[i]) := by
  obtain ⟨b, off, rfl, hb, hc⟩ := h (by intro h0; subst h0; simp at hi)
  refine ⟨b, off, rfl, hb, ?_⟩
  have := hc i l[i] (List.getElem?_eq_getElem hi) 0 _ rfl
  rwa [Nat.mul_one, Nat.add_zero] at this
end Go.Proofs.Ytbhjnihcmfagjaa

namespace Go.Proofs.Ytbhjnihcmfagjaa
open Go.RowKit RP

/-- Quiet operations of which each yields its value or is not wanted. -/
inductive StRun13 (P : Program) (ops : Array Oper) (w : World) (G : List Oper → Act → Prop) : List Oper → Act → Prop
  | done {l a} (h : G l a) : StRun13 P ops w G l a
  | val {o rest a} (v : Value) (hw : Region.wanted o (yielded ops a.tmps) = true) (hv : (execOp a.eval o).run P w = .ok (.value v) w) (h : StRun13 P ops w G rest (a.put o.dst v)) : StRun13 P ops w G (o :: rest) a
  | skip {o rest a} (hw : Region.wanted o (yielded ops a.tmps) = false) (h : StRun13 P ops w G rest (a.put o.dst undef)) : StRun13 P ops w G (o :: rest) a
theorem StRun13.wp {P : Program} {ops : Array Oper} {w : World} {Q : Act → Prop} {l : List Oper} {a : Act} (h : StRun13 P ops w (fun l a => wpStill P ops w Q l a) l a) : wpStill P ops w Q l a := by
  induction h with
  | done h => exact h
  | @val o rest a v hw hv _ ih =>
    show if Region.wanted o (yielded ops a.tmps) then o.still P a w (wpStill P ops w Q rest) else wpStill P ops w Q rest (a.put o.dst undef)
    rw [if_pos hw, Oper.still, hv]
    exact ⟨rfl, ih⟩
  | @skip o rest a hw _ ih =>
    show if Region.wanted o (yielded ops a.tmps) then o.still P a w (wpStill P ops w Q rest) else wpStill P ops w Q rest (a.put o.dst undef)
    rw [if_neg (by rw [hw]; exact Bool.false_ne_true)]
    exact ih

set_option maxRecDepth 100000 in
set_option maxHeartbeats 8000000 in
theorem forest13_any (T : Nat) (E : Option Addr) (m cE : Nat) (A : Option Addr) (cA : Nat) (l : List Acy) (B : Option Addr) (cB : Nat) (w : World) (hl : Lst encA 6 w w.heap.size A l) (hyes : netB T m l = true) (hac : Acyc l) (ht : Lst encI 1 w w.heap.size B (rngI l.length)) :
    Calls Try.prog 54 #[netV T E m cE A l.length cA, .slice B l.length cB] w fun e w' => e = .returned (.bool true) ∧ Below w.heap.size w w' := by
  obtain ⟨⟨t1, t2, t3, t4⟩, hok⟩ := netB_iff.1 hyes
  have ba := belA w (.cells #[.int .i64 T, .slice E m cE, .slice A l.length cA] 25)
  have hnew := heap_alloc_new w (.cells #[.int .i64 T, .slice E m cE, .slice A l.length cA] 25)
  have mkN := mk_nums m (by omega)
  go_enter Try.func54, Try.ntmps54
  go_wp2_with fail
  refine (refNet_any T E m cE A cA l _ (hl.belowMore ba (by simp)) (by omega)).mono ?_
  rintro e w1 ⟨rfl, hb⟩
  rw [hyes]
  rw [World.size_alloc] at hb
  have hbl := (hb.block w.heap.size (by omega)).trans hnew
  have HB := Lib.hid (ba.trans (hb.mono (by omega)))
  have n0 : w1.cell? ⟨w.heap.size, 0, none⟩ = some (.int .i64 T) := by rw [cell_of_row w1 _ 0 _ _ _ hbl]; rfl
  have n1 : w1.cell? ⟨w.heap.size, 1, none⟩ = some (.slice E m cE) := by rw [cell_of_row w1 _ 1 _ _ _ hbl]; rfl
  have n2 : w1.cell? ⟨w.heap.size, 2, none⟩ = some (.slice A l.length cA) := by rw [cell_of_row w1 _ 2 _ _ _ hbl]; rfl
  have z1 : w.heap.size + 1 ≤ w1.heap.size := by have := hb.size; rw [World.size_alloc] at this; omega
  have HL := Lib.hid (hl.belowMore HB.out (show w.heap.size ≤ w1.heap.size by omega))
  clear ba hb hnew hl hyes hbl
  obtain ⟨nb, hnb⟩ : ∃ nb, nb = w.heap.size := ⟨_, rfl⟩
  rw [← hnb] at HB n0 n1 n2 z1 ⊢
  have HNB := Lib.hid hnb
  clear hnb
  have HT := Lib.hid (ht.belowMore (w' := w1) (by rw [← HNB.out]; exact HB.out) (show w.heap.size ≤ w1.heap.size by have := HNB.out; omega))
  clear ht
  go_wp2_with fail
  have hr0 : RowN (w1.alloc (.cells (numA m fun _ => 0) 3)) w1.heap.size m (fun _ => 0) := heap_alloc_new w1 _
  have hb0 := belA w1 (.cells (numA m fun _ => 0) 3)
  go_loopg [6, 18] m (fun q si sj wr => ∃ k : Nat, k ≤ m ∧ q = m - k ∧ sj = .int .i64 k ∧ RowN wr w1.heap.size m (fun u => if u < k then (u : Int) else 0) ∧ Below w1.heap.size w1 wr)
  case atStart => exact ⟨0, by omega, by omega, rfl, rowN_congr hr0 (fun u _ => if_neg (Nat.not_lt_zero u)), hb0⟩
  case round =>
    obtain ⟨k, hk, hg, rfl, hrow, hbw⟩ := hrel
    have HROW := Lib.hid hrow
    have HBW := Lib.hid hbw
    clear hrow hbw hr0 hb0
    by_cases hlt : k < m
    · obtain ⟨_, f0⟩ := rowN_get HROW.out hlt
      obtain ⟨r0, _⟩ := rowN_get HROW.out hlt
      have k0 : (0 : Int) ≤ (k : Int) := by omega
      have k1 : (k : Int) < (m : Int) := by omega
      have HSET := Lib.hid (rowN_set HROW.out (Q := fun u => if u < k + 1 then (u : Int) else 0) (d := k) (z := (k : Int)) (if_pos (Nat.lt_succ_self k)) (fun u _ hu => by
        by_cases e1 : u < k
        · rw [if_pos e1, if_pos (by omega)]
        · rw [if_neg e1, if_neg (by omega)]))
      have HBS := Lib.hid (HBW.out.setCell (p := ⟨w1.heap.size, k, none⟩) (Nat.le_refl _) (.int .i64 k))
      clear r0
      go_wp2_with fail
      go_roundg (m - (k + 1))
      case measure => omega
      case rel => exact ⟨k + 1, by omega, rfl, by go_num, HSET.out, HBS.out⟩
    · have HR1 := Lib.hid (show RowN wr w1.heap.size m (fun u => (u : Int)) from rowN_congr HROW.out (fun u hu => by rw [if_pos (by omega)]))
      clear HROW
      have hlr : (rngI l.length).length = l.length := rngI_len _
      have hzw := HBW.out.size
      go_wp2_with fail
      go_loopg [7] l.length (fun q s7 wr => ∃ (k : Nat) (R : Nat → Int), k ≤ l.length ∧ q = l.length - k ∧ s7 = .int .i64 k ∧ RowN wr w1.heap.size m R ∧ Cls l k R ∧ Below w1.heap.size w1 wr)
      case atStart => exact ⟨0, _, by omega, by omega, rfl, HR1.out, Cls.start l, HBW.out⟩
      case round =>
        obtain ⟨k, R, hk, hg, rfl, hrow, hcls, hbw⟩ := hrel
        have HCL := Lib.hid hcls
        clear HR1 HBW hzw hcls
        by_cases hlt : k < l.length
        · have hrv : RowN ({ wr with drawn := wr.drawn + 1 } : World) w1.heap.size m R := hrow
          have hbv : Below w1.heap.size w1 { wr with drawn := wr.drawn + 1 } := below_drewN hbw 1
          have hne := hac.ne HCL.out hlt
          have HCS := Lib.hid HCL.out.step
          obtain ⟨tb, tof, rfl, htb, htc⟩ := rng_all HT.out (by omega)
          obtain ⟨ab, aof, kd, lo, hi', wt, rfl, hab, a0, a1, a2, a3, a4, a5, k1, k2, k3, hrest⟩ := act_at HL.out hok hlt
          clear hrest
          have p2 := (hbw.cell (p := ⟨nb, 2, none⟩) (show nb < w1.heap.size by omega)).trans n2
          have q0 := (hbw.cell (p := ⟨tb, tof + k, none⟩) htb).trans (htc k hlt)
          replace a0 := (hbw.cell (p := ⟨ab, aof + k * 6, none⟩) hab).trans a0
          replace a1 := (hbw.cell (p := ⟨ab, aof + k * 6 + 1, none⟩) hab).trans a1
          replace a2 := (hbw.cell (p := ⟨ab, aof + k * 6 + 2, none⟩) hab).trans a2
          replace a3 := (hbw.cell (p := ⟨ab, aof + k * 6 + 3, none⟩) hab).trans a3
          replace a4 := (hbw.cell (p := ⟨ab, aof + k * 6 + 4, none⟩) hab).trans a4
          replace a5 := (hbw.cell (p := ⟨ab, aof + k * 6 + 5, none⟩) hab).trans a5
          have i0 : (0 : Int) ≤ (k : Int) := by omega
          have i1 : (k : Int) < (l.length : Int) := by omega
          have sw0 : IntKind.i64.wrap ((l.length : Int) - 1) = (l.length : Int) - 1 := IntWalk.i64_in _ (by omega)
          have hin : ∀ V, Calls Try.prog 42 #[.int .i64 k, .int .i64 0, .int .i64 ((l.length : Int) - 1)] V fun e w' => e = .returned (.bool true) ∧ w' = V := fun V => (in11_any k 0 ((l.length : Int) - 1) V).mono fun _ _ ⟨a, b⟩ => ⟨by rw [a, decide_eq_true (by omega)], b.symm⟩
          have hmg := fun V (hV : RowN V w1.heap.size m R) => merge13_any w1.heap.size m R kd lo hi' wt (sN l k) (dN l k) V hV k1 k2 t3
          rw [decide_eq_false hne] at hmg
          generalize sN l k = si at *
          generalize dN l k = di at *
          have hzw := hbw.size
          have HKC := Lib.hid (fun (W : World) (hk : Kept [w1.heap.size] wr W) => (⟨(hk.cell (by omega) (by simp; omega)).trans p2, (hk.cell (by omega) (by simp; omega)).trans q0, (hk.cell (by omega) (by simp; omega)).trans a0, (hk.cell (by omega) (by simp; omega)).trans a1, (hk.cell (by omega) (by simp; omega)).trans a2, (hk.cell (by omega) (by simp; omega)).trans a3, (hk.cell (by omega) (by simp; omega)).trans a4, (hk.cell (by omega) (by simp; omega)).trans a5⟩ : (fun w' : World => w'.cell? ⟨nb, 2, none⟩ = some (.slice (some ⟨ab, aof, none⟩) l.length cA) ∧ w'.cell? ⟨tb, tof + k, none⟩ = some (.int .i64 k) ∧ w'.cell? ⟨ab, aof + k * 6, none⟩ = some (.int .i64 kd) ∧ w'.cell? ⟨ab, aof + k * 6 + 1, none⟩ = some (.int .i64 si) ∧ w'.cell? ⟨ab, aof + k * 6 + 2, none⟩ = some (.int .i64 di) ∧ w'.cell? ⟨ab, aof + k * 6 + 3, none⟩ = some (.int .i64 lo) ∧ w'.cell? ⟨ab, aof + k * 6 + 4, none⟩ = some (.int .i64 hi') ∧ w'.cell? ⟨ab, aof + k * 6 + 5, none⟩ = some (.int .i64 wt)) W))
          have HROW := Lib.hid hrow
          have HBW2 := Lib.hid hbw
          have HIN := Lib.hid hin
          have HMG := Lib.hid hmg
          by_cases hk0 : k = 0
          · have K1 : decide ((0 : Int) < (k : Int)) = false := decide_eq_false (by omega)
            have K2 : decide (0 < k) = false := decide_eq_false (by omega)
            clear hrow hbw hne hk0 hin hmg hrv hbv
            go_upto_region 12 with fail
            refine wp_region_still_tail 36 (by kernel_rfl) (by kernel_rfl) ?_
            simp only [List.take_succ_cons, List.take_zero, List.drop_succ_cons, List.drop_zero]
            obtain ⟨V, hV⟩ : ∃ V : World, V = { wr with drawn := wr.drawn + 1 } := ⟨_, rfl⟩
            have hVC : ∀ a, V.cell? a = wr.cell? a := fun a => by rw [hV]; rfl
            replace p2 := (hVC _).trans p2
            replace q0 := (hVC _).trans q0
            replace a0 := (hVC _).trans a0
            replace a1 := (hVC _).trans a1
            replace a2 := (hVC _).trans a2
            replace a3 := (hVC _).trans a3
            replace a4 := (hVC _).trans a4
            replace a5 := (hVC _).trans a5
            have HROV := Lib.hid (show RowN V w1.heap.size m R from by rw [hV]; exact HROW.out)
            have HVK := Lib.hid (fun (W : World) (hk : Kept [w1.heap.size] V W) => (show Kept [w1.heap.size] wr W from by rw [hV] at hk; exact ⟨hk.os, hk.tape, hk.output, hk.size, hk.block⟩))
            rw [← hV]
            clear hV hVC
            iterate 8 still_step
            still_call (HIN.out _)
            iterate 4 still_step
            refine StRun13.wp ?_
            refine StRun13.val (.bool false) (by kernel_rfl) (by kernel_rfl) ?_
            simp only [Act.put, List.setIfInBounds_toArray, List.set_cons_zero, List.set_cons_succ]
            iterate 10 (refine StRun13.skip (by kernel_rfl) ?_; simp only [Act.put, List.setIfInBounds_toArray, List.set_cons_zero, List.set_cons_succ])
            refine StRun13.val (.bool false) (by kernel_rfl) (by kernel_rfl) ?_
            simp only [Act.put, List.setIfInBounds_toArray, List.set_cons_zero, List.set_cons_succ]
            refine StRun13.val (.bool false) (by kernel_rfl) (by kernel_rfl) ?_
            simp only [Act.put, List.setIfInBounds_toArray, List.set_cons_zero, List.set_cons_succ]
            refine StRun13.val (.bool false) (by kernel_rfl) (by kernel_rfl) ?_
            simp only [Act.put, List.setIfInBounds_toArray, List.set_cons_zero, List.set_cons_succ]
            refine StRun13.done ?_
            show wpStill _ _ _ _ _ _
            iterate 9 still_step
            refine wpStill_nil ?_
            go_wp2_with fail
            refine (HMG.out _ HROV.out).mono ?_
            rintro e w2 ⟨rfl, hrow2, hkp2⟩
            replace hkp2 := HVK.out _ hkp2
            all_goals
              have HR2 := Lib.hid hrow2
              have HB2 := Lib.hid (HBW2.out.trans ((show Kept [w1.heap.size] wr w2 from ⟨hkp2.os, hkp2.tape, hkp2.output, hkp2.size, hkp2.block⟩).below (n₀ := w1.heap.size) (by simp) (by omega)))
              clear hrow2 hkp2
              go_wp2_with fail
              go_roundg (l.length - (k + 1))
              case measure => omega
              case rel => exact ⟨k + 1, _, by omega, rfl, by go_num, HR2.out, HCS.out, HB2.out⟩
          · obtain ⟨km, hkm⟩ : ∃ km, km + 1 = k := ⟨k - 1, by omega⟩
            have q1 := (hbw.cell (p := ⟨tb, tof + km, none⟩) htb).trans (htc km (by omega))
            have sk : IntKind.i64.wrap ((k : Int) - 1) = (km : Int) := by rw [IntWalk.i64_in _ (by omega)]; omega
            have m0 : (0 : Int) ≤ (km : Int) := by omega
            have m1 : (km : Int) < (l.length : Int) := by omega
            have K1 : decide ((0 : Int) < (k : Int)) = true := decide_eq_true (by omega)
            have K2 : decide (0 < k) = true := decide_eq_true (by omega)
            have K3 : decide ((k : Int) ≤ (km : Int)) = false := decide_eq_false (by omega)
            have K4 : decide (k ≤ km) = false := decide_eq_false (by omega)
            have HKM := Lib.hid hkm
            have HKD := Lib.hid (fun (W : World) (hk : Kept [w1.heap.size] wr W) => (hk.cell (b := tb) (o := tof + km) (by omega) (by simp; omega)).trans q1)
            clear hrow hbw hne hk0 hin hmg hrv hbv hkm
            go_upto_region 12 with fail
            go_region_held3 (fun w' => w'.cell? ⟨tb, tof + km, none⟩ = some (.int .i64 km) ∧ w'.cell? ⟨nb, 2, none⟩ = some (.slice (some ⟨ab, aof, none⟩) l.length cA) ∧ w'.cell? ⟨tb, tof + k, none⟩ = some (.int .i64 k) ∧ w'.cell? ⟨ab, aof + k * 6, none⟩ = some (.int .i64 kd) ∧ w'.cell? ⟨ab, aof + k * 6 + 1, none⟩ = some (.int .i64 si) ∧ w'.cell? ⟨ab, aof + k * 6 + 2, none⟩ = some (.int .i64 di) ∧ w'.cell? ⟨ab, aof + k * 6 + 3, none⟩ = some (.int .i64 lo) ∧ w'.cell? ⟨ab, aof + k * 6 + 4, none⟩ = some (.int .i64 hi') ∧ w'.cell? ⟨ab, aof + k * 6 + 5, none⟩ = some (.int .i64 wt)) (first | go_keep | exact ⟨HKD.out _ ⟨hkp2.os, hkp2.tape, hkp2.output, hkp2.size, hkp2.block⟩, HKC.out _ ⟨hkp2.os, hkp2.tape, hkp2.output, hkp2.size, hkp2.block⟩⟩)
              ((first
                | (go_at_call 42; refine (HIN.out _).mono ?_; rintro e w' ⟨rfl, rfl⟩)
                | (go_at_call 53; refine (HMG.out wr.drew (show RowN wr.drew w1.heap.size m R from HROW.out)).mono ?_; rintro e w2 ⟨rfl, hrow2, hkp2⟩)))
            all_goals
              have HR2 := Lib.hid hrow2
              have HB2 := Lib.hid (HBW2.out.trans ((show Kept [w1.heap.size] wr w2 from ⟨hkp2.os, hkp2.tape, hkp2.output, hkp2.size, hkp2.block⟩).below (n₀ := w1.heap.size) (by simp) (by omega)))
              clear hrow2 hkp2
              go_wp2_with fail
              go_roundg (l.length - (k + 1))
              case measure => omega
              case rel => exact ⟨k + 1, _, by omega, rfl, by go_num, HR2.out, HCS.out, HB2.out⟩
        · obtain rfl : k = l.length := by omega
          have HROW := Lib.hid hrow
          have HBW2 := Lib.hid hbw
          have hcl := HCL.out
          clear hrow hbw
          have HZ2 := HBW2.out.size
          obtain ⟨wc, rfl⟩ : ∃ wc : World, wc = wr := ⟨_, rfl⟩
          have HONE := Lib.hid hcl.one
          clear hcl HCL
          have p2 := (HBW2.out.cell (p := ⟨nb, 2, none⟩) (show nb < w1.heap.size by omega)).trans n2
          have i0 : (0 : Int) ≤ (l.length : Int) := by omega
          go_wp2_with fail
          clear p2
          go_loopg [8] l.length (fun q s8 wx => ∃ k : Nat, k ≤ l.length ∧ q = l.length - k ∧ s8 = .int .i64 k ∧ RowN wx w1.heap.size m R ∧ Below w1.heap.size w1 wx)
          case atStart => exact ⟨0, by omega, by omega, rfl, HROW.out, HBW2.out⟩
          case round =>
            obtain ⟨k, hk3, hg3, rfl, hrow, hbw⟩ := hrel
            have p2 := (hbw.cell (p := ⟨nb, 2, none⟩) (show nb < w1.heap.size by omega)).trans n2
            have j0 : (0 : Int) ≤ (k : Int) := by omega
            by_cases hlt : k < l.length
            · have j1 : (k : Int) < (l.length : Int) := by omega
              have he := HONE.out k hlt
              obtain ⟨ab, aof, kd, lo, hi', wt, rfl, hab, a0, a1, a2, a3, a4, a5, k1, k2, k3, hrest⟩ := act_at HL.out hok hlt
              clear hrest
              replace a1 := (hbw.cell (p := ⟨ab, aof + k * 6 + 1, none⟩) hab).trans a1
              replace a2 := (hbw.cell (p := ⟨ab, aof + k * 6 + 2, none⟩) hab).trans a2
              obtain ⟨r1, _⟩ := rowN_get hrow k1
              obtain ⟨r2, _⟩ := rowN_get hrow k2
              rw [he] at r1
              generalize sN l k = si at *
              generalize dN l k = di at *
              have y0 : (0 : Int) ≤ (si : Int) := by omega
              have y1 : (si : Int) < (m : Int) := by omega
              have y2 : (0 : Int) ≤ (di : Int) := by omega
              have y3 : (di : Int) < (m : Int) := by omega
              have HR2 := Lib.hid hrow
              have HB2 := Lib.hid hbw
              clear a0 a3 a4 a5 he hrow hbw
              generalize R di = x at r1 r2
              have hq : (x != x) = false := by simp
              go_upto_region 17 with fail
              go_quiet (fail)
              have HR3 := Lib.hid (show RowN (wr.drewN nq) w1.heap.size m R from HR2.out)
              have HB3 := Lib.hid (below_drewN HB2.out nq)
              clear a1 a2 r1 r2 p2 HR2 HB2
              generalize wr.drewN nq = wq at *
              go_wp2_with fail
              go_roundg (l.length - (k + 1))
              case measure => omega
              case rel => exact ⟨k + 1, by omega, rfl, by go_num, HR3.out, HB3.out⟩
            · have hk' : ¬ (k : Int) < (l.length : Int) := by omega
              have HB2 := Lib.hid hbw
              clear hrow hbw
              go_wp2_with fail
              go_ret
              refine ⟨rfl, ?_⟩
              have h1 := HB.out
              have h4 := HNB.out
              rw [← h4]
              exact h1.trans (HB2.out.mono (by omega))
end Go.Proofs.Ytbhjnihcmfagjaa

namespace Go.Proofs.Ytbhjnihcmfagjaa
open Go.RowKit RP


set_option maxRecDepth 100000 in
set_option maxHeartbeats 8000000 in
theorem comps13_any (T : Nat) (E : Option Addr) (m cE : Nat) (A : Option Addr) (cA : Nat) (l : List Acy) (w : World) (hl : Lst encA 6 w w.heap.size A l) (hyes : netB T m l = true) :
    Calls Try.prog 56 #[netV T E m cE A l.length cA] w fun e w' => ∃ (g : Nat) (C : Nat → Int), e = .returned (.slice (some ⟨g, 0, none⟩) m m) ∧ w.heap.size ≤ g ∧ RowN w' g m C ∧ Comp13 l m C ∧ Below w.heap.size w w' := by
  obtain ⟨⟨t1, t2, t3, t4⟩, hok⟩ := netB_iff.1 hyes
  have ba := belA w (.cells #[.int .i64 T, .slice E m cE, .slice A l.length cA] 25)
  have hnew := heap_alloc_new w (.cells #[.int .i64 T, .slice E m cE, .slice A l.length cA] 25)
  have mkN := mk_nums m (by omega)
  go_enter Try.func56, Try.ntmps56
  go_wp2_with fail
  refine (refNet_any T E m cE A cA l _ (hl.belowMore ba (by simp)) (by omega)).mono ?_
  rintro e w1 ⟨rfl, hb⟩
  rw [hyes]
  rw [World.size_alloc] at hb
  have hbl := (hb.block w.heap.size (by omega)).trans hnew
  have HB := Lib.hid (ba.trans (hb.mono (by omega)))
  have n0 : w1.cell? ⟨w.heap.size, 0, none⟩ = some (.int .i64 T) := by rw [cell_of_row w1 _ 0 _ _ _ hbl]; rfl
  have n1 : w1.cell? ⟨w.heap.size, 1, none⟩ = some (.slice E m cE) := by rw [cell_of_row w1 _ 1 _ _ _ hbl]; rfl
  have n2 : w1.cell? ⟨w.heap.size, 2, none⟩ = some (.slice A l.length cA) := by rw [cell_of_row w1 _ 2 _ _ _ hbl]; rfl
  have z1 : w.heap.size + 1 ≤ w1.heap.size := by have := hb.size; rw [World.size_alloc] at this; omega
  have HL := Lib.hid (hl.belowMore HB.out (show w.heap.size ≤ w1.heap.size by omega))
  clear ba hb hnew hl hyes hbl
  obtain ⟨nb, hnb⟩ : ∃ nb, nb = w.heap.size := ⟨_, rfl⟩
  rw [← hnb] at HB n0 n1 n2 z1 ⊢
  have HNB := Lib.hid hnb
  clear hnb
  go_wp2_with fail
  have hr0 : RowN (w1.alloc (.cells (numA m fun _ => 0) 3)) w1.heap.size m (fun _ => 0) := heap_alloc_new w1 _
  have hb0 := belA w1 (.cells (numA m fun _ => 0) 3)
  go_loopg [4, 19] m (fun q si sj wr => ∃ k : Nat, k ≤ m ∧ q = m - k ∧ sj = .int .i64 k ∧ RowN wr w1.heap.size m (fun u => if u < k then (u : Int) else 0) ∧ Below w1.heap.size w1 wr)
  case atStart => exact ⟨0, by omega, by omega, rfl, rowN_congr hr0 (fun u _ => if_neg (Nat.not_lt_zero u)), hb0⟩
  case round =>
    obtain ⟨k, hk, hg, rfl, hrow, hbw⟩ := hrel
    have HROW := Lib.hid hrow
    have HBW := Lib.hid hbw
    clear hrow hbw hr0 hb0
    by_cases hlt : k < m
    · obtain ⟨_, f0⟩ := rowN_get HROW.out hlt
      obtain ⟨r0, _⟩ := rowN_get HROW.out hlt
      have k0 : (0 : Int) ≤ (k : Int) := by omega
      have k1 : (k : Int) < (m : Int) := by omega
      have HSET := Lib.hid (rowN_set HROW.out (Q := fun u => if u < k + 1 then (u : Int) else 0) (d := k) (z := (k : Int)) (if_pos (Nat.lt_succ_self k)) (fun u _ hu => by
        by_cases e1 : u < k
        · rw [if_pos e1, if_pos (by omega)]
        · rw [if_neg e1, if_neg (by omega)]))
      have HBS := Lib.hid (HBW.out.setCell (p := ⟨w1.heap.size, k, none⟩) (Nat.le_refl _) (.int .i64 k))
      clear r0
      go_wp2_with fail
      go_roundg (m - (k + 1))
      case measure => omega
      case rel => exact ⟨k + 1, by omega, rfl, by go_num, HSET.out, HBS.out⟩
    · have HR1 := Lib.hid (show RowN wr w1.heap.size m (fun u => (u : Int)) from rowN_congr HROW.out (fun u hu => by rw [if_pos (by omega)]))
      clear HROW
      have hzw := HBW.out.size
      go_wp2_with fail
      go_loopg [5] l.length (fun q s5 wr => ∃ (k : Nat) (R : Nat → Int), k ≤ l.length ∧ q = l.length - k ∧ s5 = .int .i64 k ∧ RowN wr w1.heap.size m R ∧ Cls l k R ∧ Below w1.heap.size w1 wr)
      case atStart => exact ⟨0, _, by omega, by omega, rfl, HR1.out, Cls.start l, HBW.out⟩
      case round =>
        obtain ⟨k, R, hk, hg, rfl, hrow, hcls, hbw⟩ := hrel
        have HCL := Lib.hid hcls
        clear HR1 HBW hzw hcls
        have HBV := Lib.hid hbw
        have p2 := (hbw.cell (p := ⟨nb, 2, none⟩) (show nb < w1.heap.size by omega)).trans n2
        have hgl := rowN_lt hrow
        have HROW := Lib.hid hrow
        have i0 : (0 : Int) ≤ (k : Int) := by omega
        by_cases hlt : k < l.length
        · have HCS := Lib.hid HCL.out.step
          obtain ⟨ab, aof, kd, lo, hi', wt, rfl, hab, a0, a1, a2, a3, a4, a5, k1, k2, k3, hrest⟩ := act_at HL.out hok hlt
          clear hrest
          replace a0 := (hbw.cell (p := ⟨ab, aof + k * 6, none⟩) hab).trans a0
          replace a1 := (hbw.cell (p := ⟨ab, aof + k * 6 + 1, none⟩) hab).trans a1
          replace a2 := (hbw.cell (p := ⟨ab, aof + k * 6 + 2, none⟩) hab).trans a2
          replace a3 := (hbw.cell (p := ⟨ab, aof + k * 6 + 3, none⟩) hab).trans a3
          replace a4 := (hbw.cell (p := ⟨ab, aof + k * 6 + 4, none⟩) hab).trans a4
          replace a5 := (hbw.cell (p := ⟨ab, aof + k * 6 + 5, none⟩) hab).trans a5
          have i1 : (k : Int) < (l.length : Int) := by omega
          generalize sN l k = si at *
          generalize dN l k = di at *
          clear hrow hbw
          go_wp2_with fail
          refine (merge13_any w1.heap.size m R kd lo hi' wt si di _ HROW.out k1 k2 t3).mono ?_
          rintro e w2 ⟨rfl, hrow2, hkp2⟩
          have HRO2 := Lib.hid hrow2
          have HB2 := Lib.hid (HBV.out.trans (hkp2.below (n₀ := w1.heap.size) (by simp) (by omega)))
          clear hrow2 hkp2
          go_wp2_with fail
          go_roundg (l.length - (k + 1))
          case measure => omega
          case rel => exact ⟨k + 1, _, by omega, rfl, by go_num, HRO2.out, HCS.out, HB2.out⟩
        · clear hrow hbw
          obtain rfl : k = l.length := by omega
          obtain ⟨wc, rfl⟩ : ∃ wc : World, wc = wr := ⟨_, rfl⟩
          have HZ := Lib.hid (HBV.out.size)
          go_wp2_with fail
          have hc0 : RowN (wc.alloc (.cells (numA m fun _ => 0) 3)) wc.heap.size m (fun _ => 0) := heap_alloc_new wc _
          have hb0 := belA wc (.cells (numA m fun _ => 0) 3)
          obtain ⟨gc, hgc⟩ : ∃ gc, gc = wc.heap.size := ⟨_, rfl⟩
          rw [← hgc] at hc0 hb0 ⊢
          have hgl2 : w1.heap.size < gc := by omega
          have HGC := Lib.hid hgc
          clear hgc
          go_loopg [7, 8, 46] m (fun q s7 s8 s46 wx => ∃ (i nx : Nat) (C : Nat → Int), i ≤ m ∧ q = m - i ∧ s7 = .int .i64 nx ∧ s46 = .int .i64 i ∧ Num13 R C i nx ∧ RowN wx gc m C ∧ Below gc wc wx)
          case atStart => exact ⟨0, 0, _, by omega, by omega, rfl, rfl, Num13.start _ _, hc0, hb0⟩
          case round =>
            obtain ⟨i, nx, C, hi, hg2, rfl, rfl, hnum, hrc, hbx⟩ := hrel
            have HNUM := Lib.hid hnum
            have hnx := hnum.le
            have HRC := Lib.hid hrc
            have HBX := Lib.hid hbx
            clear hnum hrc hbx hc0 hb0 p2
            by_cases hlt2 : i < m
            · obtain ⟨r0, f0⟩ := rowN_get HRC.out hlt2
              have j0 : (0 : Int) ≤ (i : Int) := by omega
              have j1 : (i : Int) < (m : Int) := by omega
              have HS1 := Lib.hid (rowN_set HRC.out (Q := updI C i (-1)) (d := i) (z := -1) (updI_at _ _ _) (fun u _ hu => updI_ne hu))
              have HS2 := Lib.hid (HBX.out.setCell (p := ⟨gc, i, none⟩) (Nat.le_refl _) (.int .i64 (-1)))
              go_wp2_with fail
              go_loopg [9] i (fun q s9 wy => ∃ (k : Nat) (z : Int), k ≤ i ∧ q = i - k ∧ s9 = .int .i64 k ∧ Inn13 R C i k z ∧ RowN wy gc m (updI C i z) ∧ Below gc wc wy)
              case atStart => exact ⟨0, -1, by omega, by omega, rfl, Inn13.start _ _ _, HS1.out, HS2.out⟩
              case round =>
                obtain ⟨k, z, hk3, hg3, rfl, hinn, hrc, hbx⟩ := hrel
                clear HS1 HS2 f0 r0 HRC HBX
                have HINN := Lib.hid hinn
                have HRC := Lib.hid hrc
                have HBX := Lib.hid hbx
                have k0 : (0 : Int) ≤ (k : Int) := by omega
                by_cases hki : k < i
                · have k1 : (k : Int) < (m : Int) := by omega
                  have k2 : (k : Int) < (i : Int) := by omega
                  have hroot : RowN wr w1.heap.size m R := (hbx.block w1.heap.size hgl2).trans HROW.out
                  obtain ⟨a1, _⟩ := rowN_get hroot (show k < m by omega)
                  obtain ⟨a2, _⟩ := rowN_get hroot hlt2
                  clear hroot hbx hrc hinn
                  by_cases q : R k = R i
                  · have HIT := Lib.hid (Inn13.hit (C := C) q)
                    have hb : ((R k) == (R i)) = true := by simp [q]
                    generalize R k = x at *
                    generalize R i = y at *
                    clear q
                    go_upto_region 22 with fail
                    go_quiet (fail)
                    have HRC1 := Lib.hid (show RowN (wr.drewN nq) gc m (updI C i z) from HRC.out)
                    have HBX1 := Lib.hid (below_drewN HBX.out nq)
                    clear a1 a2 HRC HBX hb
                    generalize wr.drewN nq = wq at *
                    obtain ⟨x1, _⟩ := rowN_get HRC1.out (show k < m by omega)
                    obtain ⟨x2, f2⟩ := rowN_get HRC1.out hlt2
                    rw [updI_ne (show k ≠ i by omega)] at x1
                    have HS1 := Lib.hid (rowN_set HRC1.out (Q := updI C i (C k)) (d := i) (z := C k) (updI_at _ _ _) (fun u _ hu => by rw [updI_ne hu, updI_ne hu]))
                    have HS2 := Lib.hid (HBX1.out.setCell (p := ⟨gc, i, none⟩) (Nat.le_refl _) (.int .i64 (C k)))
                    generalize hck : C k = ck at *
                    have HCK := Lib.hid hck
                    clear hck
                    go_wp2_with fail
                    go_roundg (i - (k + 1))
                    case measure => omega
                    case rel => exact ⟨k + 1, ck, by omega, rfl, by go_num, HIT.out, HS1.out, HS2.out⟩
                  · have HIT := Lib.hid (HINN.out.miss q)
                    have hb : ((R k) == (R i)) = false := by simp [q]
                    generalize R k = x at *
                    generalize R i = y at *
                    clear q
                    go_upto_region 22 with fail
                    go_quiet (fail)
                    have HRC1 := Lib.hid (show RowN (wr.drewN nq) gc m (updI C i z) from HRC.out)
                    have HBX1 := Lib.hid (below_drewN HBX.out nq)
                    clear a1 a2 HRC HBX hb
                    generalize wr.drewN nq = wq at *
                    go_wp2_with fail
                    go_roundg (i - (k + 1))
                    case measure => omega
                    case rel => exact ⟨k + 1, z, by omega, rfl, by go_num, HIT.out, HRC1.out, HBX1.out⟩
                · clear hrc hbx hinn
                  have hki' : ¬ (k : Int) < (i : Int) := by omega
                  obtain ⟨x2, f2⟩ := rowN_get HRC.out hlt2
                  rw [updI_at] at x2
                  have HII := Lib.hid (by
                    have e : k = i := by omega
                    rw [e] at HINN
                    exact HINN.out : Inn13 R C i i z)
                  have w0 : IntKind.i64.wrap ((nx : Int) + 1) = (nx : Int) + 1 := IntWalk.i64_in _ (by omega)
                  by_cases hz : z < 0
                  · have HNW := Lib.hid (HNUM.out.new HII.out hz)
                    have HS1 := Lib.hid (rowN_set HRC.out (Q := updI C i nx) (d := i) (z := (nx : Int)) (updI_at _ _ _) (fun u _ hu => by rw [updI_ne hu, updI_ne hu]))
                    have HS2 := Lib.hid (HBX.out.setCell (p := ⟨gc, i, none⟩) (Nat.le_refl _) (.int .i64 (nx : Int)))
                    go_wp2_with fail
                    go_roundg (m - (i + 1))
                    case measure => omega
                    case rel => exact ⟨i + 1, nx + 1, _, by omega, rfl, by go_num, by go_num, HNW.out, HS1.out, HS2.out⟩
                  · have HNW := Lib.hid (HNUM.out.old HII.out hz)
                    go_wp2_with fail
                    go_roundg (m - (i + 1))
                    case measure => omega
                    case rel => exact ⟨i + 1, nx, _, by omega, rfl, by go_num, by go_num, HNW.out, HRC.out, HBX.out⟩
            · have hfin := comp_of HCL.out (by
                have e : i = m := by omega
                rw [e] at HNUM
                exact HNUM.out : Num13 R C m nx) (fun q hq => ⟨(sd_ok hok hq).1, (sd_ok hok hq).2.1⟩)
              have HF := Lib.hid hfin
              clear hfin
              have hlt3 : ¬ (i : Int) < (m : Int) := by omega
              go_wp2_with fail
              go_ret
              refine ⟨gc, rfl, by have := HNB.out; omega, C, HRC.out, HF.out, ?_⟩
              have h1 := HB.out
              have h2 := HBV.out
              have h3 := HBX.out
              have h4 := HNB.out
              rw [← h4]
              exact h1.trans ((h2.mono (by omega)).trans (h3.mono (by omega)))

set_option maxRecDepth 100000 in
set_option maxHeartbeats 4000000 in
theorem vals13_any (T : Nat) (E : Option Addr) (m cE : Nat) (A : Option Addr) (n cA : Nat) (V : Option Addr) (cV : Nat) (vs : List Int) (w : World) (hv : Lst encI 1 w w.heap.size V vs) (hvl : vs.length = n) (hn : n ≤ 512) (hvb : ∀ v ∈ vs, -131072 ≤ v ∧ v ≤ 131072) :
    Calls Try.prog 55 #[netV T E m cE A n cA, .slice V n cV] w fun e w' => e = .returned (.bool true) ∧ Below w.heap.size w w' := by
  have ba := belA w (.cells #[.int .i64 T, .slice E m cE, .slice A n cA] 25)
  have hnew := heap_alloc_new w (.cells #[.int .i64 T, .slice E m cE, .slice A n cA] 25)
  have HV := Lib.hid (hv.belowMore ba ba.size)
  have hq : ((n : Int) == (n : Int)) = true := by simp
  go_enter Try.func55, Try.ntmps55
  go_upto_region 1 with fail
  generalize w.alloc (.cells #[.int .i64 T, .slice E m cE, .slice A n cA] 25) = w1 at *
  have n2 : w1.cell? ⟨w.heap.size, 2, none⟩ = some (.slice A n cA) := by rw [cell_of_row w1 _ 2 _ _ _ hnew]; rfl
  clear hnew hv
  go_wp2_with fail
  go_loopg [5] n (fun q s5 wx => ∃ k : Nat, k ≤ n ∧ q = n - k ∧ s5 = .int .i64 k ∧ wx = w1)
  case atStart => exact ⟨0, by omega, by omega, rfl, rfl⟩
  case round =>
    obtain ⟨k, hk, hg, rfl, rfl⟩ := hrel
    have j0 : (0 : Int) ≤ (k : Int) := by omega
    by_cases hlt : k < n
    · have j1 : (k : Int) < (n : Int) := by omega
      obtain ⟨b, off, rfl, _, a0⟩ := HV.out.num13 k (by omega)
      have hb2 := hvb vs[k] (List.getElem_mem _)
      generalize vs[k] = z at *
      have hin : ∀ W, Calls Try.prog 42 #[.int .i64 z, .int .i64 (-131072), .int .i64 131072] W fun e w' => e = .returned (.bool true) ∧ w' = W := fun W => (in11_any z (-131072) 131072 W).mono fun _ _ ⟨a, b⟩ => ⟨by rw [a, decide_eq_true (by omega)], b.symm⟩
      clear hb2
      go_wp2_with (go_at_call 42; refine (hin _).mono ?_; rintro e w' ⟨rfl, rfl⟩)
      go_roundg (n - (k + 1))
      case measure => omega
      case rel => exact ⟨k + 1, by omega, rfl, by go_num, rfl⟩
    · go_wp2_with fail
      go_ret
      exact ⟨rfl, ba⟩
end Go.Proofs.Ytbhjnihcmfagjaa

namespace Go.Proofs.Ytbhjnihcmfagjaa
open Go.RowKit RP

theorem bfs_pos {l : List Acy} {m f : Nat} {S : Nat → Bool} {V : Nat → Int} {ρ : Nat → Nat} (h : Bfs l m f S V ρ) : 1 ≤ cntN S m := by have := h.rank f h.frm; omega
theorem cell_drew13 {w : World} {a : Addr} {x : Value} (h : w.cell? a = some x) : w.drew.cell? a = some x := h
theorem cell_set13 {w : World} {p a : Addr} {v x : Value} (h : w.cell? a = some x) (hne : p.block ≠ a.block) : (w.setCell p v).cell? a = some x :=
  (World.cell?_setCell_other w p a v (fun e => hne (by rw [e]))).trans h
def updB (S : Nat → Bool) (i : Nat) : Nat → Bool := fun u => if u = i then true else S u
theorem put13 {V : World} {gs gv m u : Nat} {S : Nat → Bool} {R : Nat → Int} {z : Int} (hb : RowB V gs m S) (hn : RowN V gv m R) (hne : gs ≠ gv) :
    RowB ((V.setCell ⟨gs, u, none⟩ (.bool true)).setCell ⟨gv, u, none⟩ (.int .i64 z)).drew gs m (updB S u) ∧ RowN ((V.setCell ⟨gs, u, none⟩ (.bool true)).setCell ⟨gv, u, none⟩ (.int .i64 z)).drew gv m (updI R u z) :=
  ⟨(Below.heap_setCell _ _ _ gs (fun e => hne e)).trans (rowB_set hb (Q := updB S u) (if_pos rfl) (fun x hx => if_neg hx)),
   rowN_set ((Below.heap_setCell V ⟨gs, u, none⟩ _ gv (fun e => hne e.symm)).trans hn) (Q := updI R u z) (updI_at _ _ _) (fun x _ hx => updI_ne hx)⟩

set_option maxRecDepth 100000 in
set_option maxHeartbeats 8000000 in
theorem path13_any (T : Nat) (E : Option Addr) (m cE : Nat) (A : Option Addr) (cA : Nat) (l : List Acy) (B : Option Addr) (cB : Nat) (f t : Nat) (w : World) (hl : Lst encA 6 w w.heap.size A l) (hok : ∀ x ∈ l, okA m T x) (hm : m ≤ 48) (hln : l.length ≤ 512) (ht : Lst encI 1 w w.heap.size B (rngI l.length)) (hf : f < m) (htm : t < m)
    (hcon : ∀ p : Nat → Int, (∀ i, i < l.length → p (sN l i) = p (dN l i)) → p t = p f) :
    Calls Try.prog 57 #[netV T E m cE A l.length cA, .slice B l.length cB, .int .i64 f, .int .i64 t] w fun e w' => ∃ (va vs : Option Addr) (ca cs : Nat) (pl : List (Nat × Int)), e = .returned (.tuple #[.slice va pl.length ca, .slice vs pl.length cs, .bool true]) ∧
      Lst encI 1 w' w'.heap.size va (pl.map fun q => (q.1 : Int)) ∧ Lst encI 1 w' w'.heap.size vs (pl.map Prod.snd) ∧ RP.Way l t f pl ∧ pl.length ≤ m ∧ Below w.heap.size w w' := by
  have ba := belA w (.cells #[.int .i64 T, .slice E m cE, .slice A l.length cA] 25)
  have hnew := heap_alloc_new w (.cells #[.int .i64 T, .slice E m cE, .slice A l.length cA] 25)
  have mkN := mk_nums m (by omega)
  have mkB := mk_bits m (by omega)
  have hlr : (rngI l.length).length = l.length := rngI_len _
  go_enter Try.func57, Try.ntmps57
  go_upto_region 1 with fail
  generalize hw1 : w.alloc (.cells #[.int .i64 T, .slice E m cE, .slice A l.length cA] 25) = w1 at *
  have z1 : w.heap.size + 1 ≤ w1.heap.size := by rw [← hw1]; simp
  clear hw1
  have n1 : w1.cell? ⟨w.heap.size, 1, none⟩ = some (.slice E m cE) := by rw [cell_of_row w1 _ 1 _ _ _ hnew]; rfl
  have n2 : w1.cell? ⟨w.heap.size, 2, none⟩ = some (.slice A l.length cA) := by rw [cell_of_row w1 _ 2 _ _ _ hnew]; rfl
  have HL := Lib.hid (hl.belowMore ba (show w.heap.size ≤ w1.heap.size by omega))
  have HT := Lib.hid (ht.belowMore ba (show w.heap.size ≤ w1.heap.size by omega))
  have HB := Lib.hid ba
  clear hl ht ba hnew
  obtain ⟨nb, hnb⟩ : ∃ nb, nb = w.heap.size := ⟨_, rfl⟩
  rw [← hnb] at HB n1 n2 z1 ⊢
  have HNB := Lib.hid hnb
  clear hnb
  go_wp2_with fail
  have hr0 : RowN (w1.alloc (.cells (numA m fun _ => 0) 3)) w1.heap.size m (fun _ => 0) := heap_alloc_new w1 _
  have hb0 := belA w1 (.cells (numA m fun _ => 0) 3)
  have hc : ((m : Int)) = (m : Int) := rfl
  go_loopg [12, 28] m (fun q si sj wr => ∃ k : Nat, k ≤ m ∧ q = m - k ∧ sj = .int .i64 k ∧ RowN wr w1.heap.size m (fun u => if u < k then (-1 : Int) else 0) ∧ Below w1.heap.size w1 wr)
  case atStart => exact ⟨0, by omega, by omega, rfl, rowN_congr hr0 (fun u _ => if_neg (Nat.not_lt_zero u)), hb0⟩
  case round =>
    obtain ⟨k, hk, hg, rfl, hrow, hbw⟩ := hrel
    have HROW := Lib.hid hrow
    have HBW := Lib.hid hbw
    clear hrow hbw hr0 hb0 hc
    by_cases hlt : k < m
    · obtain ⟨_, f0⟩ := rowN_get HROW.out hlt
      obtain ⟨r0, _⟩ := rowN_get HROW.out hlt
      have k0 : (0 : Int) ≤ (k : Int) := by omega
      have k1 : (k : Int) < (m : Int) := by omega
      have HSET := Lib.hid (rowN_set HROW.out (Q := fun u => if u < k + 1 then (-1 : Int) else 0) (d := k) (z := -1) (if_pos (Nat.lt_succ_self k)) (fun u _ hu => by
        by_cases e1 : u < k
        · rw [if_pos e1, if_pos (by omega)]
        · rw [if_neg e1, if_neg (by omega)]))
      have HBS := Lib.hid (HBW.out.setCell (p := ⟨w1.heap.size, k, none⟩) (Nat.le_refl _) (.int .i64 (-1)))
      clear r0
      go_wp2_with fail
      go_roundg (m - (k + 1))
      case measure => omega
      case rel => exact ⟨k + 1, by omega, rfl, by go_num, HSET.out, HBS.out⟩
    · have HR1 := Lib.hid (show RowN wr w1.heap.size m (fun _ => (-1 : Int)) from rowN_congr HROW.out (fun u hu => by rw [if_pos (by omega)]))
      clear HROW
      have hzw := HBW.out.size
      have p1 := (HBW.out.cell (p := ⟨nb, 1, none⟩) (show nb < w1.heap.size by omega)).trans n1
      have hgl := rowN_lt HR1.out
      go_upto_region 8 with fail
      have hb0 : RowB (wr.alloc (.cells (bitsA m fun _ => false) 4)) wr.heap.size m (fun _ => false) := heap_alloc_new wr _
      have hr0 : RowN (wr.alloc (.cells (bitsA m fun _ => false) 4)) w1.heap.size m (fun _ => (-1 : Int)) := ((belA wr _).block w1.heap.size hgl).trans HR1.out
      have hw0 : Below w1.heap.size w1 (wr.alloc (.cells (bitsA m fun _ => false) 4)) := HBW.out.alloc (by omega) _
      have hne : wr.heap.size ≠ w1.heap.size := by omega
      have hgs := rowB_lt hb0
      generalize wr.alloc (.cells (bitsA m fun _ => false) 4) = wa at *
      generalize wr.heap.size = gs at *
      obtain ⟨q0, f0⟩ := rowB_get hb0 hf
      have i0 : (0 : Int) ≤ (f : Int) := by omega
      have i1 : (f : Int) < (m : Int) := by omega
      have bs := (Below.refl gs wa).setCell (p := ⟨gs, f, none⟩) (Nat.le_refl _) (.bool true)
      have HB1 := Lib.hid (rowB_set hb0 (Q := fun u => decide (u = f)) (d := f) (b := true) (decide_eq_true rfl) (fun u hu => decide_eq_false hu))
      have HR2 := Lib.hid ((bs.block w1.heap.size (by omega)).trans hr0)
      have HW2 := Lib.hid (hw0.trans (bs.mono (by omega)))
      clear hb0 hr0 hw0 bs HR1 HBW
      go_wp2_with fail
      clear f0 q0 p1
      generalize wa.setCell ⟨gs, f, none⟩ (.bool true) = wb at *
      go_loopg [14, 15, 16] m (fun q s14 s15 s16 wx => ∃ (r : Nat) (S : Nat → Bool) (V : Nat → Int) (ρ : Nat → Nat), r ≤ m ∧ q = m - r ∧ s14 = .int .i64 r ∧ RowN wx w1.heap.size m V ∧ RowB wx gs m S ∧ Bfs l m f S V ρ ∧ Rnd l m r S ∧ Below w1.heap.size w1 wx)
      case atStart =>
        have hbf := Bfs.start (l := l) hf (fun _ => (-1 : Int))
        exact ⟨0, _, _, _, by omega, by omega, rfl, HR2.out, HB1.out, hbf, .inr (bfs_pos hbf), HW2.out⟩
      case round =>
        obtain ⟨r, S, V, ρ, hr, hg2, rfl, hrn, hrb, hbfs, hrnd, hbx⟩ := hrel
        clear HR2 HB1 HW2
        have HRN := Lib.hid hrn
        have HRB := Lib.hid hrb
        have HBF := Lib.hid hbfs
        have HRD := Lib.hid hrnd
        have HBX := Lib.hid hbx
        clear hrn hrb hbfs hrnd hbx
        have p1 := (HBX.out.cell (p := ⟨nb, 1, none⟩) (show nb < w1.heap.size by omega)).trans n1
        have j0 : (0 : Int) ≤ (r : Int) := by omega
        by_cases hrm : r < m
        · have j1 : (r : Int) < (m : Int) := by omega
          go_wp2_with fail
          go_loopg [15, 16] l.length (fun q s15 s16 wy => ∃ (k : Nat) (S' : Nat → Bool) (V1 : Nat → Int) (ρ : Nat → Nat), k ≤ l.length ∧ q = l.length - k ∧ s15 = .int .i64 k ∧ RowN wy w1.heap.size m V1 ∧ RowB wy gs m S' ∧ Bfs l m f S' V1 ρ ∧ InR l m r S k S' ∧ Below w1.heap.size w1 wy)
          case atStart => exact ⟨0, S, V, ρ, by omega, by omega, rfl, HRN.out, HRB.out, HBF.out, InR.start _ _ _ _, HBX.out⟩
          case round =>
            obtain ⟨k, S', V1, ρ, hk, hg3, rfl, hrn, hrb, hbfs, hinr, hbx⟩ := hrel
            clear HRN HRB HBF HBX p1
            have HRN := Lib.hid hrn
            have HRB := Lib.hid hrb
            have HBF := Lib.hid hbfs
            have HIN := Lib.hid hinr
            have HBX := Lib.hid hbx
            clear hrn hrb hbfs hinr hbx
            have j2 : (0 : Int) ≤ (k : Int) := by omega
            by_cases hlt : k < l.length
            · have j3 : (k : Int) < (l.length : Int) := by omega
              obtain ⟨ab, aof, kd, lo, hi', wt, rfl, hab, a0, a1, a2, a3, a4, a5, k1, k2, k3, hrest⟩ := act_at HL.out hok hlt
              clear hrest
              obtain ⟨tb, tof, rfl, htb, htc⟩ := rng_all HT.out (by omega)
              have hbx := HBX.out
              have p2 := (hbx.cell (p := ⟨nb, 2, none⟩) (show nb < w1.heap.size by omega)).trans n2
              have q0 := (hbx.cell (p := ⟨tb, tof + k, none⟩) htb).trans (htc k hlt)
              replace a0 := (hbx.cell (p := ⟨ab, aof + k * 6, none⟩) hab).trans a0
              replace a1 := (hbx.cell (p := ⟨ab, aof + k * 6 + 1, none⟩) hab).trans a1
              replace a2 := (hbx.cell (p := ⟨ab, aof + k * 6 + 2, none⟩) hab).trans a2
              replace a3 := (hbx.cell (p := ⟨ab, aof + k * 6 + 3, none⟩) hab).trans a3
              replace a4 := (hbx.cell (p := ⟨ab, aof + k * 6 + 4, none⟩) hab).trans a4
              replace a5 := (hbx.cell (p := ⟨ab, aof + k * 6 + 5, none⟩) hab).trans a5
              have HADD := Lib.hid (fun (u : Nat) (hu : u < m) (h0 : S' u = false) hw => HBF.out.add (S' := updB S' u) (V' := updI V1 u k) hu h0 hlt hw (if_pos rfl) (fun x hx => if_neg hx) (updI_at _ _ _) (fun x hx => updI_ne hx))
              generalize hsi : sN l k = si at *
              generalize hdi : dN l k = di at *
              have HSI := Lib.hid hsi
              have HDI := Lib.hid hdi
              clear hsi hdi hbx
              go_upto_region 15 with fail
              go_region_held3 (fun w' => w'.cell? ⟨nb, 2, none⟩ = some (.slice (some ⟨ab, aof, none⟩) l.length cA) ∧ w'.cell? ⟨tb, tof + k, none⟩ = some (.int .i64 k) ∧ w'.cell? ⟨ab, aof + k * 6, none⟩ = some (.int .i64 kd) ∧ w'.cell? ⟨ab, aof + k * 6 + 1, none⟩ = some (.int .i64 si) ∧ w'.cell? ⟨ab, aof + k * 6 + 2, none⟩ = some (.int .i64 di) ∧ w'.cell? ⟨ab, aof + k * 6 + 3, none⟩ = some (.int .i64 lo) ∧ w'.cell? ⟨ab, aof + k * 6 + 4, none⟩ = some (.int .i64 hi') ∧ w'.cell? ⟨ab, aof + k * 6 + 5, none⟩ = some (.int .i64 wt)) (go_keep) (fail)
              have bV := (belA wr (.cells #[.int .i64 kd, .int .i64 si, .int .i64 di, .int .i64 lo, .int .i64 hi', .int .i64 wt] 30)).drew
              have vblk : (wr.alloc (.cells #[.int .i64 kd, .int .i64 si, .int .i64 di, .int .i64 lo, .int .i64 hi', .int .i64 wt] 30)).drew.heap[wr.heap.size]? = some (.cells #[.int .i64 kd, .int .i64 si, .int .i64 di, .int .i64 lo, .int .i64 hi', .int .i64 wt] 30 (0, 0)) := heap_alloc_new wr _
              have zV : wr.heap.size < (wr.alloc (.cells #[.int .i64 kd, .int .i64 si, .int .i64 di, .int .i64 lo, .int .i64 hi', .int .i64 wt] 30)).drew.heap.size := (show wr.heap.size < (wr.alloc (.cells #[.int .i64 kd, .int .i64 si, .int .i64 di, .int .i64 lo, .int .i64 hi', .int .i64 wt] 30)).heap.size by simp)
              clear a0 a1 a2 a3 a4 a5 p2 q0
              generalize (wr.alloc (.cells #[.int .i64 kd, .int .i64 si, .int .i64 di, .int .i64 lo, .int .i64 hi', .int .i64 wt] 30)).drew = V at *
              have hzx := HBX.out.size
              have HW := Lib.hid (HBX.out.trans (bV.mono hzx))
              have hRV : RowN V w1.heap.size m V1 := kept_at (Kept.of_below [] bV) HRN.out (by simp)
              have hBV : RowB V gs m S' := kept_at (Kept.of_below [] bV) HRB.out (by simp)
              have HRV := Lib.hid hRV
              have HBV := Lib.hid hBV
              have v1 : V.cell? ⟨wr.heap.size, 1, none⟩ = some (.int .i64 si) := by rw [cell_of_row V _ 1 _ _ _ vblk]; rfl
              have v2 : V.cell? ⟨wr.heap.size, 2, none⟩ = some (.int .i64 di) := by rw [cell_of_row V _ 2 _ _ _ vblk]; rfl
              have q0 := (HW.out.cell (p := ⟨tb, tof + k, none⟩) htb).trans (htc k hlt)
              obtain ⟨b1, g1⟩ := rowB_get hBV k1
              obtain ⟨b2, g2⟩ := rowB_get hBV k2
              obtain ⟨c1, f1⟩ := rowN_get hRV k1
              obtain ⟨c2, f2⟩ := rowN_get hRV k2
              have hgsl := rowB_lt HRB.out
              clear bV vblk hRV hBV HRN HRB HBX htc
              obtain ⟨gV, hgV⟩ : ∃ gV, gV = wr.heap.size := ⟨_, rfl⟩
              rw [← hgV] at v1 v2 hgsl hzx zV ⊢
              have m1 : gs ≠ gV := by omega
              have m2 : w1.heap.size ≠ gV := by omega
              have m3 : gs ≠ tb := by omega
              have m4 : w1.heap.size ≠ tb := by omega
              have y0 : (0 : Int) ≤ (si : Int) := by omega
              have y1 : (si : Int) < (m : Int) := by omega
              have y2 : (0 : Int) ≤ (di : Int) := by omega
              have y3 : (di : Int) < (m : Int) := by omega
              clear hgV
              cases hs : S' si with
              | true =>
                rw [hs] at b1
                cases hd : S' di with
                | true =>
                  rw [hd] at b2
                  have HSM := Lib.hid (HIN.out.same (by rw [HSI.out, HDI.out, hs, hd]))
                  clear hs hd
                  go_wp2_with fail
                  go_roundg (l.length - (k + 1))
                  case measure => omega
                  case rel => exact ⟨k + 1, S', V1, ρ, by omega, rfl, by go_num, HRV.out, HBV.out, HBF.out, HSM.out, HW.out⟩
                | false =>
                  rw [hd] at b2
                  have HA := Lib.hid (HADD.out di k2 hd (.inl ⟨rfl, hs⟩))
                  have HC := cntN_put (S' := updB S' di) hd (if_pos rfl) (fun x hx => if_neg hx) k2
                  have HI2 := Lib.hid (HIN.out.more HRD.out hlt (by rw [HSI.out, HDI.out, hs, hd]; simp) HC)
                  have hp := put13 (u := di) (z := (k : Int)) HBV.out HRV.out (show gs ≠ w1.heap.size by omega)
                  have HP1 := Lib.hid hp.1
                  have HP2 := Lib.hid hp.2
                  have HP3 := Lib.hid (((HW.out.setCell (p := ⟨gs, di, none⟩) (show w1.heap.size ≤ gs by omega) (.bool true)).setCell (p := ⟨w1.heap.size, di, none⟩) (Nat.le_refl _) (.int .i64 (k : Int))).drew)
                  clear hs hd HC hp
                  go_upto_region 17 with fail
                  go_region_held3 (fun w' => w'.cell? ⟨gV, 1, none⟩ = some (.int .i64 si) ∧ w'.cell? ⟨gV, 2, none⟩ = some (.int .i64 di) ∧ w'.cell? ⟨tb, tof + k, none⟩ = some (.int .i64 k)) (refine ⟨?_, ?_, ?_⟩ <;> (repeat' (first | assumption | refine cell_drew13 ?_ | refine cell_set13 ?_ ?_))) (fail)
                  clear b1 b2 c1 c2 f1 f2 g1 g2 v1 v2
                  generalize ((V.setCell ⟨gs, di, none⟩ (.bool true)).setCell ⟨w1.heap.size, di, none⟩ (.int .i64 (k : Int))).drew = wz at *
                  go_wp2_with fail
                  go_roundg (l.length - (k + 1))
                  case measure => omega
                  case rel => exact ⟨k + 1, _, _, _, by omega, rfl, by go_num, HP2.out, HP1.out, HA.out, HI2.out, HP3.out⟩
              | false =>
                rw [hs] at b1
                cases hd : S' di with
                | true =>
                  rw [hd] at b2
                  have HA := Lib.hid (HADD.out si k1 hs (.inr ⟨rfl, hd⟩))
                  have HC := cntN_put (S' := updB S' si) hs (if_pos rfl) (fun x hx => if_neg hx) k1
                  have HI2 := Lib.hid (HIN.out.more HRD.out hlt (by rw [HSI.out, HDI.out, hs, hd]; simp) HC)
                  have hp := put13 (u := si) (z := (k : Int)) HBV.out HRV.out (show gs ≠ w1.heap.size by omega)
                  have HP1 := Lib.hid hp.1
                  have HP2 := Lib.hid hp.2
                  have HP3 := Lib.hid (((HW.out.setCell (p := ⟨gs, si, none⟩) (show w1.heap.size ≤ gs by omega) (.bool true)).setCell (p := ⟨w1.heap.size, si, none⟩) (Nat.le_refl _) (.int .i64 (k : Int))).drew)
                  clear hs hd HC hp
                  go_upto_region 19 with fail
                  go_region_held3 (fun w' => w'.cell? ⟨gV, 1, none⟩ = some (.int .i64 si) ∧ w'.cell? ⟨gV, 2, none⟩ = some (.int .i64 di) ∧ w'.cell? ⟨tb, tof + k, none⟩ = some (.int .i64 k)) (refine ⟨?_, ?_, ?_⟩ <;> (repeat' (first | assumption | refine cell_drew13 ?_ | refine cell_set13 ?_ ?_))) (fail)
                  clear b1 b2 c1 c2 f1 f2 g1 g2 v1 v2
                  generalize ((V.setCell ⟨gs, si, none⟩ (.bool true)).setCell ⟨w1.heap.size, si, none⟩ (.int .i64 (k : Int))).drew = wz at *
                  go_wp2_with fail
                  go_roundg (l.length - (k + 1))
                  case measure => omega
                  case rel => exact ⟨k + 1, _, _, _, by omega, rfl, by go_num, HP2.out, HP1.out, HA.out, HI2.out, HP3.out⟩
                | false =>
                  rw [hd] at b2
                  have HSM := Lib.hid (HIN.out.same (by rw [HSI.out, HDI.out, hs, hd]))
                  clear hs hd
                  go_wp2_with fail
                  go_roundg (l.length - (k + 1))
                  case measure => omega
                  case rel => exact ⟨k + 1, S', V1, ρ, by omega, rfl, by go_num, HRV.out, HBV.out, HBF.out, HSM.out, HW.out⟩
            · have hk' : ¬ (k : Int) < (l.length : Int) := by omega
              have HDN := Lib.hid (by
                have e : k = l.length := by omega
                rw [e] at HIN
                exact HIN.out.done : Rnd l m (r + 1) S')
              go_wp2_with fail
              go_roundg (m - (r + 1))
              case measure => omega
              case rel => exact ⟨r + 1, S', V1, ρ, by omega, rfl, by go_num, HRN.out, HRB.out, HBF.out, HDN.out, HBX.out⟩
        · have hr' : ¬ (r : Int) < (m : Int) := by omega
          have hall : S t = true := by
            have e : r = m := by omega
            rw [e] at HRD
            exact cl_all HRD.out.all HBF.out.frm hcon
          obtain ⟨b1, g1⟩ := rowB_get HRB.out htm
          rw [hall] at b1
          have HALL := Lib.hid hall
          have y0 : (0 : Int) ≤ (t : Int) := by omega
          have y1 : (t : Int) < (m : Int) := by omega
          clear hall
          have hzx := HBX.out.size
          have hgx := rowN_lt HRN.out
          go_wp2_with fail
          clear b1 g1 y0 y1 p1
          obtain ⟨WZ, hWZ⟩ : ∃ WZ, WZ = wr.heap.size := ⟨_, rfl⟩
          have hz9 : WZ ≤ wr.heap.size := by omega
          have hgz : w1.heap.size < WZ := by omega
          go_loopg [17, 18, 19, 20, 21] (ρ t) (fun q s17 s18 s19 s20 s21 wy => ∃ (x : Nat) (pl : List (Nat × Int)), S x = true ∧ q = ρ x ∧ s19 = .int .i64 x ∧ OwnN wy WZ s17 (pl.map fun q => (q.1 : Int)) ∧ OwnN wy WZ s18 (pl.map Prod.snd) ∧ RP.Way l t x pl ∧ pl.length + ρ x ≤ ρ t ∧ RowN wy w1.heap.size m V ∧ Below w1.heap.size w1 wy ∧ WZ ≤ wy.heap.size)
          case atStart => exact ⟨t, [], HALL.out, rfl, rfl, Own.nil _ _ _ _ _, Own.nil _ _ _ _ _, Way.start l t, by simp, HRN.out, HBX.out, hz9⟩
          case round =>
            obtain ⟨x, pl, hx, hg9, rfl, ho1, ho2, hway, hlen, hrn, hbx, hz⟩ := hrel
            clear HRN HBX
            have hxm := HBF.out.inn x hx
            have HRN := Lib.hid hrn
            have HBX := Lib.hid hbx
            have HWAY := Lib.hid hway
            have hrk := HBF.out.rank t HALL.out
            have hcl := cntN_le S m
            have hpl : pl.length ≤ 48 := by omega
            have hplm : pl.length ≤ m := by omega
            have y0 : (0 : Int) ≤ (x : Int) := by omega
            have y1 : (x : Int) < (m : Int) := by omega
            have e1 : (pl.map fun q => (q.1 : Int)).length = pl.length := List.length_map _
            have e2 : (pl.map Prod.snd).length = pl.length := List.length_map _
            obtain ⟨A1, c1, rfl⟩ := ho1.form
            obtain ⟨A2, c2, rfl⟩ := ho2.form
            rw [e1] at ho1 ⊢
            rw [e2] at ho2 ⊢
            have HO1 := Lib.hid ho1
            have HO2 := Lib.hid ho2
            clear ho1 ho2 hway hrk hcl
            by_cases hxf : x = f
            · subst hxf
              have hq : ((x : Int) != (x : Int)) = false := by simp
              clear hrn hbx e1 e2
              go_wp2_with fail
              go_ret3
              refine ⟨A1, A2, c1, c2, pl, rfl, Own.lst encI_len HO1.out, Own.lst encI_len HO2.out, HWAY.out, by omega, ?_⟩
              have h1 := HB.out
              have h4 := HNB.out
              rw [← h4]
              exact h1.trans (HBX.out.mono (by omega))
            · have hq : ((x : Int) != (f : Int)) = true := by
                rw [bne_iff_ne]; omega
              obtain ⟨e, he, hve, hwy⟩ := HBF.out.back x hx hxf
              obtain ⟨q0, _⟩ := rowN_get hrn hxm
              rw [hve] at q0
              obtain ⟨ab, aof, kd, lo, hi', wt, rfl, hab, a0, a1, a2, a3, a4, a5, k1, k2, k3, hrest⟩ := act_at HL.out hok he
              have HVE := Lib.hid hve
              clear hrest hve hrn hxf
              have p2 := (hbx.cell (p := ⟨nb, 2, none⟩) (show nb < w1.heap.size by omega)).trans n2
              replace a0 := (hbx.cell (p := ⟨ab, aof + e * 6, none⟩) hab).trans a0
              replace a1 := (hbx.cell (p := ⟨ab, aof + e * 6 + 1, none⟩) hab).trans a1
              replace a2 := (hbx.cell (p := ⟨ab, aof + e * 6 + 2, none⟩) hab).trans a2
              replace a3 := (hbx.cell (p := ⟨ab, aof + e * 6 + 3, none⟩) hab).trans a3
              replace a4 := (hbx.cell (p := ⟨ab, aof + e * 6 + 4, none⟩) hab).trans a4
              replace a5 := (hbx.cell (p := ⟨ab, aof + e * 6 + 5, none⟩) hab).trans a5
              have HWF := Lib.hid (fun (y : Nat) (h1 : dN l e = x) (h2 : sN l e = y) => HWAY.out.fwd he h1 h2)
              have HWB := Lib.hid (fun (y : Nat) (h1 : sN l e = x) (h2 : dN l e = y) => HWAY.out.bwd he h1 h2)
              have j0 : (0 : Int) ≤ (e : Int) := by omega
              have j1 : (e : Int) < (l.length : Int) := by omega
              generalize sN l e = si at *
              generalize dN l e = di at *
              have HWY := Lib.hid hwy
              clear hbx hwy
              go_upto_region 25 with fail
              go_region_held3 (fun w' => w'.cell? ⟨nb, 2, none⟩ = some (.slice (some ⟨ab, aof, none⟩) l.length cA) ∧ w'.cell? ⟨w1.heap.size, x, none⟩ = some (.int .i64 e) ∧ w'.cell? ⟨ab, aof + e * 6, none⟩ = some (.int .i64 kd) ∧ w'.cell? ⟨ab, aof + e * 6 + 1, none⟩ = some (.int .i64 si) ∧ w'.cell? ⟨ab, aof + e * 6 + 2, none⟩ = some (.int .i64 di) ∧ w'.cell? ⟨ab, aof + e * 6 + 3, none⟩ = some (.int .i64 lo) ∧ w'.cell? ⟨ab, aof + e * 6 + 4, none⟩ = some (.int .i64 hi') ∧ w'.cell? ⟨ab, aof + e * 6 + 5, none⟩ = some (.int .i64 wt)) (go_keep) (fail)
              have bV := (belA wr (.cells #[.int .i64 kd, .int .i64 si, .int .i64 di, .int .i64 lo, .int .i64 hi', .int .i64 wt] 30)).drew
              have vblk : (wr.alloc (.cells #[.int .i64 kd, .int .i64 si, .int .i64 di, .int .i64 lo, .int .i64 hi', .int .i64 wt] 30)).drew.heap[wr.heap.size]? = some (.cells #[.int .i64 kd, .int .i64 si, .int .i64 di, .int .i64 lo, .int .i64 hi', .int .i64 wt] 30 (0, 0)) := heap_alloc_new wr _
              have zV : wr.heap.size < (wr.alloc (.cells #[.int .i64 kd, .int .i64 si, .int .i64 di, .int .i64 lo, .int .i64 hi', .int .i64 wt] 30)).drew.heap.size := (show wr.heap.size < (wr.alloc (.cells #[.int .i64 kd, .int .i64 si, .int .i64 di, .int .i64 lo, .int .i64 hi', .int .i64 wt] 30)).heap.size by simp)
              clear a0 a1 a2 a3 a4 a5 p2 q0
              generalize (wr.alloc (.cells #[.int .i64 kd, .int .i64 si, .int .i64 di, .int .i64 lo, .int .i64 hi', .int .i64 wt] 30)).drew = V0 at *
              have hzx := HBX.out.size
              have HW := Lib.hid (HBX.out.trans (bV.mono hzx))
              have hRV : RowN V0 w1.heap.size m V := kept_at (Kept.of_below [] bV) HRN.out (by simp)
              have HRV := Lib.hid hRV
              have HP1 := Lib.hid (HO1.out.below' bV)
              have HP2 := Lib.hid (HO2.out.below' bV)
              have v1 : V0.cell? ⟨wr.heap.size, 1, none⟩ = some (.int .i64 si) := by rw [cell_of_row V0 _ 1 _ _ _ vblk]; rfl
              have v2 : V0.cell? ⟨wr.heap.size, 2, none⟩ = some (.int .i64 di) := by rw [cell_of_row V0 _ 2 _ _ _ vblk]; rfl
              obtain ⟨q0, _⟩ := rowN_get hRV hxm
              rw [HVE.out] at q0
              clear bV vblk hRV
              obtain ⟨gV, hgV⟩ : ∃ gV, gV = wr.heap.size := ⟨_, rfl⟩
              rw [← hgV] at v1 v2 zV hzx hz ⊢
              clear hgV
              rcases HWY.out with ⟨hdx, hs1, hr1⟩ | ⟨hdx, hs1, hr1⟩
              · obtain rfl : x = di := hdx.symm
                have hq2 : ((si : Int) == (x : Int)) = false := by rw [beq_eq_false_iff_ne]; omega
                have w1s : IntKind.i64.wrap ((si : Nat) + (x : Nat) : Int) = ((si : Nat) + (x : Nat) : Int) := IntWalk.i64_in _ (by omega)
                have w2s : IntKind.i64.wrap (((si : Nat) + (x : Nat) : Int) - (x : Int)) = ((si : Nat) : Int) := by rw [IntWalk.i64_in _ (by omega)]; omega
                have HWN := Lib.hid (HWF.out si rfl rfl)
                have HS1 := Lib.hid hs1
                clear hs1
                go_wp2_with (at_builtin; refine Stp.put ?_)
                refine Stp.out ?_
                have b1 := belA V0 (.cells #[.int .i64 e] 3)
                have HLS1 := Lib.hid ((Own.lst encI_len HP1.out).below b1)
                have HLS2 := Lib.hid (HP2.out.below' b1)
                refine wpList_append_lst rfl _ _ 26 rfl WZ 3 8 Try.underlying26 elem13 _ [(e : Int)] rfl (Own.lit V0 _ WZ _ _ _ rfl encI_len rfl (by omega) (by simp [Go.maxLen])) (pl.map fun q => (q.1 : Int)) _ _ _ V0.heap.size rfl (by rw [e1]) HLS1.out (by simp only [Go.maxLen, List.length_cons, List.length_nil, List.length_map]; omega) (by simp only [List.length_cons, List.length_nil, List.length_map]; omega) (by simp; omega) ?_
                intro v6 w6 ho6 hg6 hat6
                have HG6 := Lib.hid (show (V0.alloc (.cells #[.int .i64 e] 3)).grownBy w6 (some V0.heap.size) from hg6)
                have HO6 := Lib.hid ho6
                have HO6b := Lib.hid (HLS2.out.kept HG6.out (.inr (fun h => by have := (World.ownsRow.lt HP2.out _ h).2; omega)))
                clear ho6 hg6 hat6 q0
                have hz6 : V0.heap.size + 1 ≤ w6.heap.size := by have := HG6.out.size; rw [World.size_alloc] at this; omega
                go_wp2_with (at_builtin; refine Stp.put ?_)
                refine Stp.out ?_
                have b7 := belA w6 (.cells #[.int .i64 1] 3)
                have HLS3 := Lib.hid ((Own.lst encI_len HO6b.out).below b7)
                refine wpList_append_lst rfl _ _ 26 rfl WZ 3 8 Try.underlying26 elem13 _ [(1 : Int)] rfl (Own.lit w6 _ WZ _ _ _ rfl encI_len rfl (by omega) (by simp [Go.maxLen])) (pl.map Prod.snd) _ _ _ w6.heap.size rfl (by rw [e2]) HLS3.out (by simp only [Go.maxLen, List.length_cons, List.length_nil, List.length_map]; omega) (by simp only [List.length_cons, List.length_nil, List.length_map]; omega) (by simp; omega) ?_
                intro v7 w7 ho7 hg7 hat7
                have HG7 := Lib.hid (show (w6.alloc (.cells #[.int .i64 1] 3)).grownBy w7 (some w6.heap.size) from hg7)
                have HO7 := Lib.hid ho7
                have HO6c := Lib.hid ((HO6.out.below' b7).kept HG7.out (.inr (fun h => by have := (World.ownsRow.lt HO6.out _ h).2; omega)))
                have h1x := b1.grown HG6.out (by simp) (fun q e => by injection e with e; omega)
                have h2x := h1x.alloc (by omega) (.cells #[.int .i64 1] 3)
                have hBB := h2x.grown HG7.out (by rw [World.size_alloc]; omega) (fun q e => by injection e with e; omega)
                have hz7 : WZ ≤ w7.heap.size := by have := hBB.size; omega
                have HRV7 := Lib.hid ((hBB.block w1.heap.size (by omega)).trans HRV.out)
                have HW7 := Lib.hid (HW.out.trans (hBB.mono (by omega)))
                replace v1 := (hBB.cell (p := ⟨gV, 1, none⟩) zV).trans v1
                replace v2 := (hBB.cell (p := ⟨gV, 2, none⟩) zV).trans v2
                clear ho7 hg7 hat7 h1x h2x hBB b1 b7
                go_wp2_with fail
                go_roundg (ρ si)
                case measure => omega
                case rel => exact ⟨si, (e, 1) :: pl, HS1.out, rfl, by go_num, HO6c.out, HO7.out, HWN.out, by simp only [List.length_cons]; omega, HRV7.out, HW7.out, hz7⟩
              · obtain rfl : x = si := hdx.symm
                have hq2 : ((x : Int) == (x : Int)) = true := by simp
                have w1s : IntKind.i64.wrap ((x : Nat) + (di : Nat) : Int) = ((x : Nat) + (di : Nat) : Int) := IntWalk.i64_in _ (by omega)
                have w2s : IntKind.i64.wrap (((x : Nat) + (di : Nat) : Int) - (x : Int)) = ((di : Nat) : Int) := by rw [IntWalk.i64_in _ (by omega)]; omega
                have HWN := Lib.hid (HWB.out di rfl rfl)
                have HS1 := Lib.hid hs1
                clear hs1
                go_wp2_with (at_builtin; refine Stp.put ?_)
                refine Stp.out ?_
                have b1 := belA V0 (.cells #[.int .i64 e] 3)
                have HLS1 := Lib.hid ((Own.lst encI_len HP1.out).below b1)
                have HLS2 := Lib.hid (HP2.out.below' b1)
                refine wpList_append_lst rfl _ _ 26 rfl WZ 3 8 Try.underlying26 elem13 _ [(e : Int)] rfl (Own.lit V0 _ WZ _ _ _ rfl encI_len rfl (by omega) (by simp [Go.maxLen])) (pl.map fun q => (q.1 : Int)) _ _ _ V0.heap.size rfl (by rw [e1]) HLS1.out (by simp only [Go.maxLen, List.length_cons, List.length_nil, List.length_map]; omega) (by simp only [List.length_cons, List.length_nil, List.length_map]; omega) (by simp; omega) ?_
                intro v6 w6 ho6 hg6 hat6
                have HG6 := Lib.hid (show (V0.alloc (.cells #[.int .i64 e] 3)).grownBy w6 (some V0.heap.size) from hg6)
                have HO6 := Lib.hid ho6
                have HO6b := Lib.hid (HLS2.out.kept HG6.out (.inr (fun h => by have := (World.ownsRow.lt HP2.out _ h).2; omega)))
                clear ho6 hg6 hat6 q0
                have hz6 : V0.heap.size + 1 ≤ w6.heap.size := by have := HG6.out.size; rw [World.size_alloc] at this; omega
                go_wp2_with (at_builtin; refine Stp.put ?_)
                refine Stp.out ?_
                have b7 := belA w6 (.cells #[.int .i64 (-1)] 3)
                have HLS3 := Lib.hid ((Own.lst encI_len HO6b.out).below b7)
                refine wpList_append_lst rfl _ _ 26 rfl WZ 3 8 Try.underlying26 elem13 _ [((-1) : Int)] rfl (Own.lit w6 _ WZ _ _ _ rfl encI_len rfl (by omega) (by simp [Go.maxLen])) (pl.map Prod.snd) _ _ _ w6.heap.size rfl (by rw [e2]) HLS3.out (by simp only [Go.maxLen, List.length_cons, List.length_nil, List.length_map]; omega) (by simp only [List.length_cons, List.length_nil, List.length_map]; omega) (by simp; omega) ?_
                intro v7 w7 ho7 hg7 hat7
                have HG7 := Lib.hid (show (w6.alloc (.cells #[.int .i64 (-1)] 3)).grownBy w7 (some w6.heap.size) from hg7)
                have HO7 := Lib.hid ho7
                have HO6c := Lib.hid ((HO6.out.below' b7).kept HG7.out (.inr (fun h => by have := (World.ownsRow.lt HO6.out _ h).2; omega)))
                have h1x := b1.grown HG6.out (by simp) (fun q e => by injection e with e; omega)
                have h2x := h1x.alloc (by omega) (.cells #[.int .i64 (-1)] 3)
                have hBB := h2x.grown HG7.out (by rw [World.size_alloc]; omega) (fun q e => by injection e with e; omega)
                have hz7 : WZ ≤ w7.heap.size := by have := hBB.size; omega
                have HRV7 := Lib.hid ((hBB.block w1.heap.size (by omega)).trans HRV.out)
                have HW7 := Lib.hid (HW.out.trans (hBB.mono (by omega)))
                replace v1 := (hBB.cell (p := ⟨gV, 1, none⟩) zV).trans v1
                replace v2 := (hBB.cell (p := ⟨gV, 2, none⟩) zV).trans v2
                clear ho7 hg7 hat7 h1x h2x hBB b1 b7
                go_wp2_with fail
                go_roundg (ρ di)
                case measure => omega
                case rel => exact ⟨di, (e, (-1)) :: pl, HS1.out, rfl, by go_num, HO6c.out, HO7.out, HWN.out, by simp only [List.length_cons]; omega, HRV7.out, HW7.out, hz7⟩
end Go.Proofs.Ytbhjnihcmfagjaa

namespace Go.Proofs.Ytbhjnihcmfagjaa
open Go.RowKit RP
set_option maxRecDepth 100000 in
set_option maxHeartbeats 8000000 in
theorem pot13_any (T : Nat) (E : Option Addr) (m cE : Nat) (A : Option Addr) (cA : Nat) (l : List Acy) (B : Option Addr) (cB : Nat) (V : Option Addr) (cV : Nat) (vs : List Int) (w : World) (hl : Lst encA 6 w w.heap.size A l) (hyes : netB T m l = true) (hac : Acyc l) (ht : Lst encI 1 w w.heap.size B (rngI l.length))
    (hv : Lst encI 1 w w.heap.size V vs) (hvl : vs.length = l.length) (hvb : ∀ v ∈ vs, -131072 ≤ v ∧ v ≤ 131072) :
    Calls Try.prog 32 #[netV T E m cE A l.length cA, .slice B l.length cB, .slice V vs.length cV] w fun e w' => ∃ (g : Nat) (X p C : Nat → Int), e = .returned (.tuple #[.slice (some ⟨g, 0, none⟩) m m, .int .i64 0]) ∧ w.heap.size ≤ g ∧ RowN w' g m X ∧
      (∀ u, u < m → X u = (p u - p (fiK C u u)) % T) ∧ (∀ i, i < l.length → p (dN l i) - p (sN l i) = vs.getD i 0) ∧ (∀ i, i < l.length → C (sN l i) = C (dN l i)) ∧ Below w.heap.size w w' := by
  obtain ⟨⟨t1, t2, t3, t4⟩, hok⟩ := netB_iff.1 hyes
  obtain ⟨p, hp⟩ := hac fun i => vs.getD i 0
  have HP := Lib.hid hp
  rw [hvl]
  have HVL := Lib.hid hvl
  have HVB := Lib.hid hvb
  have HYES := Lib.hid hyes
  have HAC := Lib.hid hac
  have HOK := Lib.hid hok
  clear hvl hvb hyes hac hok
  have ba := belA w (.cells #[.int .i64 T, .slice E m cE, .slice A l.length cA] 25)
  have hnew := heap_alloc_new w (.cells #[.int .i64 T, .slice E m cE, .slice A l.length cA] 25)
  have mkN := mk_nums m (by omega)
  go_enter Try.func32, Try.ntmps32
  go_upto_region 1 with fail
  generalize hw1 : w.alloc (.cells #[.int .i64 T, .slice E m cE, .slice A l.length cA] 25) = w1 at *
  have z1 : w.heap.size + 1 ≤ w1.heap.size := by rw [← hw1]; simp
  clear hw1 hp
  have n0 : w1.cell? ⟨w.heap.size, 0, none⟩ = some (.int .i64 T) := by rw [cell_of_row w1 _ 0 _ _ _ hnew]; rfl
  have n1 : w1.cell? ⟨w.heap.size, 1, none⟩ = some (.slice E m cE) := by rw [cell_of_row w1 _ 1 _ _ _ hnew]; rfl
  have n2 : w1.cell? ⟨w.heap.size, 2, none⟩ = some (.slice A l.length cA) := by rw [cell_of_row w1 _ 2 _ _ _ hnew]; rfl
  have HL := Lib.hid (hl.belowMore ba (show w.heap.size ≤ w1.heap.size by omega))
  have HT := Lib.hid (ht.belowMore ba (show w.heap.size ≤ w1.heap.size by omega))
  have HV := Lib.hid (hv.belowMore ba (show w.heap.size ≤ w1.heap.size by omega))
  have HB := Lib.hid ba
  clear hl ht hv ba hnew
  obtain ⟨nb, hnb⟩ : ∃ nb, nb = w.heap.size := ⟨_, rfl⟩
  rw [← hnb] at HB n0 n1 n2 z1 ⊢
  have HNB := Lib.hid hnb
  clear hnb
  go_wp2_with fail
  refine (forest13_any T E m cE A cA l B cB w1 HL.out HYES.out HAC.out HT.out).mono ?_
  rintro e w2 ⟨rfl, hb2⟩
  have n0' := (hb2.cell (p := ⟨nb, 0, none⟩) (show nb < w1.heap.size by omega)).trans n0
  have n1' := (hb2.cell (p := ⟨nb, 1, none⟩) (show nb < w1.heap.size by omega)).trans n1
  have n2' := (hb2.cell (p := ⟨nb, 2, none⟩) (show nb < w1.heap.size by omega)).trans n2
  have HB2 := Lib.hid hb2
  clear hb2
  go_wp2_with fail
  refine (vals13_any T E m cE A l.length cA V cV vs w2 (HV.out.belowMore HB2.out HB2.out.size) HVL.out (by omega) HVB.out).mono ?_
  rintro e w3 ⟨rfl, hb3⟩
  have HB3 := Lib.hid (HB2.out.trans (hb3.mono HB2.out.size))
  clear hb3 n0' n1' n2' HB2
  have n0' := (HB3.out.cell (p := ⟨nb, 0, none⟩) (show nb < w1.heap.size by omega)).trans n0
  have n1' := (HB3.out.cell (p := ⟨nb, 1, none⟩) (show nb < w1.heap.size by omega)).trans n1
  have n2' := (HB3.out.cell (p := ⟨nb, 2, none⟩) (show nb < w1.heap.size by omega)).trans n2
  go_wp2_with fail
  refine (comps13_any T E m cE A cA l w3 (HL.out.belowMore HB3.out HB3.out.size) HYES.out).mono ?_
  rintro e w4 ⟨gc, C, rfl, hgc, hrc, hcmp, hb4⟩
  have hsz3 := HB3.out.size
  have HB4 := Lib.hid (HB3.out.trans (hb4.mono hsz3))
  have HCM := Lib.hid hcmp
  have hgcl := rowN_lt hrc
  have HRC := Lib.hid hrc
  clear hb4 n0' n1' n2' HB3 hcmp hrc
  have n1' := (HB4.out.cell (p := ⟨nb, 1, none⟩) (show nb < w1.heap.size by omega)).trans n1
  go_wp2_with fail
  have ho0 : RowN (w4.alloc (.cells (numA m fun _ => 0) 3)) w4.heap.size m (fun _ => 0) := heap_alloc_new w4 _
  have hb0 := belA w4 (.cells (numA m fun _ => 0) 3)
  clear n1'
  have hsz4 := HB4.out.size
  generalize hgo : w4.heap.size = go at *
  go_loopg [10, 11, 12, 13, 14, 15, 16, 17, 34] m (fun q s10 s11 s12 s13 s14 s15 s16 s17 s34 wx => ∃ (i : Nat) (X : Nat → Int), i ≤ m ∧ q = m - i ∧ s34 = .int .i64 i ∧ RowN wx go m X ∧ (∀ u, u < i → X u = (p u - p (fiK C u u)) % T) ∧ Below go w4 wx)
  case atStart => exact ⟨0, _, by omega, by omega, rfl, ho0, fun u h => absurd h (Nat.not_lt_zero u), hb0⟩
  case round =>
    obtain ⟨i, X, hi, hg, rfl, hrx, hX, hbx⟩ := hrel
    have HRX := Lib.hid hrx
    have HX := Lib.hid hX
    have HBX := Lib.hid hbx
    clear hrx hX hbx ho0 hb0
    have j0 : (0 : Int) ≤ (i : Int) := by omega
    by_cases hlt : i < m
    · have j1 : (i : Int) < (m : Int) := by omega
      go_wp2_with fail
      go_loopg [11, 12] i (fun q s11 s12 wy => ∃ k : Nat, k ≤ i ∧ q = i - k ∧ s12 = .int .i64 k ∧ s11 = .int .i64 (fiK C i k) ∧ RowN wy go m X ∧ Below go w4 wy)
      case atStart => exact ⟨0, by omega, by omega, rfl, rfl, HRX.out, HBX.out⟩
      case round =>
        obtain ⟨k, hk, hg2, rfl, rfl, hrx, hbx⟩ := hrel
        clear HRX HBX
        have HRX := Lib.hid hrx
        have HBX := Lib.hid hbx
        have k0 : (0 : Int) ≤ (k : Int) := by omega
        by_cases hlk : k < i
        · have k1 : (k : Int) < (m : Int) := by omega
          have hrc : RowN wr gc m C := (hbx.block gc (by omega)).trans HRC.out
          obtain ⟨c1, _⟩ := rowN_get hrc (show k < m by omega)
          obtain ⟨c2, _⟩ := rowN_get hrc hlt
          clear hrc hrx hbx
          have k2 : (k : Int) < (i : Int) := by omega
          generalize hfk : fiK C i k = fk at *
          have HFK := Lib.hid hfk
          have hfi : fiK C i (k + 1) = if C k = C i ∧ k < fiK C i k then k else fiK C i k := rfl
          rw [hfk] at hfi
          by_cases qa : C k = C i
          · have hb : ((C k) == (C i)) = true := by simp [qa]
            by_cases qb : k < fk
            · have hd : decide ((k : Int) < (fk : Int)) = true := decide_eq_true (by omega)
              have hd2 : decide (k < fk) = true := decide_eq_true qb
              rw [if_pos ⟨qa, qb⟩] at hfi
              have HFI := Lib.hid hfi
              clear hfi qa qb hfk
              generalize C k = ck at *
              generalize C i = ci at *
              go_upto_region 14 with fail
              go_quiet (fail)
              have HRX1 := Lib.hid (show RowN (wr.drewN nq) go m X from HRX.out)
              have HBX1 := Lib.hid (below_drewN HBX.out nq)
              clear c1 c2 HRX HBX
              generalize wr.drewN nq = wq at *
              go_wp2_with fail
              go_roundg (i - (k + 1))
              case measure => omega
              case rel => exact ⟨k + 1, by omega, rfl, by go_num, by rw [HFI.out], HRX1.out, HBX1.out⟩
            · have hd : decide ((k : Int) < (fk : Int)) = false := decide_eq_false (by omega)
              have hd2 : decide (k < fk) = false := decide_eq_false qb
              rw [if_neg (fun h => qb h.2)] at hfi
              have HFI := Lib.hid hfi
              clear hfi qa qb hfk
              generalize C k = ck at *
              generalize C i = ci at *
              go_upto_region 14 with fail
              go_quiet (fail)
              have HRX1 := Lib.hid (show RowN (wr.drewN nq) go m X from HRX.out)
              have HBX1 := Lib.hid (below_drewN HBX.out nq)
              clear c1 c2 HRX HBX
              generalize wr.drewN nq = wq at *
              go_wp2_with fail
              go_roundg (i - (k + 1))
              case measure => omega
              case rel => exact ⟨k + 1, by omega, rfl, by go_num, by rw [HFI.out], HRX1.out, HBX1.out⟩
          · have hb : ((C k) == (C i)) = false := by simp [qa]
            rw [if_neg (fun h => qa h.1)] at hfi
            have HFI := Lib.hid hfi
            clear hfi qa hfk
            generalize C k = ck at *
            generalize C i = ci at *
            go_upto_region 14 with fail
            go_quiet (fail)
            have HRX1 := Lib.hid (show RowN (wr.drewN nq) go m X from HRX.out)
            have HBX1 := Lib.hid (below_drewN HBX.out nq)
            clear c1 c2 HRX HBX
            generalize wr.drewN nq = wq at *
            go_wp2_with fail
            go_roundg (i - (k + 1))
            case measure => omega
            case rel => exact ⟨k + 1, by omega, rfl, by go_num, by rw [HFI.out], HRX1.out, HBX1.out⟩
        · obtain rfl : k = i := by omega
          clear hrx hbx
          have hfl := fiK_le C k k
          have hfs := fiK_same C k k
          have HCON := Lib.hid (fun (pp : Nat → Int) (hpp : ∀ i, i < l.length → pp (sN l i) = pp (dN l i)) => HCM.out.2 pp hpp k (fiK C k k) hlt (by omega) hfs.symm)
          generalize hfk : fiK C k k = fk at *
          have HFK := Lib.hid hfk
          clear hfk hfs
          have hsx := HBX.out.size
          have HB5 := Lib.hid (HB4.out.trans (HBX.out.mono (by omega)))
          have n0' := (HB5.out.cell (p := ⟨nb, 0, none⟩) (show nb < w1.heap.size by omega)).trans n0
          have n1' := (HB5.out.cell (p := ⟨nb, 1, none⟩) (show nb < w1.heap.size by omega)).trans n1
          have n2' := (HB5.out.cell (p := ⟨nb, 2, none⟩) (show nb < w1.heap.size by omega)).trans n2
          go_wp2_with fail
          refine (path13_any T E m cE A cA l B cB fk k wr (HL.out.belowMore HB5.out (by omega)) HOK.out t3 t4 (HT.out.belowMore HB5.out (by omega)) (by omega) hlt HCON.out).mono ?_
          rintro e w6 ⟨va, vs2, ca, cs, pl, rfl, hva, hvs, hway, hpl, hb6⟩
          obtain ⟨v, hv⟩ : ∃ v : Nat → Int, v = fun i => vs.getD i 0 := ⟨_, rfl⟩
          have HSUM := Lib.hid (hway.sum v p (fun i hi => by rw [hv]; exact HP.out i hi))
          have HMEM := Lib.hid hway.mem
          have hvbd : ∀ i, i < l.length → -131072 ≤ v i ∧ v i ≤ 131072 := fun i hi => by
            rw [hv]
            have hlt' : i < vs.length := by rw [HVL.out]; exact hi
            have := HVB.out vs[i] (List.getElem_mem hlt')
            simp only [List.getD_eq_getElem?_getD, List.getElem?_eq_getElem hlt', Option.getD_some]; exact this
          have HVBD := Lib.hid hvbd
          have hz6 := hb6.size
          have HB6 := Lib.hid (HB5.out.trans (hb6.mono (by omega)))
          have HRX6 := Lib.hid (show RowN w6 go m X from (hb6.block go (by have := rowN_lt HRX.out; omega)).trans HRX.out)
          have HBX6 := Lib.hid (HBX.out.trans (hb6.mono (by omega)))
          have hvv : ∀ i (hi : i < l.length), ∃ b off, V = some ⟨b, off, none⟩ ∧ b < w1.heap.size ∧ w6.cell? ⟨b, off + i, none⟩ = some (.int .i64 (v i)) := fun i hi => by
            have hlt' : i < vs.length := by rw [HVL.out]; exact hi
            obtain ⟨b, off, h1, h2, h3⟩ := (HV.out.belowMore HB6.out (show w1.heap.size ≤ w6.heap.size by omega)).num13 i hlt'
            obtain ⟨b', off', h1', h2', _⟩ := HV.out.num13 i hlt'
            rw [h1] at h1'
            injection h1' with h1'
            injection h1' with e1 e2
            subst e1 e2
            refine ⟨b, off, h1, h2', ?_⟩
            rw [h3, hv]
            simp only [List.getD_eq_getElem?_getD, List.getElem?_eq_getElem hlt', Option.getD_some]
          have HVV := Lib.hid hvv
          have HVA := Lib.hid hva
          have HVS := Lib.hid hvs
          clear hway hva hvs hb6 hvbd hvv hv n0' n1' n2' HRX HBX HB5
          go_wp2_with fail
          go_loopg [16, 17] pl.length (fun q s16 s17 wy => ∃ j : Nat, j ≤ pl.length ∧ q = pl.length - j ∧ s17 = .int .i64 j ∧ s16 = .int .i64 (sumW v (pl.take j)) ∧ Below w6.heap.size w6 wy)
          case atStart => exact ⟨0, by omega, by omega, rfl, rfl, Below.refl _ _⟩
          case round =>
            obtain ⟨j, hj, hg7, rfl, rfl, hby⟩ := hrel
            have HBY := Lib.hid hby
            have u0 : (0 : Int) ≤ (j : Int) := by omega
            by_cases hjl : j < pl.length
            · have u1 : (j : Int) < (pl.length : Int) := by omega
              have hstp := sumW_take (v := v) hjl
              have hbd := sumW_bound (v := v) (B := 131072) HVBD.out (by omega) (L := pl.take j) (fun q hq => HMEM.out q (List.mem_of_mem_take hq))
              have htl : (pl.take j).length ≤ 48 := by rw [List.length_take]; omega
              obtain ⟨m1, m2⟩ := HMEM.out pl[j] (List.getElem_mem hjl)
              have hve := HVBD.out _ m1
              obtain ⟨vb, vo, rfl, hvb2, c3⟩ := HVV.out _ m1
              obtain ⟨xb, xo, rfl, hxb, c1⟩ := HVA.out.num13 j (by rw [List.length_map]; exact hjl)
              obtain ⟨yb, yo, rfl, hyb, c2⟩ := HVS.out.num13 j (by rw [List.length_map]; exact hjl)
              rw [List.getElem_map] at c1 c2
              replace c1 := (hby.cell (p := ⟨xb, xo + j, none⟩) hxb).trans c1
              replace c2 := (hby.cell (p := ⟨yb, yo + j, none⟩) hyb).trans c2
              have c3' := (hby.cell (p := ⟨vb, vo + pl[j].1, none⟩) (show vb < w6.heap.size by omega)).trans c3
              generalize pl[j].2 = s at *
              generalize pl[j].1 = ea at *
              generalize v ea = z at *
              generalize hst : sumW v (pl.take (j + 1)) = t2 at *
              generalize hst0 : sumW v (pl.take j) = t1 at *
              have hsz : s * z = z ∨ s * z = -z := by rcases m2 with h | h <;> rw [h] <;> omega
              generalize hy : s * z = y at *
              have sy : IntKind.i64.wrap (s * z) = y := by rw [hy]; exact IntWalk.i64_in _ (by omega)
              have sx : IntKind.i64.wrap (t1 + y) = t2 := by rw [hstp]; exact IntWalk.i64_in _ (by omega)
              have x0 : (0 : Int) ≤ (ea : Int) := by omega
              have x1 : (ea : Int) < (l.length : Int) := by omega
              have HST := Lib.hid hst
              clear hstp hst hst0 hy hsz m2 hve hby c3 hbd
              go_upto_region 21 with fail
              go_quiet (fail)
              have HBZ := Lib.hid (below_drewN HBY.out nq)
              clear c1 c2 c3' HBY
              generalize wr.drewN nq = wq at *
              go_wp2_with fail
              go_roundg (pl.length - (j + 1))
              case measure => omega
              case rel => exact ⟨j + 1, by omega, rfl, by go_num, by rw [HST.out], HBZ.out⟩
            · have hj' : ¬ (j : Int) < (pl.length : Int) := by omega
              have htk : pl.take j = pl := List.take_of_length_le (by omega)
              rw [htk, HSUM.out]
              have hbd := sumW_bound (v := v) (B := 131072) HVBD.out (by omega) (L := pl) HMEM.out
              rw [HSUM.out] at hbd
              have n0' := (hby.cell (p := ⟨nb, 0, none⟩) (show nb < w6.heap.size by omega)).trans ((HB6.out.cell (p := ⟨nb, 0, none⟩) (show nb < w1.heap.size by omega)).trans n0)
              generalize ht : p k - p fk = t at *
              obtain ⟨z, hz⟩ : ∃ z, t % (T : Int) = z := ⟨_, rfl⟩
              have hz1 := Int.emod_nonneg t (show (T : Int) ≠ 0 by omega)
              have hz2 := Int.emod_lt_of_pos t (show (0 : Int) < T by omega)
              rw [hz] at hz1 hz2
              have HXN := Lib.hid (show ∀ u, u < k + 1 → updI X k z u = (p u - p (fiK C u u)) % T from fun u hu => by
                by_cases e : u = k
                · rw [e, updI_at, HFK.out, ht, hz]
                · rw [updI_ne e]; exact HX.out u (by omega))
              have hrow : RowN wr go m X := (hby.block go (by have := rowN_lt HRX6.out; omega)).trans HRX6.out
              have HBO := Lib.hid (HBX6.out.trans (hby.mono (by have := rowN_lt HRX6.out; omega)))
              obtain ⟨r0, f0⟩ := rowN_get hrow hlt
              have hT0 : (T : Int) ≠ 0 := by omega
              clear ht hbd htk
              by_cases hr : t.tmod (T : Int) < 0
              · have hlo : -(T : Int) ≤ t.tmod (T : Int) := by have := tmod_neg t T (by omega) hr; omega
                have hw1 : IntKind.i64.wrap (t.tmod (T : Int) + (T : Int)) = z := by rw [tmod_neg t T (by omega) hr, hz]; exact IntWalk.i64_in _ (by omega)
                have HST := Lib.hid (rowN_set hrow (Q := updI X k z) (d := k) (z := z) (updI_at _ _ _) (fun u _ hu => updI_ne hu))
                have HBS := Lib.hid (HBO.out.setCell (p := ⟨go, k, none⟩) (Nat.le_refl _) (.int .i64 z))
                clear hrow hby hz
                go_wp2_with fail
                go_roundg (m - (k + 1))
                case measure => omega
                case rel => exact ⟨k + 1, updI X k z, by omega, rfl, by go_num, HST.out, HXN.out, HBS.out⟩
              · have hw1 : t.tmod (T : Int) = z := by rw [tmod_pos t T (by omega) (by omega), hz]
                have HST := Lib.hid (rowN_set hrow (Q := updI X k z) (d := k) (z := z) (updI_at _ _ _) (fun u _ hu => updI_ne hu))
                have HBS := Lib.hid (HBO.out.setCell (p := ⟨go, k, none⟩) (Nat.le_refl _) (.int .i64 z))
                clear hrow hby hz
                go_wp2_with fail
                go_roundg (m - (k + 1))
                case measure => omega
                case rel => exact ⟨k + 1, updI X k z, by omega, rfl, by go_num, HST.out, HXN.out, HBS.out⟩
    · obtain rfl : i = m := by omega
      have hi' : ¬ (i : Int) < (i : Int) := by omega
      go_wp2_with fail
      go_ret2
      refine ⟨go, rfl, by have := HNB.out; omega, X, HRX.out, p, C, HX.out, HP.out, HCM.out.1, ?_⟩
      have h1 := HB.out
      have h4 := HNB.out
      rw [← h4]
      exact (h1.trans (HB4.out.mono (by omega))).trans (HBX.out.mono (by omega))
end Go.Proofs.Ytbhjnihcmfagjaa

namespace Go.Proofs.Ytbhjnihcmfagjaa
open Go.RowKit RP


/-- The taken indices as numbers. -/
def tkI (tk : Nat → Bool) (n : Nat) : List Int := (tkL tk n).map fun i : Nat => (i : Int)
theorem tkI_yes {tk : Nat → Bool} {n : Nat} (h : tk n = true) : tkI tk (n + 1) = tkI tk n ++ [(n : Int)] := by rw [tkI, tkL_yes h, List.map_append]; rfl
theorem tkI_no {tk : Nat → Bool} {n : Nat} (h : tk n = false) : tkI tk (n + 1) = tkI tk n := by rw [tkI, tkL_no h]; rfl
theorem tkI_len (tk : Nat → Bool) (n : Nat) : (tkI tk n).length = (tkL tk n).length := by simp [tkI]
def tkP (tk : Nat → Bool) (k : Nat) : Nat → Bool := fun x => if x = k then true else tk x

set_option maxRecDepth 100000 in
set_option maxHeartbeats 8000000 in
theorem tree13_any (T : Nat) (E : Option Addr) (m cE : Nat) (A : Option Addr) (cA : Nat) (l : List Acy) (w : World) (hl : Lst encA 6 w w.heap.size A l) (hyes : netB T m l = true) :
    Calls Try.prog 29 #[netV T E m cE A l.length cA] w fun e w' => ∃ (va : Option Addr) (ca : Nat) (tk : Nat → Bool) (R : Nat → Int), e = .returned (.slice va (tkI tk l.length).length ca) ∧ Lst encI 1 w' w'.heap.size va (tkI tk l.length) ∧ TreI l tk R ∧ Below w.heap.size w w' := by
  obtain ⟨⟨t1, t2, t3, t4⟩, hok⟩ := netB_iff.1 hyes
  have ba := belA w (.cells #[.int .i64 T, .slice E m cE, .slice A l.length cA] 25)
  have hnew := heap_alloc_new w (.cells #[.int .i64 T, .slice E m cE, .slice A l.length cA] 25)
  have mkN := mk_nums m (by omega)
  have mkB := mk_bits l.length (by omega)
  go_enter Try.func29, Try.ntmps29
  go_wp2_with fail
  refine (refNet_any T E m cE A cA l _ (hl.belowMore ba (by simp)) (by omega)).mono ?_
  rintro e w1 ⟨rfl, hb⟩
  rw [hyes]
  rw [World.size_alloc] at hb
  have hbl := (hb.block w.heap.size (by omega)).trans hnew
  have HB := Lib.hid (ba.trans (hb.mono (by omega)))
  have n0 : w1.cell? ⟨w.heap.size, 0, none⟩ = some (.int .i64 T) := by rw [cell_of_row w1 _ 0 _ _ _ hbl]; rfl
  have n1 : w1.cell? ⟨w.heap.size, 1, none⟩ = some (.slice E m cE) := by rw [cell_of_row w1 _ 1 _ _ _ hbl]; rfl
  have n2 : w1.cell? ⟨w.heap.size, 2, none⟩ = some (.slice A l.length cA) := by rw [cell_of_row w1 _ 2 _ _ _ hbl]; rfl
  have z1 : w.heap.size + 1 ≤ w1.heap.size := by have := hb.size; rw [World.size_alloc] at this; omega
  have HL := Lib.hid (hl.belowMore HB.out (show w.heap.size ≤ w1.heap.size by omega))
  clear ba hb hnew hl hyes hbl
  obtain ⟨nb, hnb⟩ : ∃ nb, nb = w.heap.size := ⟨_, rfl⟩
  rw [← hnb] at HB n0 n1 n2 z1 ⊢
  have HNB := Lib.hid hnb
  clear hnb
  go_wp2_with fail
  have hr0 : RowN (w1.alloc (.cells (numA m fun _ => 0) 3)) w1.heap.size m (fun _ => 0) := heap_alloc_new w1 _
  have hb0 := belA w1 (.cells (numA m fun _ => 0) 3)
  go_loopg [4, 20] m (fun q si sj wr => ∃ k : Nat, k ≤ m ∧ q = m - k ∧ sj = .int .i64 k ∧ RowN wr w1.heap.size m (fun u => if u < k then (u : Int) else 0) ∧ Below w1.heap.size w1 wr)
  case atStart => exact ⟨0, by omega, by omega, rfl, rowN_congr hr0 (fun u _ => if_neg (Nat.not_lt_zero u)), hb0⟩
  case round =>
    obtain ⟨k, hk, hg, rfl, hrow, hbw⟩ := hrel
    have HROW := Lib.hid hrow
    have HBW := Lib.hid hbw
    clear hrow hbw hr0 hb0
    by_cases hlt : k < m
    · obtain ⟨_, f0⟩ := rowN_get HROW.out hlt
      obtain ⟨r0, _⟩ := rowN_get HROW.out hlt
      have k0 : (0 : Int) ≤ (k : Int) := by omega
      have k1 : (k : Int) < (m : Int) := by omega
      have HSET := Lib.hid (rowN_set HROW.out (Q := fun u => if u < k + 1 then (u : Int) else 0) (d := k) (z := (k : Int)) (if_pos (Nat.lt_succ_self k)) (fun u _ hu => by
        by_cases e1 : u < k
        · rw [if_pos e1, if_pos (by omega)]
        · rw [if_neg e1, if_neg (by omega)]))
      have HBS := Lib.hid (HBW.out.setCell (p := ⟨w1.heap.size, k, none⟩) (Nat.le_refl _) (.int .i64 k))
      clear r0
      go_wp2_with fail
      go_roundg (m - (k + 1))
      case measure => omega
      case rel => exact ⟨k + 1, by omega, rfl, by go_num, HSET.out, HBS.out⟩
    · have HR1 := Lib.hid (show RowN wr w1.heap.size m (fun u => (u : Int)) from rowN_congr HROW.out (fun u hu => by rw [if_pos (by omega)]))
      clear HROW
      have hzw := HBW.out.size
      have p2 := (HBW.out.cell (p := ⟨nb, 2, none⟩) (show nb < w1.heap.size by omega)).trans n2
      have hgl := rowN_lt HR1.out
      go_wp2_with fail
      have hb0 : RowB (wr.alloc (.cells (bitsA l.length fun _ => false) 4)) wr.heap.size l.length (fun _ => false) := heap_alloc_new wr _
      have hr0 : RowN (wr.alloc (.cells (bitsA l.length fun _ => false) 4)) w1.heap.size m (fun u => (u : Int)) := ((belA wr _).block w1.heap.size hgl).trans HR1.out
      have hw0 : Below w1.heap.size w1 (wr.alloc (.cells (bitsA l.length fun _ => false) 4)) := HBW.out.alloc (by omega) _
      have hne : wr.heap.size ≠ w1.heap.size := by omega
      generalize wr.heap.size = gb at *
      go_loopg [6, 7, 8] T (fun q s6 s7 s8 wx => ∃ (p : Nat) (R : Nat → Int) (tk : Nat → Bool), p ≤ T ∧ q = T - p ∧ s6 = .int .i64 p ∧ RowN wx w1.heap.size m R ∧ RowB wx gb l.length tk ∧ TreI l tk R ∧ Below w1.heap.size w1 wx)
      case atStart => exact ⟨0, _, _, by omega, by omega, rfl, hr0, hb0, TreI.start l _, hw0⟩
      case round =>
        obtain ⟨p, R, tk, hp, hg, rfl, hrow, hrb, hti, hbw⟩ := hrel
        clear hb0 hr0 hw0 HR1 HBW hzw p2
        have HROW := Lib.hid hrow
        have HRB := Lib.hid hrb
        have HTI := Lib.hid hti
        have HBW := Lib.hid hbw
        have p0 := (hbw.cell (p := ⟨nb, 0, none⟩) (show nb < w1.heap.size by omega)).trans n0
        have i0 : (0 : Int) ≤ (p : Int) := by omega
        clear hrow hrb hti hbw
        by_cases hpt : p < T
        · have i1 : (p : Int) < (T : Int) := by omega
          go_wp2_with fail
          go_loopg [7, 8] l.length (fun q s7 s8 wy => ∃ (k : Nat) (R : Nat → Int) (tk : Nat → Bool), k ≤ l.length ∧ q = l.length - k ∧ s7 = .int .i64 k ∧ RowN wy w1.heap.size m R ∧ RowB wy gb l.length tk ∧ TreI l tk R ∧ Below w1.heap.size w1 wy)
          case atStart => exact ⟨0, _, _, by omega, by omega, rfl, HROW.out, HRB.out, HTI.out, HBW.out⟩
          case round =>
            obtain ⟨k, R, tk, hk, hg3, rfl, hrow, hrb, hti, hbw⟩ := hrel
            clear HROW HRB HTI HBW p0
            have HROW := Lib.hid hrow
            have HRB := Lib.hid hrb
            have HTI := Lib.hid hti
            have HBW := Lib.hid hbw
            have j0 : (0 : Int) ≤ (k : Int) := by omega
            have p2 := (hbw.cell (p := ⟨nb, 2, none⟩) (show nb < w1.heap.size by omega)).trans n2
            by_cases hlt : k < l.length
            · have j1 : (k : Int) < (l.length : Int) := by omega
              obtain ⟨ab, aof, kd, lo, hi', wt, rfl, hab, a0, a1, a2, a3, a4, a5, k1, k2, k3, e1, e2, b1, b2, b3, b4⟩ := act_at HL.out hok hlt
              clear e1 e2
              replace a0 := (hbw.cell (p := ⟨ab, aof + k * 6, none⟩) hab).trans a0
              replace a1 := (hbw.cell (p := ⟨ab, aof + k * 6 + 1, none⟩) hab).trans a1
              replace a2 := (hbw.cell (p := ⟨ab, aof + k * 6 + 2, none⟩) hab).trans a2
              replace a3 := (hbw.cell (p := ⟨ab, aof + k * 6 + 3, none⟩) hab).trans a3
              replace a4 := (hbw.cell (p := ⟨ab, aof + k * 6 + 4, none⟩) hab).trans a4
              replace a5 := (hbw.cell (p := ⟨ab, aof + k * 6 + 5, none⟩) hab).trans a5
              have HST := Lib.hid (fun hne => hti.step hlt hne (tk' := tkP tk k) (fun i h => if_neg h))
              clear hrow hrb hti
              generalize sN l k = si at *
              generalize dN l k = di at *
              have s1 : IntKind.i64.wrap (hi' - lo) = hi' - lo := IntWalk.i64_in _ (by omega)
              go_upto_region 17 with fail
              have bV := belA wr (.cells #[.int .i64 kd, .int .i64 si, .int .i64 di, .int .i64 lo, .int .i64 hi', .int .i64 wt] 30)
              have vblk := heap_alloc_new wr (.cells #[.int .i64 kd, .int .i64 si, .int .i64 di, .int .i64 lo, .int .i64 hi', .int .i64 wt] 30)
              have zV : wr.heap.size < (wr.alloc (.cells #[.int .i64 kd, .int .i64 si, .int .i64 di, .int .i64 lo, .int .i64 hi', .int .i64 wt] 30)).heap.size := by simp
              generalize wr.alloc (.cells #[.int .i64 kd, .int .i64 si, .int .i64 di, .int .i64 lo, .int .i64 hi', .int .i64 wt] 30) = V at *
              have HW := Lib.hid (hbw.trans (bV.mono hbw.size))
              have HRV := Lib.hid (kept_at (Kept.of_below [] bV) HROW.out (by simp))
              have HBV := Lib.hid (kept_at (Kept.of_below [] bV) HRB.out (by simp))
              have v0 : V.cell? ⟨wr.heap.size, 0, none⟩ = some (.int .i64 kd) := by rw [cell_of_row V _ 0 _ _ _ vblk]; rfl
              have v1 : V.cell? ⟨wr.heap.size, 1, none⟩ = some (.int .i64 si) := by rw [cell_of_row V _ 1 _ _ _ vblk]; rfl
              have v2 : V.cell? ⟨wr.heap.size, 2, none⟩ = some (.int .i64 di) := by rw [cell_of_row V _ 2 _ _ _ vblk]; rfl
              have v3 : V.cell? ⟨wr.heap.size, 3, none⟩ = some (.int .i64 lo) := by rw [cell_of_row V _ 3 _ _ _ vblk]; rfl
              have v4 : V.cell? ⟨wr.heap.size, 4, none⟩ = some (.int .i64 hi') := by rw [cell_of_row V _ 4 _ _ _ vblk]; rfl
              have v5 : V.cell? ⟨wr.heap.size, 5, none⟩ = some (.int .i64 wt) := by rw [cell_of_row V _ 5 _ _ _ vblk]; rfl
              have hzw := hbw.size
              clear a0 a1 a2 a3 a4 a5 p2 bV vblk hbw HROW HRB HBW
              generalize wr.heap.size = gV at *
              by_cases hsp : hi' - lo = (p : Int)
              · have hq : ((hi' - lo) == (p : Int)) = true := by simp [hsp]
                by_cases hRR : R si = R di
                · have hmg := fun W hW => merge13_any w1.heap.size m R kd lo hi' wt si di W hW k1 k2 t3
                  rw [decide_eq_true hRR] at hmg
                  have HRR := Lib.hid hRR
                  clear hRR hsp
                  go_wp2_with fail
                  refine (hmg _ HRV.out).mono ?_
                  rintro e w2 ⟨rfl, hrow2, hkp2⟩
                  rw [mrg_same HRR.out] at hrow2
                  have HR2 := Lib.hid hrow2
                  have HB2 := Lib.hid (kept_at hkp2 HBV.out (by simp; omega))
                  have HW2 := Lib.hid (HW.out.trans (hkp2.below (n₀ := w1.heap.size) (by simp) (by omega)))
                  clear hrow2 hkp2 hmg
                  go_wp2_with fail
                  go_roundg (l.length - (k + 1))
                  case measure => omega
                  case rel => exact ⟨k + 1, _, tk, by omega, rfl, by go_num, HR2.out, HB2.out, HTI.out, HW2.out⟩
                · have hmg := fun W hW => merge13_any w1.heap.size m R kd lo hi' wt si di W hW k1 k2 t3
                  rw [decide_eq_false hRR] at hmg
                  have HTN := Lib.hid (HST.out hRR)
                  clear hRR hsp
                  go_wp2_with fail
                  refine (hmg _ HRV.out).mono ?_
                  rintro e w2 ⟨rfl, hrow2, hkp2⟩
                  have HR2 := Lib.hid hrow2
                  have hb2 : RowB w2 gb l.length tk := kept_at hkp2 HBV.out (by simp; omega)
                  have HB2 := Lib.hid hb2
                  have HW2 := Lib.hid (HW.out.trans (hkp2.below (n₀ := w1.heap.size) (by simp) (by omega)))
                  obtain ⟨r0, f0⟩ := rowB_get hb2 hlt
                  have bs := (Below.refl gb w2).setCell (p := ⟨gb, k, none⟩) (Nat.le_refl _) (.bool true)
                  have HB3 := Lib.hid (rowB_set hb2 (Q := tkP tk k) (d := k) (b := true) (if_pos rfl) (fun u hu => if_neg hu))
                  have HR3 := Lib.hid ((bs.block w1.heap.size (by omega)).trans HR2.out)
                  have HW3 := Lib.hid (HW2.out.trans (bs.mono (by omega)))
                  clear hrow2 hkp2 hmg hb2 bs
                  go_wp2_with fail
                  go_roundg (l.length - (k + 1))
                  case measure => omega
                  case rel => exact ⟨k + 1, _, (tkP tk k), by omega, rfl, by go_num, HR3.out, HB3.out, HTN.out, HW3.out⟩
              · have hq : ((hi' - lo) == (p : Int)) = false := by simp [hsp]
                go_wp2_with fail
                go_roundg (l.length - (k + 1))
                case measure => omega
                case rel => exact ⟨k + 1, _, tk, by omega, rfl, by go_num, HRV.out, HBV.out, HTI.out, HW.out⟩
            · obtain rfl : k = l.length := by omega
              clear hrow hrb hti hbw
              go_wp2_with fail
              go_roundg (T - (p + 1))
              case measure => omega
              case rel => exact ⟨p + 1, R, tk, by omega, rfl, by go_num, HROW.out, HRB.out, HTI.out, HBW.out⟩
        · have hpT : ¬ (p : Int) < (T : Int) := by omega
          have hzx := HBW.out.size
          have hgbl := rowB_lt HRB.out
          obtain ⟨WZ, hWZ⟩ : ∃ WZ, WZ = wr.heap.size := ⟨_, rfl⟩
          have hz9 : WZ ≤ wr.heap.size := by omega
          have hgz : gb < WZ := by omega
          go_wp2_with fail
          go_loopg [9, 10, 67] l.length (fun q s9 s10 s67 wy => ∃ k : Nat, k ≤ l.length ∧ q = l.length - k ∧ s67 = .int .i64 k ∧ OwnN wy WZ s9 (tkI tk k) ∧ RowB wy gb l.length tk ∧ Below w1.heap.size w1 wy ∧ WZ ≤ wy.heap.size)
          case atStart => exact ⟨0, by omega, by omega, rfl, Own.nil _ _ _ _ _, HRB.out, HBW.out, hz9⟩
          case round =>
            obtain ⟨k, hk, hg5, rfl, hown, hrb5, hb5, hz5⟩ := hrel
            clear HROW HBW p0 hgbl i0
            have HOW := Lib.hid hown
            have HRB5 := Lib.hid hrb5
            have HB5 := Lib.hid hb5
            have j0 : (0 : Int) ≤ (k : Int) := by omega
            clear hown hrb5 hb5
            by_cases hlt : k < l.length
            · have j1 : (k : Int) < (l.length : Int) := by omega
              obtain ⟨r0, f0⟩ := rowB_get HRB5.out hlt
              have hln : (tkI tk k).length ≤ k := by rw [tkI_len]; exact tkL_len tk k
              cases htk : tk k with
              | true =>
                rw [htk] at r0
                have HTK := Lib.hid htk
                clear htk
                go_wp2_with (at_builtin; refine wpList_append_rec rfl _ _ 26 rfl WZ 3 8 Try.underlying26 elem13 _ (tkI tk k) rfl HOW.out [(k : Int)] _ rfl 1 1 rfl rfl (by simp only [Go.maxLen, List.length_cons, List.length_nil]; omega) (by simp only [List.length_cons, List.length_nil]; omega) hz5 ?_; intro v6 w6 ho6 hg6 hat6)
                rw [← tkI_yes HTK.out] at ho6
                have HO6 := Lib.hid ho6
                have HB6 := Lib.hid (HB5.out.grown hg6 HB5.out.size (fun q e => by have := (World.ownsRow.lt HOW.out q e).1; omega))
                have HR6 := Lib.hid ((hg6.block gb (by omega) (fun e => by have := (World.ownsRow.lt HOW.out gb e.symm).1; omega)).trans HRB5.out)
                have hz6 : WZ ≤ w6.heap.size := by have := hg6.size; omega
                clear ho6 hg6 hat6 r0 f0
                go_wp2_with fail
                go_roundg (l.length - (k + 1))
                case measure => omega
                case rel => exact ⟨k + 1, by omega, rfl, by go_num, HO6.out, HR6.out, HB6.out, hz6⟩
              | false =>
                rw [htk] at r0
                have HTK := Lib.hid htk
                clear htk
                go_wp2_with fail
                go_roundg (l.length - (k + 1))
                case measure => omega
                case rel => exact ⟨k + 1, by omega, rfl, by go_num, by rw [tkI_no HTK.out]; exact HOW.out, HRB5.out, HB5.out, hz5⟩
            · obtain rfl : k = l.length := by omega
              obtain ⟨A', c', rfl⟩ := HOW.out.form
              go_wp2_with fail
              go_ret
              refine ⟨A', c', tk, R, rfl, Own.lst encI_len HOW.out, HTI.out, ?_⟩
              have h1 := HB.out
              have h4 := HNB.out
              rw [← h4]
              exact h1.trans (HB5.out.mono (by omega))
end Go.Proofs.Ytbhjnihcmfagjaa
