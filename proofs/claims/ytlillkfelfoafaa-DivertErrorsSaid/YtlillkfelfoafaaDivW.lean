/-
  A list of numbers of the call's own.
  The order of the jobs: slices.SortStableFunc at a list of at most 19 numbers.
  The order of the jobs, second part: contracts of slices.insertionSortCmpFunc and slices.SortStableFunc at a list of at most 19 numbers.
-/
import Derived.Test.YtlillkfelfoafaaKit
import Derived.Test.YtlillkfelfoafaaDivA
import Derived.Test.YtlillkfelfoafaaDivP
import Derived.Test.YtlillkfelfoafaaSortLay
import Derived.Test.YtlillkfelfoafaaSortLayI
import Derived.BigQuiet
import Derived.Lib.OwnBridge
set_option linter.unusedVariables false
set_option linter.unusedSimpArgs false
namespace Go.Proofs.Ytlillkfelfoafaa
open Go.RowKit RP

abbrev OwnN (w : World) (base : Nat) (v : Value) (l : List Int) : Prop := Own encI 1 3 w base v l
theorem infoN : (Try.prog.info? 3).map (fun i => (i.zero, i.size, i.bytes)) = some (some (.int .i64 0), 1, 8) := by kernel_rfl
theorem encI_one (x : Int) : ∀ u ∈ encI x, u.oneCell' = true := by
  intro u hu
  simp only [encI, List.mem_cons, List.not_mem_nil, or_false] at hu
  rcases hu with rfl; rfl
theorem elemN : ElemOk Try.prog encI 1 3 8 :=
  ⟨fun _ => rfl, by omega, encI_one, by
    obtain ⟨i, hi, h0, h1, h2⟩ := info_parts infoN
    exact ⟨i, _, hi, h0, h1, h2, rfl⟩⟩
theorem Lst.num {w : World} {B : Nat} {A : Option Addr} {l : List Int} (h : Lst encI 1 w B A l) (i : Nat) (hi : i < l.length) : ∃ b off, A = some ⟨b, off, none⟩ ∧ b < B ∧ w.cell? ⟨b, off + i, none⟩ = some (.int .i64 l[i]) := by
  obtain ⟨b, off, e, hb, hc⟩ := h (by intro h0; subst h0; simp at hi)
  have := hc i l[i] (List.getElem?_eq_getElem hi) 0 _ rfl
  rw [Nat.mul_one] at this
  exact ⟨b, off, e, hb, this⟩
end Go.Proofs.Ytlillkfelfoafaa

namespace Go.Proofs.Ytlillkfelfoafaa
open Go.RowKit Go.Shelf Go.Sort RP

section
variable {α : Type} [Inhabited α] {jobs : List JobP} (f : α → Nat) (lt : α → α → Bool)
theorem get_of_map {d : Array α} {k v : Nat} (h : (d.toList.map f)[k]? = some v) : f d[k]! = v := by
  rw [List.getElem?_map, Array.getElem?_toList] at h
  rw [getElem!_def]
  cases hd : d[k]? with
  | none => rw [hd] at h; cases h
  | some x => rw [hd] at h; injection h
theorem swp_map (d : Array α) (i j : Nat) : (swp d i j).toList.map f = ((d.toList.map f).set i (f d[j]!)).set j (f d[i]!) := by
  unfold swp
  simp [List.map_set]
theorem insInner_ord (hlt : ∀ x y, lt x y = decide (stAt jobs (f x) < stAt jobs (f y))) {i : Nat} {l m : List Nat} (h : OrdTo jobs i l) : ∀ (j : Nat) (d : Array α), j ≤ l.length → d.toList.map f = l.take j ++ i :: l.drop j ++ m → (∀ x ∈ l.drop j, stAt jobs i < stAt jobs x) → ∃ l', (insInner lt 0 j d).toList.map f = l' ++ m ∧ OrdTo jobs (i + 1) l'
  | 0, d, _, hd, hx => ⟨i :: l, by simpa [insInner] using hd, by simpa using h.ins (k := 0) (by simp) hx⟩
  | j + 1, d, hj, hd, hx => by
    have h0 : f d[j + 1]! = i := get_of_map f (by rw [hd]; exact ins_get0 m hj)
    have h1 : f d[j]! = l[j] := get_of_map f (by rw [hd]; exact ins_get1 m hj)
    unfold insInner
    rw [hlt, h0, h1]
    by_cases hc : stAt jobs i < stAt jobs l[j]
    · rw [if_pos (by simp [hc])]
      refine insInner_ord hlt h j _ (by omega) ?_ (drop_step hj hx hc)
      rw [swp_map, hd, h0, h1]
      exact ins_swap m hj
    · rw [if_neg (by simp [hc])]
      exact ⟨_, hd, h.ins (h.head_le hj (by omega)) hx⟩
theorem insOuter_ord (hlt : ∀ x y, lt x y = decide (stAt jobs (f x) < stAt jobs (f y))) (n : Nat) : ∀ (r i : Nat) (d : Array α) (l : List Nat), i + r = n → d.toList.map f = l ++ List.range' i r → OrdTo jobs i l → OrdTo jobs n ((insOuter lt 0 n i d).toList.map f)
  | 0, i, d, l, hn, hd, h => by
    rw [insOuter, if_neg (by omega), hd]
    have : i = n := by omega
    subst this
    simpa using h
  | r + 1, i, d, l, hn, hd, h => by
    rw [insOuter, if_pos (by omega)]
    have hl := h.len
    obtain ⟨l', h1, h2⟩ := insInner_ord f lt hlt (m := List.range' (i + 1) r) h i d (by omega) (by
      rw [hd, List.range'_succ, ← hl, List.take_length, List.drop_length]; simp) (by rw [← hl, List.drop_length]; simp)
    exact insOuter_ord hlt n r (i + 1) _ l' (by omega) h1 h2
end
def cfJ (jobs : List JobP) {n : Nat} (x y : Fin n) : Int := Lib.compareInt (stAt jobs x.val) (stAt jobs y.val)
theorem ltJ (jobs : List JobP) {n : Nat} (x y : Fin n) : ltOf (cfJ jobs) x y = decide (stAt jobs x.val < stAt jobs y.val) := by
  unfold ltOf cfJ Lib.compareInt
  by_cases h1 : stAt jobs x.val < stAt jobs y.val
  · simp [h1]
  · by_cases h2 : stAt jobs y.val < stAt jobs x.val <;> simp [h1, h2]
theorem sort_ord (jobs : List JobP) (n : Nat) : OrdTo jobs (n + 1) ((Sort.insertionSort (ltOf (cfJ jobs (n := n + 1))) (Array.ofFn id) 0 (n + 1)).toList.map Fin.val) := by
  unfold Sort.insertionSort
  refine insOuter_ord Fin.val _ (fun x y => ltJ jobs x y) (n + 1) n 1 _ [0] (by omega) ?_ ⟨List.Perm.refl _, by simp⟩
  apply List.ext_getElem
  · simp
  · intro i h1 h2
    simp only [Array.toList_ofFn, List.getElem_map, List.getElem_ofFn, id]
    cases i with
    | zero => rfl
    | succ i => simp; omega

/-- The comparison of two jobs. -/
theorem cmpJ_any (gj : Nat) (JA : Option Addr) (jc B : Nat) (L : List JobM) (a b : Nat) (ha : a < L.length) (hb : b < L.length) (W : World) (h0 : W.cell? ⟨gj, 0, none⟩ = some (.slice JA L.length jc)) (hl : Lst encJb 2 W B JA L) :
    Calls Try.prog 44 #[.int .i64 a, .int .i64 b, .pointer (some ⟨gj, 0, none⟩)] W fun e w' => e = .returned (.int .i64 (Lib.compareInt (stAt (L.map JobM.p) a) (stAt (L.map JobM.p) b))) ∧ ∃ q, w' = W.drewN q := by
  have e1 : stAt (L.map JobM.p) a = L[a].start := by unfold stAt jobAt; rw [List.getD_eq_getElem?_getD, List.getElem?_map, List.getElem?_eq_getElem ha]; rfl
  have e2 : stAt (L.map JobM.p) b = L[b].start := by unfold stAt jobAt; rw [List.getD_eq_getElem?_getD, List.getElem?_map, List.getElem?_eq_getElem hb]; rfl
  rw [e1, e2]
  obtain ⟨g, off, rfl, hg, a0, a1⟩ := hl.job a ha
  obtain ⟨g', off', he, hg', b0, b1⟩ := hl.job b hb
  injection he with he; injection he with he1 he2 _
  subst he1 he2
  generalize L[a].start = x at *
  generalize L[b].start = y at *
  have i0 : (0 : Int) ≤ (a : Int) := by omega
  have i1 : (a : Int) < (L.length : Int) := by omega
  have i2 : (0 : Int) ≤ (b : Int) := by omega
  have i3 : (b : Int) < (L.length : Int) := by omega
  have hcon := fun W' => AnyG.cmp_Compare_int Try.cmpInt x y W'
  change ∀ W', Calls Try.prog 45 _ _ _ at hcon
  generalize Lib.compareInt x y = r at hcon ⊢
  clear a1 b1 hl e1 e2
  go_enter Try.func44, Try.ntmps44
  go_wp2_with fail
  go_quiet (first | (go_at_call 45; with_reducible exact Calls.quiet_of_same (hcon _)))
  go_wp2_with fail
  go_ret
  exact ⟨rfl, nq, rfl⟩
end Go.Proofs.Ytlillkfelfoafaa

namespace Go.Proofs.Ytlillkfelfoafaa
open Go.RowKit Go.Shelf Go.Sort RP

def encF {n : Nat} (x : Fin n) : Value := .int .i64 (x.val : Int)
theorem ints_of_fin {n : Nat} (l : List (Fin n)) : (l.map fun x => (x.val : Int)).flatMap encI = l.map encF := by
  induction l with
  | nil => rfl
  | cons a l ih => rw [List.map_cons, List.map_cons, List.flatMap_cons, ih]; rfl
/-- The numbers from 0 on, in order. -/
def natI (l : List Nat) : List Int := l.map fun (x : Nat) => (x : Int)
theorem fin_natI {n : Nat} (l : List (Fin n)) : natI (l.map Fin.val) = l.map fun x => (x.val : Int) := by
  unfold natI; rw [List.map_map]; rfl
theorem range_fin (n : Nat) : List.range n = (Array.ofFn (n := n) id).toList.map Fin.val := by
  apply List.ext_getElem
  · simp
  · intro i h1 h2
    simp
set_option maxHeartbeats 1000000 in
theorem insI_any (gj : Nat) (JA : Option Addr) (jc B : Nat) (L : List JobM) (m : Nat) (hL : L.length = m + 1) (base g cap : Nat) (w : World) (hbase : gj < base ∧ B ≤ base)
    (h0 : w.cell? ⟨gj, 0, none⟩ = some (.slice JA L.length jc)) (hl : Lst encJb 2 w B JA L) (ho : OwnN w base (.slice (some ⟨g, 0, none⟩) (m + 1) cap) (natI (List.range (m + 1)))) (hm : m + 1 < 4611686018427387904) :
    Calls Try.prog 67 #[.slice (some ⟨g, 0, none⟩) (m + 1) cap, .int .i64 0, .int .i64 ((m + 1 : Nat) : Int), .func (.func 44) #[] #[.pointer (some ⟨gj, 0, none⟩)]] w fun e w' =>
      e = .returned (.tuple #[]) ∧ ∃ ord, OrdTo (L.map JobM.p) (m + 1) ord ∧ OwnN w' base (.slice (some ⟨g, 0, none⟩) (m + 1) cap) (natI ord) ∧ w.grownBy w' (some g) := by
  have eg : ∀ args w, (callFunc 44 args).run Try.prog w = .ok (.enter 44 args) w := enters_of Try.func44 (by kernel_rfl) rfl
  have hgb := (World.ownsRow.lt ho g rfl).1
  have hgl := (World.ownsRow.lt ho g rfl).2
  have hrow : w.ownsRow base 3 1 (.slice (some ⟨g, 0, none⟩) (m + 1) cap) (m + 1) ((Array.ofFn (n := m + 1) id).toList.map encF) := by
    have h1 : World.ownsRow _ _ _ _ _ _ _ := ho
    rw [range_fin, fin_natI, ints_of_fin] at h1
    simpa using h1
  obtain ⟨g', cap', e1, _, _, _, _, _, hH⟩ := Lib.holds_of_ownsRow hrow (by simp)
  injection e1 with e1 _ e3
  injection e1 with e1
  injection e1 with e1
  subst e1
  rw [show (Array.ofFn (n := m + 1) id).toList.toArray = Array.ofFn id from Array.toArray_toList] at hH
  have hgrow : ∀ (q : Nat) (d : Array (Fin (m + 1))) (os : Array Obj), w.grownBy (grow (putRow encF (Sort.ahead w q) g 0 d) os) (some g) := fun q d os => by
    refine ⟨rfl, rfl, rfl, by simp, fun k hk hne => ?_⟩
    rw [heap_grow_old _ _ (by simpa using hk)]
    have : g ≠ k := fun e => hne (by rw [e])
    simp [putRow, mapBlock, Sort.ahead, Array.getElem?_modify, this]
  have hcmp : CmpReads Try.prog 44 #[.pointer (some ⟨gj, 0, none⟩)] encF (cfJ (L.map JobM.p)) g 0 (Array.ofFn (n := m + 1) id).size w := fun q os dk _ x y => by
    have hb : Below base w (sortWorld encF w g 0 q dk os) := (Below.refl _ w).grown (hgrow q dk os) (by omega) (fun k hk => by injection hk with hk; omega)
    exact cmpJ_any gj JA jc B L x.val y.val (by have := x.isLt; omega) (by have := y.isLt; omega) _ ((hb.cell (p := ⟨gj, 0, none⟩) hbase.1).trans h0) (hl.below (hb.mono hbase.2))
  have hsz : (Array.ofFn (n := m + 1) (id : Fin (m + 1) → Fin (m + 1))).size = m + 1 := by simp
  have hcon := Any.insertionSortCmpFunc_one Try.insI encF (fun _ => rfl) (cfJ (L.map JobM.p)) 44 #[.pointer (some ⟨gj, 0, none⟩)] g 0 cap 0 (m + 1) (Array.ofFn (n := m + 1) id) w eg hcmp hH (Nat.zero_le _) (by rw [hsz]; exact Nat.le_refl _) (by rw [hsz]; exact hm)
  change Calls Try.prog 67 _ _ _ at hcon
  rw [hsz] at hcon
  refine hcon.mono fun e w' ⟨he, q, hw⟩ => ⟨he, _, sort_ord (L.map JobM.p) m, ?_, ?_⟩
  · subst hw
    have hs := Lib.ownsRow_putRow (q := 0) (k := m + 1) (ys := (Sort.insertionSort (ltOf (cfJ (L.map JobM.p) (n := m + 1))) (Array.ofFn id) 0 (m + 1)).toList) hrow (by
      have := (sort_ord (L.map JobM.p) m).len
      simpa using this) (Nat.le_refl _)
    have hlen : (Sort.insertionSort (ltOf (cfJ (L.map JobM.p) (n := m + 1))) (Array.ofFn id) 0 (m + 1)).toList.length = m + 1 := by
      have := (sort_ord (L.map JobM.p) m).len
      simpa using this
    rw [List.take_of_length_le (by omega), Array.toArray_toList] at hs
    refine Own.drewN (n := q) ?_
    show World.ownsRow _ _ _ _ _ _ _
    rw [fin_natI, ints_of_fin, List.length_map, hlen]
    exact hs
  · subst hw
    have h1 := hgrow 0 (Sort.insertionSort (ltOf (cfJ (L.map JobM.p) (n := m + 1))) (Array.ofFn id) 0 (m + 1)) #[]
    rw [grow_empty] at h1
    exact h1.trans ⟨rfl, rfl, rfl, Nat.le_refl _, fun _ _ _ => rfl⟩
set_option maxHeartbeats 1000000 in
/-- Nothing to sort. -/
theorem insI_none (A : Option Addr) (cap : Nat) (fv : Value) (w : World) : Calls Try.prog 67 #[.slice A 0 cap, .int .i64 0, .int .i64 0, fv] w fun e w' => e = .returned (.tuple #[]) ∧ w' = w := by
  go_enter Try.func67, Try.ntmps67
  go_wp2_with fail
  go_loopg [8] 0 (fun g s8 wr => s8 = .int .i64 1 ∧ wr = w)
  case atStart => exact ⟨rfl, rfl⟩
  case round =>
    obtain ⟨rfl, hw⟩ := hrel
    have HW := Lib.hid hw
    clear hw
    go_wp2_with fail
    refine bodyPost_end (results_none rfl _ _ _) rfl ?_
    exact ⟨rfl, HW.out⟩
set_option maxHeartbeats 1000000 in
/-- At most 19: by insertion alone. -/
theorem stable_of (A : Option Addr) (n cap : Nat) (fv : Value) (w : World) (R : World → Prop) (hn : n ≤ 19) (h : Calls Try.prog 67 #[.slice A n cap, .int .i64 0, .int .i64 n, fv] w fun e w' => e = .returned (.tuple #[]) ∧ R w') :
    Calls Try.prog 57 #[.slice A n cap, .int .i64 n, fv] w fun e w' => e = .returned (.tuple #[]) ∧ R w' := by
  have n1 : ¬ (20 : Int) ≤ (n : Int) := by omega
  have n2 : ¬ (20 : Int) < (n : Int) := by omega
  have HI := Lib.hid h
  clear h
  go_enter Try.func57, Try.ntmps57
  go_wp2_with fail
  go_loopg [7, 8] 0 (fun g s7 s8 wr => s7 = .int .i64 0 ∧ s8 = .int .i64 20 ∧ wr = w)
  case atStart => exact ⟨rfl, rfl, rfl⟩
  case round =>
    obtain ⟨rfl, rfl, hw⟩ := hrel
    subst hw
    go_wp2_with (go_at_call 67; refine HI.out.mono ?_; rintro e w1 ⟨rfl, hR⟩)
    have HR := Lib.hid hR
    clear hR
    go_loopg [6] 0 (fun g s6 wr2 => s6 = .int .i64 20 ∧ wr2 = w1)
    case atStart => exact ⟨rfl, rfl⟩
    case round =>
      obtain ⟨rfl, hw⟩ := hrel
      have HW := Lib.hid hw
      clear hw
      go_wp2_with fail
      refine bodyPost_end (results_none rfl _ _ _) rfl ?_
      exact ⟨rfl, by rw [HW.out]; exact HR.out⟩
set_option maxHeartbeats 1000000 in
theorem sortStable_of (A : Option Addr) (n cap : Nat) (fv : Value) (w : World) (R : World → Prop) (hn : n ≤ 19) (h : Calls Try.prog 67 #[.slice A n cap, .int .i64 0, .int .i64 n, fv] w fun e w' => e = .returned (.tuple #[]) ∧ R w') :
    Calls Try.prog 43 #[.slice A n cap, fv] w fun e w' => e = .returned (.tuple #[]) ∧ R w' := by
  have HS := Lib.hid (stable_of A n cap fv w R hn h)
  clear h
  go_enter Try.func43, Try.ntmps43
  go_wp2_with (go_at_call 57; refine HS.out.mono ?_; rintro e w1 ⟨rfl, hR⟩)
  refine bodyPost_end (results_none rfl _ _ _) rfl ?_
  exact ⟨rfl, hR⟩
end Go.Proofs.Ytlillkfelfoafaa
