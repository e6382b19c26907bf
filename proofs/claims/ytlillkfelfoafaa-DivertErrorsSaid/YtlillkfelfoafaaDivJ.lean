/-
  Contract of common, of its iterator.
  Contract of divert's Meets: the cases without a look at the occupations.
  Contract of divert's Meets.
-/
import Derived.Test.YtlillkfelfoafaaDivH
import Derived.RangeFuncNested
import Derived.RangeFuncBound
import Derived.RangeFuncCalls
import Derived.RangeFuncLeaves
import Derived.RangeFuncBox
import Derived.Shelf.Abstract
import Derived.Shelf.RegionOpen
import Derived.OwnWalkIn
import Derived.TacticsInMore
import Derived.LoopNIn
import Derived.LoopIn
import Derived.StillTailTactics
import Derived.Deep.RegionHeld3
import Derived.Test.YtlillkfelfoafaaDivF
set_option linter.unusedVariables false
set_option linter.unusedSimpArgs false
namespace Go.Proofs.Ytlillkfelfoafaa
open Go.RowKit Go.Shelf RP

attribute [local go_sem] Oper.semAt_some

def upto {α : Type} (f : Nat → α) (k : Nat) : List α := (List.range k).map f
theorem upto_succ {α : Type} (f : Nat → α) (k : Nat) : upto f (k + 1) = upto f k ++ [f k] := by simp [upto, List.range_succ]
theorem upto_length {α : Type} (f : Nat → α) (k : Nat) : (upto f k).length = k := by simp [upto]
/-- What common hands out: two occupations of small numbers. -/
def smallO (o : Occ) : Prop := -65536 ≤ o.2.1 ∧ o.2.1 ≤ 65536 ∧ -65536 ≤ o.2.2 ∧ o.2.2 ≤ 65536
abbrev PR := { p : Occ × Occ // smallO p.1 ∧ smallO p.2 }
def encPR (x : PR) : Array Value := #[.agg #[.int .i64 x.1.1.1, .int .i64 x.1.1.2.1, .int .i64 x.1.1.2.2, .int .i64 x.1.2.1, .int .i64 x.1.2.2.1, .int .i64 x.1.2.2.2]]
theorem small_of {p : Int} {l : List Occ} (h : validO p l = true) : ∀ o ∈ l, smallO o := fun o ho => by
  have := validO_lt h o ho
  unfold smallO; omega
def prAt (a b : List Occ) (ha : ∀ o ∈ a, smallO o) (hb : ∀ o ∈ b, smallO o) (k : Nat) : PR := ⟨(pairsO a b).getD k ((0, 0, 0), (0, 0, 0)), by
  rw [List.getD_eq_getElem?_getD]
  cases e : (pairsO a b)[k]? with
  | none => exact ⟨by simp [smallO], by simp [smallO]⟩
  | some q =>
    have h := pairs_mem.1 (List.mem_of_getElem? e)
    exact ⟨ha _ h.1, hb _ (findO_some h.2).1⟩⟩
theorem prAt_val {a b : List Occ} {ha : ∀ o ∈ a, smallO o} {hb : ∀ o ∈ b, smallO o} {k : Nat} {x y : Occ} {r : List (Occ × Occ)} (h : (pairsO a b).drop k = (x, y) :: r) : (prAt a b ha hb k).1 = (x, y) := by
  show (pairsO a b).getD k _ = _
  have e : (pairsO a b)[k]? = some (x, y) := by
    have := congrArg (fun l => l[0]?) h
    simpa using this
  rw [List.getD_eq_getElem?_getD, e]; rfl
theorem drop_succ_of {α : Type} {l : List α} {k : Nat} {x : α} {r : List α} (h : l.drop k = x :: r) : k < l.length ∧ l.drop (k + 1) = r := by
  constructor
  · rcases Nat.lt_or_ge k l.length with h1 | h1
    · exact h1
    · rw [List.drop_of_length_le h1] at h; cases h
  · rw [← List.drop_drop, h]; rfl
theorem validO_drop {p : Int} {l : List Occ} (h : validO p l = true) (i : Nat) : ∃ q, validO q (l.drop i) = true := by
  rw [← List.take_append_drop i l, validO_append, Bool.and_eq_true] at h
  exact ⟨_, h.2⟩
/-- What a round keeps: what lies below n₀, and the two blocks that hold the lists. -/
def KpP (n₀ p q : Nat) (W W' : World) : Prop := Below n₀ W W' ∧ W'.heap[p]? = W.heap[p]? ∧ W'.heap[q]? = W.heap[q]?
theorem KpP.trans {n₀ p q : Nat} {A B C : World} (h : KpP n₀ p q A B) (h' : KpP n₀ p q B C) : KpP n₀ p q A C := ⟨h.1.trans h'.1, h'.2.1.trans h.2.1, h'.2.2.trans h.2.2⟩
theorem KpP.refl (n₀ p q : Nat) (W : World) : KpP n₀ p q W W := ⟨Below.refl _ _, rfl, rfl⟩
theorem KpP.drewN {n₀ p q : Nat} {A B : World} (h : KpP n₀ p q A B) (n : Nat) : KpP n₀ p q A (B.drewN n) := ⟨below_drewN h.1 n, h.2⟩
theorem kpP_b {w : World} {n₀ p q : Nat} (hn : n₀ ≤ w.heap.size) (hp : p < w.heap.size) (hq : q < w.heap.size) (W : World) (l : Nat) (o o' : Obj) (hl : w.heap.size ≤ l) (ho : W.heap[l]? = some o) (h1 : o.isCells = false) (h2 : o.isWalk = false) : KpP n₀ p q W (W.putObj l o') := by
  refine ⟨belowK_b (w := w) hn W l o o' hl ho h1 h2, ?_, ?_⟩
  · show (W.heap.setIfInBounds l o')[p]? = _
    rw [Array.getElem?_setIfInBounds_ne (by omega)]
  · show (W.heap.setIfInBounds l o')[q]? = _
    rw [Array.getElem?_setIfInBounds_ne (by omega)]
theorem abides_drewN {β : Type} {B : Nat} {J : β → World → Prop} (h : AbidesFrom B J) {s : β} {W : World} (hj : J s W) (n : Nat) : J s (W.drewN n) :=
  h s W _ none hj (grownBy_of_below (below_drewN (Below.refl W.heap.size W) n) none) (fun r e => by cases e)

theorem cmpQ (x y : Int) (W : World) : Calls Try.prog 45 #[.int .i64 x, .int .i64 y] W fun e w' => e = .returned (.int .i64 (Lib.compareInt x y)) ∧ ∃ q, w' = W.drewN q :=
  Calls.mono (AnyG.cmp_Compare_int Try.cmpInt x y W) fun e w' h => ⟨h.1, 0, h.2⟩

set_option maxRecDepth 100000 in
set_option maxHeartbeats 4000000 in
theorem common1_in (n : Nat) (hn : 1 ≤ n) (lp pa pb n₀ : Nat) (A : Option Addr) (c : Nat) (a : List Occ) (B : Option Addr) (d : Nat) (b : List Occ) (va : validO (-1) a = true) (vb : validO (-1) b = true) (la : a.length ≤ 9223372036854775807) (lb : b.length ≤ 9223372036854775807)
    (ha : ∀ o ∈ a, smallO o) (hb : ∀ o ∈ b, smallO o) (J Jx : List PR → World → Prop) (W : World) (hJ : AbidesFrom W.heap.size J)
    (hY : ∀ pre x W, J pre W → pre.length < (pairsO a b).length → YieldAt Fence.wide (n - 1) Try.prog lp (encPR x) W fun e W' =>
      (e = .returned (.bool true) ∧ J (pre ++ [x]) W' ∧ KpP n₀ pa pb W W') ∨ (e = .returned (.bool false) ∧ Jx (pre ++ [x]) W'))
    (hpa : W.cell? ⟨pa, 0, none⟩ = some (.slice A a.length c)) (hpb : W.cell? ⟨pb, 0, none⟩ = some (.slice B b.length d)) (hA : Lst encO 3 W n₀ A a) (hB : Lst encO 3 W n₀ B b) (h0 : J [] W) :
    CallsIn Fence.wide n Try.prog 56 #[.func (.yield lp) #[] #[], .pointer (some ⟨pa, 0, none⟩), .pointer (some ⟨pb, 0, none⟩)] W fun e W' => (∃ v, e = .returned v) ∧
      ((∃ ys, ys = upto (prAt a b ha hb) (pairsO a b).length ∧ J ys W') ∨ (∃ pre, (∃ k, k ≤ (pairsO a b).length ∧ pre = upto (prAt a b ha hb) k) ∧ Jx pre W')) := by
  have hro : Fence.wide.round = none := rfl
  refine callsIn_of_wp Try.func56 rfl trivial ?_ hro
  simp only [Try.ntmps56, List.size_toArray, List.length_cons, List.length_nil, Nat.reduceAdd, Nat.reduceSub, Array.replicate_succ, Array.replicate_zero, List.push_toArray, List.append_toArray, List.nil_append, List.cons_append]
  gi_wp2
  gi_loopw [4, 5] (fun i j wr => ∃ i' j' k : Nat, i = .int .i64 i' ∧ j = .int .i64 j' ∧ i' ≤ a.length ∧ j' ≤ b.length ∧ k ≤ (pairsO a b).length ∧ pairsO (a.drop i') (b.drop j') = (pairsO a b).drop k ∧ J (upto (prAt a b ha hb) k) wr ∧ KpP n₀ pa pb W wr)
    (fun i j _ => (a.length - (intOf i).toNat) + (b.length - (intOf j).toNat))
  case atStart => exact ⟨0, 0, 0, rfl, rfl, by omega, by omega, by omega, rfl, h0, KpP.refl _ _ _ _⟩
  case round =>
    obtain ⟨i, j, k, rfl, rfl, hi, hj, hk, hp, hJs, hkp⟩ := hrel
    have ca : wr.cell? ⟨pa, 0, none⟩ = some (.slice A a.length c) := (World.cell?_of_block (a := ⟨pa, 0, none⟩) hkp.2.1).trans hpa
    have cb : wr.cell? ⟨pb, 0, none⟩ = some (.slice B b.length d) := (World.cell?_of_block (a := ⟨pb, 0, none⟩) hkp.2.2).trans hpb
    by_cases h1 : i < a.length
    · by_cases h2 : j < b.length
      · obtain ⟨ab, aoff, rfl, hab, a0, a1, a2⟩ := (hA.below hkp.1).oc i h1
        obtain ⟨bb, boff, rfl, hbb, b0, b1, b2⟩ := (hB.below hkp.1).oc j h2
        have ea : a.drop i = a[i] :: a.drop (i + 1) := List.drop_eq_getElem_cons h1
        have eb : b.drop j = b[j] :: b.drop (j + 1) := List.drop_eq_getElem_cons h2
        obtain ⟨p1, v1⟩ := validO_drop va i
        obtain ⟨p2, v2⟩ := validO_drop vb j
        have HLT := Lib.hid (fun (h : a[i].1 < b[j].1) => show pairsO (a.drop (i + 1)) (b.drop j) = (pairsO a b).drop k by
          rw [eb] at v2 hp ⊢; rw [ea] at hp; rw [← hp]; exact (pairs_lt (p := 0) v2 h).symm)
        have HGT := Lib.hid (fun (h : b[j].1 < a[i].1) => show pairsO (a.drop i) (b.drop (j + 1)) = (pairsO a b).drop k by
          rw [ea] at v1 hp ⊢; rw [eb] at hp; rw [← hp]; exact (pairs_gt (q := 0) v1 h).symm)
        have HEQ := Lib.hid (fun (h : a[i].1 = b[j].1) => show (pairsO a b).drop k = (a[i], b[j]) :: pairsO (a.drop (i + 1)) (b.drop (j + 1)) by
          rw [ea] at v1 hp; rw [eb] at v2 hp; rw [← hp]; exact pairs_eq v1 v2 h)
        have HK := Lib.hid hkp
        have HJS := Lib.hid hJs
        have i0 : (0 : Int) ≤ (i : Int) := by omega
        have i1 : (i : Int) < (a.length : Int) := by omega
        have j0 : (0 : Int) ≤ (j : Int) := by omega
        have j1 : (j : Int) < (b.length : Int) := by omega
        clear ea eb v1 v2 hp hkp hJs
        generalize a[i] = x at *
        generalize b[j] = y at *
        obtain ⟨r, f, t⟩ := x
        obtain ⟨r', f', t'⟩ := y
        simp only at a0 a1 a2 b0 b1 b2 HLT HGT HEQ
        have hq := fun W => cmpQ r r' W
        by_cases c1 : r < r'
        · rw [show Lib.compareInt r r' = -1 from if_pos c1] at hq
          gi_wp2
          refine wpIn_wide.2 ?_
          go_quiet ((go_at_call 45; with_reducible exact Calls.quiet_of (hq _)))
          gi_wp2
          go_roundw
          case rel => exact ⟨i + 1, j, k, by go_num, rfl, by omega, by omega, by omega, HLT.out c1, abides_drewN hJ HJS.out nq, HK.out.drewN nq⟩
          case measure => simp [intOf]; omega
        · by_cases c2 : r' < r
          · rw [show Lib.compareInt r r' = 1 by unfold Lib.compareInt; rw [if_neg c1, if_pos c2]] at hq
            gi_wp2
            refine wpIn_wide.2 ?_
            go_quiet ((go_at_call 45; with_reducible exact Calls.quiet_of (hq _)))
            gi_wp2
            go_roundw
            case rel => exact ⟨i, j + 1, k, rfl, by go_num, by omega, by omega, by omega, HGT.out c2, abides_drewN hJ HJS.out nq, HK.out.drewN nq⟩
            case measure => simp [intOf]; omega
          · rw [show Lib.compareInt r r' = 0 by unfold Lib.compareInt; rw [if_neg c1, if_neg c2]] at hq
            have hd := HEQ.out (by show r = r'; omega)
            have hkl := drop_succ_of hd
            have hv := prAt_val (ha := ha) (hb := hb) hd
            gi_wp2
            refine wpIn_wide.2 ?_
            go_quiet ((go_at_call 45; with_reducible exact Calls.quiet_of (hq _)))
            gi_wp2
            obtain ⟨fn, tmps, assign, body, hy, hR⟩ := hY _ (prAt a b ha hb k) (wr.drewN nq).drew (abides_drewN (W := wr.drewN nq) hJ (abides_drewN hJ HJS.out nq) 1) (by rw [upto_length]; exact hkl.1)
            simp only [encPR, hv] at hy
            have HK2 := Lib.hid ((HK.out.drewN nq).drewN 1)
            have ca' : (wr.drewN nq).drew.cell? ⟨pa, 0, none⟩ = some (.slice (some ⟨ab, aoff, none⟩) a.length c) := ca
            have cb' : (wr.drewN nq).drew.cell? ⟨pb, 0, none⟩ = some (.slice (some ⟨bb, boff, none⟩) b.length d) := cb
            have a0' : (wr.drewN nq).drew.cell? ⟨ab, aoff + i * 3, none⟩ = some (.int .i64 r) := a0
            have a1' : (wr.drewN nq).drew.cell? ⟨ab, aoff + i * 3 + 1, none⟩ = some (.int .i64 f) := a1
            have a2' : (wr.drewN nq).drew.cell? ⟨ab, aoff + i * 3 + 2, none⟩ = some (.int .i64 t) := a2
            have b0' : (wr.drewN nq).drew.cell? ⟨bb, boff + j * 3, none⟩ = some (.int .i64 r') := b0
            have b1' : (wr.drewN nq).drew.cell? ⟨bb, boff + j * 3 + 1, none⟩ = some (.int .i64 f') := b1
            have b2' : (wr.drewN nq).drew.cell? ⟨bb, boff + j * 3 + 2, none⟩ = some (.int .i64 t') := b2
            clear ca cb a0 a1 a2 b0 b1 b2 hq
            generalize wr.drewN nq = wq at *
            have hR2 : RoundIn Fence.wide (n - 1) Try.prog lp fn tmps assign body wq.drew fun e W' => ∃ β : Bool, e = .returned (.bool β) ∧ ((β = true ∧ J (upto (prAt a b ha hb) k ++ [prAt a b ha hb k]) W' ∧ KpP n₀ pa pb wq.drew W') ∨ (β = false ∧ Jx (upto (prAt a b ha hb) k ++ [prAt a b ha hb k]) W')) := hR.mono (by
              rintro e W3 (⟨rfl, h3⟩ | ⟨rfl, h3⟩)
              · exact ⟨true, rfl, .inl ⟨rfl, h3⟩⟩
              · exact ⟨false, rfl, .inr ⟨rfl, h3⟩⟩)
            clear hR
            gi_region_with ((refine hR2.mono ?_; rintro e W3 ⟨β, rfl, hcase⟩))
            all_goals
              cases β with
              | true =>
                rcases hcase with ⟨_, hJ3, hk3⟩ | ⟨e, _⟩
                · have HJ3 := Lib.hid hJ3
                  have HK3 := Lib.hid (KpP.trans HK2.out hk3)
                  clear hJ3 hk3
                  gi_wp2
                  go_roundw
                  case rel => exact ⟨i + 1, j + 1, k + 1, by go_num, by go_num, by omega, by omega, hkl.1, hkl.2.symm, by rw [upto_succ]; exact HJ3.out, HK3.out⟩
                  case measure => simp [intOf]; omega
                · cases e
              | false =>
                rcases hcase with ⟨e, _⟩ | ⟨_, hJ3⟩
                · cases e
                · have HJ3 := Lib.hid hJ3
                  clear hJ3
                  gi_wp2
                  refine bodyPost_ret (results_none rfl _ _ _) rfl ?_
                  exact ⟨⟨_, rfl⟩, .inr ⟨_, ⟨k + 1, hkl.1, (upto_succ _ _).symm⟩, HJ3.out⟩⟩
      · have hk' : k = (pairsO a b).length := by
          rw [List.drop_of_length_le (show b.length ≤ j by omega), pairs_nil_right] at hp
          have := congrArg List.length hp
          rw [List.length_drop] at this
          simp at this; omega
        have i1 : (i : Int) < (a.length : Int) := by omega
        have j1 : (b.length : Int) ≤ (j : Int) := by omega
        have HJS := Lib.hid hJs
        have HK := Lib.hid hk'
        clear hp hJs hkp hk'
        gi_wp2
        go_end0
        exact ⟨⟨_, rfl⟩, .inl ⟨_, rfl, by rw [← HK.out]; exact HJS.out⟩⟩
    · have hk' : k = (pairsO a b).length := by
        rw [List.drop_of_length_le (show a.length ≤ i by omega), pairs_nil_left] at hp
        have := congrArg List.length hp
        rw [List.length_drop] at this
        simp at this; omega
      have i1 : (a.length : Int) ≤ (i : Int) := by omega
      have HJS := Lib.hid hJs
      have HK := Lib.hid hk'
      clear hp hJs hkp hk'
      gi_wp2
      go_end0
      exact ⟨⟨_, rfl⟩, .inl ⟨_, rfl, by rw [← HK.out]; exact HJS.out⟩⟩
end Go.Proofs.Ytlillkfelfoafaa

namespace Go.Proofs.Ytlillkfelfoafaa
open Go.RowKit RP

theorem results_cell1 {P : Program} {fn : Func} {p : Tmp} {ty : TypeId} (h : fn.results = #[.cell p ty]) (tmps : Array Value) (w : World) (g : Nat) (v : Value) (d : TypeDesc)
    (hp : tmps.getD p undef = .pointer (some ⟨g, 0, none⟩)) (hv : w.cell? ⟨g, 0, none⟩ = some v) (hu : P.underlying ty = some d) (hd : (match d with | .struct _ | .array _ _ => true | _ => false) = false) : (results fn tmps).run P w = .ok v w := by
  have hp' : tmps[p]?.getD undef = .pointer (some ⟨g, 0, none⟩) := by simpa using hp
  have hagg : (isAgg ty).run P w = .ok false w := by
    unfold isAgg
    rw [Sem.run_bind, run_underlying hu w]
    cases d <;> simp_all
  have hl : (loadVar ty ⟨g, 0, none⟩).run P w = .ok v w := by
    simp [loadVar, Sem.run_bind, hagg, hv, go_sem]
  simp [results, h, hp', asAddr, hl]

/-- What Meets lays first. -/
structure MBx (w0 w : World) (SA : Option Addr) (n sc : Nat) (OA : Option Addr) (m oc : Nat) (x : Int) (SA' : Option Addr) (n' sc' : Nat) (OA' : Option Addr) (m' oc' : Nat) (y : Int) : Prop where
  b0 : w0.heap[w.heap.size]? = some (.cells #[.slice SA n sc, .slice OA m oc] 28 (0, 0))
  b1 : w0.heap[w.heap.size + 1]? = some (.cells #[.int .i64 x] 3 (0, 0))
  b2 : w0.heap[w.heap.size + 2]? = some (.cells #[.slice SA' n' sc', .slice OA' m' oc'] 28 (0, 0))
  b3 : w0.heap[w.heap.size + 3]? = some (.cells #[.int .i64 y] 3 (0, 0))
  b4 : w0.heap[w.heap.size + 4]? = some (.cells #[.bool false] 4 (0, 0))
  bel : Below w.heap.size w w0
  size : w0.heap.size = w.heap.size + 5
def mW (w : World) (SA : Option Addr) (n sc : Nat) (OA : Option Addr) (m oc : Nat) (x : Int) (SA' : Option Addr) (n' sc' : Nat) (OA' : Option Addr) (m' oc' : Nat) (y : Int) : World :=
  ((((w.alloc (.cells #[.slice SA n sc, .slice OA m oc] 28)).alloc (.cells #[.int .i64 x] 3)).alloc (.cells #[.slice SA' n' sc', .slice OA' m' oc'] 28)).alloc (.cells #[.int .i64 y] 3)).alloc (.cells #[.bool false] 4)
theorem mBx (w : World) (SA : Option Addr) (n sc : Nat) (OA : Option Addr) (m oc : Nat) (x : Int) (SA' : Option Addr) (n' sc' : Nat) (OA' : Option Addr) (m' oc' : Nat) (y : Int) : MBx (mW w SA n sc OA m oc x SA' n' sc' OA' m' oc' y) w SA n sc OA m oc x SA' n' sc' OA' m' oc' y := by
  unfold mW
  have s1 : ∀ (W : World) (o : Obj), (W.alloc o).heap.size = W.heap.size + 1 := fun W o => by simp
  refine ⟨?_, ?_, ?_, ?_, ?_, ?_, ?_⟩
  · rw [Below.heap_alloc _ _ _ (by simp only [s1]; omega), Below.heap_alloc _ _ _ (by simp only [s1]; omega), Below.heap_alloc _ _ _ (by simp only [s1]; omega), Below.heap_alloc _ _ _ (by simp only [s1]; omega)]
    exact heap_alloc_new w _
  · rw [Below.heap_alloc _ _ _ (by simp only [s1]; omega), Below.heap_alloc _ _ _ (by simp only [s1]; omega), Below.heap_alloc _ _ _ (by simp only [s1]; omega)]
    have := heap_alloc_new (w.alloc (.cells #[.slice SA n sc, .slice OA m oc] 28)) (.cells #[.int .i64 x] 3)
    rwa [s1] at this
  · rw [Below.heap_alloc _ _ _ (by simp only [s1]; omega), Below.heap_alloc _ _ _ (by simp only [s1]; omega)]
    have := heap_alloc_new ((w.alloc (.cells #[.slice SA n sc, .slice OA m oc] 28)).alloc (.cells #[.int .i64 x] 3)) (.cells #[.slice SA' n' sc', .slice OA' m' oc'] 28)
    rwa [s1, s1] at this
  · rw [Below.heap_alloc _ _ _ (by simp only [s1]; omega)]
    have := heap_alloc_new (((w.alloc (.cells #[.slice SA n sc, .slice OA m oc] 28)).alloc (.cells #[.int .i64 x] 3)).alloc (.cells #[.slice SA' n' sc', .slice OA' m' oc'] 28)) (.cells #[.int .i64 y] 3)
    rwa [s1, s1, s1] at this
  · have := heap_alloc_new ((((w.alloc (.cells #[.slice SA n sc, .slice OA m oc] 28)).alloc (.cells #[.int .i64 x] 3)).alloc (.cells #[.slice SA' n' sc', .slice OA' m' oc'] 28)).alloc (.cells #[.int .i64 y] 3)) (.cells #[.bool false] 4)
    rwa [s1, s1, s1, s1] at this
  · exact (((((Below.refl _ w).alloc (Nat.le_refl _) _).alloc (by simp only [s1]; omega) _).alloc (by simp only [s1]; omega) _).alloc (by simp only [s1]; omega) _).alloc (by simp only [s1]; omega) _
  · simp only [s1]
/-- The cells that Meets reads. -/
structure MCl (w : World) (gz g1 g2 g3 g4 : Nat) (SA : Option Addr) (n sc : Nat) (OA : Option Addr) (m oc : Nat) (x : Int) (SA' : Option Addr) (n' sc' : Nat) (OA' : Option Addr) (m' oc' : Nat) (y : Int) : Prop where
  a0 : w.cell? ⟨gz, 0, none⟩ = some (.slice SA n sc)
  a1 : w.cell? ⟨gz, 1, none⟩ = some (.slice OA m oc)
  x0 : w.cell? ⟨g1, 0, none⟩ = some (.int .i64 x)
  c0 : w.cell? ⟨g2, 0, none⟩ = some (.slice SA' n' sc')
  c1 : w.cell? ⟨g2, 1, none⟩ = some (.slice OA' m' oc')
  y0 : w.cell? ⟨g3, 0, none⟩ = some (.int .i64 y)
  r0 : w.cell? ⟨g4, 0, none⟩ = some (.bool false)
  f0 : w.frozen? ⟨g4, 0, none⟩ = false
  k4 : w.heap[g4]? = some (.cells #[.bool false] 4 (0, 0))
  k1 : w.heap[g1]? = some (.cells #[.int .i64 x] 3 (0, 0))
  k3 : w.heap[g3]? = some (.cells #[.int .i64 y] 3 (0, 0))
theorem MBx.cells {w0 w w' : World} {B n sc m oc n' sc' m' oc' : Nat} {SA OA SA' OA' : Option Addr} {x y : Int} (h : MBx w0 w SA n sc OA m oc x SA' n' sc' OA' m' oc' y) (hb : Below B w0 w') (hB : w.heap.size + 4 < B) : MCl w' w.heap.size (w.heap.size + 1) (w.heap.size + 1 + 1) (w.heap.size + 1 + 1 + 1) (w.heap.size + 1 + 1 + 1 + 1) SA n sc OA m oc x SA' n' sc' OA' m' oc' y := by
  have k0 := (hb.block _ (show w.heap.size < B by omega)).trans h.b0
  have k1 := (hb.block _ (show w.heap.size + 1 < B by omega)).trans h.b1
  have k2 := (hb.block _ (show w.heap.size + 2 < B by omega)).trans h.b2
  have k3 := (hb.block _ (show w.heap.size + 3 < B by omega)).trans h.b3
  have k4 : w'.heap[w.heap.size + 1 + 1 + 1 + 1]? = _ := (hb.block _ hB).trans h.b4
  exact ⟨by rw [cell_of_row w' _ 0 _ _ _ k0]; rfl, by rw [cell_of_row w' _ 1 _ _ _ k0]; rfl, by rw [cell_of_row w' _ 0 _ _ _ k1]; rfl, (cell_of_row w' _ 0 _ _ _ k2).trans rfl, (cell_of_row w' _ 1 _ _ _ k2).trans rfl,
    (cell_of_row w' _ 0 _ _ _ k3).trans rfl, by rw [cell_of_row w' _ 0 _ _ _ k4]; rfl, by simp [World.frozen?, k4], k4, k1, k3⟩
theorem cell_set_self {w : World} {g : Nat} {v u : Value} {t : TypeId} {fr : Nat × Nat} (h : w.heap[g]? = some (.cells #[u] t fr)) : (w.setCell ⟨g, 0, none⟩ v).cell? ⟨g, 0, none⟩ = some v := by
  have := set_block' (o := 0) v h
  rw [cell_of_row _ g 0 _ _ _ this]; rfl
set_option maxRecDepth 100000 in
set_option maxHeartbeats 8000000 in
theorem dMeetsNo (SA : Option Addr) (sc : Nat) (st : List Ste) (OA : Option Addr) (oc : Nat) (os : List Occ) (x : Int) (SA' : Option Addr) (sc' : Nat) (st' : List Ste) (OA' : Option Addr) (oc' : Nat) (os' : List Occ) (y : Int) (w : World)
    (hs : Lst encSte 2 w w.heap.size SA st) (ho : Lst encO 3 w w.heap.size OA os) (hn : st.length ≤ 9223372036854775807) (hn' : os.length ≤ 9223372036854775807)
    (hs' : Lst encSte 2 w w.heap.size SA' st') (ho' : Lst encO 3 w w.heap.size OA' os') (hm : st'.length ≤ 9223372036854775807) (hm' : os'.length ≤ 9223372036854775807)
    (hbad : ¬ (validOp ⟨st, os⟩ = true ∧ validOp ⟨st', os'⟩ = true ∧ bigB x = true ∧ bigB y = true)) :
    Calls Try.prog 18 #[.agg #[.slice SA st.length sc, .slice OA os.length oc], .int .i64 x, .agg #[.slice SA' st'.length sc', .slice OA' os'.length oc'], .int .i64 y] w fun e w' => e = .returned (.bool (meetB ⟨st, os⟩ x ⟨st', os'⟩ y)) ∧ Below w.heap.size w w' := by
  obtain ⟨w0', hw0⟩ : ∃ V, V = mW w SA st.length sc OA os.length oc x SA' st'.length sc' OA' os'.length oc' y := ⟨_, rfl⟩
  have hbx := mBx w SA st.length sc OA os.length oc x SA' st'.length sc' OA' os'.length oc' y
  have HQ := Lib.hid (show meetB ⟨st, os⟩ x ⟨st', os'⟩ y = false by
    rw [← Bool.not_eq_true]
    intro h
    unfold meetB at h
    simp only [Bool.and_eq_true] at h
    exact hbad ⟨h.1.1, h.1.2, h.2.1.1, h.2.1.2⟩)
  rw [← hw0] at hbx
  have HW0 := Lib.hid hw0
  clear hw0
  have HBAD := Lib.hid hbad
  have hbl := hbx.bel
  have hsz := hbx.size
  have HS := Lib.hid (hs.belowMore hbl hbl.size)
  have HO := Lib.hid (ho.belowMore hbl hbl.size)
  have HS' := Lib.hid (hs'.belowMore hbl hbl.size)
  have HO' := Lib.hid (ho'.belowMore hbl hbl.size)
  have HBX := Lib.hid hbx
  have HBE := Lib.hid hbl
  clear hs ho hs' ho' hbad hbl hbx
  have HCL := Lib.hid (fun w' (hb : Below w0'.heap.size w0' w') => HBX.out.cells hb (by omega))
  go_enter Try.func18, Try.ntmps18
  go_upto_region 1 with fail
  change Code.wp _ _ _ _ (mW w SA st.length sc OA os.length oc x SA' st'.length sc' OA' os'.length oc' y)
  rw [← HW0.out]
  generalize hgz : w.heap.size = gz at *
  have HGZ := Lib.hid hgz
  generalize h4 : gz + 1 + 1 + 1 + 1 = g4 at *
  generalize h3 : gz + 1 + 1 + 1 = g3 at *
  generalize h2 : gz + 1 + 1 = g2 at *
  generalize h1 : gz + 1 = g1 at *
  have HG4 : Hid (gz ≤ g4) := by show gz ≤ g4; omega
  clear h1 h2 h3 h4 hgz hsz HBX HW0
  obtain ⟨n0, n1, n2, n3, n4, n5, n6, n7, n8, _, _⟩ := HCL.out w0' (Below.refl _ _)
  have hva := dvalid_any SA sc st OA oc os w0' HS.out HO.out hn hn'
  have HVB := Lib.hid (fun V (b : Below w0'.heap.size w0' V) => dvalid_any SA' sc' st' OA' oc' os' V (HS'.out.belowMore b b.size) (HO'.out.belowMore b b.size) hm hm')
  cases hv : validOp ⟨st, os⟩ with
  | false =>
    rw [hv] at hva
    clear HBAD hv
    go_wp2_with (first | (go_at_call 33; first | ((with_reducible refine hva.mono ?_); rintro e w1 ⟨rfl, hb1⟩; obtain ⟨p0, p1, p2, p3, p4, p5, p6, p7, p8, _, _⟩ := HCL.out w1 hb1) | ((with_reducible refine (HVB.out _ hb1).mono ?_); rintro e w2 ⟨rfl, hb2⟩; replace hb1 := hb1.trans (hb2.mono hb1.size); obtain ⟨q0, q1, q2, q3, q4, q5, q6, q7, q8, _, _⟩ := HCL.out w2 hb1)))
    refine bodyPost_ret (results_cell1 rfl _ _ g4 (.bool false) _ rfl (cell_set_self (by assumption)) Try.underlying4 rfl) rfl ?_
    exact ⟨ret_bool HQ.out.symm, by rw [HGZ.out]; exact (HBE.out.trans (hb1.mono (by have := HBE.out.size; have := HGZ.out; omega))).setCell (p := ⟨g4, 0, none⟩) HG4.out _⟩
  | true =>
    rw [hv] at hva HBAD
    cases hv' : validOp ⟨st', os'⟩ with
    | false =>
      rw [hv'] at HVB
      clear HBAD hv hv'
      go_wp2_with (first | (go_at_call 33; first | ((with_reducible refine hva.mono ?_); rintro e w1 ⟨rfl, hb1⟩; obtain ⟨p0, p1, p2, p3, p4, p5, p6, p7, p8, _, _⟩ := HCL.out w1 hb1) | ((with_reducible refine (HVB.out _ hb1).mono ?_); rintro e w2 ⟨rfl, hb2⟩; replace hb1 := hb1.trans (hb2.mono hb1.size); obtain ⟨q0, q1, q2, q3, q4, q5, q6, q7, q8, _, _⟩ := HCL.out w2 hb1)))
      refine bodyPost_ret (results_cell1 rfl _ _ g4 (.bool false) _ rfl (cell_set_self (by assumption)) Try.underlying4 rfl) rfl ?_
      exact ⟨ret_bool HQ.out.symm, by rw [HGZ.out]; exact (HBE.out.trans (hb1.mono (by have := HBE.out.size; have := HGZ.out; omega))).setCell (p := ⟨g4, 0, none⟩) HG4.out _⟩
    | true =>
      rw [hv'] at HVB HBAD
      have HB2 := Lib.hid (show ¬ ((0 ≤ x ∧ x ≤ 1099511627776) ∧ 0 ≤ y ∧ y ≤ 1099511627776) from fun h => HBAD.out ⟨rfl, rfl, bigB_iff.2 h.1, bigB_iff.2 h.2⟩)
      clear HBAD hv hv'
      by_cases q0 : x < 0
      · go_wp2_with (first | (go_at_call 33; first | ((with_reducible refine hva.mono ?_); rintro e w1 ⟨rfl, hb1⟩; obtain ⟨p0, p1, p2, p3, p4, p5, p6, p7, p8, _, _⟩ := HCL.out w1 hb1) | ((with_reducible refine (HVB.out _ hb1).mono ?_); rintro e w2 ⟨rfl, hb2⟩; replace hb1 := hb1.trans (hb2.mono hb1.size); obtain ⟨q0, q1, q2, q3, q4, q5, q6, q7, q8, _, _⟩ := HCL.out w2 hb1)))
        refine bodyPost_ret (results_cell1 rfl _ _ g4 (.bool false) _ rfl (cell_set_self (by assumption)) Try.underlying4 rfl) rfl ?_
        exact ⟨ret_bool HQ.out.symm, by rw [HGZ.out]; exact (HBE.out.trans (hb1.mono (by have := HBE.out.size; have := HGZ.out; omega))).setCell (p := ⟨g4, 0, none⟩) HG4.out _⟩
      · by_cases q1 : 1099511627776 < x
        · go_wp2_with (first | (go_at_call 33; first | ((with_reducible refine hva.mono ?_); rintro e w1 ⟨rfl, hb1⟩; obtain ⟨p0, p1, p2, p3, p4, p5, p6, p7, p8, _, _⟩ := HCL.out w1 hb1) | ((with_reducible refine (HVB.out _ hb1).mono ?_); rintro e w2 ⟨rfl, hb2⟩; replace hb1 := hb1.trans (hb2.mono hb1.size); obtain ⟨q0, q1, q2, q3, q4, q5, q6, q7, q8, _, _⟩ := HCL.out w2 hb1)))
          refine bodyPost_ret (results_cell1 rfl _ _ g4 (.bool false) _ rfl (cell_set_self (by assumption)) Try.underlying4 rfl) rfl ?_
          exact ⟨ret_bool HQ.out.symm, by rw [HGZ.out]; exact (HBE.out.trans (hb1.mono (by have := HBE.out.size; have := HGZ.out; omega))).setCell (p := ⟨g4, 0, none⟩) HG4.out _⟩
        · by_cases q2 : y < 0
          · go_wp2_with (first | (go_at_call 33; first | ((with_reducible refine hva.mono ?_); rintro e w1 ⟨rfl, hb1⟩; obtain ⟨p0, p1, p2, p3, p4, p5, p6, p7, p8, _, _⟩ := HCL.out w1 hb1) | ((with_reducible refine (HVB.out _ hb1).mono ?_); rintro e w2 ⟨rfl, hb2⟩; replace hb1 := hb1.trans (hb2.mono hb1.size); obtain ⟨q0, q1, q2, q3, q4, q5, q6, q7, q8, _, _⟩ := HCL.out w2 hb1)))
            refine bodyPost_ret (results_cell1 rfl _ _ g4 (.bool false) _ rfl (cell_set_self (by assumption)) Try.underlying4 rfl) rfl ?_
            exact ⟨ret_bool HQ.out.symm, by rw [HGZ.out]; exact (HBE.out.trans (hb1.mono (by have := HBE.out.size; have := HGZ.out; omega))).setCell (p := ⟨g4, 0, none⟩) HG4.out _⟩
          · have q3 : 1099511627776 < y := by have := HB2.out; omega
            go_wp2_with (first | (go_at_call 33; first | ((with_reducible refine hva.mono ?_); rintro e w1 ⟨rfl, hb1⟩; obtain ⟨p0, p1, p2, p3, p4, p5, p6, p7, p8, _, _⟩ := HCL.out w1 hb1) | ((with_reducible refine (HVB.out _ hb1).mono ?_); rintro e w2 ⟨rfl, hb2⟩; replace hb1 := hb1.trans (hb2.mono hb1.size); obtain ⟨q0, q1, q2, q3, q4, q5, q6, q7, q8, _, _⟩ := HCL.out w2 hb1)))
            refine bodyPost_ret (results_cell1 rfl _ _ g4 (.bool false) _ rfl (cell_set_self (by assumption)) Try.underlying4 rfl) rfl ?_
            exact ⟨ret_bool HQ.out.symm, by rw [HGZ.out]; exact (HBE.out.trans (hb1.mono (by have := HBE.out.size; have := HGZ.out; omega))).setCell (p := ⟨g4, 0, none⟩) HG4.out _⟩
end Go.Proofs.Ytlillkfelfoafaa

namespace Go.Proofs.Ytlillkfelfoafaa
open Go.RowKit Go.Shelf RP

attribute [local go_sem] Oper.semAt_some

set_option maxRecDepth 100000 in
set_option maxHeartbeats 1000000 in
theorem common_any (A : Option Addr) (n c : Nat) (B : Option Addr) (m d : Nat) (w : World) : Calls Try.prog 39 #[.slice A n c, .slice B m d] w fun e w' =>
    e = .returned (.func (.func 56) #[] #[.pointer (some ⟨w.heap.size, 0, none⟩), .pointer (some ⟨w.heap.size + 1, 0, none⟩)]) ∧ w' = (w.alloc (.cells #[.slice A n c] 26)).alloc (.cells #[.slice B m d] 26) := by
  go_enter Try.func39, Try.ntmps39
  go_wp2_with fail
  go_ret
  exact ⟨rfl, rfl⟩
theorem common_stops (n : Nat) (hn : 1 ≤ n) (pa pb n₀ : Nat) (A : Option Addr) (c : Nat) (a : List Occ) (B : Option Addr) (d : Nat) (b : List Occ) (va : validO (-1) a = true) (vb : validO (-1) b = true) (la : a.length ≤ 9223372036854775807) (lb : b.length ≤ 9223372036854775807)
    (w : World) (hn₀ : n₀ ≤ w.heap.size) (hpl : pa < w.heap.size) (hql : pb < w.heap.size) (hpa : w.cell? ⟨pa, 0, none⟩ = some (.slice A a.length c)) (hpb : w.cell? ⟨pb, 0, none⟩ = some (.slice B b.length d)) (hA : Lst encO 3 w n₀ A a) (hB : Lst encO 3 w n₀ B b) :
    SeqStopsK Fence.wide n Try.prog 56 #[.pointer (some ⟨pa, 0, none⟩), .pointer (some ⟨pb, 0, none⟩)] encPR (KpP n₀ pa pb) (fun ys => ys = upto (prAt a b (small_of va) (small_of vb)) (pairsO a b).length) (fun pre => ∃ k, k ≤ (pairsO a b).length ∧ pre = upto (prAt a b (small_of va) (small_of vb)) k) (pairsO a b).length w := fun lp J Jx W hW hJ _ hY h0 =>
  common1_in n hn lp pa pb n₀ A c a B d b va vb la lb (small_of va) (small_of vb) J Jx W hJ hY ((hW.cell (p := ⟨pa, 0, none⟩) hpl).trans hpa) ((hW.cell (p := ⟨pb, 0, none⟩) hql).trans hpb) (hA.below (hW.mono hn₀)) (hB.below (hW.mono hn₀)) h0

/-- What the rounds of Meets keep. -/
def MI (w : World) (N gz g1 g3 g4 : Nat) (x y : Int) (res : Bool) (W : World) : Prop := (((Boxed W g1 3 (.int .i64 x) ∧ Boxed W g3 3 (.int .i64 y)) ∧ Boxed W g4 4 (.bool res)) ∧ Below gz w W) ∧ N ≤ W.heap.size
theorem ownFrom_size {β : Type} (B N : Nat) : OwnFrom B (fun (_ : β) W => N ≤ W.heap.size) := fun _ _ _ _ hs hg _ => Nat.le_trans hs hg.size
theorem mi_own {w : World} {N gz g1 g3 g4 : Nat} {x y : Int} {res : Bool} (h1 : gz ≤ w.heap.size) (h2 : gz ≤ N) : OwnFrom N (fun (_ : List PR) W => MI w N gz g1 g3 g4 x y res W) :=
  OwnFrom.and (OwnFrom.and (OwnFrom.and (OwnFrom.and (Go.Own.from (boxed_own g1 3 (fun _ => .int .i64 x)) _) (Go.Own.from (boxed_own g3 3 (fun _ => .int .i64 y)) _)) (Go.Own.from (boxed_own g4 4 (fun _ => .bool res)) _)) (ownFrom_below h1 h2)) (ownFrom_size _ _)
def tchP (x y : Int) (p : PR) : Bool := touchB p.1.1 p.1.2 x y
def AnyT (x y : Int) (b : Bool) (pre : List PR) : Prop := pre.any (tchP x y) = b
theorem AnyT.snoc {x y : Int} {b : Bool} {pre : List PR} {p : PR} (h : AnyT x y false pre) (hp : tchP x y p = b) : AnyT x y b (pre ++ [p]) := by
  unfold AnyT at *; rw [List.any_append, h]; simp [hp]
theorem any_upto (a b : List Occ) (ha : ∀ o ∈ a, smallO o) (hb : ∀ o ∈ b, smallO o) (q : Occ × Occ → Bool) : ∀ k, k ≤ (pairsO a b).length → (upto (prAt a b ha hb) k).any (fun p => q p.1) = ((pairsO a b).take k).any q := fun k => by
  induction k with
  | zero => intro _; rfl
  | succ k ih =>
    intro hk
    rw [upto_succ, List.any_append, ih (by omega), List.take_succ_eq_append_getElem (by omega), List.any_append]
    congr 1
    simp only [List.any_cons, List.any_nil, Bool.or_false]
    show q ((pairsO a b).getD k _) = _
    rw [List.getD_eq_getElem?_getD, List.getElem?_eq_getElem (by omega)]; rfl
theorem MI.alloc {w W : World} {N gz g1 g3 g4 : Nat} {x y : Int} {res : Bool} (h : MI w N gz g1 g3 g4 x y res W) (hg : gz ≤ N) (o : Obj) : MI w N gz g1 g3 g4 x y res (W.alloc o) :=
  ⟨⟨⟨⟨h.1.1.1.1.alloc o, h.1.1.1.2.alloc o⟩, h.1.1.2.alloc o⟩, h.1.2.alloc (Nat.le_trans hg h.2) o⟩, by have := h.2; simp; omega⟩
theorem MI.set {w W : World} {N gz g1 g3 g4 : Nat} {x y : Int} {res : Bool} (h : MI w N gz g1 g3 g4 x y res W) (h1 : g1 ≠ g4) (h3 : g3 ≠ g4) (hg : gz ≤ g4) (res' : Bool) : MI w N gz g1 g3 g4 x y res' (W.setCell ⟨g4, 0, none⟩ (.bool res')) :=
  ⟨⟨⟨⟨h.1.1.1.1.other h1 _, h.1.1.1.2.other h3 _⟩, h.1.1.2.set _⟩, h.1.2.setCell (p := ⟨g4, 0, none⟩) hg _⟩, by have := h.2; simpa [World.setCell] using this⟩
theorem any_snoc {α : Type} (l : List α) (a : α) (p : α → Bool) : (l ++ [a]).any p = (l.any p || p a) := by simp
/-- What the result is where the marks are shut. -/
theorem mret {W : World} {N gz g1 g3 g4 D : Nat} {w : World} {x y : Int} {res : Bool} (h : MI w N gz g1 g3 g4 x y res W) (hgN : g4 < N) (hgz : gz ≤ N) (hD : N ≤ D) {o o' : Obj} (hk : W.heap[D]? = some o) (hc : o.isCells = false) (hw : o.isWalk = false) {fn : Func} {p : Tmp} (hf : fn.results = #[.cell p 4]) (tmps : Array Value) (hp : tmps.getD p undef = .pointer (some ⟨g4, 0, none⟩)) :
    (results fn tmps).run Try.prog (W.putObj D o') = .ok (.bool res) (W.putObj D o') ∧ Below gz w (W.putObj D o') := by
  have hb : Below N W (W.putObj D o') := by
    refine (Below.refl N W).grown (grownBy_putObj' W D o') h.2 (fun k e => by cases e; omega)
  refine ⟨results_cell1 hf _ _ g4 (.bool res) _ hp ((hb.cell (p := ⟨g4, 0, none⟩) hgN).trans h.1.1.2.cell) Try.underlying4 rfl, h.1.2.trans (hb.mono hgz)⟩

set_option maxRecDepth 100000 in
set_option maxHeartbeats 8000000 in
theorem dMeetsYes (SA : Option Addr) (sc : Nat) (st : List Ste) (OA : Option Addr) (oc : Nat) (os : List Occ) (x : Int) (SA' : Option Addr) (sc' : Nat) (st' : List Ste) (OA' : Option Addr) (oc' : Nat) (os' : List Occ) (y : Int) (w : World)
    (hs : Lst encSte 2 w w.heap.size SA st) (ho : Lst encO 3 w w.heap.size OA os) (hn : st.length ≤ 9223372036854775807) (hn' : os.length ≤ 9223372036854775807)
    (hs' : Lst encSte 2 w w.heap.size SA' st') (ho' : Lst encO 3 w w.heap.size OA' os') (hm : st'.length ≤ 9223372036854775807) (hm' : os'.length ≤ 9223372036854775807)
    (hv : validOp ⟨st, os⟩ = true) (hv' : validOp ⟨st', os'⟩ = true) (hx : 0 ≤ x ∧ x ≤ 1099511627776) (hy : 0 ≤ y ∧ y ≤ 1099511627776) :
    Calls Try.prog 18 #[.agg #[.slice SA st.length sc, .slice OA os.length oc], .int .i64 x, .agg #[.slice SA' st'.length sc', .slice OA' os'.length oc'], .int .i64 y] w fun e w' => e = .returned (.bool (meetB ⟨st, os⟩ x ⟨st', os'⟩ y)) ∧ Below w.heap.size w w' := by
  have HQ := Lib.hid (show meetB ⟨st, os⟩ x ⟨st', os'⟩ y = (pairsO os os').any fun p => touchB p.1 p.2 x y by
    rw [← meet_pairs (a := ⟨st, os⟩) (b := ⟨st', os'⟩) hv']
    unfold meetB
    rw [hv, hv', bigB_iff.2 hx, bigB_iff.2 hy]; rfl)
  have HVA := Lib.hid (validOp_iff.1 hv).2.2.1
  have HVB' := Lib.hid (validOp_iff.1 hv').2.2.1
  obtain ⟨w0', hw0⟩ : ∃ V, V = mW w SA st.length sc OA os.length oc x SA' st'.length sc' OA' os'.length oc' y := ⟨_, rfl⟩
  have hbx := mBx w SA st.length sc OA os.length oc x SA' st'.length sc' OA' os'.length oc' y
  rw [← hw0] at hbx
  have HW0 := Lib.hid hw0
  clear hw0
  have hbl := hbx.bel
  have hsz := hbx.size
  have HS := Lib.hid (hs.belowMore hbl hbl.size)
  have HO := Lib.hid (ho.belowMore hbl hbl.size)
  have HS' := Lib.hid (hs'.belowMore hbl hbl.size)
  have HO' := Lib.hid (ho'.belowMore hbl hbl.size)
  have HOA := Lib.hid (ho.below hbl)
  have HOB := Lib.hid (ho'.below hbl)
  have HBX := Lib.hid hbx
  have HBE := Lib.hid hbl
  clear hs ho hs' ho' hbl hbx
  have HCL := Lib.hid (fun w' (hb : Below w0'.heap.size w0' w') => HBX.out.cells hb (by omega))
  have hro : Fence.wide.round = none := rfl
  refine (callsIn_wide (n := 6)).1 ?_
  refine callsIn_of_wp_marks Try.func18 rfl trivial ?_ hro
  refine wpIn_wide.2 ?_
  simp only [Try.ntmps18, List.size_toArray, List.length_cons, List.length_nil, Nat.reduceAdd, Nat.reduceSub, Array.replicate_succ, Array.replicate_zero, List.push_toArray, List.append_toArray, List.nil_append, List.cons_append]
  go_upto_region 1 with fail
  change Code.wp _ _ _ _ (mW w SA st.length sc OA os.length oc x SA' st'.length sc' OA' os'.length oc' y)
  rw [← HW0.out]
  generalize hgz : w.heap.size = gz at *
  have HGZ := Lib.hid hgz
  generalize h4 : gz + 1 + 1 + 1 + 1 = g4 at *
  generalize h3 : gz + 1 + 1 + 1 = g3 at *
  generalize h2 : gz + 1 + 1 = g2 at *
  generalize h1 : gz + 1 = g1 at *
  have hg4 : gz < g1 ∧ g1 < g2 ∧ g2 < g3 ∧ g3 < g4 ∧ g4 < w0'.heap.size := by omega
  clear h1 h2 h3 h4 hgz hsz HBX HW0
  obtain ⟨n0, n1, n2, n3, n4, n5, n6, n7, n8, _, _⟩ := HCL.out w0' (Below.refl _ _)
  have hva := dvalid_any SA sc st OA oc os w0' HS.out HO.out hn hn'
  have HVB := Lib.hid (fun V (b : Below w0'.heap.size w0' V) => dvalid_any SA' sc' st' OA' oc' os' V (HS'.out.belowMore b b.size) (HO'.out.belowMore b b.size) hm hm')
  rw [hv] at hva
  rw [hv'] at HVB
  clear hv hv'
  go_wp2_with (first | (go_at_call 33; first | ((with_reducible refine hva.mono ?_); rintro e w1 ⟨rfl, hb1⟩; obtain ⟨p0, p1, p2, p3, p4, p5, p6, p7, p8, _, _⟩ := HCL.out w1 hb1) | ((with_reducible refine (HVB.out _ hb1).mono ?_); rintro e w2 ⟨rfl, hb2⟩; replace hb1 := hb1.trans (hb2.mono hb1.size); obtain ⟨q0, q1, q2, q3, q4, q5, q6, q7, q8, _, _⟩ := HCL.out w2 hb1)) | (go_at_call 39; refine (common_any _ _ _ _ _ _ _).mono ?_; rintro e w3 ⟨rfl, hw3⟩))
  have d0 : decide (x < 0) = false := decide_eq_false (by omega)
  have d1 : decide (1099511627776 < x) = false := decide_eq_false (by omega)
  have d2 : decide (y < 0) = false := decide_eq_false (by omega)
  have d3 : decide (1099511627776 < y) = false := decide_eq_false (by omega)
  simp only [d0, d1, d2, d3, Bool.or_false]
  have hz2 := hb1.size
  have s1 : ∀ (W : World) (o : Obj), (W.alloc o).heap.size = W.heap.size + 1 := fun W o => by simp
  have hBW := (hb1.trans ((((Below.refl _ w2).alloc (Nat.le_refl _) (.cells #[.slice OA os.length oc] 26)).alloc (by rw [s1]; omega) (.cells #[.slice OA' os'.length oc'] 26)).mono hz2))
  have kpa := Boxed.new w2 26 (.slice OA os.length oc)
  have kpb := Boxed.new (w2.alloc (.cells #[.slice OA os.length oc] 26)) 26 (.slice OA' os'.length oc')
  replace kpa := kpa.alloc (.cells #[.slice OA' os'.length oc'] 26)
  rw [s1] at kpb
  have hzW : ((w2.alloc (.cells #[.slice OA os.length oc] 26)).alloc (.cells #[.slice OA' os'.length oc'] 26)).heap.size = w2.heap.size + 1 + 1 := by rw [s1, s1]
  generalize (w2.alloc (.cells #[.slice OA os.length oc] 26)).alloc (.cells #[.slice OA' os'.length oc'] 26) = W0 at *
  obtain ⟨k0, k1, k2, k3, k4, k5, k6, k7, k8, hK1, hK3⟩ := HCL.out W0 hBW
  generalize hpa : w2.heap.size = pa at *
  generalize hpb : pa + 1 = pb at *
  have hgw : gz ≤ w.heap.size := by have := HGZ.out; omega
  have HB0 : Hid (Below gz w W0) := HBE.out.trans (hBW.mono (by omega))
  have hz1 : gz ≤ W0.heap.size ∧ pa < W0.heap.size ∧ pb < W0.heap.size ∧ g4 < W0.heap.size := by omega
  clear hzW hpa hpb
  refine (wpIn_wide (n := 6)).1 ?_
  refine wpIn_rangeFunc_ownH hro (by omega) (gf := 56) (lb := #[.pointer (some ⟨pa, 0, none⟩), .pointer (some ⟨pb, 0, none⟩)]) rfl trivial (enters_of Try.func56 (by kernel_rfl) rfl)
    (common_stops 5 (by omega) pa pb gz OA oc os OA' oc' os' HVA.out HVB'.out hn' hm' W0 (by omega) (by omega) (by omega) kpa.cell kpb.cell (HOA.out.below (hBW.mono (by omega))) (HOB.out.below (hBW.mono (by omega)))) KpP.trans (kpP_b (by omega) (by omega) (by omega)) (Below.refl _ _) (fun _ => rfl)
    (fun pre W => MI w W0.heap.size gz g1 g3 g4 x y false W ∧ AnyT x y false pre)
    (fun c pre W => (MI w W0.heap.size gz g1 g3 g4 x y true W ∧ AnyT x y true pre) ∧ c = .ret)
    (OwnFrom.and (mi_own (by omega) (by omega)) (ownFrom_pure _ _))
    (fun c => OwnFrom.and (OwnFrom.and (mi_own (by omega) (by omega)) (ownFrom_pure _ _)) (ownFrom_pure _ _))
    ⟨⟨⟨⟨⟨hK1, hK3⟩, k8⟩, HB0.out⟩, Nat.le_refl _⟩, rfl⟩
    (fun p a' W => ∃ Bx, g4 < Bx ∧ W.heap[Bx]? = some (.cells #[.int .i64 p.1.1.1, .int .i64 p.1.1.2.1, .int .i64 p.1.1.2.2, .int .i64 p.1.2.1, .int .i64 p.1.2.2.1, .int .i64 p.1.2.2.2] 77 (0, 0)) ∧ a' = { tmps := #[.agg #[.slice SA st.length sc, .slice OA os.length oc], .int .i64 x, .agg #[.slice SA' st'.length sc', .slice OA' os'.length oc'], .int .i64 y, .pointer (some ⟨gz, 0, none⟩), .pointer (some ⟨g1, 0, none⟩), .pointer (some ⟨g2, 0, none⟩), .pointer (some ⟨g3, 0, none⟩), .pointer (some ⟨g4, 0, none⟩), .pointer (some ⟨Bx, 0, none⟩), .agg #[.slice SA st.length sc, .slice OA os.length oc], .bool true, .bool false, .bool false, .agg #[.slice SA' st'.length sc', .slice OA' os'.length oc'], .bool true, .bool false, .bool false, .bool false, .int .i64 x, .bool false, .bool false, .bool false, .int .i64 x, .bool false, .bool false, .bool false, .int .i64 y, .bool false, .bool false, .bool false, .int .i64 y, .bool false, .bool false, .pointer (some ⟨gz, 1, none⟩), .slice OA os.length oc, .pointer (some ⟨g2, 1, none⟩), .slice OA' os'.length oc', .func (.func 56) #[] #[.pointer (some ⟨pa, 0, none⟩), .pointer (some ⟨pb, 0, none⟩)], .agg #[.int .i64 p.1.1.1, .int .i64 p.1.1.2.1, .int .i64 p.1.1.2.2, .int .i64 p.1.2.1, .int .i64 p.1.2.2.1, .int .i64 p.1.2.2.2], undef, undef, undef, undef, undef, undef, undef, undef, undef, undef, undef, undef, undef, undef, undef, undef, undef, undef, undef, undef, undef, undef, undef, undef], defers := [] })
    ?hAx ?assign ?body ?done ?stop
  case hAx =>
    rintro p a' _ X Y row ⟨Bx, h1, h2, h3⟩ hg hrow
    refine ⟨Bx, h1, (hg.block Bx (Array.getElem?_eq_some_iff.1 h2).1 (fun e => ?_)).trans h2, h3⟩
    obtain ⟨_, o, ho, hc⟩ := hrow Bx e.symm
    rw [h2] at ho; cases ho; cases hc
  case assign =>
    rintro lp pre p W K ⟨hmi, hpre⟩ hK
    have HK := Lib.hid hK
    have HMI := Lib.hid hmi
    have HPRE := Lib.hid hpre
    have hzz := hmi.2
    clear hK hmi hpre
    dsimp only [encPR]
    gi_wp2
    exact HK.out _ _ ((KeepsOthers.alloc _ _).from _) ⟨(Below.refl _ W).alloc (by omega) _, Below.heap_alloc _ _ _ (by omega), Below.heap_alloc _ _ _ (by omega)⟩ ⟨HMI.out.alloc (by omega) _, HPRE.out⟩ ⟨W.heap.size, by omega, heap_alloc_new W _, rfl⟩
  case body =>
    rintro lp pre p a' W hlp ⟨r, hr⟩ ⟨hmi, hpre⟩ ⟨Bx, hBx, hxb, rfl⟩ hlt
    have xc := hmi.1.1.1.1.cell
    have yc := hmi.1.1.1.2.cell
    have rc := hmi.1.1.2.cell
    have rf := hmi.1.1.2.frozen
    have HMI := Lib.hid hmi
    have HPRE := Lib.hid hpre
    obtain ⟨⟨⟨r1, f1, t1⟩, ⟨r2, f2, t2⟩⟩, hps⟩ := p
    have hps2 : (-65536 ≤ f1 ∧ f1 ≤ 65536 ∧ -65536 ≤ t1 ∧ t1 ≤ 65536) ∧ (-65536 ≤ f2 ∧ f2 ≤ 65536 ∧ -65536 ≤ t2 ∧ t2 ≤ 65536) := hps
    simp only at hxb
    have c1 : W.cell? ⟨Bx, 1, none⟩ = some (.int .i64 f1) := by rw [cell_of_row W _ 1 _ _ _ hxb]; rfl
    have c2 : W.cell? ⟨Bx, 2, none⟩ = some (.int .i64 t1) := by rw [cell_of_row W _ 2 _ _ _ hxb]; rfl
    have c4 : W.cell? ⟨Bx, 4, none⟩ = some (.int .i64 f2) := by rw [cell_of_row W _ 4 _ _ _ hxb]; rfl
    have c5 : W.cell? ⟨Bx, 5, none⟩ = some (.int .i64 t2) := by rw [cell_of_row W _ 5 _ _ _ hxb]; rfl
    have sw1 : IntKind.i64.wrap (x + f1) = x + f1 := IntWalk.i64_in _ (by omega)
    have sw2 : IntKind.i64.wrap (x + t1) = x + t1 := IntWalk.i64_in _ (by omega)
    have sw3 : IntKind.i64.wrap (y + f2) = y + f2 := IntWalk.i64_in _ (by omega)
    have sw4 : IntKind.i64.wrap (y + t2) = y + t2 := IntWalk.i64_in _ (by omega)
    clear hmi hpre hxb
    by_cases e1 : x + f1 < y + t2
    · by_cases e2 : y + f2 < x + t1
      · have HT := Lib.hid (show tchP x y ⟨((r1, f1, t1), (r2, f2, t2)), hps⟩ = true by simp [tchP, touchB, e1, e2])
        gi_wp2
        exact ⟨(KeepsOthers.setCell _ _ _).from _, ⟨HMI.out.set (by omega) (by omega) (by omega) true, HPRE.out.snoc HT.out⟩, rfl⟩
      · have HT := Lib.hid (show tchP x y ⟨((r1, f1, t1), (r2, f2, t2)), hps⟩ = false by simp [tchP, touchB, e2])
        gi_wp2
        exact ⟨KeepsFrom.refl _ _, KpP.refl _ _ _ _, HMI.out, HPRE.out.snoc HT.out⟩
    · have HT := Lib.hid (show tchP x y ⟨((r1, f1, t1), (r2, f2, t2)), hps⟩ = false by simp [tchP, touchB, e1])
      gi_wp2
      exact ⟨KeepsFrom.refl _ _, KpP.refl _ _ _ _, HMI.out, HPRE.out.snoc HT.out⟩
  case done =>
    rintro D ys W hD rfl ⟨hmi, hpre⟩ hK
    have rc := hmi.1.1.2.cell
    have rf := hmi.1.1.2.frozen
    have HMI := Lib.hid (hmi.set (by omega) (by omega) (by omega) false)
    have HR := Lib.hid (show meetB ⟨st, os⟩ x ⟨st', os'⟩ y = false by
      rw [HQ.out]
      have h := any_upto os os' (small_of HVA.out) (small_of HVB'.out) (fun p => touchB p.1 p.2 x y) _ (Nat.le_refl _)
      rw [List.take_length] at h
      rw [← h]; exact hpre)
    have HKD := Lib.hid (show (W.setCell ⟨g4, 0, none⟩ (.bool false)).heap[D]? = some (.deferred (some [])) by rw [Below.heap_setCell W ⟨g4, 0, none⟩ _ D (by show D ≠ g4; omega)]; exact hK)
    clear hmi hpre hK
    go_wp2_with fail
    have hmr := fun o' tmps hp => mret (o' := o') (fn := Try.f18) (p := 8) HMI.out (by omega) (by omega) hD HKD.out rfl rfl rfl tmps hp
    refine ⟨by simp, .inl ⟨_, _, rfl, run_takeDeferred HKD.out, ?_⟩⟩
    exact ⟨_, (hmr _ _ rfl).1, ret_bool HR.out.symm, by rw [HGZ.out]; exact (hmr _ #[undef, undef, undef, undef, undef, undef, undef, undef, .pointer (some ⟨g4, 0, none⟩)] rfl).2⟩
  case stop =>
    rintro D c pre W hD ⟨k, hk, rfl⟩ ⟨⟨hmi, hany⟩, rfl⟩ hK
    have HMI := Lib.hid hmi
    have HR := Lib.hid (show meetB ⟨st, os⟩ x ⟨st', os'⟩ y = true by
      rw [HQ.out]
      have h := any_upto os os' (small_of HVA.out) (small_of HVB'.out) (fun p => touchB p.1 p.2 x y) k hk
      have h2 : ((pairsO os os').take k).any (fun p => touchB p.1 p.2 x y) = true := by rw [← h]; exact hany
      obtain ⟨q, hq, hq2⟩ := List.any_eq_true.1 h2
      exact List.any_eq_true.2 ⟨q, List.mem_of_mem_take hq, hq2⟩)
    have HKD := Lib.hid hK
    clear hmi hany hK
    refine wpIn_wide.2 ?_
    go_wp2_with fail
    have hmr := fun o' tmps hp => mret (o' := o') (fn := Try.f18) (p := 8) HMI.out (by omega) (by omega) hD HKD.out rfl rfl rfl tmps hp
    refine ⟨by simp, .inl ⟨_, _, rfl, run_takeDeferred HKD.out, ?_⟩⟩
    exact ⟨_, (hmr _ _ rfl).1, ret_bool HR.out.symm, by rw [HGZ.out]; exact (hmr _ #[undef, undef, undef, undef, undef, undef, undef, undef, .pointer (some ⟨g4, 0, none⟩)] rfl).2⟩

theorem dMeets_any (SA : Option Addr) (sc : Nat) (st : List Ste) (OA : Option Addr) (oc : Nat) (os : List Occ) (x : Int) (SA' : Option Addr) (sc' : Nat) (st' : List Ste) (OA' : Option Addr) (oc' : Nat) (os' : List Occ) (y : Int) (w : World)
    (hs : Lst encSte 2 w w.heap.size SA st) (ho : Lst encO 3 w w.heap.size OA os) (hn : st.length ≤ 9223372036854775807) (hn' : os.length ≤ 9223372036854775807)
    (hs' : Lst encSte 2 w w.heap.size SA' st') (ho' : Lst encO 3 w w.heap.size OA' os') (hm : st'.length ≤ 9223372036854775807) (hm' : os'.length ≤ 9223372036854775807) :
    Calls Try.prog 18 #[.agg #[.slice SA st.length sc, .slice OA os.length oc], .int .i64 x, .agg #[.slice SA' st'.length sc', .slice OA' os'.length oc'], .int .i64 y] w fun e w' => e = .returned (.bool (meetB ⟨st, os⟩ x ⟨st', os'⟩ y)) ∧ Below w.heap.size w w' := by
  by_cases h : validOp ⟨st, os⟩ = true ∧ validOp ⟨st', os'⟩ = true ∧ bigB x = true ∧ bigB y = true
  · exact dMeetsYes SA sc st OA oc os x SA' sc' st' OA' oc' os' y w hs ho hn hn' hs' ho' hm hm' h.1 h.2.1 (bigB_iff.1 h.2.2.1) (bigB_iff.1 h.2.2.2)
  · exact dMeetsNo SA sc st OA oc os x SA' sc' st' OA' oc' os' y w hs ho hn hn' hs' ho' hm hm' h
end Go.Proofs.Ytlillkfelfoafaa
