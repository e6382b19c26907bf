/-
  slices.Backward at spans: what its iterator hands out, and the bridge from a plain region to one in a round.
-/
import Derived.Test.YtbhjnihcmfagjaaKit
import Derived.Test.YtbhjnihcmfagjaaBasics
import Derived.RangeFuncNested
import Derived.RangeFuncBound
import Derived.RangeFuncCalls
import Derived.RangeFuncLeaves
import Derived.RangeFuncBox
import Derived.Shelf.Abstract
import Derived.Shelf.RegionOpen
import Derived.OwnWalkIn
import Derived.TacticsInMore
import Derived.LoopNIn
import Derived.LoopIn
import Derived.StillTailTactics
import Derived.Deep.RegionHeld3
set_option linter.unusedVariables false
set_option linter.unusedSimpArgs false
namespace Go.Proofs.Ytbhjnihcmfagjaa
open Go.RowKit Go.Shelf RP

attribute [local go_sem] Oper.semAt_some

/-- What a round keeps: what lies below n₀, and block Bs. -/
def KpB (n₀ Bs : Nat) (W W' : World) : Prop := Below n₀ W W' ∧ W'.heap[Bs]? = W.heap[Bs]?
theorem KpB.trans {n₀ Bs : Nat} {A B C : World} (h : KpB n₀ Bs A B) (h' : KpB n₀ Bs B C) : KpB n₀ Bs A C := ⟨h.1.trans h'.1, h'.2.trans h.2⟩
theorem kpB_b {w : World} {n₀ Bs : Nat} (hn : n₀ ≤ w.heap.size) (hB : Bs < w.heap.size) (W : World) (l : Nat) (o o' : Obj) (hl : w.heap.size ≤ l) (ho : W.heap[l]? = some o) (h1 : o.isCells = false) (h2 : o.isWalk = false) : KpB n₀ Bs W (W.putObj l o') := by
  refine ⟨belowK_b (w := w) hn W l o o' hl ho h1 h2, ?_⟩
  show (W.heap.setIfInBounds l o')[Bs]? = _
  rw [Array.getElem?_setIfInBounds_ne (by omega)]

/-- What a round is handed: an index and a span of small numbers. -/
abbrev BS := { x : Int × Int × Int // 0 ≤ x.2.1 ∧ x.2.1 ≤ 7200 ∧ 0 ≤ x.2.2 ∧ x.2.2 ≤ 7200 }
def encBS (x : BS) : Array Value := #[.int .i64 x.1.1, .agg #[.int .i64 x.1.2.1, .int .i64 x.1.2.2]]
def SmallL (l : List Sp) : Prop := ∀ s ∈ l, 0 ≤ s.1 ∧ s.1 ≤ 7200 ∧ 0 ≤ s.2 ∧ s.2 ≤ 7200
def bsAt (l : List Sp) (h : SmallL l) (j : Nat) : BS := ⟨(((l.length - 1 - j : Nat) : Int), (l[l.length - 1 - j]?.getD (0, 0)).1, (l[l.length - 1 - j]?.getD (0, 0)).2), by
  cases e : l[l.length - 1 - j]? with
  | none => simp
  | some s => exact h s (List.mem_of_getElem? e)⟩
def upto {α : Type} (f : Nat → α) (k : Nat) : List α := (List.range k).map f
theorem upto_succ {α : Type} (f : Nat → α) (k : Nat) : upto f (k + 1) = upto f k ++ [f k] := by simp [upto, List.range_succ]
theorem upto_length {α : Type} (f : Nat → α) (k : Nat) : (upto f k).length = k := by simp [upto]

set_option maxRecDepth 100000 in
set_option maxHeartbeats 2000000 in
theorem back1_in (F : Fence) (n : Nat) (h7 : F.fn 85) (hro : F.round = none) (hn : 1 ≤ n) (lp Bs n₀ : Nat) (A : Option Addr) (c : Nat) (l : List Sp) (hs : SmallL l) (hlen : l.length ≤ 4294967296) (J Jx : List BS → World → Prop)
    (hY : ∀ pre x W, J pre W → pre.length < l.length → YieldAt F (n - 1) Try.prog lp (encBS x) W fun e W' =>
      (e = .returned (.bool true) ∧ J (pre ++ [x]) W' ∧ KpB n₀ Bs W W') ∨ (e = .returned (.bool false) ∧ Jx (pre ++ [x]) W'))
    (W : World) (hBs : W.cell? ⟨Bs, 0, none⟩ = some (.slice A l.length c)) (hL : Lst encS 2 W n₀ A l) (h0 : J [] W) :
    CallsIn F n Try.prog 85 #[.func (.yield lp) #[] #[], .pointer (some ⟨Bs, 0, none⟩)] W fun e W' => (∃ v, e = .returned v) ∧
      ((∃ ys, ys = upto (bsAt l hs) l.length ∧ J ys W') ∨ (∃ pre, (∃ k, k ≤ l.length ∧ pre = upto (bsAt l hs) k) ∧ Jx pre W')) := by
  refine callsIn_of_wp Try.func85 rfl h7 ?_ hro
  simp only [Try.ntmps85, List.size_toArray, List.length_cons, List.length_nil, Nat.reduceAdd, Nat.reduceSub, Array.replicate_succ, Array.replicate_zero, List.push_toArray, List.append_toArray, List.nil_append, List.cons_append]
  gi_wp2
  gi_loopw [3] (fun i wr => ∃ k : Nat, k ≤ l.length ∧ i = .int .i64 ((l.length : Int) - 1 - k) ∧ J (upto (bsAt l hs) k) wr ∧ KpB n₀ Bs W wr)
    (fun i _ => (intOf i + 1).toNat)
  case atStart => exact ⟨0, Nat.zero_le _, by simp, h0, Below.refl _ _, rfl⟩
  case round =>
    obtain ⟨k, hk, rfl, hJs, hnx⟩ := hrel
    by_cases hlt : k < l.length
    · obtain ⟨q, hq⟩ : ∃ q : Nat, l.length - 1 - k = q := ⟨_, rfl⟩
      have hql : q < l.length := by omega
      obtain ⟨b, off, hA, hb, c0, c1⟩ := (hL.below hnx.1).sp q hql
      subst hA
      obtain ⟨fn, tmps, assign, body, hy, hR⟩ := hY _ (bsAt l hs k) wr hJs (by rw [upto_length]; exact hlt)
      have hbs : wr.cell? ⟨Bs, 0, none⟩ = some (.slice _ l.length c) := (World.cell?_of_block (a := ⟨Bs, 0, none⟩) hnx.2).trans hBs
      have hqi : (l.length : Int) - 1 - k = (q : Int) := by omega
      have e1 : (bsAt l hs k).1 = ((q : Int), l[q].1, l[q].2) := by
        unfold bsAt; simp only [hq]; rw [List.getElem?_eq_getElem hql]; rfl
      simp only [encBS, e1] at hy
      rw [hqi]
      have HU := Lib.hid (upto_succ (bsAt l hs) k)
      have HQ := Lib.hid hq
      clear e1 hqi hq
      generalize l[q] = s at *
      obtain ⟨s1, s2⟩ := s
      simp only at c0 c1 hy
      gi_wp2
      refine hR.mono ?_
      rintro e W3 (⟨rfl, hJ3, hk3⟩ | ⟨rfl, hJx3⟩)
      · gi_wp2
        go_roundw
        case rel => exact ⟨k + 1, by omega, by have := HQ.out; congr 1; omega, by rw [HU.out]; exact hJ3, hnx.trans hk3⟩
        case measure => simp [intOf]
      · gi_wp2
        refine bodyPost_ret (results_none rfl _ _ _) rfl ?_
        exact ⟨⟨_, rfl⟩, .inr ⟨_, ⟨k + 1, by omega, HU.out.symm⟩, hJx3⟩⟩
    · obtain rfl : k = l.length := by omega
      have hqi : (l.length : Int) - 1 - (l.length : Int) = -1 := by omega
      rw [hqi]
      gi_wp2
      go_end0
      exact ⟨⟨_, rfl⟩, .inl ⟨_, rfl, hJs⟩⟩

set_option maxHeartbeats 1000000 in
theorem back_in (F : Fence) (n : Nat) (h5 : F.fn 79) (hro : F.round = none) (a : Option Addr) (len cap : Nat) (w : World) :
    CallsIn F n Try.prog 79 #[.slice a len cap] w fun e w' => e = .returned (.func (.func 85) #[] #[.pointer (some ⟨w.heap.size, 0, none⟩)]) ∧ w' = w.alloc (.cells #[.slice a len cap] 40) := by
  refine callsIn_of_wp Try.func79 rfl h5 ?_ hro
  simp only [Try.ntmps79, List.size_toArray, List.length_cons, List.length_nil, Nat.reduceAdd, Nat.reduceSub, Array.replicate_succ, Array.replicate_zero, List.push_toArray, List.append_toArray, List.nil_append, List.cons_append]
  gi_wp2
  go_ret
  exact ⟨rfl, rfl⟩

theorem back_stops (F : Fence) (n : Nat) (h7 : F.fn 85) (hro : F.round = none) (hn : 1 ≤ n) (Bs n₀ : Nat) (A : Option Addr) (c : Nat) (l : List Sp) (hs : SmallL l) (hlen : l.length ≤ 4294967296) (w : World) (hBs : Bs < w.heap.size) (hn₀ : n₀ ≤ w.heap.size)
    (hc : w.cell? ⟨Bs, 0, none⟩ = some (.slice A l.length c)) (hL : Lst encS 2 w n₀ A l) :
    SeqStopsK F n Try.prog 85 #[.pointer (some ⟨Bs, 0, none⟩)] encBS (KpB n₀ Bs) (fun ys => ys = upto (bsAt l hs) l.length) (fun pre => ∃ k, k ≤ l.length ∧ pre = upto (bsAt l hs) k) l.length w := fun lp J Jx W hW _ _ hY h0 =>
  back1_in F n h7 hro hn lp Bs n₀ A c l hs hlen J Jx hY W ((hW.cell (p := ⟨Bs, 0, none⟩) hBs).trans hc) (hL.below (hW.mono hn₀)) h0

/-- An operation outside and in a round. -/
theorem oper_round {P : Program} {o : Oper} {a : Act} {w : World} {K K' : Act → World → Prop} {Q : Exit → Act → World → Prop} {lp n : Nat} (hnd : ∀ c, o.op ≠ .defer c) (hK : ∀ a w, K a w → K' a w) (h : o.wp P a w K Q) : o.wpIn (Fence.wide.inRound lp) n P a w K' Q := by
  refine ⟨fun _ _ => trivial, ?_⟩
  rw [show (Fence.wide.inRound lp).round = some lp from rfl, Oper.semAt_eq _ _ _ hnd]
  unfold Oper.wp at h
  generalize (execOp a.eval o).run P w = r at *
  cases r with
  | ok x w' =>
    cases x with
    | value v => exact hK _ _ h
    | skip => exact hK _ _ h
    | defer d => exact hK _ _ h
    | enter f args =>
      refine ⟨fun hd => (by cases hd), ?_⟩
      refine (show CallsIn Fence.wide (n - 1) P f args w' _ from callsIn_wide.2 (Calls.mono h fun e w'' he => ?_))
      cases e <;> first | exact hK _ _ he | exact he
    | row row args =>
      refine ⟨fun hd => (by cases hd), fun c cs _ => ?_⟩
      obtain ⟨v, w'', h1, h2⟩ := h c cs
      exact ⟨v, w'', hK _ _ h1, stepsIn_wide.2 h2⟩
    | _ => exact (show False from h).elim
  | halt x w' => cases x <;> first | exact h | cases h
theorem anyIn_of_any {P : Program} {md : Region.Mode} {ops : Array Oper} {Q : Exit → Act → World → Prop} {lp n : Nat} (hnd : ∀ (i : Nat) (o : Oper), ops[i]? = some o → ∀ c, o.op ≠ .defer c) (hQ : ¬ LetsOut Q) :
    ∀ (fuel : Nat) (listed : Array Bool) (a : Act) (w : World), wpAny P md ops Q fuel listed a w → wpAnyIn (Fence.wide.inRound lp) n P md ops Q fuel listed a w
  | 0, _, _, _, h => h
  | fuel + 1, listed, a, w, h => by
    refine ⟨h.1, fun i hi => ?_⟩
    have := h.2 i hi
    unfold wpOp at this
    unfold wpOpIn
    split
    · rename_i hq; rw [hq] at this; exact anyIn_of_any hnd hQ fuel _ _ _ this
    · rename_i o ho
      rw [ho] at this
      simp only at this
      split
      · rename_i hw
        rw [if_pos hw] at this
        rcases this with p | p
        · exact oper_round (hnd i o ho) (fun a w q => anyIn_of_any hnd hQ fuel _ _ _ q) p
        · exact absurd p.2 hQ
      · rename_i hw
        rw [if_neg hw] at this
        exact ⟨fun _ _ => trivial, anyIn_of_any hnd hQ fuel _ _ _ this⟩

/-- A region in a round, by the law of held cells. -/
theorem round_held {P : Program} {lp nn id : Nat} {Q : Exit → Act → World → Prop} {a : Act} {w : World} {l : List Oper} (S : World → Prop) (hm : P.follows .mixedOrders = true)
    (hnd : l.all (fun o => match o.op with | .defer _ => false | _ => true) = true) (hQ : ¬ LetsOut Q)
    (h : wpAnyH P .any l.toArray Q S l.toArray.size (Array.replicate l.toArray.size false) a w.drew) : (Code.region id l.toArray true).wpIn (Fence.wide.inRound lp) nn P Q a w := by
  refine wpIn_region_any hm (anyIn_of_any (fun i o ho c hc => ?_) hQ _ _ _ _ (wpAny_of_held _ _ _ _ h))
  have := List.all_eq_true.1 hnd o (List.mem_of_getElem? (by simpa using ho))
  rw [hc] at this
  cases this

/-- The law of a region that reads before its last operations, in a round. -/
theorem round_still_tail {P : Program} {lp nn id : Nat} {Q : Exit → Act → World → Prop} {a : Act} {w : World} {l : List Oper} (n : Nat) (hm : P.follows .mixedOrders = true) (hB : Region.lexTailB .any l.toArray n = true)
    (hnd : l.all (fun o => match o.op with | .defer _ => false | _ => true) = true) (hQ : ¬ LetsOut Q)
    (h : wpStill P l.toArray { w with drawn := w.drawn + 1 } (fun a' => wpList P l.toArray Q (l.drop n) a' { w with drawn := w.drawn + 1 }) (l.take n) a) : (Code.region id l.toArray true).wpIn (Fence.wide.inRound lp) nn P Q a w := by
  simp only [Region.lexTailB, Bool.and_eq_true, decide_eq_true_eq] at hB
  obtain ⟨⟨⟨⟨hsel, hn⟩, hs⟩, hc⟩, hlex⟩ := hB
  have hn' : n < l.length := by simpa using hn
  have htl : (l.take n).length = n := by simp; omega
  have hdl : (l.drop n).length = l.toArray.size - n := by simp
  have H := wpAnyL_lex (md := .any) (g := l.toArray.size - n) hsel hs hc hn (l.take n) 0 _ a (fun j hj => by
    have hj' : j < n := by rw [htl] at hj; exact hj
    simp [hj']) (by simpa using htl) (⟨by simp, fun j oj _ hl => (by rw [getD_replicate_false] at hl; cases hl), fun t _ ht => getD_in (by simpa using ht) (getD_replicate_false _ _)⟩ : HeadInv .any l.toArray n (Array.replicate l.toArray.size false)) (by rw [htl]; exact hlex) h
  have := wpAny_of_head (Q' := Q) (g := l.toArray.size - n) (fun listed a' hL => by
    have := wpAny_of_seq (md := .any) (Q' := Q) (l.drop n) n listed a' { w with drawn := w.drawn + 1 } (fun j => by simp [List.getElem?_drop]) (by rw [hdl]; exact hL.1) hL.2
    rwa [hdl] at this) _ _ _ H
  rw [htl, show n + (l.toArray.size - n) = l.toArray.size by omega] at this
  refine wpIn_region_any hm (anyIn_of_any (fun i o ho c hc => ?_) hQ _ _ _ _ this)
  have := List.all_eq_true.1 hnd o (List.mem_of_getElem? (by simpa using ho))
  rw [hc] at this
  cases this

end Go.Proofs.Ytbhjnihcmfagjaa
