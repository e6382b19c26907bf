/-
  A call that leaves the world as it is may be taken first in a region that draws its order.
  A region that draws its order and whose last store hits a cell that it loads: S is held until that store (number z) comes up.
  Several ranges over functions in one activation: the marks of their deferred calls, shut one after the other; append of records in a round.
-/
import Derived.Deep.RegionHeld3
import Derived.Test.YtbhjnihcmfagjaaKit
import Derived.RangeFuncNested
import Derived.RangeFuncLeaves
import Derived.RangeFuncCalls
import Derived.Maps.OwnIn
set_option linter.unusedVariables false
set_option linter.unusedSimpArgs false
namespace Go.Proofs.Ytbhjnihcmfagjaa

section
variable {P : Program} {ops : Array Oper} {Q : Exit → Act → World → Prop} {md : Region.Mode} {S : World → Prop}

/-- In state a, in every world that meets S, operation o calls what leaves v and the world as it is. -/
def CallsIf (P : Program) (ops : Array Oper) (S : World → Prop) (o : Oper) (v : Value) (a : Act) : Prop :=
  Region.wanted o (yielded ops a.tmps) = true ∧ ∀ w, S w → ∃ f args, (execOp a.eval o).run P w = .ok (.enter f args) w ∧ Calls P f args w fun e w' => e = .returned v ∧ w' = w

theorem CallsIf.wpOp {i : Nat} {o : Oper} {v : Value} {a : Act} (hi : ops[i]? = some o) (hy : CallsIf P ops S o v a) {K : Act → World → Prop} {w : World} (hS : S w) (h : K (a.put o.dst v) w) : Go.wpOp P ops Q i K a w := by
  obtain ⟨hw, hc⟩ := hy
  obtain ⟨f, args, hr, hc⟩ := hc w hS
  unfold Go.wpOp
  simp only [hi, hw, if_true, Oper.wp, hr, Oper.upon]
  refine .inl (hc.mono ?_)
  rintro e w' ⟨rfl, rfl⟩
  exact h

theorem CallsIf.put {oi oj : Oper} {v : Value} (hsi : ∀ cs b, oi.op ≠ .select cs b) (hap : oi.apart ops oj = true) {a : Act} (hy : CallsIf P ops S oi v a) (u : Value) : CallsIf P ops S oi v (a.put oj.dst u) := by
  obtain ⟨_, _, h3⟩ := Oper.apart_spec hap
  unfold CallsIf at *
  rw [execOp_put oi hsi a oj.dst u h3, wanted_put oi a oj.dst u h3]
  exact hy
theorem CallsIf.defers {oi : Oper} {v : Value} {a : Act} (hy : CallsIf P ops S oi v a) (d : Deferred) : CallsIf P ops S oi v { a with defers := d :: a.defers } := hy

/-- Another operation ahead of the call. -/
theorem CallsIf.other {j : Nat} {oi oj : Oper} {v : Value} (hj : ops[j]? = some oj) (hap : oi.apart ops oj = true) (hsi : ∀ cs b, oi.op ≠ .select cs b) (hsj : ∀ cs b, oj.op ≠ .select cs b)
    (hQ : ∀ c a w, Q (.panic c) (a.put oi.dst v) w → Q (.panic c) a w) {K : Act → World → Prop} {a : Act} {w : World} (hy : CallsIf P ops S oi v a) (h : Go.wpOp P ops Q j K (a.put oi.dst v) w) :
    Go.wpOp P ops Q j (fun a' w' => CallsIf P ops S oi v a' ∧ K (a'.put oi.dst v) w') a w := by
  obtain ⟨h1, h2, _⟩ := Oper.apart_spec hap
  have hput : ∀ u, CallsIf P ops S oi v (a.put oj.dst u) := fun u => hy.put hsi hap u
  have hcom : ∀ u, (a.put oi.dst v).put oj.dst u = (a.put oj.dst u).put oi.dst v := fun u => Act.put_comm a v u h2
  unfold Go.wpOp at h ⊢
  simp only [hj] at h ⊢
  rw [wanted_put oj a oi.dst v h1] at h
  by_cases hw : Region.wanted oj (yielded ops a.tmps) = true
  · rw [if_pos hw] at h ⊢
    rcases h with h | ⟨hx, hl⟩
    · left
      unfold Oper.wp at h ⊢
      rw [execOp_put oj hsj a oi.dst v h1] at h
      cases hr : (execOp a.eval oj).run P w with
      | halt x w' =>
        rw [hr] at h
        cases x <;> first | exact h | exact hQ _ _ _ h
      | ok n w' =>
        rw [hr] at h
        cases n with
        | value u => exact ⟨hput u, by rw [← hcom]; exact h⟩
        | skip => exact ⟨hput _, by rw [← hcom]; exact h⟩
        | defer d => exact ⟨(hy.defers d).put hsi hap _, by
            have e := Act.put_comm ({ a with defers := d :: a.defers } : Act) v undef h2
            rw [← e, ← Act.put_defers]; exact h⟩
        | enter f args =>
          refine Calls.mono h fun e w'' he => ?_
          cases e with
          | returned u => exact ⟨hput u, by rw [← hcom]; exact he⟩
          | panicked c => exact hQ _ _ _ he
          | outgrown => exact he
        | row row args => exact Rows.mono h fun u w'' he => ⟨hput u, by rw [← hcom]; exact he⟩
        | _ => exact h
    · right
      refine ⟨?_, hl⟩
      unfold Oper.asks at hx ⊢
      rw [execOp_put oj hsj a oi.dst v h1] at hx
      exact hx
  · rw [if_neg hw] at h ⊢
    exact ⟨hput _, by rw [← hcom]; exact h⟩

theorem callsIf_first {i : Nat} {oi : Oper} {v : Value} (hi : ops[i]? = some oi) (hsel : ∀ (j : Nat) (o : Oper) cs b, ops[j]? = some o → o.op ≠ .select cs b) (hQ : ∀ c a w, Q (.panic c) (a.put oi.dst v) w → Q (.panic c) a w) :
    ∀ (fuel : Nat) (listed : Array Bool) (a : Act) (w : World),
      (∀ j oj, ops[j]? = some oj → j ≠ i → listed.getD j true = false → (∀ e ∈ oj.after, Region.binds md e = true → e.on ≠ i) → oi.apart ops oj = true) →
      i ∈ Region.ready md ops listed → CallsIf P ops S oi v a → S w → wpAnyH P md ops Q S fuel (listed.setIfInBounds i true) (a.put oi.dst v) w → wpAnyH P md ops Q S (fuel + 1) listed a w
  | 0, listed, a, w, _, hr, hy, hS, H => by
    refine ⟨fun h => (by rw [h] at hr; cases hr), fun j hj => ?_⟩
    by_cases e : j = i
    · rw [e]; exact hy.wpOp hi hS ⟨hS, by rw [← e] at H ⊢; exact H⟩
    · have := ready_mono hj e
      rw [H.1] at this; cases this
  | fuel + 1, listed, a, w, hfree, hr, hy, hS, H => by
    refine ⟨fun h => (by rw [h] at hr; cases hr), fun j hj => ?_⟩
    by_cases e : j = i
    · rw [e]; exact hy.wpOp hi hS ⟨hS, by rw [← e] at H ⊢; exact H⟩
    · obtain ⟨hun, oj, hoj, hall⟩ := mem_ready.1 hj
      have hnot : ∀ x ∈ oj.after, Region.binds md x = true → x.on ≠ i := fun x hx hb hq => by
        have a1 := hall x hx hb
        have a0 := (mem_ready.1 hr).1
        rw [hq] at a1
        by_cases hlt : i < listed.size
        · simp [hlt] at a0 a1; rw [a0] at a1; cases a1
        · simp [Array.getElem?_eq_none (Nat.le_of_not_lt hlt)] at a1
      refine wpOp_mono (fun a' w' h3 => ⟨h3.2.1, ?_⟩) (hy.other hoj (hfree j oj hoj e hun hnot) (fun cs b => hsel i oi cs b hi) (fun cs b => hsel j oj cs b hoj) hQ (H.2 j (ready_mono hj e)))
      refine callsIf_first hi hsel hQ fuel (listed.setIfInBounds j true) a' w' (fun k ok hk hki hun' hno => hfree k ok hk hki ?_ hno) (ready_mono hr (Ne.symm e)) h3.1 h3.2.1 (by rw [Array.setIfInBounds_comm _ _ e]; exact h3.2.2)
      by_cases q : j = k
      · rw [← q]; exact hun
      · rw [getD_set_ne true q] at hun'; exact hun'

/-- Take call number i first. -/
theorem wpAnyH_call {i : Nat} {oi : Oper} {v : Value} {fuel : Nat} {listed : Array Bool} {a : Act} {w : World} (hi : ops[i]? = some oi)
    (hs : Region.noSelect ops = true) (hf : Region.free md ops listed i = true) (hr : (Region.ready md ops listed).contains i = true)
    (hQ : ∀ c a w, Q (.panic c) (a.put oi.dst v) w → Q (.panic c) a w) (hy : CallsIf P ops S oi v a) (hS : S w)
    (h : wpAnyH P md ops Q S fuel (listed.setIfInBounds i true) (a.put oi.dst v) w) : wpAnyH P md ops Q S (fuel + 1) listed a w :=
  callsIf_first hi (Region.noSelect_spec hs) hQ fuel listed a w (Region.free_spec hi hf) (by simpa using hr) hy hS h
end

section
variable {P : Program} {Q : Exit → Act → World → Prop} {md : Region.Mode} {S : World → Prop} {l r : List Oper}
theorem getElem_of_drop {i : Nat} {o : Oper} (hl : l.drop i = o :: r) : l.toArray[i]? = some o := by
  have : (l.drop i)[0]? = some o := by rw [hl]; rfl
  rw [List.getElem?_drop] at this
  simpa using this
/-- wpAnyH_take with the operation written out by its list. -/
theorem wpAnyH_takeL {i : Nat} {oi : Oper} {v : Value} {fuel : Nat} {listed : Array Bool} {a : Act} {w : World} (hl : l.drop i = oi :: r)
    (hs : Region.noSelect l.toArray = true) (hf : Region.free md l.toArray listed i = true) (hr : (Region.ready md l.toArray listed).contains i = true)
    (hQ : ∀ c a w, Q (.panic c) (a.put oi.dst v) w → Q (.panic c) a w) (hy : YieldsIf P l.toArray S oi v a) (hS : S w)
    (h : wpAnyH P md l.toArray Q S fuel (listed.setIfInBounds i true) (a.put oi.dst v) w) : wpAnyH P md l.toArray Q S (fuel + 1) listed a w :=
  wpAnyH_take (getElem_of_drop hl) hs hf hr hQ hy hS h
theorem wpAnyH_callL {i : Nat} {oi : Oper} {v : Value} {fuel : Nat} {listed : Array Bool} {a : Act} {w : World} (hl : l.drop i = oi :: r)
    (hs : Region.noSelect l.toArray = true) (hf : Region.free md l.toArray listed i = true) (hr : (Region.ready md l.toArray listed).contains i = true)
    (hQ : ∀ c a w, Q (.panic c) (a.put oi.dst v) w → Q (.panic c) a w) (hy : CallsIf P l.toArray S oi v a) (hS : S w)
    (h : wpAnyH P md l.toArray Q S fuel (listed.setIfInBounds i true) (a.put oi.dst v) w) : wpAnyH P md l.toArray Q S (fuel + 1) listed a w :=
  wpAnyH_call (getElem_of_drop hl) hs hf hr hQ hy hS h
theorem readyL {fuel : Nat} {listed : Array Bool} {a : Act} {w : World} {i : Nat} {o : Oper} {rs : List Nat} (hl : l.drop i = o :: r)
    (h : ∀ K' : Act → World → Prop, Shut (∀ a w, S w → (S w → wpAnyH P md l.toArray Q S fuel (listed.setIfInBounds i true) a w) → K' a w) → if Region.wanted o (yielded l.toArray a.tmps) = true then Oper.wp P o a w K' Q else K' (a.put o.dst undef) w)
    (hs : AllReadyH P md l.toArray Q S fuel listed a w rs) : AllReadyH P md l.toArray Q S fuel listed a w (i :: rs) :=
  AllReadyH.cons (getElem_of_drop hl) h hs
end

end Go.Proofs.Ytbhjnihcmfagjaa

namespace Go.Proofs.Ytbhjnihcmfagjaa

section
variable {P : Program} {ops : Array Oper} {Q : Exit → Act → World → Prop} {md : Region.Mode} {S : World → Prop} {z : Nat}

/-- Whichever order: S holds behind each operation but z. -/
def Until (P : Program) (md : Region.Mode) (ops : Array Oper) (Q : Exit → Act → World → Prop) (S : World → Prop) (z : Nat) : Nat → Array Bool → Act → World → Prop
  | 0, listed, a, w => Region.ready md ops listed = [] ∧ Q .normal a w
  | n + 1, listed, a, w => (Region.ready md ops listed = [] → Q .normal a w) ∧
    ∀ k, k ∈ Region.ready md ops listed → wpOp P ops Q k (fun a' w' => (k ≠ z → S w') ∧ Until P md ops Q S z n (listed.setIfInBounds k true) a' w') a w

theorem Until.any : ∀ (n : Nat) (listed : Array Bool) (a : Act) (w : World), Until P md ops Q S z n listed a w → wpAny P md ops Q n listed a w
  | 0, _, _, _, h => h
  | n + 1, _, _, _, h => ⟨h.1, fun k hk => wpOp_mono (fun a' w' q => Until.any n _ a' w' q.2) (h.2 k hk)⟩

/-- z waits for operation i. -/
def waits (md : Region.Mode) (ops : Array Oper) (z i : Nat) : Bool := match ops[z]? with
  | some o => o.after.any fun e => Region.binds md e && e.on == i
  | none => false

theorem waits_not {i : Nat} {listed : Array Bool} (h : waits md ops z i = true) (hi : i ∈ Region.ready md ops listed) : z ∉ Region.ready md ops listed := fun hz => by
  obtain ⟨_, oz, hoz, hall⟩ := mem_ready.1 hz
  have h0 := (mem_ready.1 hi).1
  unfold waits at h
  rw [hoz] at h
  simp only [Array.any_eq_true] at h
  obtain ⟨k, hk, he⟩ := h
  rw [Bool.and_eq_true, beq_iff_eq] at he
  have h1 := hall oz.after[k] (Array.getElem_mem hk) he.1
  rw [he.2] at h1
  rcases Nat.lt_or_ge i listed.size with q | q
  · simp [q] at h0 h1; rw [h0] at h1; cases h1
  · simp [Array.getElem?_eq_none q] at h1

theorem until_first {i : Nat} {oi : Oper} {v : Value} (hi : ops[i]? = some oi) (hsel : ∀ (j : Nat) (o : Oper) cs b, ops[j]? = some o → o.op ≠ .select cs b)
    (hQ : ∀ c a w, Q (.panic c) (a.put oi.dst v) w → Q (.panic c) a w) (hz : waits md ops z i = true) :
    ∀ (n : Nat) (listed : Array Bool) (a : Act) (w : World),
      (∀ j oj, ops[j]? = some oj → j ≠ i → listed.getD j true = false → (∀ e ∈ oj.after, Region.binds md e = true → e.on ≠ i) → oi.apart ops oj = true) →
      i ∈ Region.ready md ops listed → YieldsIf P ops S oi v a → S w → Until P md ops Q S z n (listed.setIfInBounds i true) (a.put oi.dst v) w → Until P md ops Q S z (n + 1) listed a w
  | 0, listed, a, w, _, hr, hy, hS, H => by
    refine ⟨fun h => (by rw [h] at hr; cases hr), fun j hj => ?_⟩
    by_cases e : j = i
    · rw [e]; exact hy.wpOp hi hS ⟨fun _ => hS, H⟩
    · have := ready_mono hj e
      rw [H.1] at this; cases this
  | n + 1, listed, a, w, hfree, hr, hy, hS, H => by
    refine ⟨fun h => (by rw [h] at hr; cases hr), fun j hj => ?_⟩
    by_cases e : j = i
    · rw [e]; exact hy.wpOp hi hS ⟨fun _ => hS, H⟩
    · have hjz : j ≠ z := fun q => waits_not hz hr (q ▸ hj)
      obtain ⟨hun, oj, hoj, hall⟩ := mem_ready.1 hj
      have hnot : ∀ x ∈ oj.after, Region.binds md x = true → x.on ≠ i := fun x hx hb hq => by
        have a1 := hall x hx hb
        have a0 := (mem_ready.1 hr).1
        rw [hq] at a1
        by_cases hlt : i < listed.size
        · simp [hlt] at a0 a1; rw [a0] at a1; cases a1
        · simp [Array.getElem?_eq_none (Nat.le_of_not_lt hlt)] at a1
      refine wpOp_mono (fun a' w' h3 => ⟨h3.2.1, ?_⟩) (wpOp_putIf hoj (hfree j oj hoj e hun hnot) (fun cs b => hsel i oi cs b hi) (fun cs b => hsel j oj cs b hoj) hQ hy (H.2 j (ready_mono hj e)))
      refine until_first hi hsel hQ hz n (listed.setIfInBounds j true) a' w' (fun k ok hk hki hun' hno => hfree k ok hk hki ?_ hno) (ready_mono hr (Ne.symm e)) h3.1 (h3.2.1 hjz) (by rw [Array.setIfInBounds_comm _ _ e]; exact h3.2.2)
      by_cases q : j = k
      · rw [← q]; exact hun
      · rw [getD_set_ne true q] at hun'; exact hun'
end

section
variable {P : Program} {Q : Exit → Act → World → Prop} {md : Region.Mode} {S : World → Prop} {l r : List Oper} {z : Nat}
theorem until_take {i : Nat} {oi : Oper} {v : Value} {fuel : Nat} {listed : Array Bool} {a : Act} {w : World} (hl : l.drop i = oi :: r)
    (hs : Region.noSelect l.toArray = true) (hf : Region.free md l.toArray listed i = true) (hr : (Region.ready md l.toArray listed).contains i = true) (hz : waits md l.toArray z i = true)
    (hQ : ∀ c a w, Q (.panic c) (a.put oi.dst v) w → Q (.panic c) a w) (hy : YieldsIf P l.toArray S oi v a) (hS : S w)
    (h : Until P md l.toArray Q S z fuel (listed.setIfInBounds i true) (a.put oi.dst v) w) : Until P md l.toArray Q S z (fuel + 1) listed a w :=
  until_first (getElem_of_drop hl) (Region.noSelect_spec hs) hQ hz fuel listed a w (Region.free_spec (getElem_of_drop hl) hf) (by simpa using hr) hy hS h
/-- The one that can come up. -/
theorem until_one {fuel : Nat} {listed : Array Bool} {a : Act} {w : World} {i : Nat} {o : Oper} (hl : l.drop i = o :: r) (hr : Region.ready md l.toArray listed = [i])
    (h : ∀ K' : Act → World → Prop, Shut (∀ a w, (i ≠ z → S w) → Until P md l.toArray Q S z fuel (listed.setIfInBounds i true) a w → K' a w) → if Region.wanted o (yielded l.toArray a.tmps) = true then Oper.wp P o a w K' Q else K' (a.put o.dst undef) w) :
    Until P md l.toArray Q S z (fuel + 1) listed a w := by
  refine ⟨(fun h0 => by rw [hr] at h0; cases h0), fun k hk => ?_⟩
  rw [hr, List.mem_singleton] at hk
  subst hk
  exact wpOp_step (getElem_of_drop hl) (fun K' hK => h K' (fun a w h1 h2 => hK a w ⟨h1, h2⟩))
theorem until_done {listed : Array Bool} {a : Act} {w : World} (hr : Region.ready md l.toArray listed = []) (h : Q .normal a w) : ∀ fuel, Until P md l.toArray Q S z fuel listed a w
  | 0 => ⟨hr, h⟩
  | _ + 1 => ⟨fun _ => h, by rw [hr]; simp⟩
theorem wp_region_until {id : Nat} {a : Act} {w : World} (z : Nat) (hm : P.follows .mixedOrders = true)
    (h : Until P .any l.toArray Q S z l.toArray.size (Array.replicate l.toArray.size false) a w.drew) : (Code.region id l.toArray true).wp P Q a w :=
  wp_region_any hm (Until.any _ _ _ _ h)
end

end Go.Proofs.Ytbhjnihcmfagjaa

namespace Go.Proofs.Ytbhjnihcmfagjaa
open Go.RowKit

/-- A goal laid aside for the next tactic. -/
def Hld (p : Prop) : Prop := p
theorem Hld.put {p : Prop} (h : Hld p) : p := h
theorem Hld.out {p : Prop} (h : p) : Hld p := h
def mkD (D : Nat) : Deferred := { target := .collected D, args := #[] }
/-- The marks of the ranges that are over. -/
structure Mks (B : Nat) (Ds : List Nat) (W : World) : Prop where
  nd : Ds.Nodup
  at_ : ∀ D ∈ Ds, B ≤ D ∧ W.heap[D]? = some (.deferred (some []))
theorem Mks.nil (B : Nat) (W : World) : Mks B [] W := ⟨.nil, fun _ h => by cases h⟩
theorem Mks.keeps {B : Nat} {Ds : List Nat} {W W' : World} (h : Mks B Ds W) (hk : KeepsFrom B W W') : Mks B Ds W' := ⟨h.nd, fun D hD => ⟨(h.at_ D hD).1, hk.same D _ (h.at_ D hD).1 (h.at_ D hD).2 rfl⟩⟩
theorem Mks.lt {B : Nat} {Ds : List Nat} {W : World} (h : Mks B Ds W) {D : Nat} (hD : D ∈ Ds) : D < W.heap.size := (Array.getElem?_eq_some_iff.1 (h.at_ D hD).2).1
theorem mks_own {β : Type} {B N : Nat} {Ds : List Nat} : OwnFrom N (fun (_ : β) W => Mks B Ds W ∧ ∀ D ∈ Ds, D < N) := fun _ X Y row hs hg hr =>
  ⟨⟨hs.1.nd, fun D hD => ⟨(hs.1.at_ D hD).1, (hg.block D (hs.1.lt hD) (fun e => by have := (hr D e.symm).1; have := hs.2 D hD; omega)).trans (hs.1.at_ D hD).2⟩⟩, hs.2⟩
theorem Mks.cons {B : Nat} {Ds : List Nat} {W : World} {D N : Nat} (h : Mks B Ds W) (hl : ∀ x ∈ Ds, x < N) (hD : N ≤ D) (hB : B ≤ D) (hk : W.heap[D]? = some (.deferred (some []))) : Mks B (D :: Ds) W :=
  ⟨List.nodup_cons.2 ⟨fun hm => by have := hl D hm; omega, h.nd⟩, fun x hx => by
    rcases List.mem_cons.1 hx with rfl | hx
    · exact ⟨hB, hk⟩
    · exact h.at_ x hx⟩
theorem leaves_marks {β : Type} {I : β → World → Prop} {B : Nat} (hI : OwnFrom B I) {s : β} {F : Fence} {n : Nat} {P : Program} {fn : Func} {tmps : Array Value} {R : Ending → World → Prop} (h : ∀ W', I s W' → LeavesIn F n P fn tmps R [] .returning W') :
    ∀ (Ds : List Nat) (W : World), Mks B Ds W → I s W → LeavesInM F n P fn tmps R (Ds.map mkD) .returning W
  | [], W, _, hs => h W hs
  | D :: Ds, W, hm, hs => by
    have hD := hm.at_ D List.mem_cons_self
    have hnd := List.nodup_cons.1 hm.nd
    refine ⟨by simp, .inl ⟨D, _, rfl, run_takeDeferred hD.2, leaves_marks hI h Ds _ ⟨hnd.2, fun x hx => ⟨(hm.at_ x (List.mem_cons_of_mem _ hx)).1, ?_⟩⟩ (hI.putObj _ hs hD.1 hD.2 rfl)⟩⟩
    have hne : x ≠ D := fun e => hnd.1 (e ▸ hx)
    have h1 := (hm.at_ x (List.mem_cons_of_mem _ hx)).2
    rw [← h1]
    show (W.heap.setIfInBounds D _)[x]? = _
    rw [Array.getElem?_setIfInBounds_ne (Ne.symm hne)]
theorem blk_own {β : Type} (B g : Nat) {o : Obj} (ho : o.isCells = true) : OwnFrom B (fun (_ : β) W => W.heap[g]? = some o) := fun _ X Y row hs hg hr =>
  (hg.block g (Array.getElem?_eq_some_iff.1 hs).1 (fun e => by
    obtain ⟨_, o', h1, h2⟩ := hr g e.symm
    rw [show X.heap[g]? = _ from hs] at h1
    injection h1 with h1
    subst h1
    rw [ho] at h2; cases h2)).trans hs
theorem own_own {α β : Type} {enc : α → List Value} {k : Nat} {e : TypeId} {B base : Nat} {v : Value} {l : List α} : OwnFrom B (fun (_ : β) W => Own enc k e W base v l) := fun _ X Y row hs hg hr => by
  refine Own.kept (show Own enc k e X base v l from hs) hg ?_
  rcases (show Own enc k e X base v l from hs).2 with ⟨rfl, _⟩ | ⟨g1, cap, cur, rfl, _, hh, _⟩
  · exact .inl rfl
  · refine .inr fun e' => ?_
    obtain ⟨_, o', h1, h2⟩ := hr g1 e'.symm
    rw [hh] at h1
    injection h1 with h1
    subst h1
    cases h2

theorem own_blk {α : Type} {enc : α → List Value} {k : Nat} {e : TypeId} {w : World} {b q : Nat} {v : Value} {l : List α} (h : Own enc k e w b v l) (hq : v.ownBlock = some q) : ∃ cur, w.heap[q]? = some (.cells cur e (0, 0)) := by
  rcases h.2 with ⟨rfl, _⟩ | ⟨g1, cap, cur, rfl, _, hh, _⟩
  · simp [Value.ownBlock] at hq
  · simp [Value.ownBlock] at hq
    subst hq
    exact ⟨cur, hh⟩

/-- wpList_append_rec in a round. -/
theorem wpListIn_append_rec {α : Type} {F : Fence} {nF : Nat} {enc : α → List Value} {k : Nat} {P : Program} {ops : Array Oper} {rest : List Oper} {o : Oper} {a : Act} {Q : Exit → Act → World → Prop} {W : World}
    (hgd : o.guard = none) (s x : Operand) (t : TypeId)
    (ho : o.op = .call { callee := .builtin .append, args := #[s, x], argTypes := #[t, t] })
    (base : Nat) (e : TypeId) (bytes : Nat) (ht : P.underlying t = some (.slice e)) (E : ElemOk P enc k e bytes)
    (v : Value) (l : List α) (hs : a.eval s = v) (hown : Own enc k e W base v l)
    (new : List α) (cs : Array Value) (hcs : cs = (new.flatMap enc).toArray) (m c : Nat) (hx : a.eval x = .slice (some ⟨W.heap.size, 0, none⟩) m c) (hm : m = new.length)
    (h63 : l.length + new.length ≤ maxLen) (hbytes : (l.length + new.length) * bytes ≤ 140737488355328) (hbase : base ≤ W.heap.size)
    (h : ∀ v' w', Own enc k e w' base v' (l ++ new) → (W.alloc (.cells cs e)).grownBy w' v.ownBlock → wpListIn F nF P ops Q rest (a.put o.dst v') w') :
    wpListIn F nF P ops Q (o :: rest) a (W.alloc (.cells cs e)) := by
  subst hcs hm
  obtain ⟨i, z, hi, hz, hsz, hby, hzs⟩ := E.info
  have hcells : ∀ j u, (new.flatMap enc)[j]? = some u → (W.alloc (.cells (new.flatMap enc).toArray e)).cell? ((⟨W.heap.size, 0, none⟩ : Addr).add j) = some u := fun j u hu => by
    have e1 : ((⟨W.heap.size, 0, none⟩ : Addr).add j) = ⟨W.heap.size, j, none⟩ := by
      unfold Addr.add
      split
      · rename_i h0; have : j = 0 := by simpa using h0
        rw [this]
      · simp
    rw [e1, cell_of_row (W.alloc _) W.heap.size j (new.flatMap enc).toArray e (0, 0) (heap_alloc_new W _)]
    simpa using hu
  refine wpListIn_append_own_at (W.alloc _) hgd s x t ho base e i z k bytes ht hi hz hsz hby hzs E.pos v l.length (l.flatMap enc) hs (World.ownsRow.alloc hown _) ⟨W.heap.size, 0, none⟩ new.length c (new.flatMap enc) hx (flatMap_length E.len new) hcells (fun u hu => by
      obtain ⟨x, _, hx⟩ := List.mem_flatMap.1 hu
      exact E.one x u hx) h63 hbytes (by simp; omega) ?_
  intro v' w' h2 h3 _ _
  refine h v' w' ?_ h3
  show w'.ownsRow base e k v' (l ++ new).length ((l ++ new).flatMap enc)
  rw [List.length_append, List.flatMap_append]; exact h2
end Go.Proofs.Ytbhjnihcmfagjaa
