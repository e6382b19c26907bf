/-
  The planner in memory: maps of rows, and what gaps reads of it.
  The walk of gaps up to the choices.
  How long the list of gaps is; plain facts.
-/
import Derived.Test.YtlillkfelfoafaaDivJ
import Derived.Test.YtlillkfelfoafaaMapV
import Derived.Test.YtlillkfelfoafaaStp
import Derived.Test.YtlillkfelfoafaaCloS
set_option linter.unusedVariables false
set_option linter.unusedSimpArgs false
namespace Go.Proofs.Ytlillkfelfoafaa
open Go.RowKit RP

def encWy := encW
/-- A map from numbers to rows of the call's own. -/
def IdxE {α : Type} (enc : α → List Value) (k : Nat) (e : TypeId) (w : World) (base gm n : Nat) (G : Int → List α) : Prop :=
  gm < base ∧ ∃ F : Int → Value, MapV w gm n (.slice none 0 0) F ∧ (∀ r, R64 r → Own enc k e w base (F r) (G r)) ∧
  ∀ r r', R64 r → R64 r' → r ≠ r' → ∀ q, (F r).ownBlock = some q → (F r').ownBlock ≠ some q
section
variable {α : Type} {enc : α → List Value} {k : Nat} {e : TypeId} {w w' : World} {base gm n : Nat} {G : Int → List α}
theorem IdxE.made (w : World) (base : Nat) (hb : w.heap.size < base) : IdxE enc k e (w.alloc (.map #[] 0)) base w.heap.size 0 (fun _ => []) :=
  ⟨hb, fun _ => .slice none 0 0, MapV.made w _, fun _ _ => Own.nil _ _ _ _ _, fun _ _ _ _ _ q h => by cases h⟩
theorem IdxE.alloc (h : IdxE enc k e w base gm n G) (o : Obj) : IdxE enc k e (w.alloc o) base gm n G := by
  obtain ⟨h0, F, h1, h2, h3⟩ := h
  exact ⟨h0, F, h1.alloc o, fun r hr => (h2 r hr).alloc o, h3⟩
theorem IdxE.drewN (h : IdxE enc k e w base gm n G) (m : Nat) : IdxE enc k e (w.drewN m) base gm n G := h
theorem IdxE.below (h : IdxE enc k e w base gm n G) (hb : Below w.heap.size w w') : IdxE enc k e w' base gm n G := by
  obtain ⟨h0, F, h1, h2, h3⟩ := h
  exact ⟨h0, F, h1.below hb, fun r hr => (h2 r hr).below' hb, h3⟩
/-- What lies in other rows stays. -/
theorem IdxE.kept {row : Option Nat} (h : IdxE enc k e w base gm n G) (hg : w.grownBy w' row) (hm : some gm ≠ row) (hr : ∀ q, row = some q → ∀ r, R64 r → ∀ v, Own enc k e w base v (G r) → v.ownBlock ≠ some q) : IdxE enc k e w' base gm n G := by
  obtain ⟨h0, F, h1, h2, h3⟩ := h
  refine ⟨h0, F, h1.kept hg hm, fun r hr' => (h2 r hr').kept hg ?_, h3⟩
  cases hrow : row with
  | none => cases hb : (F r).ownBlock with
    | none => exact .inl rfl
    | some q => exact .inr (by simp)
  | some q => exact .inr (hr q hrow r hr' _ (h2 r hr'))
theorem IdxE.lt (h : IdxE enc k e w base gm n G) : gm < w.heap.size := by obtain ⟨_, F, h1, _⟩ := h; exact h1.lt
/-- One element more at a key. -/
theorem IdxE.push (h : IdxE enc k e w base gm n G) {F : Int → Value} (hm : MapV w gm n (.slice none 0 0) F) (ho : ∀ r, R64 r → Own enc k e w base (F r) (G r))
    (hd : ∀ r r', R64 r → R64 r' → r ≠ r' → ∀ q, (F r).ownBlock = some q → (F r').ownBlock ≠ some q) {r : Int} (hr : R64 r) {w1 w2 : World} {v : Value} {l : List α}
    (hg : w.grownBy w1 (F r).ownBlock) (ho1 : Own enc k e w1 base v l) (hat : v.ownBlock = (F r).ownBlock ∨ ∀ q, v.ownBlock = some q → w.heap.size ≤ q) (hm2 : MapV w2 gm (n + 1) (.slice none 0 0) (fun y => if y = r then v else F y)) (hg2 : w1.grownBy w2 (some gm)) :
    IdxE enc k e w2 base gm (n + 1) (fun y => if y = r then l else G y) := by
  have h0 := h.1
  refine ⟨h0, _, hm2, fun y hy => ?_, fun x y hx hy hne q hq => ?_⟩
  · by_cases e : y = r
    · simp only [if_pos e]
      exact ho1.kept hg2 (by
        cases hb : v.ownBlock with
        | none => exact .inl rfl
        | some q => refine .inr ?_; intro e'; injection e' with e'; have := (World.ownsRow.lt ho1 q hb).1; omega)
    · simp only [if_neg e]
      have k1 := (ho y hy).kept hg (by
        cases hb : (F y).ownBlock with
        | none => exact .inl rfl
        | some q => exact .inr (fun e' => hd y r hy hr e q hb e'.symm))
      exact k1.kept hg2 (by
        cases hb : (F y).ownBlock with
        | none => exact .inl rfl
        | some q => refine .inr ?_; intro e'; injection e' with e'; have := (World.ownsRow.lt k1 q hb).1; omega)
  · by_cases ex : x = r
    · rw [if_pos ex] at hq
      rw [if_neg (fun e => hne (ex.trans e.symm))]
      rcases hat with hat | hat
      · rw [hat] at hq; subst ex; exact hd x y hx hy hne q hq
      · intro e'
        have := (World.ownsRow.lt (ho y hy) q e').2
        have := hat q hq
        omega
    · rw [if_neg ex] at hq
      by_cases ey : y = r
      · rw [if_pos ey]
        rcases hat with hat | hat
        · rw [hat]; subst ey; exact hd x y hx hy hne q hq
        · intro e'
          have := (World.ownsRow.lt (ho x hx) q hq).2
          have := hat q e'
          omega
      · rw [if_neg ey]; exact hd x y hx hy hne q hq
end
/-- What is looked up is a slice that can be read. -/
theorem IdxE.look {α : Type} {enc : α → List Value} {k : Nat} {e : TypeId} {w : World} {base gm n : Nat} {G : Int → List α} (he : ∀ x, (enc x).length = k) (h : IdxE enc k e w base gm n G) {t e' : TypeId} (ht : Try.prog.underlying t = some (.map 3 e')) (hz : (zeroValue e').run Try.prog w = .ok (.slice none 0 0) w) {x : Int} (hx : R64 x) :
    ∃ A c, (Instr.lookup t (.map (some gm)) (.int .i64 x) false).run Try.prog w = .ok (.slice A (G x).length c) w ∧ Lst enc k w w.heap.size A (G x) ∧ (G x).length ≤ 9223372036854775807 := by
  obtain ⟨_, F, h1, h2, _⟩ := h
  have hl := h1.lookup ht hz hx
  have ho := h2 x hx
  obtain ⟨A, c, hv⟩ := ho.form
  have hm := ho.maxLen
  rw [hv] at hl ho
  exact ⟨A, c, hl, Own.lst he ho, by unfold maxLen at hm; omega⟩

/-- The planner. -/
structure PlOk (w : World) (gp : Nat) (JA : Option Addr) (jc : Nat) (L : List JobM) (base gc gw n m : Nat) (cl : List Clo) (ow : List OWy) (KA : Option Addr) (kc : Nat) (ch : List Cho) : Prop where
  blk : w.heap[gp]? = some (.cells #[.slice JA L.length jc, .map (some gc), .map (some gw), .slice KA ch.length kc] 88 (0, 0))
  jobs : Jbs w w.heap.size JA L
  clo : IdxE encO 3 82 w base gc n (fun r => cl.filter fun x => decide (x.1 = r))
  oww : IdxE encW 4 70 w base gw m (fun r => ow.filter fun x => decide (x.1 = r))
  cho : Lst encK 2 w w.heap.size KA ch
theorem PlOk.below {w w' : World} {gp : Nat} {JA : Option Addr} {jc : Nat} {L : List JobM} {base gc gw n m : Nat} {cl : List Clo} {ow : List OWy} {KA : Option Addr} {kc : Nat} {ch : List Cho} (h : PlOk w gp JA jc L base gc gw n m cl ow KA kc ch) (hb : Below w.heap.size w w') : PlOk w' gp JA jc L base gc gw n m cl ow KA kc ch :=
  ⟨(hb.block gp (Array.getElem?_eq_some_iff.1 h.blk).1).trans h.blk, h.jobs.belowMore hb hb.size, h.clo.below hb, h.oww.below hb, h.cho.belowMore hb hb.size⟩
theorem PlOk.cells {w : World} {gp : Nat} {JA : Option Addr} {jc : Nat} {L : List JobM} {base gc gw n m : Nat} {cl : List Clo} {ow : List OWy} {KA : Option Addr} {kc : Nat} {ch : List Cho} (h : PlOk w gp JA jc L base gc gw n m cl ow KA kc ch) :
    w.cell? ⟨gp, 0, none⟩ = some (.slice JA L.length jc) ∧ w.cell? ⟨gp, 1, none⟩ = some (.map (some gc)) ∧ w.cell? ⟨gp, 2, none⟩ = some (.map (some gw)) ∧ w.cell? ⟨gp, 3, none⟩ = some (.slice KA ch.length kc) ∧ gp < w.heap.size :=
  ⟨by rw [cell_of_row w _ 0 _ _ _ h.blk]; rfl, by rw [cell_of_row w _ 1 _ _ _ h.blk]; rfl, by rw [cell_of_row w _ 2 _ _ _ h.blk]; rfl, by rw [cell_of_row w _ 3 _ _ _ h.blk]; rfl, (Array.getElem?_eq_some_iff.1 h.blk).1⟩
theorem look_at {α : Type} {enc : α → List Value} {k : Nat} {e : TypeId} {w : World} {base gm n : Nat} {G : Int → List α} (he : ∀ x, (enc x).length = k) (h : IdxE enc k e w base gm n G) {t e' : TypeId} (ht : Try.prog.underlying t = some (.map 3 e')) (hz : ∀ V, (zeroValue e').run Try.prog V = .ok (.slice none 0 0) V) {x : Int} (hx : R64 x) :
    ∃ A c, (∀ V, Below w.heap.size w V → (Instr.lookup t (.map (some gm)) (.int .i64 x) false).run Try.prog V = .ok (.slice A (G x).length c) V ∧ Lst enc k V w.heap.size A (G x)) ∧ (G x).length ≤ 9223372036854775807 := by
  obtain ⟨_, F, h1, h2, _⟩ := h
  have ho := h2 x hx
  obtain ⟨A, c, hv⟩ := ho.form
  have hm := ho.maxLen
  refine ⟨A, c, fun V hb => ?_, by unfold maxLen at hm; omega⟩
  have hl := (h1.below hb).lookup ht (hz V) hx
  rw [hv] at hl ho
  exact ⟨hl, (Own.lst he ho).below hb⟩
theorem own_ne_block {α : Type} {enc : α → List Value} {k : Nat} {e e' : TypeId} {w : World} {b g : Nat} {v : Value} {l : List α} {cs : Array Value} {fr : Nat × Nat} (h : Own enc k e w b v l) (hg : w.heap[g]? = some (.cells cs e' fr)) (hne : e ≠ e') : v.ownBlock ≠ some g := by
  intro hv
  rcases h.2 with ⟨rfl, _⟩ | ⟨g1, cap, cur, rfl, _, hh, _⟩
  · simp [Value.ownBlock] at hv
  · simp [Value.ownBlock] at hv
    subst hv
    rw [hh] at hg
    injection hg with q
    injection q with _ q2
    exact hne q2
end Go.Proofs.Ytlillkfelfoafaa

namespace Go.Proofs.Ytlillkfelfoafaa
open Go.RowKit Go.Shelf RP

theorem zeroSlW (W : World) : (zeroValue 24).run Try.prog W = .ok (.slice none 0 0) W := by kernel_rfl
theorem zeroSlC (W : World) : (zeroValue 23).run Try.prog W = .ok (.slice none 0 0) W := by kernel_rfl
/-- What gaps has of its own: the option, the start, the list. -/
structure GSt (w : World) (gz g1 g7 : Nat) (SA : Option Addr) (n sc : Nat) (OA : Option Addr) (m oc : Nat) (s : Int) (l : List Gap) (wr : World) : Prop where
  bo : wr.heap[gz]? = some (.cells #[.slice SA n sc, .slice OA m oc] 28 (0, 0))
  bs : wr.heap[g1]? = some (.cells #[.int .i64 s] 3 (0, 0))
  bl : ∃ A c, wr.heap[g7]? = some (.cells #[.slice A l.length c] 104 (0, 0)) ∧ OwnG wr (g7 + 1) (.slice A l.length c) l
  bel : Below gz w wr
theorem GSt.below {w wr wx : World} {gz g1 g7 : Nat} {SA : Option Addr} {n sc : Nat} {OA : Option Addr} {m oc : Nat} {s : Int} {l : List Gap} (h : GSt w gz g1 g7 SA n sc OA m oc s l wr) (hb : Below wr.heap.size wr wx) (hz : gz ≤ wr.heap.size) : GSt w gz g1 g7 SA n sc OA m oc s l wx := by
  obtain ⟨h1, h2, ⟨A, c, h3, h4⟩, h5⟩ := h
  exact ⟨(hb.block _ (Array.getElem?_eq_some_iff.1 h1).1).trans h1, (hb.block _ (Array.getElem?_eq_some_iff.1 h2).1).trans h2, ⟨A, c, (hb.block _ (Array.getElem?_eq_some_iff.1 h3).1).trans h3, h4.below' hb⟩, h5.trans (hb.mono hz)⟩
/-- One gap more. -/
theorem GSt.push {w wr w1 w5 : World} {gz g1 g7 : Nat} {SA : Option Addr} {n sc : Nat} {OA : Option Addr} {m oc : Nat} {s : Int} {l l' : List Gap} {A : Option Addr} {c : Nat} {v5 : Value} (h : GSt w gz g1 g7 SA n sc OA m oc s l wr) (hb : Below wr.heap.size wr w1) (hz : gz ≤ g1 ∧ g1 < g7 ∧ gz < g1 ∧ g7 < wr.heap.size)
    (hA : wr.heap[g7]? = some (.cells #[.slice A l.length c] 104 (0, 0))) (hg : w1.grownBy w5 (Value.slice A l.length c).ownBlock) (ho : OwnG w5 (g7 + 1) v5 l') : GSt w gz g1 g7 SA n sc OA m oc s l' (w5.setCell ⟨g7, 0, none⟩ v5) := by
  obtain ⟨h1, h2, ⟨A', c', h3, h4⟩, h5⟩ := h
  rw [h3] at hA
  injection hA with hA; injection hA with hA _ _
  have hA' : Value.slice A' l.length c' = .slice A l.length c := by
    have := congrArg (fun a : Array Value => a[0]?) hA
    simpa using this
  rw [hA'] at h4
  have hrow : ∀ q, (Value.slice A l.length c).ownBlock = some q → g7 + 1 ≤ q := fun q hq => (World.ownsRow.lt h4 q hq).1
  have hne : ∀ b, b ≤ g7 → b ≠ g7 → ∀ o, wr.heap[b]? = some o → (w5.setCell ⟨g7, 0, none⟩ v5).heap[b]? = some o := fun b hb1 hb2 o ho' => by
    rw [Below.heap_setCell _ _ _ _ (by show b ≠ g7; exact hb2)]
    exact (hg.block b (by have := hb.size; omega) (fun e => by have := hrow b e.symm; omega)).trans ((hb.block b (by omega)).trans ho')
  obtain ⟨A5, c5, rfl⟩ := ho.form
  have hbl7 : w5.heap[g7]? = some (.cells #[.slice A l.length c] 104 (0, 0)) := (hg.block g7 (by have := hb.size; omega) (fun e => by have := hrow g7 e.symm; omega)).trans ((hb.block g7 (by omega)).trans (h3.trans (by rw [hA'])))
  refine ⟨hne gz (by omega) (by omega) _ h1, hne g1 (by omega) (by omega) _ h2, ⟨A5, c5, set_block' (o := 0) _ hbl7, ho.setBelow (a := ⟨g7, 0, none⟩) (Nat.lt_succ_self g7) _⟩, ?_⟩
  exact (((h5.trans (hb.mono (by omega))).grown hg (by have := hb.size; omega) (fun q hq => by have := hrow q hq; omega))).setCell (p := ⟨g7, 0, none⟩) (show gz ≤ g7 by omega) _
end Go.Proofs.Ytlillkfelfoafaa

namespace Go.Proofs.Ytlillkfelfoafaa
open Go.RowKit RP

theorem filt_add {α : Type} (f : α → Int) {R r : Int} (h : R < r) : ∀ l : List α, (l.filter fun x => decide (f x ≤ R)).length + (l.filter fun x => decide (f x = r)).length ≤ (l.filter fun x => decide (f x ≤ r)).length
  | [] => by simp
  | a :: l => by
    have ih := filt_add f h l
    by_cases h1 : f a ≤ R
    · have h2 : ¬ f a = r := by omega
      have h3 : f a ≤ r := by omega
      rw [List.filter_cons_of_pos (by simpa using h1), List.filter_cons_of_neg (by simpa using h2), List.filter_cons_of_pos (by simpa using h3), List.length_cons, List.length_cons]
      omega
    · by_cases h2 : f a = r
      · have h3 : f a ≤ r := by omega
        rw [List.filter_cons_of_neg (by simpa using h1), List.filter_cons_of_pos (by simpa using h2), List.filter_cons_of_pos (by simpa using h3), List.length_cons, List.length_cons]
        omega
      · by_cases h3 : f a ≤ r
        · rw [List.filter_cons_of_neg (by simpa using h1), List.filter_cons_of_neg (by simpa using h2), List.filter_cons_of_pos (by simpa using h3), List.length_cons]
          omega
        · rw [List.filter_cons_of_neg (by simpa using h1), List.filter_cons_of_neg (by simpa using h2), List.filter_cons_of_neg (by simpa using h3)]
          exact ih
theorem gapsC_len (cl : List Clo) (ow : List OWy) (o : OptP) (s : Int) (c : Occ) : (gapsC cl ow o s c).length ≤ (cl.filter fun x => decide (x.1 = c.1)).length + (ow.filter fun w => decide (w.1 = c.1)).length := by
  unfold gapsC
  rw [List.length_append, List.length_map, List.length_map]
  have := List.length_filter_le (oppB o) (ow.filter fun w => decide (w.1 = c.1))
  omega
theorem flat_len (cl : List Clo) (ow : List OWy) (o : OptP) (s : Int) {os : List Occ} (hv : validO (-1) os = true) : ∀ k, k ≤ os.length → ((os.take k).flatMap (gapsC cl ow o s)).length ≤ (cl.filter fun x => decide (x.1 ≤ lastR (-1) (os.take k))).length + (ow.filter fun w => decide (w.1 ≤ lastR (-1) (os.take k))).length := fun k => by
  induction k with
  | zero => intro _; simp
  | succ k ih =>
    intro hk
    have hk' : k < os.length := by omega
    have hval : validO (-1) (os.take (k + 1)) = true := by
      rw [← List.take_append_drop (k + 1) os, validO_append, Bool.and_eq_true] at hv
      exact hv.1
    rw [List.take_succ_eq_append_getElem hk'] at hval ⊢
    have hok := (validO_snoc.1 hval).2
    rw [lastR_snoc, List.flatMap_append, List.length_append]
    have h1 := ih (by omega)
    have h2 := gapsC_len cl ow o s os[k]
    have h3 := filt_add (fun x : Clo => x.1) (R := lastR (-1) (os.take k)) (r := os[k].1) hok.1 cl
    have h4 := filt_add (fun x : OWy => x.1) (R := lastR (-1) (os.take k)) (r := os[k].1) hok.1 ow
    simp only [List.flatMap_cons, List.flatMap_nil, List.append_nil] at *
    omega
/-- What has been gathered while occupation k is looked at. -/
theorem flat_len2 (cl : List Clo) (ow : List OWy) (o : OptP) (s : Int) {os : List Occ} (hv : validO (-1) os = true) {k : Nat} (hk : k < os.length) :
    ((os.take k).flatMap (gapsC cl ow o s)).length + (cl.filter fun x => decide (x.1 = os[k].1)).length + (ow.filter fun w => decide (w.1 = os[k].1)).length ≤ cl.length + ow.length := by
  have h1 := flat_len cl ow o s hv k (by omega)
  have hval : validO (-1) (os.take (k + 1)) = true := by
    rw [← List.take_append_drop (k + 1) os, validO_append, Bool.and_eq_true] at hv
    exact hv.1
  rw [List.take_succ_eq_append_getElem hk] at hval
  have hok := (validO_snoc.1 hval).2
  have h3 := filt_add (fun x : Clo => x.1) (R := lastR (-1) (os.take k)) (r := os[k].1) hok.1 cl
  have h4 := filt_add (fun x : OWy => x.1) (R := lastR (-1) (os.take k)) (r := os[k].1) hok.1 ow
  have h5 := List.length_filter_le (fun x : Clo => decide (x.1 ≤ os[k].1)) cl
  have h6 := List.length_filter_le (fun x : OWy => decide (x.1 ≤ os[k].1)) ow
  omega
theorem flatC_len (cl : List Clo) (ow : List OWy) (o : OptP) (s : Int) {os : List Occ} (hv : validO (-1) os = true) : (os.flatMap (gapsC cl ow o s)).length ≤ cl.length + ow.length := by
  have h1 := flat_len cl ow o s hv os.length (Nat.le_refl _)
  rw [List.take_length] at h1
  have h5 := List.length_filter_le (fun x : Clo => decide (x.1 ≤ lastR (-1) os)) cl
  have h6 := List.length_filter_le (fun x : OWy => decide (x.1 ≤ lastR (-1) os)) ow
  omega
theorem gapsO_len (jobs : List JobP) (o : OptP) (s : Int) (i : Nat) (d : Cho) : (gapsO jobs o s i d).length ≤ o.occs.length := by
  unfold gapsO
  split
  · simp
  · rw [List.length_map]; exact pairs_len _ _
/-- The gaps of the first k choices. -/
def gapsK (jobs : List JobP) (ch : List Cho) (o : OptP) (s : Int) (k : Nat) : List Gap := (List.range k).flatMap fun i => gapsO jobs o s i (ch.getD i (0, 0))
theorem gapsK_succ (jobs : List JobP) (ch : List Cho) (o : OptP) (s : Int) (k : Nat) : gapsK jobs ch o s (k + 1) = gapsK jobs ch o s k ++ gapsO jobs o s k (ch.getD k (0, 0)) := by
  unfold gapsK; rw [List.range_succ, List.flatMap_append]; simp
theorem gapsK_len (jobs : List JobP) (ch : List Cho) (o : OptP) (s : Int) : ∀ k, (gapsK jobs ch o s k).length ≤ k * o.occs.length
  | 0 => by simp [gapsK]
  | k + 1 => by
    rw [gapsK_succ, List.length_append]
    have h1 := gapsK_len jobs ch o s k
    have h2 := gapsO_len jobs o s k (ch.getD k (0, 0))
    rw [Nat.add_mul, Nat.one_mul]; omega
theorem gapsL_eq (jobs : List JobP) (cl : List Clo) (ow : List OWy) (ch : List Cho) (o : OptP) (s : Int) : gapsL jobs cl ow ch o s = o.occs.flatMap (gapsC cl ow o s) ++ gapsK jobs ch o s ch.length := rfl
end Go.Proofs.Ytlillkfelfoafaa
