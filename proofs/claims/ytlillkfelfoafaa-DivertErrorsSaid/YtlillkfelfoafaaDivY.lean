/-
  The state of a plan while its maps are filled.
-/
import Derived.Test.YtlillkfelfoafaaDivV
import Derived.Test.YtlillkfelfoafaaDivW
set_option linter.unusedVariables false
set_option linter.unusedSimpArgs false
namespace Go.Proofs.Ytlillkfelfoafaa
open Go.RowKit Go.Shelf RP

section
variable {α β : Type} {enc : α → List Value} {enc' : β → List Value} {k k' : Nat} {e e' : TypeId} {w w1 w2 : World} {base gm gm' n : Nat} {G : Int → List α}
/-- A row of another type grows. -/
theorem IdxE.other (h : IdxE enc k e w base gm n G) {v : Value} {l : List β} (ho : Own enc' k' e' w base v l) (hne : e ≠ e') (hg : w.grownBy w1 v.ownBlock) : IdxE enc k e w1 base gm n G :=
  h.kept hg (fun q => by have := (World.ownsRow.lt ho gm q.symm).1; have := h.1; omega) (fun q hq r _ u hu => by
    obtain ⟨cur, hc⟩ := own_blk ho hq
    exact own_ne_block hu hc hne)
/-- Another block below the rows is turned. -/
theorem IdxE.otherBlk (h : IdxE enc k e w base gm n G) {q : Nat} (hne : gm ≠ q) (hq : q < base) (hg : w.grownBy w1 (some q)) : IdxE enc k e w1 base gm n G :=
  h.kept hg (fun x => hne (by injection x)) (fun p hp r _ u hu hx => by
    injection hp with hp
    have := (World.ownsRow.lt hu p hx).1
    omega)
end
/-- The planner while it is filled. -/
structure PS0 (w wr : World) (gz gp gc gw : Nat) (JA : Option Addr) (jc : Nat) (L : List JobM) (n m : Nat) (Gc : Int → List Clo) (Gw : Int → List OWy) (KA : Option Addr) (kn kc : Nat) : Prop where
  box : wr.heap[gz]? = some (.cells #[.slice JA L.length jc] 22 (0, 0))
  blk : wr.heap[gp]? = some (.cells #[.slice JA L.length jc, .map (some gc), .map (some gw), .slice KA kn kc] 88 (0, 0))
  clo : IdxE encO 3 82 wr (gp + 1) gc n Gc
  oww : IdxE encW 4 70 wr (gp + 1) gw m Gw
  bel : Below gz w wr
  ord : gz < gc ∧ gc < gw ∧ gw < gp
section
variable {w wr w1 w2 wx : World} {gz gp gc gw : Nat} {JA : Option Addr} {jc : Nat} {L : List JobM} {n m : Nat} {Gc : Int → List Clo} {Gw : Int → List OWy} {KA : Option Addr} {kn kc : Nat}
theorem PS0.lt (h : PS0 w wr gz gp gc gw JA jc L n m Gc Gw KA kn kc) : gp < wr.heap.size := (Array.getElem?_eq_some_iff.1 h.blk).1
theorem PS0.below (h : PS0 w wr gz gp gc gw JA jc L n m Gc Gw KA kn kc) (hb : Below wr.heap.size wr wx) : PS0 w wx gz gp gc gw JA jc L n m Gc Gw KA kn kc := by
  have h1 := h.lt
  have h2 := h.ord
  exact ⟨(hb.block gz (by omega)).trans h.box, (hb.block gp h1).trans h.blk, h.clo.below hb, h.oww.below hb, h.bel.trans (hb.mono (by omega)), h.ord⟩
theorem PS0.cells (h : PS0 w wr gz gp gc gw JA jc L n m Gc Gw KA kn kc) : wr.cell? ⟨gz, 0, none⟩ = some (.slice JA L.length jc) ∧ wr.cell? ⟨gp, 1, none⟩ = some (.map (some gc)) ∧ wr.cell? ⟨gp, 2, none⟩ = some (.map (some gw)) ∧ wr.cell? ⟨gp, 3, none⟩ = some (.slice KA kn kc) :=
  ⟨by rw [cell_of_row wr _ 0 _ _ _ h.box]; rfl, by rw [cell_of_row wr _ 1 _ _ _ h.blk]; rfl, by rw [cell_of_row wr _ 2 _ _ _ h.blk]; rfl, by rw [cell_of_row wr _ 3 _ _ _ h.blk]; rfl⟩
/-- A row of the call's own grows, then a block between is turned. -/
theorem PS0.frame {α : Type} {enc : α → List Value} {k : Nat} {e : TypeId} {v : Value} {l : List α} (h : PS0 w wr gz gp gc gw JA jc L n m Gc Gw KA kn kc) (ho : Own enc k e wr (gp + 1) v l) (hg : wr.grownBy w1 v.ownBlock) : w1.heap[gz]? = some (.cells #[.slice JA L.length jc] 22 (0, 0)) ∧ w1.heap[gp]? = some (.cells #[.slice JA L.length jc, .map (some gc), .map (some gw), .slice KA kn kc] 88 (0, 0)) ∧ Below gz w w1 := by
  have h1 := h.lt
  have h2 := h.ord
  have hrow : ∀ q, v.ownBlock = some q → gp + 1 ≤ q := fun q hq => (World.ownsRow.lt ho q hq).1
  exact ⟨(hg.block gz (by omega) (fun e => by have := hrow gz e.symm; omega)).trans h.box, (hg.block gp h1 (fun e => by have := hrow gp e.symm; omega)).trans h.blk, h.bel.grown hg (by omega) (fun q hq => by have := hrow q hq; omega)⟩
theorem PS0.turn {q : Nat} (hb : w1.heap[gz]? = some (.cells #[.slice JA L.length jc] 22 (0, 0))) (hp : w1.heap[gp]? = some (.cells #[.slice JA L.length jc, .map (some gc), .map (some gw), .slice KA kn kc] 88 (0, 0))) (hl : Below gz w w1) (hg : w1.grownBy w2 (some q)) (h : gz < q ∧ q < gp) :
    w2.heap[gz]? = some (.cells #[.slice JA L.length jc] 22 (0, 0)) ∧ w2.heap[gp]? = some (.cells #[.slice JA L.length jc, .map (some gc), .map (some gw), .slice KA kn kc] 88 (0, 0)) ∧ Below gz w w2 := by
  have h1 := (Array.getElem?_eq_some_iff.1 hb).1
  have h2 := (Array.getElem?_eq_some_iff.1 hp).1
  exact ⟨(hg.block gz h1 (fun e => by injection e; omega)).trans hb, (hg.block gp h2 (fun e => by injection e; omega)).trans hp, hl.grown hg (by omega) (fun x hx => by injection hx with hx; omega)⟩
theorem PS0.pushC (h : PS0 w wr gz gp gc gw JA jc L n m Gc Gw KA kn kc) {F : Int → Value} (hm : MapV wr gc n (.slice none 0 0) F) (hoF : ∀ r, R64 r → Own encO 3 82 wr (gp + 1) (F r) (Gc r)) (hdj : ∀ r r', R64 r → R64 r' → r ≠ r' → ∀ q, (F r).ownBlock = some q → (F r').ownBlock ≠ some q) {r : Int} (hr : R64 r) {v : Value} {l : List Clo} (hg : wr.grownBy w1 (F r).ownBlock) (ho1 : Own encO 3 82 w1 (gp + 1) v l)
    (hat : v.ownBlock = (F r).ownBlock ∨ ∀ q, v.ownBlock = some q → wr.heap.size ≤ q) (hm2 : MapV w2 gc (n + 1) (.slice none 0 0) (fun y => if y = r then v else F y)) (hg2 : w1.grownBy w2 (some gc)) : PS0 w w2 gz gp gc gw JA jc L (n + 1) m (fun y => if y = r then l else Gc y) Gw KA kn kc := by
  have h2 := h.ord
  obtain ⟨f1, f2, f3⟩ := h.frame (hoF r hr) hg
  obtain ⟨t1, t2, t3⟩ := PS0.turn f1 f2 f3 hg2 (by omega)
  exact ⟨t1, t2, h.clo.push hm hoF hdj hr hg ho1 hat hm2 hg2, (h.oww.other (hoF r hr) (by decide) hg).otherBlk (by omega) (by omega) hg2, t3, h2⟩
theorem PS0.pushW (h : PS0 w wr gz gp gc gw JA jc L n m Gc Gw KA kn kc) {F : Int → Value} (hm : MapV wr gw m (.slice none 0 0) F) (hoF : ∀ r, R64 r → Own encW 4 70 wr (gp + 1) (F r) (Gw r)) (hdj : ∀ r r', R64 r → R64 r' → r ≠ r' → ∀ q, (F r).ownBlock = some q → (F r').ownBlock ≠ some q) {r : Int} (hr : R64 r) {v : Value} {l : List OWy} (hg : wr.grownBy w1 (F r).ownBlock) (ho1 : Own encW 4 70 w1 (gp + 1) v l)
    (hat : v.ownBlock = (F r).ownBlock ∨ ∀ q, v.ownBlock = some q → wr.heap.size ≤ q) (hm2 : MapV w2 gw (m + 1) (.slice none 0 0) (fun y => if y = r then v else F y)) (hg2 : w1.grownBy w2 (some gw)) : PS0 w w2 gz gp gc gw JA jc L n (m + 1) Gc (fun y => if y = r then l else Gw y) KA kn kc := by
  have h2 := h.ord
  obtain ⟨f1, f2, f3⟩ := h.frame (hoF r hr) hg
  obtain ⟨t1, t2, t3⟩ := PS0.turn f1 f2 f3 hg2 (by omega)
  exact ⟨t1, t2, (h.clo.other (hoF r hr) (by decide) hg).otherBlk (by omega) (by omega) hg2, h.oww.push hm hoF hdj hr hg ho1 hat hm2 hg2, t3, h2⟩
end
/-- A row of another type stays. -/
theorem own_other {α β : Type} {enc : α → List Value} {enc' : β → List Value} {k k' : Nat} {e e' : TypeId} {w w1 : World} {b b' : Nat} {v u : Value} {l : List α} {l' : List β} (h : Own enc k e w b v l) (ho : Own enc' k' e' w b' u l') (hne : e ≠ e') (hg : w.grownBy w1 u.ownBlock) : Own enc k e w1 b v l :=
  h.kept hg (by
    cases hv : v.ownBlock with
    | none => exact .inl rfl
    | some q =>
      refine .inr fun e2 => ?_
      obtain ⟨cur, hc⟩ := own_blk ho e2.symm
      exact own_ne_block h hc hne hv)
section
variable {w wr w1 w2 wx : World} {gz gp gc gw : Nat} {JA : Option Addr} {jc : Nat} {L : List JobM} {n m : Nat} {Gc : Int → List Clo} {Gw : Int → List OWy} {KA : Option Addr} {kn kc : Nat}
theorem PS0.grown {α : Type} {enc : α → List Value} {k : Nat} {e : TypeId} {v : Value} {l : List α} (h : PS0 w wr gz gp gc gw JA jc L n m Gc Gw KA kn kc) (ho : Own enc k e wr (gp + 1) v l) (h1 : 82 ≠ e) (h2 : 70 ≠ e) (hg : wr.grownBy w1 v.ownBlock) : PS0 w w1 gz gp gc gw JA jc L n m Gc Gw KA kn kc := by
  obtain ⟨f1, f2, f3⟩ := h.frame ho hg
  exact ⟨f1, f2, h.clo.other ho h1 hg, h.oww.other ho h2 hg, f3, h.ord⟩
theorem grown_set (w : World) (a : Addr) (v : Value) : w.grownBy (w.setCell a v) (some a.block) :=
  ⟨rfl, rfl, rfl, by simp [World.setCell], fun k hk hne => Below.heap_setCell w a v k (fun e => hne (by rw [e]))⟩
theorem PS0.store (h : PS0 w wr gz gp gc gw JA jc L n m Gc Gw KA kn kc) (KA' : Option Addr) (kn' kc' : Nat) : PS0 w (wr.setCell ⟨gp, 3, none⟩ (.slice KA' kn' kc')) gz gp gc gw JA jc L n m Gc Gw KA' kn' kc' := by
  have h2 := h.ord
  have hg := grown_set wr ⟨gp, 3, none⟩ (.slice KA' kn' kc')
  refine ⟨?_, set_block' (o := 3) (.slice KA' kn' kc') h.blk, h.clo.otherBlk (by omega) (Nat.lt_succ_self gp) hg, h.oww.otherBlk (by omega) (Nat.lt_succ_self gp) hg, h.bel.setCell (p := ⟨gp, 3, none⟩) (show gz ≤ gp by omega) _, h2⟩
  rw [Below.heap_setCell _ _ _ _ (by show gz ≠ gp; omega)]
  exact h.box
/-- The planner is filled. -/
theorem PS0.done {cl : List Clo} {ow : List OWy} {ch : List Cho} (h : PS0 w wr gz gp gc gw JA jc L n m (fun r => cl.filter fun x => decide (x.1 = r)) (fun r => ow.filter fun x => decide (x.1 = r)) KA kn kc) (hj : Jbs w gz JA L) (hc : Own encK 2 55 wr (gp + 1) (.slice KA kn kc) ch) (hk : kn = ch.length) : PlS wr gz gp JA jc L (gp + 1) gc gw n m cl ow KA kc ch := by
  subst hk
  have h2 := h.ord
  have h3 := h.lt
  have hJ := hj.belowMore h.bel (Nat.le_refl _)
  exact ⟨⟨h.blk, hj.belowMore h.bel (by omega), h.clo, h.oww, Own.lst (fun _ => rfl) hc⟩, hJ, hc, ⟨by omega, by omega⟩, h3⟩
end
theorem natI_succ (i : Nat) : natI (List.range (i + 1)) = natI (List.range i) ++ [(i : Int)] := by unfold natI; rw [List.range_succ, List.map_append]; rfl
theorem natI_len (l : List Nat) : (natI l).length = l.length := List.length_map _
/-- The choices of a plan under way are good. -/
theorem chgood_plan {L : List JobM} (hj : checkJ (L.map JobM.p) = true) (cl : List Clo) (ow : List OWy) {M : Nat} (hM : M ≤ 3600) (ord : List Nat) : ChGood L (planF (L.map JobM.p) cl ow M ord).1 := by
  have hl := planF_len (L.map JobM.p) cl ow M ord
  rw [List.length_map] at hl
  refine ⟨by omega, fun i h h' => ?_⟩
  have hi : i < (L.map JobM.p).length := by rw [List.length_map]; exact h'
  have hg : (planF (L.map JobM.p) cl ow M ord).1.getD i (0, 0) = (planF (L.map JobM.p) cl ow M ord).1[i] := by rw [List.getD_eq_getElem?_getD, List.getElem?_eq_getElem h]; rfl
  have hjp : jobAt (L.map JobM.p) i = L[i].p := getD_map _ h' _
  have hkl : L[i].p.opts.length = L[i].opts.length := by simp [JobM.p]
  have h3 := planF_at (L.map JobM.p) cl ow M ord i hi
  rw [hg] at h3
  rcases h3 with h3 | ⟨t, ht, h3⟩
  · left; rw [h3]; show (-1 : Int) < 0; omega
  · right
    rw [hjp] at ht h3
    obtain ⟨hst, hK, hvo⟩ := okJob_iff.1 ((checkJ_iff.1 hj).2 L[i].p (by rw [← hjp]; exact getD_mem' hi _))
    rw [hkl] at hK ht
    have hm := Nat.mod_lt t (show 0 < L[i].opts.length by omega)
    have hd : t / L[i].opts.length < M + 1 := (Nat.div_lt_iff_lt_mul (by omega)).2 ht
    refine ⟨t % L[i].opts.length, hm, ?_, hvo _ (by
      have : (L[i].opts[t % L[i].opts.length]).p ∈ L[i].opts.map OptM.p := List.mem_map_of_mem (List.getElem_mem hm)
      exact this), ?_, ?_⟩
    · rw [h3]; show ((t % L[i].p.opts.length : Nat) : Int) = _; rw [hkl]
    · rw [h3]; show (0 : Int) ≤ L[i].p.start + ((t / L[i].p.opts.length : Nat) : Int)
      generalize t / L[i].p.opts.length = q; omega
    · rw [h3]; show L[i].p.start + ((t / L[i].p.opts.length : Nat) : Int) ≤ 4200000
      rw [hkl]; generalize t / L[i].opts.length = q at *; omega
/-- One record more at its key. -/
theorem filt_step {α : Type} (f : α → Int) (l : List α) {i : Nat} (hi : i < l.length) : (fun r => (l.take (i + 1)).filter fun x => decide (f x = r)) = fun r => if r = f l[i] then ((l.take i).filter fun x => decide (f x = f l[i])) ++ [l[i]] else (l.take i).filter fun x => decide (f x = r) := by
  funext r
  rw [List.take_succ_eq_append_getElem hi, List.filter_append]
  by_cases e : r = f l[i]
  · rw [if_pos e, e]; simp
  · rw [if_neg e, List.filter_cons_of_neg (by simp; exact fun h => e h.symm)]; simp
end Go.Proofs.Ytlillkfelfoafaa
