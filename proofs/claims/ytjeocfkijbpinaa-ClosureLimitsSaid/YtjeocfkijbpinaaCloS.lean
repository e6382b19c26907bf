/-
  Contracts of Clone and SortFunc at closures; the index as a word on memory.
-/
import Derived.Test.YtjeocfkijbpinaaClo
import Derived.Test.YtjeocfkijbpinaaCloM
import Derived.Test.YtjeocfkijbpinaaMapV
import Derived.Test.YtjeocfkijbpinaaAppendLst
import Derived.Test.YtjeocfkijbpinaaSortKit
import Derived.Test.YtjeocfkijbpinaaSortLay
set_option linter.unusedVariables false
set_option linter.unusedSimpArgs false
namespace Go.Proofs.Ytjeocfkijbpinaa
open Go.RowKit RP Go.Sort Go.Lib Go.Shelf

set_option maxHeartbeats 1000000 in
theorem cloneC_any (A : Option Addr) (c : Nat) (l : List Clo) (w : World) (hl : Lst encO 3 w w.heap.size A l) (hn : l.length * 24 ≤ 140737488355328) :
    Calls Try.prog 42 #[.slice A l.length c] w fun e w' => ∃ v, e = .returned v ∧ OwnC w' w.heap.size v l ∧ Below w.heap.size w w' := by
  have q := fun (W : World) (a : Option Addr) (n c : Nat) => Lib.run_eql_slice_nil (P := Try.prog) W 23 27 a n c 0 0 Try.underlying23
  cases A with
  | none =>
    have h0 : l = [] := by
      cases l with
      | nil => rfl
      | cons x r => obtain ⟨b, off, h, _⟩ := hl (by simp); cases h
    subst h0
    go_enter Try.func42, Try.ntmps42
    go_wp2_with fail
    go_ret
    exact ⟨_, rfl, Own.nil _ _ _ _ _, Below.refl _ _⟩
  | some a =>
    have hown : OwnC (w.alloc (.cells #[] 27)) w.heap.size (.slice (some ⟨w.heap.size, 0, none⟩) 0 0) [] := Own.lit w _ _ _ [] 0 rfl encO_len rfl (Nat.le_refl _) (by simp)
    have hbl := below_refl_alloc w (.cells #[] 27)
    go_enter Try.func42, Try.ntmps42
    go_wp2_with (at_builtin; refine wpList_append_lst rfl _ _ 23 rfl w.heap.size 27 24 Try.underlying23 elemC _ [] rfl hown l _ _ c w.heap.size rfl rfl (hl.below hbl) (by simp only [Go.maxLen, List.length_nil]; omega) (by simp only [List.length_nil]; omega) (by simp) ?_; intro v1 w2 ho2 hg2 hat2)
    go_ret
    rw [List.nil_append] at ho2
    have hg2' : (w.alloc (.cells #[] 27)).grownBy w2 (some w.heap.size) := hg2
    exact ⟨_, rfl, ho2, hbl.grown hg2' (by simp) (fun k hk => by injection hk with hk; omega)⟩

set_option maxHeartbeats 1000000 in
theorem idxCmp (x y : Clo) (W : World) : Calls Try.prog 44 #[.agg #[.int .i64 x.1, .int .i64 x.2.1, .int .i64 x.2.2], .agg #[.int .i64 y.1, .int .i64 y.2.1, .int .i64 y.2.2]] W fun e w' => e = .returned (.int .i64 (Lib.compareInt x.2.1 y.2.1)) ∧ ∃ q os', w' = grow (W.drewN q) os' := by
  have hcon := fun W' => AnyG.cmp_Compare_int Try.cmpInt x.2.1 y.2.1 W'
  change ∀ W', Calls Try.prog 39 _ _ _ at hcon
  generalize Lib.compareInt x.2.1 y.2.1 = r at hcon ⊢
  go_enter Try.func44, Try.ntmps44
  go_wp2_with (go_at_call 39; refine (hcon _).mono ?_; rintro e w' ⟨rfl, rfl⟩)
  go_ret
  exact ⟨rfl, 0, _, by rw [alloc_eq_grow, alloc_eq_grow, grow_grow]; rfl⟩

theorem ltFromC (x y : Clo) : ltOf (fun x y : Clo => Lib.compareInt x.2.1 y.2.1) x y = decide (x.2.1 < y.2.1) := by
  unfold ltOf Lib.compareInt
  by_cases h1 : x.2.1 < y.2.1
  · simp [h1]
  · by_cases h2 : y.2.1 < x.2.1 <;> simp [h1, h2]
theorem swoFromC : SWO (ltOf fun x y : Clo => Lib.compareInt x.2.1 y.2.1) where
  irrefl x := by rw [ltFromC]; simp
  trans x y z h1 h2 := by rw [ltFromC] at *; simp at *; omega
  ntrans x y z h1 h2 := by rw [ltFromC] at *; simp at *; omega

theorem sortClo (l : List Clo) (base g n cap : Nat) (w : World) (hl : l ≠ []) (ho : OwnC w base (.slice (some ⟨g, 0, none⟩) n cap) l) (hsz : l.length < 4611686018427387904) :
    Calls Try.prog 43 #[.slice (some ⟨g, 0, none⟩) n cap, .func (.func 44) #[] #[]] w fun e w' =>
      e = .returned (.tuple #[]) ∧ ∃ S : List Clo, S.Perm l ∧ S.Pairwise (fun x y => x.2.1 ≤ y.2.1) ∧ OwnC w' base (.slice (some ⟨g, 0, none⟩) n cap) S ∧ w.grownBy w' (some g) := by
  have hn : n = l.length := by
    obtain ⟨A, c', hv⟩ := ho.form
    injection hv
  subst hn
  have eg : ∀ args w, (callFunc 44 args).run Try.prog w = .ok (.enter 44 args) w := enters_of Try.func44 (by kernel_rfl) rfl
  have hcon := AnyQ.slices_SortFunc Try.sortS 3 Try.isAgg27 Try.sizeOf27 encO encO_len encO_one (fun x y => Lib.compareInt x.2.1 y.2.1) swoFromC 44 #[] g 0 cap l.toArray w eg
    (fun _ _ _ _ x y => idxCmp x y _) (ho.holdsK encO_len (by omega)) (World.ownsRow.lt ho g rfl).2 (by simpa using hsz)
  change Calls Try.prog 43 _ _ _ at hcon
  have e0 : l.toArray.size = l.length := by simp
  rw [e0] at hcon
  refine hcon.mono fun e w' ⟨he, d', m, os, hp, hs, hw⟩ => ⟨he, d'.toList, ?_⟩
  subst hw
  obtain ⟨p1, p2, p3⟩ := perm_sorted (by rw [e0]; exact hp) (by rw [e0]; exact hs)
  obtain ⟨q1, q2⟩ := ho.sorted encO_len (by omega) m d' p2 os
  refine ⟨p1, p3.imp fun h => ?_, q1, q2⟩
  rw [ltFromC] at h
  simpa using h
theorem sortCloNone (p : Option Addr) (cap : Nat) (fv : Value) (w : World) :
    Calls Try.prog 43 #[.slice p 0 cap, fv] w fun e w' => e = .returned (.tuple #[]) ∧ w' = w :=
  AnyF.slices_SortFunc_none (P := Try.prog) (ρ := Try.sortS_ren) Try.sortS p cap fv w

/-- The index: block gm is a map that holds, for each resource, a row of its own. -/
def Idx (w : World) (base gm n : Nat) (G : Int → List Clo) : Prop := gm < base ∧ ∃ F : Int → Value, MapV w gm n (.slice none 0 0) F ∧ (∀ r, R64 r → OwnC w base (F r) (G r)) ∧
  ∀ r r', R64 r → R64 r' → r ≠ r' → ∀ q, (F r).ownBlock = some q → (F r').ownBlock ≠ some q

section
variable {w w' : World} {base gm n : Nat} {G : Int → List Clo}
theorem Idx.made (w : World) : Idx (w.alloc (.map #[] 0)) (w.heap.size + 1) w.heap.size 0 (fun _ => []) :=
  ⟨by omega, fun _ => .slice none 0 0, MapV.made w _, fun _ _ => Own.nil _ _ _ _ _, fun _ _ _ _ _ q h => by cases h⟩
theorem Idx.alloc (h : Idx w base gm n G) (o : Obj) : Idx (w.alloc o) base gm n G := by
  obtain ⟨h0, F, h1, h2, h3⟩ := h
  exact ⟨h0, F, h1.alloc o, fun r hr => (h2 r hr).alloc o, h3⟩
theorem Idx.drewN (h : Idx w base gm n G) (k : Nat) : Idx (w.drewN k) base gm n G := h
theorem Idx.below (h : Idx w base gm n G) (hb : Below w.heap.size w w') : Idx w' base gm n G := by
  obtain ⟨h0, F, h1, h2, h3⟩ := h
  exact ⟨h0, F, h1.below hb, fun r hr => (h2 r hr).below' hb, h3⟩
theorem Idx.lt (h : Idx w base gm n G) : gm < w.heap.size := by obtain ⟨_, F, h1, _⟩ := h; exact h1.lt
/-- A row of the index is written, and put back. -/
theorem Idx.push (h : Idx w base gm n G) {F : Int → Value} (hm : MapV w gm n (.slice none 0 0) F) (ho : ∀ r, R64 r → OwnC w base (F r) (G r))
    (hd : ∀ r r', R64 r → R64 r' → r ≠ r' → ∀ q, (F r).ownBlock = some q → (F r').ownBlock ≠ some q) {r : Int} (hr : R64 r) {w1 w2 : World} {v : Value} {l : List Clo}
    (hg : w.grownBy w1 (F r).ownBlock) (ho1 : OwnC w1 base v l) (hat : v.ownBlock = (F r).ownBlock ∨ ∀ q, v.ownBlock = some q → w.heap.size ≤ q) (hm2 : MapV w2 gm (n + 1) (.slice none 0 0) (fun y => if y = r then v else F y)) (hg2 : w1.grownBy w2 (some gm)) :
    Idx w2 base gm (n + 1) (fun y => if y = r then l else G y) := by
  have h0 := h.1
  refine ⟨h0, _, hm2, fun y hy => ?_, fun x y hx hy hne q hq => ?_⟩
  · by_cases e : y = r
    · simp only [if_pos e]
      exact ho1.kept hg2 (by
        cases hb : v.ownBlock with
        | none => exact .inl rfl
        | some q => refine .inr ?_; intro e'; injection e' with e'; have := (World.ownsRow.lt ho1 q hb).1; omega)
    · simp only [if_neg e]
      have k1 := (ho y hy).kept hg (by
        cases hb : (F y).ownBlock with
        | none => exact .inl rfl
        | some q => exact .inr (fun e' => hd y r hy hr e q hb e'.symm))
      exact k1.kept hg2 (by
        cases hb : (F y).ownBlock with
        | none => exact .inl rfl
        | some q => refine .inr ?_; intro e'; injection e' with e'; have := (World.ownsRow.lt k1 q hb).1; omega)
  · by_cases ex : x = r
    · rw [if_pos ex] at hq
      rw [if_neg (fun e => hne (ex.trans e.symm))]
      rcases hat with hat | hat
      · rw [hat] at hq; subst ex; exact hd x y hx hy hne q hq
      · intro e'
        have := (World.ownsRow.lt (ho y hy) q e').2
        have := hat q hq
        omega
    · rw [if_neg ex] at hq
      by_cases ey : y = r
      · rw [if_pos ey]
        rcases hat with hat | hat
        · rw [hat]; subst ey; exact hd x y hx hy hne q hq
        · intro e'
          have := (World.ownsRow.lt (ho x hx) q hq).2
          have := hat q e'
          omega
      · rw [if_neg ey]; exact hd x y hx hy hne q hq
/-- A row of the index is written in place. -/
theorem Idx.setRow (h : Idx w base gm n G) {F : Int → Value} (hm : MapV w gm n (.slice none 0 0) F) (ho : ∀ r, R64 r → OwnC w base (F r) (G r))
    (hd : ∀ r r', R64 r → R64 r' → r ≠ r' → ∀ q, (F r).ownBlock = some q → (F r').ownBlock ≠ some q) {r : Int} (hr : R64 r) {w1 : World} {l : List Clo} {g : Nat} (hb : (F r).ownBlock = some g)
    (hg : w.grownBy w1 (some g)) (ho1 : OwnC w1 base (F r) l) : Idx w1 base gm n (fun y => if y = r then l else G y) := by
  have h0 := h.1
  have hgb := (World.ownsRow.lt (ho r hr) g hb).1
  refine ⟨h0, F, hm.kept hg (by intro e; injection e with e; omega), fun y hy => ?_, hd⟩
  by_cases e : y = r
  · simp only [if_pos e]; subst e; exact ho1
  · simp only [if_neg e]
    exact (ho y hy).kept hg (by
      cases hb' : (F y).ownBlock with
      | none => exact .inl rfl
      | some q => exact .inr (fun e' => hd y r hy hr e q hb' (by rw [hb]; exact e'.symm)))
end

end Go.Proofs.Ytjeocfkijbpinaa
