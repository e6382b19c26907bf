/-
  Contracts of Clone and SortFunc at closures; the index as a word on memory.
  Contract of newIndex.
  Contracts of the index's next and of closure.Next.
  Contract of closure.Enters.
-/
import Derived.Test.YtlillkfelfoafaaClo
import Derived.Test.YtlillkfelfoafaaCloM
import Derived.Test.YtlillkfelfoafaaMapV
import Derived.Test.YtlillkfelfoafaaStp
import Derived.Test.YtlillkfelfoafaaSortKit
import Derived.Test.YtlillkfelfoafaaSortLay
import Derived.Test.YtlillkfelfoafaaCloA
import Derived.Deep.RegionHeld3
set_option linter.unusedVariables false
set_option linter.unusedSimpArgs false
namespace Go.Proofs.Ytlillkfelfoafaa
open Go.RowKit RP Go.Sort Go.Lib Go.Shelf

set_option maxHeartbeats 1000000 in
theorem cloneC_any (A : Option Addr) (c : Nat) (l : List Clo) (w : World) (hl : Lst encO 3 w w.heap.size A l) (hn : l.length * 24 ≤ 140737488355328) :
    Calls Try.prog 61 #[.slice A l.length c] w fun e w' => ∃ v, e = .returned v ∧ OwnC w' w.heap.size v l ∧ Below w.heap.size w w' := by
  have q := fun (W : World) (a : Option Addr) (n c : Nat) => Lib.run_eql_slice_nil (P := Try.prog) W 23 82 a n c 0 0 Try.underlying23
  cases A with
  | none =>
    have h0 : l = [] := by
      cases l with
      | nil => rfl
      | cons x r => obtain ⟨b, off, h, _⟩ := hl (by simp); cases h
    subst h0
    go_enter Try.func61, Try.ntmps61
    go_wp2_with fail
    go_ret
    exact ⟨_, rfl, Own.nil _ _ _ _ _, Below.refl _ _⟩
  | some a =>
    have hown : OwnC (w.alloc (.cells #[] 82)) w.heap.size (.slice (some ⟨w.heap.size, 0, none⟩) 0 0) [] := Own.lit w _ _ _ [] 0 rfl encO_len rfl (Nat.le_refl _) (by simp)
    have hbl := below_refl_alloc w (.cells #[] 82)
    go_enter Try.func61, Try.ntmps61
    go_wp2_with (at_builtin; refine wpList_append_lst rfl _ _ 23 rfl w.heap.size 82 24 Try.underlying23 elemC _ [] rfl hown l _ _ c w.heap.size rfl rfl (hl.below hbl) (by simp only [Go.maxLen, List.length_nil]; omega) (by simp only [List.length_nil]; omega) (by simp) ?_; intro v1 w2 ho2 hg2 hat2)
    go_ret
    rw [List.nil_append] at ho2
    have hg2' : (w.alloc (.cells #[] 82)).grownBy w2 (some w.heap.size) := hg2
    exact ⟨_, rfl, ho2, hbl.grown hg2' (by simp) (fun k hk => by injection hk with hk; omega)⟩

set_option maxHeartbeats 1000000 in
theorem idxCmp (x y : Clo) (W : World) : Calls Try.prog 63 #[.agg #[.int .i64 x.1, .int .i64 x.2.1, .int .i64 x.2.2], .agg #[.int .i64 y.1, .int .i64 y.2.1, .int .i64 y.2.2]] W fun e w' => e = .returned (.int .i64 (Lib.compareInt x.2.1 y.2.1)) ∧ ∃ q os', w' = grow (W.drewN q) os' := by
  have hcon := fun W' => AnyG.cmp_Compare_int Try.cmpInt x.2.1 y.2.1 W'
  change ∀ W', Calls Try.prog 45 _ _ _ at hcon
  generalize Lib.compareInt x.2.1 y.2.1 = r at hcon ⊢
  go_enter Try.func63, Try.ntmps63
  go_wp2_with (go_at_call 45; refine (hcon _).mono ?_; rintro e w' ⟨rfl, rfl⟩)
  go_ret
  exact ⟨rfl, 0, _, by rw [alloc_eq_grow, alloc_eq_grow, grow_grow]; rfl⟩

theorem ltFromC (x y : Clo) : ltOf (fun x y : Clo => Lib.compareInt x.2.1 y.2.1) x y = decide (x.2.1 < y.2.1) := by
  unfold ltOf Lib.compareInt
  by_cases h1 : x.2.1 < y.2.1
  · simp [h1]
  · by_cases h2 : y.2.1 < x.2.1 <;> simp [h1, h2]
theorem swoFromC : SWO (ltOf fun x y : Clo => Lib.compareInt x.2.1 y.2.1) where
  irrefl x := by rw [ltFromC]; simp
  trans x y z h1 h2 := by rw [ltFromC] at *; simp at *; omega
  ntrans x y z h1 h2 := by rw [ltFromC] at *; simp at *; omega

theorem sortClo (l : List Clo) (base g n cap : Nat) (w : World) (hl : l ≠ []) (ho : OwnC w base (.slice (some ⟨g, 0, none⟩) n cap) l) (hsz : l.length < 4611686018427387904) :
    Calls Try.prog 62 #[.slice (some ⟨g, 0, none⟩) n cap, .func (.func 63) #[] #[]] w fun e w' =>
      e = .returned (.tuple #[]) ∧ ∃ S : List Clo, S.Perm l ∧ S.Pairwise (fun x y => x.2.1 ≤ y.2.1) ∧ OwnC w' base (.slice (some ⟨g, 0, none⟩) n cap) S ∧ w.grownBy w' (some g) := by
  have hn : n = l.length := by
    obtain ⟨A, c', hv⟩ := ho.form
    injection hv
  subst hn
  have eg : ∀ args w, (callFunc 63 args).run Try.prog w = .ok (.enter 63 args) w := enters_of Try.func63 (by kernel_rfl) rfl
  have hcon := AnyQ.slices_SortFunc Try.sortS 3 Try.isAgg82 Try.sizeOf82 encO encO_len encO_one (fun x y => Lib.compareInt x.2.1 y.2.1) swoFromC 63 #[] g 0 cap l.toArray w eg
    (fun _ _ _ _ x y => idxCmp x y _) (ho.holdsK encO_len (by omega)) (World.ownsRow.lt ho g rfl).2 (by simpa using hsz)
  change Calls Try.prog 62 _ _ _ at hcon
  have e0 : l.toArray.size = l.length := by simp
  rw [e0] at hcon
  refine hcon.mono fun e w' ⟨he, d', m, os, hp, hs, hw⟩ => ⟨he, d'.toList, ?_⟩
  subst hw
  obtain ⟨p1, p2, p3⟩ := perm_sorted (by rw [e0]; exact hp) (by rw [e0]; exact hs)
  obtain ⟨q1, q2⟩ := ho.sorted encO_len (by omega) m d' p2 os
  refine ⟨p1, p3.imp fun h => ?_, q1, q2⟩
  rw [ltFromC] at h
  simpa using h
theorem sortCloNone (p : Option Addr) (cap : Nat) (fv : Value) (w : World) :
    Calls Try.prog 62 #[.slice p 0 cap, fv] w fun e w' => e = .returned (.tuple #[]) ∧ w' = w :=
  AnyF.slices_SortFunc_none (P := Try.prog) (ρ := Try.sortS_ren) Try.sortS p cap fv w

/-- The index: block gm is a map that holds, for each resource, a row of its own. -/
def Idx (w : World) (base gm n : Nat) (G : Int → List Clo) : Prop := gm < base ∧ ∃ F : Int → Value, MapV w gm n (.slice none 0 0) F ∧ (∀ r, R64 r → OwnC w base (F r) (G r)) ∧
  ∀ r r', R64 r → R64 r' → r ≠ r' → ∀ q, (F r).ownBlock = some q → (F r').ownBlock ≠ some q

section
variable {w w' : World} {base gm n : Nat} {G : Int → List Clo}
theorem Idx.made (w : World) : Idx (w.alloc (.map #[] 0)) (w.heap.size + 1) w.heap.size 0 (fun _ => []) :=
  ⟨by omega, fun _ => .slice none 0 0, MapV.made w _, fun _ _ => Own.nil _ _ _ _ _, fun _ _ _ _ _ q h => by cases h⟩
theorem Idx.alloc (h : Idx w base gm n G) (o : Obj) : Idx (w.alloc o) base gm n G := by
  obtain ⟨h0, F, h1, h2, h3⟩ := h
  exact ⟨h0, F, h1.alloc o, fun r hr => (h2 r hr).alloc o, h3⟩
theorem Idx.drewN (h : Idx w base gm n G) (k : Nat) : Idx (w.drewN k) base gm n G := h
theorem Idx.below (h : Idx w base gm n G) (hb : Below w.heap.size w w') : Idx w' base gm n G := by
  obtain ⟨h0, F, h1, h2, h3⟩ := h
  exact ⟨h0, F, h1.below hb, fun r hr => (h2 r hr).below' hb, h3⟩
theorem Idx.lt (h : Idx w base gm n G) : gm < w.heap.size := by obtain ⟨_, F, h1, _⟩ := h; exact h1.lt
/-- A row of the index is written, and put back. -/
theorem Idx.push (h : Idx w base gm n G) {F : Int → Value} (hm : MapV w gm n (.slice none 0 0) F) (ho : ∀ r, R64 r → OwnC w base (F r) (G r))
    (hd : ∀ r r', R64 r → R64 r' → r ≠ r' → ∀ q, (F r).ownBlock = some q → (F r').ownBlock ≠ some q) {r : Int} (hr : R64 r) {w1 w2 : World} {v : Value} {l : List Clo}
    (hg : w.grownBy w1 (F r).ownBlock) (ho1 : OwnC w1 base v l) (hat : v.ownBlock = (F r).ownBlock ∨ ∀ q, v.ownBlock = some q → w.heap.size ≤ q) (hm2 : MapV w2 gm (n + 1) (.slice none 0 0) (fun y => if y = r then v else F y)) (hg2 : w1.grownBy w2 (some gm)) :
    Idx w2 base gm (n + 1) (fun y => if y = r then l else G y) := by
  have h0 := h.1
  refine ⟨h0, _, hm2, fun y hy => ?_, fun x y hx hy hne q hq => ?_⟩
  · by_cases e : y = r
    · simp only [if_pos e]
      exact ho1.kept hg2 (by
        cases hb : v.ownBlock with
        | none => exact .inl rfl
        | some q => refine .inr ?_; intro e'; injection e' with e'; have := (World.ownsRow.lt ho1 q hb).1; omega)
    · simp only [if_neg e]
      have k1 := (ho y hy).kept hg (by
        cases hb : (F y).ownBlock with
        | none => exact .inl rfl
        | some q => exact .inr (fun e' => hd y r hy hr e q hb e'.symm))
      exact k1.kept hg2 (by
        cases hb : (F y).ownBlock with
        | none => exact .inl rfl
        | some q => refine .inr ?_; intro e'; injection e' with e'; have := (World.ownsRow.lt k1 q hb).1; omega)
  · by_cases ex : x = r
    · rw [if_pos ex] at hq
      rw [if_neg (fun e => hne (ex.trans e.symm))]
      rcases hat with hat | hat
      · rw [hat] at hq; subst ex; exact hd x y hx hy hne q hq
      · intro e'
        have := (World.ownsRow.lt (ho y hy) q e').2
        have := hat q hq
        omega
    · rw [if_neg ex] at hq
      by_cases ey : y = r
      · rw [if_pos ey]
        rcases hat with hat | hat
        · rw [hat]; subst ey; exact hd x y hx hy hne q hq
        · intro e'
          have := (World.ownsRow.lt (ho x hx) q hq).2
          have := hat q e'
          omega
      · rw [if_neg ey]; exact hd x y hx hy hne q hq
/-- A row of the index is written in place. -/
theorem Idx.setRow (h : Idx w base gm n G) {F : Int → Value} (hm : MapV w gm n (.slice none 0 0) F) (ho : ∀ r, R64 r → OwnC w base (F r) (G r))
    (hd : ∀ r r', R64 r → R64 r' → r ≠ r' → ∀ q, (F r).ownBlock = some q → (F r').ownBlock ≠ some q) {r : Int} (hr : R64 r) {w1 : World} {l : List Clo} {g : Nat} (hb : (F r).ownBlock = some g)
    (hg : w.grownBy w1 (some g)) (ho1 : OwnC w1 base (F r) l) : Idx w1 base gm n (fun y => if y = r then l else G y) := by
  have h0 := h.1
  have hgb := (World.ownsRow.lt (ho r hr) g hb).1
  refine ⟨h0, F, hm.kept hg (by intro e; injection e with e; omega), fun y hy => ?_, hd⟩
  by_cases e : y = r
  · simp only [if_pos e]; subst e; exact ho1
  · simp only [if_neg e]
    exact (ho y hy).kept hg (by
      cases hb' : (F y).ownBlock with
      | none => exact .inl rfl
      | some q => exact .inr (fun e' => hd y r hy hr e q hb' (by rw [hb]; exact e'.symm)))
end

end Go.Proofs.Ytlillkfelfoafaa

namespace Go.Proofs.Ytlillkfelfoafaa
open Go.RowKit RP

def IdxPost (l : List Clo) (w : World) (e : Ending) (w' : World) : Prop :=
  ∃ gm n S, e = .returned (.map (some gm)) ∧ S.Perm l ∧ (S.Pairwise fun x y => x.2.1 ≤ y.2.1) ∧ Idx w' (gm + 1) gm n (idxOf S) ∧ w.heap.size ≤ gm ∧ Below w.heap.size w w'

theorem zeroSl (W : World) : (zeroValue 23).run Try.prog W = .ok (.slice none 0 0) W := by kernel_rfl

set_option maxHeartbeats 4000000 in
/-- The loop over the sorted closures. -/
theorem newIndex_any (A : Option Addr) (c : Nat) (l : List Clo) (w : World) (hl : Lst encO 3 w w.heap.size A l) (hn : l.length * 24 ≤ 140737488355328) (hrng : ∀ x ∈ l, R64 x.1 ∧ R64 x.2.1 ∧ R64 x.2.2) :
    Calls Try.prog 52 #[.slice A l.length c] w (IdxPost l w) := by
  have hmm := @run_makeMap Try.prog
  go_enter Try.func52, Try.ntmps52
  go_wp2_with fail
  refine (cloneC_any A c l w hl hn).mono ?_
  rintro e w1 ⟨v1, rfl, ho1, hb1⟩
  have z1 := hb1.size
  obtain ⟨A1, c1, rfl⟩ := ho1.form
  have hsort : Calls Try.prog 62 #[.slice A1 l.length c1, .func (.func 63) #[] #[]] w1 fun e w' =>
      e = .returned (.tuple #[]) ∧ ∃ S : List Clo, S.Perm l ∧ S.Pairwise (fun x y => x.2.1 ≤ y.2.1) ∧ OwnC w' w.heap.size (.slice A1 l.length c1) S ∧ Below w.heap.size w1 w' := by
    by_cases h0 : l = []
    · subst h0
      exact (sortCloNone A1 c1 _ w1).mono fun e w' ⟨he, hw⟩ => ⟨he, [], List.Perm.nil, List.Pairwise.nil, by rw [hw]; exact ho1, by rw [hw]; exact Below.refl _ _⟩
    · obtain ⟨g, cc, hq, hgb, hgl, _, _, _⟩ := ho1.at_ encO_len h0
      injection hq with hq1 _ hq2
      subst hq1 hq2
      exact (sortClo l w.heap.size g l.length c1 w1 h0 ho1 (by omega)).mono fun e w' ⟨he, S, h1, h2, h3, h4⟩ => ⟨he, S, h1, h2, h3, below_of_grownBy h4 z1 (fun k hk => by injection hk with hk; omega)⟩
  go_wp2_with fail
  refine hsort.mono ?_
  rintro e w2 ⟨rfl, S, hperm, hsrt, ho2, hb2⟩
  clear hsort
  have hlen := hperm.length_eq
  have HRNG : Hid (∀ x ∈ S, R64 x.1 ∧ R64 x.2.1 ∧ R64 x.2.2) := fun x hx => hrng x (hperm.mem_iff.1 hx)
  have HP := Lib.hid hperm
  have HSR := Lib.hid hsrt
  have z2 := hb2.size
  have hbw2 := hb1.trans hb2
  have hsl := ho2.lst encO_len
  have hS : S.length * 24 ≤ 140737488355328 := by rw [hlen]; exact hn
  rw [← hlen]
  clear hperm hsrt hlen hrng hn ho2 ho1
  have hidx0 := Idx.made w2
  go_wp2_with fail
  have hbm : Below w2.heap.size w2 (w2.alloc (.map #[] 0)) := below_refl_alloc w2 _
  have hbB : Below w.heap.size w (w2.alloc (.map #[] 0)) := (hbw2).alloc (by omega) _
  have hgz : w2.heap.size < (w2.alloc (.map #[] 0)).heap.size := by simp
  replace hsl := hsl.below hbm
  generalize w2.alloc (.map #[] 0) = w3 at *
  have hgm : w.heap.size ≤ w2.heap.size := by omega
  generalize w2.heap.size = gm at *
  clear hbm hb2 hbw2 z2
  go_loopg [6, 7, 8, 16] S.length (fun g s6 s7 s8 s16 wr => ∃ k n : Nat, k ≤ S.length ∧ n ≤ k ∧ g = S.length - k ∧ s16 = .int .i64 k ∧ Idx wr (gm + 1) gm n (idxOf (S.take k)) ∧ Below gm w3 wr)
  case atStart => exact ⟨0, 0, by omega, by omega, by omega, rfl, hidx0, Below.refl _ _⟩
  case round =>
    obtain ⟨k, n, hk, hnk, hg, rfl, hidx, hb⟩ := hrel
    have hz := hb.size
    by_cases hlt : k < S.length
    · obtain ⟨bb, off, rfl, hbw, c0, c1', c2⟩ := (hsl.below hb).oc k hlt
      obtain ⟨r1, r2, r3⟩ := HRNG.out S[k] (List.getElem_mem hlt)
      have HS := Lib.hid (show idxOf (S.take (k + 1)) = idxStep (idxOf (S.take k)) S[k] by rw [take_snoc S k hlt, idxOf_snoc])
      have hgl := idx_len (S.take k) S[k].1
      rw [List.length_take] at hgl
      generalize S[k] = x at *
      obtain ⟨r, f, e⟩ := x
      simp only at c0 c1' c2 r1 r2 r3 HS hgl
      have hne : bb ≠ wr.heap.size := by omega
      by_cases hfe : f < e
      · have k0 : (wr.alloc (.cells #[.int .i64 r, .int .i64 f, .int .i64 e] 82)).cell? ⟨wr.heap.size, 0, none⟩ = some (.int .i64 r) := by rw [World.cell?_alloc_at _ _ _ _ rfl]; rfl
        have k1 : (wr.alloc (.cells #[.int .i64 r, .int .i64 f, .int .i64 e] 82)).cell? ⟨wr.heap.size, 1, none⟩ = some (.int .i64 f) := by rw [World.cell?_alloc_at _ _ _ _ rfl]; rfl
        have k2 : (wr.alloc (.cells #[.int .i64 r, .int .i64 f, .int .i64 e] 82)).cell? ⟨wr.heap.size, 2, none⟩ = some (.int .i64 e) := by rw [World.cell?_alloc_at _ _ _ _ rfl]; rfl
        have hbW := hb.alloc (show gm ≤ wr.heap.size by omega) (.cells #[.int .i64 r, .int .i64 f, .int .i64 e] 82)
        have hiW := hidx.alloc (.cells #[.int .i64 r, .int .i64 f, .int .i64 e] 82)
        obtain ⟨_, F, hm0, hoF0, hdj⟩ := id hidx
        have hm := hm0.alloc (.cells #[.int .i64 r, .int .i64 f, .int .i64 e] 82)
        have hoF : ∀ y, R64 y → OwnC (wr.alloc (.cells #[.int .i64 r, .int .i64 f, .int .i64 e] 82)) (gm + 1) (F y) (idxOf (S.take k) y) := fun y hy => (hoF0 y hy).alloc _
        have HFG : Hid (∀ q, (F r).ownBlock = some q → q < wr.heap.size) := fun q hq => (World.ownsRow.lt (hoF0 r r1) q hq).2
        clear hm0 hoF0
        have hzW : wr.heap.size < (wr.alloc (.cells #[.int .i64 r, .int .i64 f, .int .i64 e] 82)).heap.size := by simp
        have hbk : (wr.alloc (.cells #[.int .i64 r, .int .i64 f, .int .i64 e] 82)).heap[wr.heap.size]? = some (.cells #[.int .i64 r, .int .i64 f, .int .i64 e] 82 (0, 0)) := heap_alloc_new wr _
        have hgl' : gm < wr.heap.size := hidx.lt
        go_upto_region 8 with fail
        generalize wr.alloc (.cells #[.int .i64 r, .int .i64 f, .int .i64 e] 82) = W at *
        clear hidx hb c0 c1' c2
        generalize wr.heap.size = gc at *
        have HIW := Lib.hid hiW
        clear hiW
        have hrun := hm.lookup (t := 96) Try.underlying96 (zeroSl W) r1
        have hor := hoF r r1
        have HM := Lib.hid hm
        have HOF := Lib.hid hoF
        have HDJ := Lib.hid hdj
        clear hm hoF hdj
        rcases snoc_cases (idxOf (S.take k) r) with h0 | ⟨q, u, h0⟩
        · rw [h0] at hor
          obtain ⟨A7, c7, hv⟩ := hor.form
          rw [hv] at hrun hor
          have HV := Lib.hid hv
          have H0 := Lib.hid h0
          clear hv h0
          simp only [List.length_nil] at hrun hor HV
          go_upto_region 10 with fail
          go_quiet (fail)
          clear hrun
          go_wp2_with fail
          have HG := Lib.hid (stepC_nil (r, f, e))
          have k0' : (W.drewN nq).cell? ⟨gc, 0, none⟩ = some (.int .i64 r) := k0
          have k1' : (W.drewN nq).cell? ⟨gc, 1, none⟩ = some (.int .i64 f) := k1
          have k2' : (W.drewN nq).cell? ⟨gc, 2, none⟩ = some (.int .i64 e) := k2
          have hor' := hor.drewN nq
          have HM' := Lib.hid (HM.out.drewN nq)
          have hzW' : gc < (W.drewN nq).heap.size := hzW
          have hbW' := below_drewN hbW nq
          have HIW' := Lib.hid (HIW.out.drewN nq)
          have HOF' : Hid (∀ y, R64 y → OwnC (W.drewN nq) (gm + 1) (F y) (idxOf (S.take k) y)) := HOF.out
          clear k0 k1 k2 hor HM hzW hbW HIW HOF
          generalize W.drewN nq = W2 at *
          have ha : OwnC (W2.alloc (.cells #[.int .i64 r, .int .i64 f, .int .i64 e] 82)).drew (gm + 1) (.slice A7 0 c7) [] := (hor'.alloc _).drew
          have hblk : (W2.alloc (.cells #[.int .i64 r, .int .i64 f, .int .i64 e] 82)).drew.heap[W2.heap.size]? = some (.cells #[.int .i64 r, .int .i64 f, .int .i64 e] 82 (0, 0)) := heap_alloc_new W2 _
          have hgrow : ∀ w1 row, (W2.alloc (.cells #[.int .i64 r, .int .i64 f, .int .i64 e] 82)).drew.grownBy w1 row → W2.grownBy w1 row := fun w1 row h => ⟨h.os, h.tape, h.output, Nat.le_trans (by show _ ≤ (W2.alloc _).heap.size; simp) h.size, fun q hq hn => (h.block q (by show q < (W2.alloc _).heap.size; simp; omega) hn).trans (Below.heap_alloc _ _ _ hq)⟩
          have HGW := Lib.hid hgrow
          clear hgrow
          go_region_held3 (fun w' => w'.cell? ⟨gc, 0, none⟩ = some (.int .i64 r) ∧ w'.cell? ⟨gc, 1, none⟩ = some (.int .i64 f) ∧ w'.cell? ⟨gc, 2, none⟩ = some (.int .i64 e)) (first | exact ⟨hg6.cell j0 hgmne, hg6.cell j1 hgmne, hg6.cell j2 hgmne⟩ | exact ⟨j0, j1, j2⟩ | go_keep)
            ((refine step_append_blk (by rfl) _ _ 23 (by rfl) (gm + 1) 82 24 Try.underlying23 elemC _ [] (by rfl) ha [(r, f, e)] W2.heap.size 1 1 (by rfl) (by rfl) 82 hblk (by simp only [Go.maxLen, List.length_append, List.length_cons, List.length_nil]; omega) (by simp only [List.length_append, List.length_cons, List.length_nil]; omega) (by show gm + 1 ≤ (W2.alloc _).heap.size; simp; omega) ?_; intro v5 w5 ho5 hg5 hat5
              have hgW : W2.grownBy w5 (F r).ownBlock := by rw [HV.out]; exact HGW.out _ _ hg5
              have hgne : some gc ≠ (F r).ownBlock := fun q => Nat.lt_irrefl _ (HFG.out gc q.symm)
              have j0 := hgW.cell k0' hgne
              have j1 := hgW.cell k1' hgne
              have j2 := hgW.cell k2' hgne
              obtain ⟨w6, hrunU, hm6, hg6⟩ := (HM'.out.kept hgW (fun q => by have := (World.ownsRow.lt (HOF'.out r r1) gm q.symm).1; omega)).update (t := 96) Try.underlying96 (by simp only [Go.maxLen]; omega) r1 v5
              have hgmne : some gc ≠ some gm := by intro q; injection q with q; omega))
          have HI6 := Lib.hid (HIW'.out.push HM'.out HOF'.out HDJ.out r1 hgW ho5 (by
            rcases hat5 with q | q
            · exact .inl (by rw [HV.out]; exact q)
            · refine .inr fun p hp => ?_
              rw [q] at hp
              injection hp with hp
              rw [← hp]
              show W2.heap.size ≤ (W2.alloc _).heap.size
              simp) hm6 hg6)
          have HB6 := Lib.hid ((hbW'.grown hgW (by omega) (fun p hp => by have := (World.ownsRow.lt (HOF'.out r r1) p hp).1; omega)).grown hg6 (by have := hgW.size; omega) (fun p hp => by injection hp with hp; omega))
          clear hrunU hgW hg5 hat5 hg6 hm6 ho5 j0 j1 j2 k0' k1' k2' ha hblk hor'
          go_wp2_with fail
          go_roundg (S.length - (k + 1))
          case measure => omega
          case rel =>
            refine ⟨k + 1, n + 1, by omega, by omega, rfl, by go_num, ?_, HB6.out⟩
            have e1 : idxOf (S.take (k + 1)) = fun y => if y = r then [] ++ [(r, f, e)] else idxOf (S.take k) y := by
              rw [HS.out]
              funext y
              simp only [idxStep]
              by_cases ey : y = r
              · subst ey
                rw [if_pos ⟨hfe, rfl⟩, if_pos rfl, H0.out, HG.out]; try rfl
              · rw [if_neg (fun h => ey h.2), if_neg ey]
            rw [e1]
            exact HI6.out
        · rw [h0] at hor hgl
          obtain ⟨g, c7, hv, hge, hgw, hcc7, hcell, hfz⟩ := hor.at_ encO_len (by simp)
          have cu := hcell q.length u (by simp) 2 (.int .i64 u.2.2) rfl
          have fu := hfz (q.length * 3 + 2)
          obtain ⟨ur, uf, ue⟩ := u
          simp only at cu
          rw [hv] at hrun hor
          have hql : (q ++ [(ur, uf, ue)]).length = q.length + 1 := by simp
          rw [hql] at hrun hor hv hgl hcc7
          have HV := Lib.hid hv
          have H0 := Lib.hid h0
          have hgne : g ≠ gc := fun e' => by have := HFG.out g (by rw [HV.out]; rfl); omega
          clear hv h0 hcell hfz hql
          have hq2 : (q.length : Int) < ((q.length + 1 : Nat) : Int) := by omega
          have hq0 : (0 : Int) ≤ (q.length : Int) := by omega
          by_cases near : f ≤ ue
          · have HG := Lib.hid (stepC_near q (ur, uf, ue) (r, f, e) near)
            have dn : decide (f ≤ ue) = true := by simpa using near
            go_upto_region 10 with fail
            go_quiet (fail)
            clear hrun
            go_wp2_with fail
            go_region
            have hst := (hor.drewN (nq + 1)).stored encO_len q.length 2 (.int .i64 (max ue e)) (ur, uf, max ue e) (by simp) (by omega) (by simp [encO])
            rw [← HV.out] at hst
            have HI6 := Lib.hid ((HIW.out.drewN (nq + 1)).setRow (HM.out.drewN (nq + 1)) (fun y hy => (HOF.out y hy).drewN (nq + 1)) HDJ.out r1 (g := g) (by rw [HV.out]; rfl) hst.2 hst.1)
            have HB6 := Lib.hid ((below_drewN hbW (nq + 1)).setCell (p := ⟨g, q.length * 3 + 2, none⟩) (by show gm ≤ g; omega) (.int .i64 (max ue e)))
            clear hst
            go_wp2_with fail
            go_roundg (S.length - (k + 1))
            case measure => omega
            case rel =>
              refine ⟨k + 1, n, by omega, by omega, rfl, by go_num, ?_, HB6.out⟩
              have e1 : idxOf (S.take (k + 1)) = fun y => if y = r then (q ++ [(ur, uf, ue)]).set q.length (ur, uf, max ue e) else idxOf (S.take k) y := by
                rw [HS.out]
                funext y
                simp only [idxStep]
                by_cases ey : y = r
                · subst ey
                  rw [if_pos ⟨hfe, rfl⟩, if_pos rfl, H0.out, HG.out]
                  simp
                · rw [if_neg (fun h => ey h.2), if_neg ey]
              rw [e1]
              exact HI6.out
          · have HG := Lib.hid (stepC_far q (ur, uf, ue) (r, f, e) near)
            have dn : decide (f ≤ ue) = false := by simpa using near
            go_upto_region 10 with fail
            go_quiet (fail)
            clear hrun
            go_wp2_with fail
            have k0' : (W.drewN nq).cell? ⟨gc, 0, none⟩ = some (.int .i64 r) := k0
            have k1' : (W.drewN nq).cell? ⟨gc, 1, none⟩ = some (.int .i64 f) := k1
            have k2' : (W.drewN nq).cell? ⟨gc, 2, none⟩ = some (.int .i64 e) := k2
            have hor' := hor.drewN nq
            have HM' := Lib.hid (HM.out.drewN nq)
            have hzW' : gc < (W.drewN nq).heap.size := hzW
            have hbW' := below_drewN hbW nq
            have HIW' := Lib.hid (HIW.out.drewN nq)
            have HOF' : Hid (∀ y, R64 y → OwnC (W.drewN nq) (gm + 1) (F y) (idxOf (S.take k) y)) := HOF.out
            clear k0 k1 k2 hor HM hzW hbW HIW HOF
            generalize W.drewN nq = W2 at *
            have ha : OwnC (W2.alloc (.cells #[.int .i64 r, .int .i64 f, .int .i64 e] 82)).drew (gm + 1) (.slice (some ⟨g, 0, none⟩) (q.length + 1) c7) (q ++ [(ur, uf, ue)]) := (hor'.alloc _).drew
            have hblk : (W2.alloc (.cells #[.int .i64 r, .int .i64 f, .int .i64 e] 82)).drew.heap[W2.heap.size]? = some (.cells #[.int .i64 r, .int .i64 f, .int .i64 e] 82 (0, 0)) := heap_alloc_new W2 _
            have hgrow : ∀ w1 row, (W2.alloc (.cells #[.int .i64 r, .int .i64 f, .int .i64 e] 82)).drew.grownBy w1 row → W2.grownBy w1 row := fun w1 row h => ⟨h.os, h.tape, h.output, Nat.le_trans (by show _ ≤ (W2.alloc _).heap.size; simp) h.size, fun q hq hn => (h.block q (by show q < (W2.alloc _).heap.size; simp; omega) hn).trans (Below.heap_alloc _ _ _ hq)⟩
            have HGW := Lib.hid hgrow
            clear hgrow
            go_region_held3 (fun w' => w'.cell? ⟨gc, 0, none⟩ = some (.int .i64 r) ∧ w'.cell? ⟨gc, 1, none⟩ = some (.int .i64 f) ∧ w'.cell? ⟨gc, 2, none⟩ = some (.int .i64 e)) (first | exact ⟨hg6.cell j0 hgmne, hg6.cell j1 hgmne, hg6.cell j2 hgmne⟩ | exact ⟨j0, j1, j2⟩ | go_keep)
              ((refine step_append_blk (by rfl) _ _ 23 (by rfl) (gm + 1) 82 24 Try.underlying23 elemC _ (q ++ [(ur, uf, ue)]) (by rfl) ha [(r, f, e)] W2.heap.size 1 1 (by rfl) (by rfl) 82 hblk (by simp only [Go.maxLen, List.length_append, List.length_cons, List.length_nil]; omega) (by simp only [List.length_append, List.length_cons, List.length_nil]; omega) (by show gm + 1 ≤ (W2.alloc _).heap.size; simp; omega) ?_; intro v5 w5 ho5 hg5 hat5
                have hgW : W2.grownBy w5 (F r).ownBlock := by rw [HV.out]; exact HGW.out _ _ hg5
                have hgne : some gc ≠ (F r).ownBlock := fun q => Nat.lt_irrefl _ (HFG.out gc q.symm)
                have j0 := hgW.cell k0' hgne
                have j1 := hgW.cell k1' hgne
                have j2 := hgW.cell k2' hgne
                obtain ⟨w6, hrunU, hm6, hg6⟩ := (HM'.out.kept hgW (fun q => by have := (World.ownsRow.lt (HOF'.out r r1) gm q.symm).1; omega)).update (t := 96) Try.underlying96 (by simp only [Go.maxLen]; omega) r1 v5
                have hgmne : some gc ≠ some gm := by intro q; injection q with q; omega))
            have HI6 := Lib.hid (HIW'.out.push HM'.out HOF'.out HDJ.out r1 hgW ho5 (by
              rcases hat5 with q | q
              · exact .inl (by rw [HV.out]; exact q)
              · refine .inr fun p hp => ?_
                rw [q] at hp
                injection hp with hp
                rw [← hp]
                show W2.heap.size ≤ (W2.alloc _).heap.size
                simp) hm6 hg6)
            have HB6 := Lib.hid ((hbW'.grown hgW (by omega) (fun p hp => by have := (World.ownsRow.lt (HOF'.out r r1) p hp).1; omega)).grown hg6 (by have := hgW.size; omega) (fun p hp => by injection hp with hp; omega))
            clear hrunU hgW hg5 hat5 hg6 hm6 ho5 j0 j1 j2 k0' k1' k2' ha hblk hor'
            go_wp2_with fail
            go_roundg (S.length - (k + 1))
            case measure => omega
            case rel =>
              refine ⟨k + 1, n + 1, by omega, by omega, rfl, by go_num, ?_, HB6.out⟩
              have e1 : idxOf (S.take (k + 1)) = fun y => if y = r then (q ++ [(ur, uf, ue)]) ++ [(r, f, e)] else idxOf (S.take k) y := by
                rw [HS.out]
                funext y
                simp only [idxStep]
                by_cases ey : y = r
                · subst ey
                  rw [if_pos ⟨hfe, rfl⟩, if_pos rfl, H0.out, HG.out]; try rfl
                · rw [if_neg (fun h => ey h.2), if_neg ey]
              rw [e1]
              exact HI6.out
      · have HS2 := Lib.hid (show idxOf (S.take (k + 1)) = idxOf (S.take k) by rw [HS.out]; funext y; simp only [idxStep]; rw [if_neg (fun h => hfe h.1)])
        go_wp2_with fail
        go_roundg (S.length - (k + 1))
        case measure => omega
        case rel => exact ⟨k + 1, n, by omega, by omega, rfl, by go_num, by rw [HS2.out]; exact hidx.alloc _, hb.alloc (by omega) _⟩
    · rw [List.take_of_length_le (show S.length ≤ k by omega)] at hidx
      have HI := Lib.hid hidx
      clear hidx
      go_wp2_with fail
      go_ret
      exact ⟨gm, n, S, rfl, HP.out, HSR.out, HI.out, hgm, hbB.trans (hb.mono hgm)⟩

end Go.Proofs.Ytlillkfelfoafaa

namespace Go.Proofs.Ytlillkfelfoafaa
open Go.RowKit RP

/-- The two captured variables of the search: the list and the second. -/
def SeekAt (w : World) (gl gx : Nat) (A : Option Addr) (c : Nat) (g : List Clo) (x : Int) : Prop :=
  w.heap[gl]? = some (.cells #[.slice A g.length c] 23 (0, 0)) ∧ w.heap[gx]? = some (.cells #[.int .i64 x] 3 (0, 0)) ∧ Lst encO 3 w w.heap.size A g

set_option maxHeartbeats 1000000 in
theorem seekFn_any (gl gx : Nat) (A : Option Addr) (c : Nat) (g : List Clo) (x : Int) (k : Nat) (w : World) (h : SeekAt w gl gx A c g x) (hk : k < g.length) :
    Calls Try.prog 65 #[.int .i64 k, .pointer (some ⟨gl, 0, none⟩), .pointer (some ⟨gx, 0, none⟩)] w fun e w' => e = .returned (.bool (decide (x < g[k].2.1))) ∧ ∃ n, w' = w.drewN n := by
  obtain ⟨h1, h2, h3⟩ := h
  have q1 := cell_of_one h1
  have q2 := cell_of_one h2
  obtain ⟨b, off, rfl, hb, c0, c1, c2⟩ := h3.oc k hk
  generalize g[k].2.1 = f at *
  have i1 : (0 : Int) ≤ (k : Int) := by omega
  have i2 : (k : Int) < (g.length : Int) := by omega
  clear c0 c2 h1 h2
  go_enter Try.func65, Try.ntmps65
  go_wp2_with fail
  go_quiet (fail)
  go_wp2_with fail
  go_ret
  exact ⟨rfl, _, rfl⟩

set_option maxHeartbeats 1000000 in
theorem search_any (gl gx : Nat) (A : Option Addr) (c : Nat) (r : Int) (g : List Clo) (x : Int) (w : World) (h : SeekAt w gl gx A c g x) (hs : SepC r g) (hn : g.length ≤ 4611686018427387903) :
    Calls Try.prog 64 #[.int .i64 g.length, .func (.func 65) #[] #[.pointer (some ⟨gl, 0, none⟩), .pointer (some ⟨gx, 0, none⟩)]] w fun e w' =>
      ∃ i : Nat, e = .returned (.int .i64 i) ∧ i ≤ g.length ∧ (∀ k (hk : k < g.length), k < i → g[k].2.1 ≤ x) ∧ (∀ k (hk : k < g.length), i ≤ k → x < g[k].2.1) ∧ ∃ n, w' = w.drewN n := by
  go_enter Try.func64, Try.ntmps64
  go_wp2_with fail
  go_loopg [5, 6, 7] g.length (fun gg s5 s6 s7 wr => ∃ i j n : Nat, i ≤ j ∧ j ≤ g.length ∧ gg = j - i ∧ s5 = .int .i64 i ∧ s6 = .int .i64 j ∧ (∀ k (hk : k < g.length), k < i → g[k].2.1 ≤ x) ∧ (∀ k (hk : k < g.length), j ≤ k → x < g[k].2.1) ∧ wr = w.drewN n)
  case atStart => exact ⟨0, g.length, 0, by omega, by omega, rfl, rfl, rfl, fun k hk h => by omega, fun k hk h => by omega, rfl⟩
  case round =>
    obtain ⟨i, j, n, hij, hj, hg, rfl, rfl, hlo, hhi, rfl⟩ := hrel
    have HLO := Lib.hid hlo
    have HHI := Lib.hid hhi
    clear hlo hhi
    by_cases hlt : i < j
    · have hm : (i + j) / 2 < g.length := by omega
      have hcon := seekFn_any gl gx A c g x ((i + j) / 2) (w.drewN n) h hm
      have HSRT := Lib.hid (fun a b (ha : a < g.length) (hb : b < g.length) h => sep_sorted hs ha hb (i := a) (j := b) h)
      obtain ⟨m, hmq⟩ : ∃ m, (i + j) / 2 = m := ⟨_, rfl⟩
      have hm1 : i ≤ m := by omega
      have hm2 : m < j := by omega
      have HMI := Lib.hid (show ((i : Int) + j) / 2 = (m : Int) by omega)
      subst hmq
      generalize hmq : (i + j) / 2 = m at *
      clear hmq
      by_cases hc : x < g[m].2.1
      · have hd : decide (x < g[m].2.1) = true := by simpa using hc
        rw [hd] at hcon
        have HC := Lib.hid hc
        clear hd hc
        go_wp2_with fail
        rw [HMI.out]
        refine hcon.mono ?_
        rintro e w' ⟨rfl, n', rfl⟩
        go_wp2_with fail
        go_roundg (m - i)
        case measure => omega
        case rel => exact ⟨i, m, n + n', by omega, by omega, rfl, rfl, rfl, HLO.out, fun k hk h => by have := HSRT.out m k hm hk h; have := HC.out; omega, rfl⟩
      · have hd : decide (x < g[m].2.1) = false := by simpa using hc
        rw [hd] at hcon
        have HC := Lib.hid hc
        clear hd hc
        go_wp2_with fail
        rw [HMI.out]
        refine hcon.mono ?_
        rintro e w' ⟨rfl, n', rfl⟩
        go_wp2_with fail
        go_roundg (j - (m + 1))
        case measure => omega
        case rel => exact ⟨m + 1, j, n + n', by omega, by omega, rfl, by go_num, rfl, fun k hk h => by have := HSRT.out k m hk hm (by omega); have := HC.out; omega, HHI.out, rfl⟩
    · have HE := Lib.hid (show i = j by omega)
      go_wp2_with fail
      go_ret
      refine ⟨i, rfl, by omega, HLO.out, fun k hk h => HHI.out k hk (by omega), n, rfl⟩

/-- What next answers, of whatever list covers the same seconds. -/
def SeekPost (G : List Clo) (r x : Int) (w : World) (e : Ending) (w' : World) : Prop := ∃ n, e = .returned (.int .i64 n) ∧ NextC G r x n ∧ Below w.heap.size w w'

set_option maxHeartbeats 2000000 in
theorem inext_any (base gm n : Nat) (G : Int → List Clo) (r x : Int) (w : World) (h : Idx w base gm n G) (hr : R64 r) (hs : SepC r (G r)) (hn : (G r).length ≤ 4611686018427387903) :
    Calls Try.prog 53 #[.map (some gm), .int .i64 r, .int .i64 x] w (SeekPost (G r) r x w) := by
  have hbx := below_refl_alloc w (.cells #[.int .i64 x] 3)
  have hx1 : (w.alloc (.cells #[.int .i64 x] 3)).heap[w.heap.size]? = some (.cells #[.int .i64 x] 3 (0, 0)) := heap_alloc_new w _
  have hi1 := h.alloc (.cells #[.int .i64 x] 3)
  go_enter Try.func53, Try.ntmps53
  go_upto_region 1 with fail
  generalize w.alloc (.cells #[.int .i64 x] 3) = W at *
  have zx := lt_of_block hx1
  generalize hgx : w.heap.size = gx at *
  have HGX := Lib.hid hgx
  clear hgx
  obtain ⟨_, F, hm, hoF, _⟩ := hi1
  have hrun := hm.lookup (t := 96) Try.underlying96 (zeroSl W) hr
  have hor := hoF r hr
  clear hm hoF
  generalize G r = g at *
  obtain ⟨A, c, hv⟩ := hor.form
  rw [hv] at hrun hor
  clear hv
  have hlst := hor.lst encO_len
  clear hor
  have hbl := below_refl_alloc W (.cells #[.slice A g.length c] 23)
  have hseek : SeekAt (W.alloc (.cells #[.slice A g.length c] 23)) W.heap.size gx A c g x := ⟨heap_alloc_new W _, (Below.heap_alloc _ _ _ zx).trans hx1, hlst.belowMore hbl (by simp)⟩
  have hzl : W.heap.size < (W.alloc (.cells #[.slice A g.length c] 23)).heap.size := by simp
  go_upto_region 2 with fail
  clear hrun
  generalize W.alloc (.cells #[.slice A g.length c] 23) = W2 at *
  generalize W.heap.size = gl at *
  have HB := Lib.hid (hbx.trans (hbl.mono (by omega)))
  clear hbx hbl
  have q1 := cell_of_one hseek.1
  have q2 := cell_of_one hseek.2.1
  go_wp2_with fail
  refine (search_any gl gx A c r g x W2 hseek hs hn).mono ?_
  rintro e w3 ⟨i, rfl, hi, hlo, hhi, n', rfl⟩
  obtain ⟨nx1, nx2⟩ := next_of_index hs hi hlo hhi
  cases i with
  | succ I =>
    have hI : I < g.length := hi
    have HX1 : Hid (x < g[I].2.2 → NextC g r x g[I].2.2) := fun hx => nx1 ⟨by omega, hI⟩ hx
    have HX2 : Hid (¬ x < g[I].2.2 → NextC g r x x) := fun hx => nx2 fun _ => hx
    clear nx1 nx2 hlo hhi
    obtain ⟨b, off, rfl, hb, c0, c1, c2⟩ := hseek.2.2.oc I hI
    have dk : decide ((0 : Int) < ((I + 1 : Nat) : Int)) = true := by simp
    have dk' : decide ((0 : Int) < (I : Int) + 1) = true := by simp
    have hwr : IntKind.i64.wrap ((I : Int) + 1 - 1) = (I : Int) := by rw [IntWalk.i64_in _ (by omega)]; omega
    have j0 : (0 : Int) ≤ (I : Int) := by omega
    have j1 : (I : Int) < (g.length : Int) := by omega
    by_cases hc : x < g[I].2.2
    · have HN := Lib.hid (HX1.out hc)
      have hd : decide (x < g[I].2.2) = true := by simpa using hc
      generalize g[I].2.2 = y at *
      clear c0 c1 hseek
      go_wp2_with fail
      go_quiet (fail)
      clear hwr
      go_wp2_with fail
      go_ret
      exact ⟨y, rfl, HN.out, by rw [HGX.out]; exact below_drewN HB.out _⟩
    · have HN := Lib.hid (HX2.out hc)
      have hd : decide (x < g[I].2.2) = false := by simpa using hc
      generalize g[I].2.2 = y at *
      clear c0 c1 hseek
      go_wp2_with fail
      go_quiet (fail)
      clear hwr
      go_wp2_with fail
      go_ret
      exact ⟨x, rfl, HN.out, by rw [HGX.out]; exact below_drewN HB.out _⟩
  | zero =>
    have HN := Lib.hid (nx2 fun h => by omega)
    clear nx1 nx2 hlo hhi hseek
    go_wp2_with fail
    go_quiet (fail)
    go_wp2_with fail
    go_ret
    exact ⟨x, rfl, HN.out, by rw [HGX.out]; exact below_drewN HB.out _⟩

theorem idx_ok {l S : List Clo} (hp : S.Perm l) (hs : S.Pairwise fun x y => x.2.1 ≤ y.2.1) (r : Int) : SepC r (idxOf S r) ∧ ∀ y, coverC (idxOf S r) r y = coverC l r y := by
  obtain ⟨h1, h2⟩ := idx_spec hs r
  exact ⟨h1, fun y => by rw [h2, cover_perm hp]⟩

end Go.Proofs.Ytlillkfelfoafaa

namespace Go.Proofs.Ytlillkfelfoafaa
open Go.RowKit RP

set_option maxHeartbeats 4000000 in
theorem enters_any (A B : Option Addr) (c d : Nat) (l : List Clo) (occ : List Occ) (s : Int) (w : World) (hl : Lst encO 3 w w.heap.size A l) (ho : Lst encO 3 w w.heap.size B occ) (hn : l.length * 24 ≤ 140737488355328) (hn' : occ.length ≤ 9223372036854775807)
    (hrng : ∀ x ∈ l, R64 x.1 ∧ R64 x.2.1 ∧ R64 x.2.2) (hro : ∀ x ∈ occ, R64 x.1) :
    Calls Try.prog 35 #[.slice A l.length c, .slice B occ.length d, .int .i64 s] w fun e w' => e = .returned (.bool (entersC l occ s)) ∧ Below w.heap.size w w' := by
  have hmo := fun W => small_any s W
  cases hs : smallC s with
  | false =>
    rw [hs] at hmo
    have H := Lib.hid (show entersC l occ s = false by simp [entersC, hs])
    clear hs
    go_enter Try.func35, Try.ntmps35
    go_wp2_with (go_at_call 51; refine (hmo _).mono ?_; rintro e w' ⟨rfl, rfl⟩)
    go_ret
    exact ⟨ret_bool H.out.symm, Below.refl _ _⟩
  | true =>
    rw [hs] at hmo
    have HS := Lib.hid hs
    obtain ⟨s1, s2⟩ := smallC_iff.1 hs
    clear hs
    have HMO := Lib.hid hmo
    clear hmo
    go_enter Try.func35, Try.ntmps35
    go_wp2_with fail
    refine (HMO.out _).mono ?_
    rintro e w' ⟨rfl, rfl⟩
    clear HMO
    go_wp2_with fail
    refine (newIndex_any A c l w hl hn hrng).mono ?_
    rintro e w1 ⟨gm, n, S, rfl, hp, hsr, hi, hgm, hb1⟩
    have HIX := Lib.hid (fun r => idx_ok hp hsr r)
    have HLEN : Hid (∀ r, (idxOf S r).length ≤ 4611686018427387903) := fun r => by have := idx_len S r; have := hp.length_eq; omega
    clear hp hsr hrng
    have HRO := Lib.hid hro
    clear hro
    go_wp2_with fail
    go_loopg [9, 17] occ.length (fun g s9 s17 wr => ∃ k : Nat, k ≤ occ.length ∧ g = occ.length - k ∧ s17 = .int .i64 k ∧ (occ.take k).all (fun o => smallC o.2.1 && !coverC l o.1 (s + o.2.1)) = true ∧ Below w1.heap.size w1 wr)
    case atStart => exact ⟨0, by omega, by omega, rfl, rfl, Below.refl _ _⟩
    case round =>
      obtain ⟨k, hk, hg, rfl, hv, hb⟩ := hrel
      have HV := Lib.hid hv
      clear hv
      have hz := hb.size
      have z1 := hb1.size
      by_cases hlt : k < occ.length
      · obtain ⟨b, off, rfl, hbw, c0, c1, c2⟩ := ((ho.belowMore hb1 z1).below hb).oc k hlt
        have r1 := HRO.out occ[k] (List.getElem_mem hlt)
        have HNO := Lib.hid (fun h => all_no (p := fun o : Occ => smallC o.2.1 && !coverC l o.1 (s + o.2.1)) hlt h)
        have HYES := Lib.hid (fun h => all_take_snoc (p := fun o : Occ => smallC o.2.1 && !coverC l o.1 (s + o.2.1)) hlt HV.out h)
        generalize occ[k] = q at *
        obtain ⟨r, f, e⟩ := q
        simp only at c0 c1 c2 r1
        have hbW := hb.alloc hz (.cells #[.int .i64 r, .int .i64 f, .int .i64 e] 46)
        have k0 : (wr.alloc (.cells #[.int .i64 r, .int .i64 f, .int .i64 e] 46)).cell? ⟨wr.heap.size, 0, none⟩ = some (.int .i64 r) := by rw [World.cell?_alloc_at _ _ _ _ rfl]; rfl
        have k1 : (wr.alloc (.cells #[.int .i64 r, .int .i64 f, .int .i64 e] 46)).cell? ⟨wr.heap.size, 1, none⟩ = some (.int .i64 f) := by rw [World.cell?_alloc_at _ _ _ _ rfl]; rfl
        have hzW : wr.heap.size < (wr.alloc (.cells #[.int .i64 r, .int .i64 f, .int .i64 e] 46)).heap.size := by simp
        have hmf := fun W => small_any f W
        cases hf : smallC f with
        | false =>
          rw [hf] at hmf
          have HF := Lib.hid (HNO.out (by simp [hf]))
          clear hf
          go_upto_region 7 with fail
          generalize wr.alloc (.cells #[.int .i64 r, .int .i64 f, .int .i64 e] 46) = W at *
          go_quiet ((go_at_call 51; exact quiet_left (hmf _)))
          go_wp2_with fail
          go_ret
          exact ⟨ret_bool (by rw [entersC, HF.out, Bool.and_false]), hb1.trans (below_drewN (hbW.mono z1) _)⟩
        | true =>
          rw [hf] at hmf
          obtain ⟨f1, f2⟩ := smallC_iff.1 hf
          have HF := Lib.hid hf
          clear hf
          obtain ⟨SEP, COV⟩ := HIX.out r
          have HCOV := Lib.hid COV
          have hlen := HLEN.out r
          clear COV
          go_upto_region 7 with fail
          generalize wr.alloc (.cells #[.int .i64 r, .int .i64 f, .int .i64 e] 46) = W at *
          generalize wr.heap.size = gc at *
          have hW : Below W.heap.size W W.drew := (Below.refl _ _).drew
          have hiW : Idx W (gm + 1) gm n (idxOf S) := hi.below hbW
          have hnx := fun W' (h : Below W.heap.size W W') => inext_any (gm + 1) gm n (idxOf S) r (s + f) W' (hiW.below h) r1 SEP hlen
          have HNX := Lib.hid hnx
          have HMF := Lib.hid hmf
          clear hnx hmf hi hiW SEP c0 c1 c2
          have t1 : IntKind.i64.wrap (s + f) = s + f := IntWalk.i64_in _ (by omega)
          go_region_held3 (fun w' => w'.cell? ⟨gc, 0, none⟩ = some (.int .i64 r) ∧ w'.cell? ⟨gc, 1, none⟩ = some (.int .i64 f))
            (exact ⟨(hW.cell (p := ⟨gc, 0, none⟩) hzW).trans k0, (hW.cell (p := ⟨gc, 1, none⟩) hzW).trans k1⟩)
            (first
              | (go_at_call 51; refine (HMF.out _).mono ?_; rintro e w' ⟨rfl, rfl⟩)
              | (go_at_call 53; refine (HNX.out _ hW).mono ?_; rintro e wx ⟨m, rfl, hm, hbx⟩; replace hW := hW.trans (hbx.mono hW.size)))
          clear t1
          have HM := Lib.hid ((hm.of_cover HCOV.out).open_iff)
          clear hm
          by_cases hq : m = s + f
          · have dq : (m != s + f) = false := by simp [hq]
            have HT := Lib.hid (HYES.out (by simp [HF.out, HM.out.1 hq]))
            clear hq
            go_wp2_with fail
            go_roundg (occ.length - (k + 1))
            case measure => omega
            case rel => exact ⟨k + 1, by omega, rfl, by go_num, HT.out, hbW.trans (hW.mono (by omega))⟩
          · have dq : (m != s + f) = true := by simp [hq]
            have HT := Lib.hid (HNO.out (by cases q : coverC l r (s + f) with | true => simp | false => exact absurd (HM.out.2 q) hq))
            clear hq
            go_wp2_with fail
            go_ret
            exact ⟨ret_bool (by rw [entersC, HT.out, Bool.and_false]), hb1.trans ((hbW.trans (hW.mono (by omega))).mono z1)⟩
      · go_wp2_with fail
        go_ret
        have hv := HV.out
        rw [List.take_of_length_le (by omega)] at hv
        exact ⟨ret_bool (by rw [entersC, HS.out, hv]; rfl), hb1.trans (hb.mono z1)⟩

end Go.Proofs.Ytlillkfelfoafaa
