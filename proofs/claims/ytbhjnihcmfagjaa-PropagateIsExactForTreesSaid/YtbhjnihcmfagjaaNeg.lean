/-
  Contract of the table's negative: the negatives of the residues of a list.
-/
import Derived.Test.YtbhjnihcmfagjaaBack
import Derived.Test.YtbhjnihcmfagjaaShift
import Derived.Test.YtbhjnihcmfagjaaPro
import Derived.Test.YtbhjnihcmfagjaaKit
import Derived.Test.YtbhjnihcmfagjaaStp
set_option linter.unusedVariables false
set_option linter.unusedSimpArgs false
namespace Go.Proofs.Ytbhjnihcmfagjaa
open Go.RowKit Go.Shelf RP

attribute [local go_sem] Oper.semAt_some

theorem al {w : World} {b o : Nat} {v : Value} {x : Obj} (h : w.cell? ⟨b, o, none⟩ = some v) : (w.alloc x).cell? ⟨b, o, none⟩ = some v := by
  rw [World.cell?_alloc_lt _ _ _ (cell_lt h)]; exact h

theorem cell_set_ne {w : World} {B b o : Nat} {v : Value} (h : b ≠ B) : (w.setCell ⟨B, 0, none⟩ v).cell? ⟨b, o, none⟩ = w.cell? ⟨b, o, none⟩ := World.cell?_setCell_far w ⟨B, 0, none⟩ ⟨b, o, none⟩ v (Ne.symm h)

/-- The spans that came, turned round. -/
def revBS (T : Nat) (pre : List BS) : List Sp := pre.map fun x => ((T : Int) - x.1.2.2, (T : Int) - x.1.2.1)
theorem revBS_snoc (T : Nat) (pre : List BS) (x : BS) : revBS T (pre ++ [x]) = revBS T pre ++ [((T : Int) - x.1.2.2, (T : Int) - x.1.2.1)] := by simp [revBS]
theorem revBS_len (T : Nat) (pre : List BS) : (revBS T pre).length = pre.length := by simp [revBS]

set_option maxRecDepth 100000 in
set_option maxHeartbeats 4000000 in
theorem reversed_any (gt T : Nat) (A : Option Addr) (c : Nat) (l : List Sp) (w : World) (hT : w.cell? ⟨gt, 0, none⟩ = some (.int .i64 T)) (hT1 : 1 ≤ T) (hT2 : T ≤ 7200) (hl : Lst encS 2 w w.heap.size A l) (hs : SmallL l) (hlen : l.length ≤ 7200) :
    Calls Try.prog 67 #[.pointer (some ⟨gt, 0, none⟩), .slice A l.length c] w fun e w' =>
      ∃ v, e = .returned v ∧ OwnS w' w.heap.size v (shiftI T (revBS T (upto (bsAt l hs) l.length)) (1 % (T : Int))) ∧ Below w.heap.size w w' := by
  have hgt := cell_lt hT
  refine (callsIn_wide (n := 6)).1 ?_
  have hro : Fence.wide.round = none := rfl
  refine callsIn_of_wp_marks Try.func67 rfl trivial ?_ hro
  simp only [Try.ntmps67, List.size_toArray, List.length_cons, List.length_nil, Nat.reduceAdd, Nat.reduceSub, Array.replicate_succ, Array.replicate_zero, List.push_toArray, List.append_toArray, List.nil_append, List.cons_append]
  gi_wp2_with (refine ⟨trivial, ?_⟩; gi_at_call 79; refine (back_in Fence.wide _ trivial hro _ _ _ _).mono ?_; rintro e w' ⟨rfl, rfl⟩)
  have bT := Boxed.new w 32 (.pointer (some ⟨gt, 0, none⟩))
  have bR := Boxed.new (w.alloc (.cells #[.pointer (some ⟨gt, 0, none⟩)] 32)) 40 (.slice none 0 0)
  rw [World.size_alloc] at bR
  have bS := Boxed.new ((w.alloc (.cells #[.pointer (some ⟨gt, 0, none⟩)] 32)).alloc (.cells #[.slice none 0 0] 40)) 40 (.slice A l.length c)
  rw [World.size_alloc, World.size_alloc] at bS
  have hB0 : Below w.heap.size w (((w.alloc (.cells #[.pointer (some ⟨gt, 0, none⟩)] 32)).alloc (.cells #[.slice none 0 0] 40)).alloc (.cells #[.slice A l.length c] 40)) := (((Below.refl _ w).alloc (Nat.le_refl _) _).alloc (by simp) _).alloc (by simp; omega) _
  have hsz : (((w.alloc (.cells #[.pointer (some ⟨gt, 0, none⟩)] 32)).alloc (.cells #[.slice none 0 0] 40)).alloc (.cells #[.slice A l.length c] 40)).heap.size = w.heap.size + 3 := by simp
  replace bT := (bT.alloc (.cells #[.slice none 0 0] 40)).alloc (.cells #[.slice A l.length c] 40)
  replace bR := bR.alloc (.cells #[.slice A l.length c] 40)
  generalize ((w.alloc (.cells #[.pointer (some ⟨gt, 0, none⟩)] 32)).alloc (.cells #[.slice none 0 0] 40)).alloc (.cells #[.slice A l.length c] 40) = W0 at *
  have hseq := back_stops Fence.wide 5 trivial hro (by omega) (w.heap.size + 1 + 1) w.heap.size A c l hs (by omega) W0 (by omega) (by omega) bS.cell (hl.below hB0)
  refine wpIn_rangeFunc_ownH hro (by omega) (gf := 85) (lb := #[.pointer (some ⟨w.heap.size + 1 + 1, 0, none⟩)]) rfl trivial (enters_of Try.func85 (by kernel_rfl) rfl)
    hseq KpB.trans (kpB_b (by omega) (by omega)) (Below.refl _ _) (fun _ => rfl)
    (fun pre W => ((((∃ v, Boxed W (w.heap.size + 1) 40 v ∧ W.ownsRow w.heap.size 46 2 v (revBS T pre).length ((revBS T pre).flatMap encS) ∧ True) ∧ Boxed W w.heap.size 32 (.pointer (some ⟨gt, 0, none⟩))) ∧ Boxed W (w.heap.size + 1 + 1) 40 (.slice A l.length c)) ∧ Below w.heap.size w W) ∧ W0.heap.size ≤ W.heap.size)
    (fun _ _ _ => False)
    (OwnFrom.and (OwnFrom.and (OwnFrom.and (OwnFrom.and (Go.Own.from (holdsRow_own w.heap.size (w.heap.size + 1) 40 46 2 (fun pre => (revBS T pre).length) (fun pre => (revBS T pre).flatMap encS) (fun _ _ => True)) _) (Go.Own.from (boxed_own w.heap.size 32 (fun _ => .pointer (some ⟨gt, 0, none⟩))) _)) (Go.Own.from (boxed_own (w.heap.size + 1 + 1) 40 (fun _ => .slice A l.length c)) _)) (ownFrom_below (Nat.le_refl _) (by omega))) (fun _ _ _ _ hs hg _ => Nat.le_trans hs hg.size))
    (fun _ _ _ _ _ hs _ _ => hs)
    ⟨⟨⟨⟨⟨_, bR, World.ownsRow_nil _ _ _ _, trivial⟩, bT⟩, bS⟩, hB0⟩, Nat.le_refl _⟩
    (fun x a' W => ∃ Bx v0, w.heap.size + 1 + 1 < Bx ∧ W.heap[Bx]? = some (.cells #[.int .i64 x.1.2.1, .int .i64 x.1.2.2] 46 (0, 0)) ∧ Boxed W (w.heap.size + 1) 40 v0 ∧ v0.ownBlock ≠ some Bx ∧ a' = { tmps := #[.pointer (some ⟨gt, 0, none⟩), .slice A l.length c, .pointer (some ⟨w.heap.size, 0, none⟩), undef, .slice none 0 0, .pointer (some ⟨w.heap.size + 1, 0, none⟩), undef, .pointer (some ⟨Bx, 0, none⟩), undef, undef, .slice A l.length c, .func (.func 85) #[] #[.pointer (some ⟨w.heap.size + 1 + 1, 0, none⟩)], .int .i64 x.1.1, .agg #[.int .i64 x.1.2.1, .int .i64 x.1.2.2], undef, undef, undef, undef, undef, undef, undef, undef, undef, undef, undef, undef, undef, undef, undef, undef, undef, undef, undef, undef, undef, undef, undef, undef, undef, undef, undef, undef, undef, undef, undef], defers := [] })
    ?hAx ?assign ?body ?done ?stop
  case hAx =>
    rintro x a' _ X Y row ⟨Bx, v0, h1, h2, h4, h5, h3⟩ hg hrow
    refine ⟨Bx, v0, h1, (hg.block Bx (Array.getElem?_eq_some_iff.1 h2).1 (fun e => ?_)).trans h2, h4.kept hg (fun e => ?_), h5, h3⟩
    · obtain ⟨_, o, ho, hc⟩ := hrow Bx e.symm
      rw [h2] at ho; cases ho; cases hc
    · obtain ⟨_, o, ho, hc⟩ := hrow _ e.symm
      rw [show X.heap[w.heap.size + 1]? = _ from h4] at ho; cases ho; cases hc
  case assign =>
    rintro lp pre x W K ⟨⟨⟨⟨⟨v, i1, i2, _⟩, i3⟩, i5⟩, i4⟩, i6⟩ hK
    have zW := i4.size
    have HK := Lib.hid hK
    clear hK
    dsimp only [encBS]
    gi_wp2
    exact HK.out _ _ ((KeepsOthers.alloc _ _).from _) ⟨(Below.refl _ W).alloc zW _, Below.heap_alloc _ _ _ i5.lt⟩ ⟨⟨⟨⟨⟨v, i1.alloc _, World.ownsRow.alloc i2 _, trivial⟩, i3.alloc _⟩, i5.alloc _⟩, i4.alloc zW _⟩, by simp; omega⟩ ⟨W.heap.size, v, by omega, heap_alloc_new W _, i1.alloc _, (fun e => by have := (World.ownsRow.lt i2 _ e).2; omega), rfl⟩
  case body =>
    rintro lp pre x a' W hlp ⟨r, hr⟩ ⟨⟨⟨⟨⟨v, i1, i2, _⟩, i3⟩, i5⟩, i4⟩, i6⟩ ⟨Bx, v0, hBx, hx, hv0, hvB, rfl⟩ hlt
    obtain rfl : v0 = v := by
      have e := (show W.heap[w.heap.size + 1]? = _ from hv0).symm.trans (show W.heap[w.heap.size + 1]? = _ from i1)
      injection e with e; injection e with e; injection e with e; injection e
    clear hv0
    have zW := i4.size
    have hTW := (i4.cell (p := ⟨gt, 0, none⟩) hgt).trans hT
    have c5 := i1.cell
    have c2 := i3.cell
    have cx0 : W.cell? ⟨Bx, 0, none⟩ = some (.int .i64 x.1.2.1) := by rw [cell_of_row W Bx 0 _ _ _ hx]; rfl
    have cx1 : W.cell? ⟨Bx, 1, none⟩ = some (.int .i64 x.1.2.2) := by rw [cell_of_row W Bx 1 _ _ _ hx]; rfl
    have hxp := x.2
    have HRL := Lib.hid (revBS_len T pre)
    have HSN := Lib.hid (revBS_snoc T pre x)
    obtain ⟨⟨xi, xa, xb⟩, hxp'⟩ := x
    simp only at cx0 cx1 hxp HSN
    gi_wp2
    have hw1 : IntKind.i64.wrap ((T : Int) - xb) = (T : Int) - xb := IntWalk.i64_in _ (by omega)
    have hw2 : IntKind.i64.wrap ((T : Int) - xa) = (T : Int) - xa := IntWalk.i64_in _ (by omega)
    obtain ⟨A7, c7, rfl⟩ := (show OwnS W w.heap.size v0 (revBS T pre) from i2).form
    have k5 : W.drew.cell? ⟨w.heap.size + 1, 0, none⟩ = some (.slice A7 (revBS T pre).length c7) := c5
    have k2 : W.drew.cell? ⟨w.heap.size, 0, none⟩ = some (.pointer (some ⟨gt, 0, none⟩)) := c2
    have kT : W.drew.cell? ⟨gt, 0, none⟩ = some (.int .i64 T) := hTW
    have ka : W.drew.cell? ⟨Bx, 0, none⟩ = some (.int .i64 xa) := cx0
    have kb : W.drew.cell? ⟨Bx, 1, none⟩ = some (.int .i64 xb) := cx1
    have ha : OwnS (W.drew.alloc (.cells #[.int .i64 ((T : Int) - xb), .int .i64 ((T : Int) - xa)] 46)) w.heap.size (.slice A7 (revBS T pre).length c7) (revBS T pre) := ((show OwnS W w.heap.size _ (revBS T pre) from i2).drew).alloc _
    have hblk : (W.drew.alloc (.cells #[.int .i64 ((T : Int) - xb), .int .i64 ((T : Int) - xa)] 46)).heap[W.heap.size]? = some (.cells #[.int .i64 ((T : Int) - xb), .int .i64 ((T : Int) - xa)] 46 (0, 0)) := heap_alloc_new W.drew _
    have zd : W.drew.heap.size = W.heap.size := rfl
    have hS2 : (W.drew.alloc (.cells #[.int .i64 ((T : Int) - xb), .int .i64 ((T : Int) - xa)] 46)).cell? ⟨w.heap.size, 0, none⟩ = some (.pointer (some ⟨gt, 0, none⟩)) ∧ (W.drew.alloc (.cells #[.int .i64 ((T : Int) - xb), .int .i64 ((T : Int) - xa)] 46)).cell? ⟨gt, 0, none⟩ = some (.int .i64 T) ∧ (W.drew.alloc (.cells #[.int .i64 ((T : Int) - xb), .int .i64 ((T : Int) - xa)] 46)).cell? ⟨Bx, 0, none⟩ = some (.int .i64 xa) ∧ (W.drew.alloc (.cells #[.int .i64 ((T : Int) - xb), .int .i64 ((T : Int) - xa)] 46)).cell? ⟨Bx, 1, none⟩ = some (.int .i64 xb) :=
      ⟨al k2, al kT, al ka, al kb⟩
    have k5' : (W.drew.alloc (.cells #[.int .i64 ((T : Int) - xb), .int .i64 ((T : Int) - xa)] 46)).cell? ⟨w.heap.size + 1, 0, none⟩ = some (.slice A7 (revBS T pre).length c7) := al k5
    have k5'' : (W.alloc (.cells #[.int .i64 ((T : Int) - xb), .int .i64 ((T : Int) - xa)] 46)).cell? ⟨w.heap.size + 1, 0, none⟩ = some (.slice A7 (revBS T pre).length c7) := al c5
    have HA := Lib.hid ha
    have HBX := Lib.hid (show Boxed W.drew (w.heap.size + 1) 40 (.slice A7 (revBS T pre).length c7) from i1)
    have HROW := Lib.hid (show W.drew.ownsRow w.heap.size 46 2 (.slice A7 (revBS T pre).length c7) (revBS T pre).length ((revBS T pre).flatMap encS) from i2)
    have HBLK := Lib.hid hblk
    have HS2 := Lib.hid hS2
    have HNE := Lib.hid (show some w.heap.size ≠ (Value.slice A7 (revBS T pre).length c7).ownBlock ∧ some gt ≠ (Value.slice A7 (revBS T pre).length c7).ownBlock ∧ some Bx ≠ (Value.slice A7 (revBS T pre).length c7).ownBlock ∧ some (w.heap.size + 1 + 1) ≠ (Value.slice A7 (revBS T pre).length c7).ownBlock from
      ⟨i3.not_row (by decide) i2, fun e => by have := (World.ownsRow.lt i2 _ e.symm).1; omega, fun e => hvB e.symm, i5.not_row (by decide) i2⟩)
    have HI5 := Lib.hid (show Boxed (W.drew.alloc (.cells #[.int .i64 ((T : Int) - xb), .int .i64 ((T : Int) - xa)] 46)) (w.heap.size + 1 + 1) 40 (.slice A l.length c) from i5.alloc _)
    have HI3 := Lib.hid (show Boxed (W.drew.alloc (.cells #[.int .i64 ((T : Int) - xb), .int .i64 ((T : Int) - xa)] 46)) w.heap.size 32 (.pointer (some ⟨gt, 0, none⟩)) from i3.alloc _)
    have HI4 := Lib.hid i4
    have HI5w := Lib.hid i5
    have HI6 := Lib.hid i6
    clear ha hblk hS2 zd
    refine round_held (fun w' => w'.cell? ⟨w.heap.size, 0, none⟩ = some (.pointer (some ⟨gt, 0, none⟩)) ∧ w'.cell? ⟨gt, 0, none⟩ = some (.int .i64 T) ∧ w'.cell? ⟨Bx, 0, none⟩ = some (.int .i64 xa) ∧ w'.cell? ⟨Bx, 1, none⟩ = some (.int .i64 xb)) (by kernel_rfl) (by rfl) (by rintro ⟨_, _, h⟩; exact h) ?_
    refine wpAnyH_take (i := 1) (v := ?_) rfl (by kernel_rfl) (by kernel_rfl) (by kernel_rfl) (fun _ _ _ h => h) (Or.inl ⟨by rfl, ?_⟩) ⟨k2, kT, ka, kb⟩ ?_
    rotate_left
    · intro u hSu
      (try dsimp only at hSu)
      obtain ⟨q2, qT, qa, qb⟩ := hSu
      go_simp
      try rfl
    simp only [Act.put, List.setIfInBounds_toArray, List.set_cons_zero, List.set_cons_succ]
    refine wpAnyH_take (i := 2) (v := ?_) rfl (by kernel_rfl) (by kernel_rfl) (by kernel_rfl) (fun _ _ _ h => h) (Or.inl ⟨by rfl, ?_⟩) ⟨k2, kT, ka, kb⟩ ?_
    rotate_left
    · intro u hSu
      (try dsimp only at hSu)
      obtain ⟨q2, qT, qa, qb⟩ := hSu
      go_simp
      try rfl
    simp only [Act.put, List.setIfInBounds_toArray, List.set_cons_zero, List.set_cons_succ]
    refine wpAnyH_take (i := 3) (v := ?_) rfl (by kernel_rfl) (by kernel_rfl) (by kernel_rfl) (fun _ _ _ h => h) (Or.inl ⟨by rfl, ?_⟩) ⟨k2, kT, ka, kb⟩ ?_
    rotate_left
    · intro u hSu
      (try dsimp only at hSu)
      obtain ⟨q2, qT, qa, qb⟩ := hSu
      go_simp
      try rfl
    simp only [Act.put, List.setIfInBounds_toArray, List.set_cons_zero, List.set_cons_succ]
    refine wpAnyH_take (i := 4) (v := ?_) rfl (by kernel_rfl) (by kernel_rfl) (by kernel_rfl) (fun _ _ _ h => h) (Or.inl ⟨by rfl, ?_⟩) ⟨k2, kT, ka, kb⟩ ?_
    rotate_left
    · intro u hSu
      (try dsimp only at hSu)
      obtain ⟨q2, qT, qa, qb⟩ := hSu
      go_simp
      try rfl
    simp only [Act.put, List.setIfInBounds_toArray, List.set_cons_zero, List.set_cons_succ]
    refine wpAnyH_take (i := 5) (v := ?_) rfl (by kernel_rfl) (by kernel_rfl) (by kernel_rfl) (fun _ _ _ h => h) (Or.inl ⟨by rfl, ?_⟩) ⟨k2, kT, ka, kb⟩ ?_
    rotate_left
    · intro u hSu
      (try dsimp only at hSu)
      obtain ⟨q2, qT, qa, qb⟩ := hSu
      go_simp
      try rfl
    simp only [Act.put, List.setIfInBounds_toArray, List.set_cons_zero, List.set_cons_succ]
    refine wpAnyH_take (i := 6) (v := ?_) rfl (by kernel_rfl) (by kernel_rfl) (by kernel_rfl) (fun _ _ _ h => h) (Or.inl ⟨by rfl, ?_⟩) ⟨k2, kT, ka, kb⟩ ?_
    rotate_left
    · intro u hSu
      (try dsimp only at hSu)
      obtain ⟨q2, qT, qa, qb⟩ := hSu
      go_simp
      try rfl
    simp only [Act.put, List.setIfInBounds_toArray, List.set_cons_zero, List.set_cons_succ]
    refine wpAnyH_take (i := 7) (v := ?_) rfl (by kernel_rfl) (by kernel_rfl) (by kernel_rfl) (fun _ _ _ h => h) (Or.inl ⟨by rfl, ?_⟩) ⟨k2, kT, ka, kb⟩ ?_
    rotate_left
    · intro u hSu
      (try dsimp only at hSu)
      obtain ⟨q2, qT, qa, qb⟩ := hSu
      go_simp
      try rfl
    simp only [Act.put, List.setIfInBounds_toArray, List.set_cons_zero, List.set_cons_succ]
    refine wpAnyH_take (i := 8) (v := ?_) rfl (by kernel_rfl) (by kernel_rfl) (by kernel_rfl) (fun _ _ _ h => h) (Or.inl ⟨by rfl, ?_⟩) ⟨k2, kT, ka, kb⟩ ?_
    rotate_left
    · intro u hSu
      (try dsimp only at hSu)
      obtain ⟨q2, qT, qa, qb⟩ := hSu
      go_simp
      try rfl
    simp only [Act.put, List.setIfInBounds_toArray, List.set_cons_zero, List.set_cons_succ]
    refine wpAnyH_take (i := 9) (v := ?_) rfl (by kernel_rfl) (by kernel_rfl) (by kernel_rfl) (fun _ _ _ h => h) (Or.inl ⟨by rfl, ?_⟩) ⟨k2, kT, ka, kb⟩ ?_
    rotate_left
    · intro u hSu
      (try dsimp only at hSu)
      obtain ⟨q2, qT, qa, qb⟩ := hSu
      go_simp
      try rfl
    simp only [Act.put, List.setIfInBounds_toArray, List.set_cons_zero, List.set_cons_succ]
    refine wpAnyH_take (i := 10) (v := ?_) rfl (by kernel_rfl) (by kernel_rfl) (by kernel_rfl) (fun _ _ _ h => h) (Or.inl ⟨by rfl, ?_⟩) ⟨k2, kT, ka, kb⟩ ?_
    rotate_left
    · intro u hSu
      (try dsimp only at hSu)
      obtain ⟨q2, qT, qa, qb⟩ := hSu
      go_simp
      try rfl
    simp only [Act.put, List.setIfInBounds_toArray, List.set_cons_zero, List.set_cons_succ]
    refine wpAnyH_take (i := 11) (v := ?_) rfl (by kernel_rfl) (by kernel_rfl) (by kernel_rfl) (fun _ _ _ h => h) (Or.inl ⟨by rfl, ?_⟩) ⟨k2, kT, ka, kb⟩ ?_
    rotate_left
    · intro u hSu
      (try dsimp only at hSu)
      obtain ⟨q2, qT, qa, qb⟩ := hSu
      go_simp
      try rfl
    simp only [Act.put, List.setIfInBounds_toArray, List.set_cons_zero, List.set_cons_succ]
    refine wpAnyH_take (i := 12) (v := ?_) rfl (by kernel_rfl) (by kernel_rfl) (by kernel_rfl) (fun _ _ _ h => h) (Or.inl ⟨by rfl, ?_⟩) ⟨k2, kT, ka, kb⟩ ?_
    rotate_left
    · intro u hSu
      (try dsimp only at hSu)
      obtain ⟨q2, qT, qa, qb⟩ := hSu
      go_simp
      try rfl
    simp only [Act.put, List.setIfInBounds_toArray, List.set_cons_zero, List.set_cons_succ]
    refine wpAnyH_take (i := 13) (v := ?_) rfl (by kernel_rfl) (by kernel_rfl) (by kernel_rfl) (fun _ _ _ h => h) (Or.inl ⟨by rfl, ?_⟩) ⟨k2, kT, ka, kb⟩ ?_
    rotate_left
    · intro u hSu
      (try dsimp only at hSu)
      obtain ⟨q2, qT, qa, qb⟩ := hSu
      go_simp
      try rfl
    simp only [Act.put, List.setIfInBounds_toArray, List.set_cons_zero, List.set_cons_succ]
    refine wpAnyH_take (i := 14) (v := ?_) rfl (by kernel_rfl) (by kernel_rfl) (by kernel_rfl) (fun _ _ _ h => h) (Or.inl ⟨by rfl, ?_⟩) ⟨k2, kT, ka, kb⟩ ?_
    rotate_left
    · intro u hSu
      (try dsimp only at hSu)
      obtain ⟨q2, qT, qa, qb⟩ := hSu
      go_simp
      try rfl
    simp only [Act.put, List.setIfInBounds_toArray, List.set_cons_zero, List.set_cons_succ]
    refine wpAnyH_take (i := 15) (v := ?_) rfl (by kernel_rfl) (by kernel_rfl) (by kernel_rfl) (fun _ _ _ h => h) (Or.inl ⟨by rfl, ?_⟩) ⟨k2, kT, ka, kb⟩ ?_
    rotate_left
    · intro u hSu
      (try dsimp only at hSu)
      obtain ⟨q2, qT, qa, qb⟩ := hSu
      go_simp
      try rfl
    simp only [Act.put, List.setIfInBounds_toArray, List.set_cons_zero, List.set_cons_succ]
    refine wpAnyH_take (i := 16) (v := ?_) rfl (by kernel_rfl) (by kernel_rfl) (by kernel_rfl) (fun _ _ _ h => h) (Or.inl ⟨by rfl, ?_⟩) ⟨k2, kT, ka, kb⟩ ?_
    rotate_left
    · intro u hSu
      (try dsimp only at hSu)
      obtain ⟨q2, qT, qa, qb⟩ := hSu
      go_simp
      try rfl
    simp only [Act.put, List.setIfInBounds_toArray, List.set_cons_zero, List.set_cons_succ]
    refine wpAnyH_take (i := 17) (v := ?_) rfl (by kernel_rfl) (by kernel_rfl) (by kernel_rfl) (fun _ _ _ h => h) (Or.inl ⟨by rfl, ?_⟩) ⟨k2, kT, ka, kb⟩ ?_
    rotate_left
    · intro u hSu
      (try dsimp only at hSu)
      obtain ⟨q2, qT, qa, qb⟩ := hSu
      go_simp
      try rfl
    simp only [Act.put, List.setIfInBounds_toArray, List.set_cons_zero, List.set_cons_succ]
    refine wpAnyH_ready (rs := [0, 18]) (by kernel_rfl) (by simp) ?_
    refine AllReadyH.cons rfl (fun K hK => ?_) ?_
    · go_simp
      refine hK.out _ _ ⟨k2, kT, ka, kb⟩ (fun _ => ?_)
      refine wpAnyH_ready (rs := [18]) (by kernel_rfl) (by simp) ?_
      refine AllReadyH.cons rfl (fun K hK => ?_) AllReadyH.nil
      go_simp
      refine hK.out _ _ HS2.out (fun _ => ?_)
      refine wpAnyH_ready (rs := [19]) (by kernel_rfl) (by simp) ?_
      refine AllReadyH.cons rfl (fun K hK => ?_) AllReadyH.nil
      have hrl := HRL.out
      refine step_append_blk (by rfl) _ _ 40 (by rfl) w.heap.size 46 16 Try.underlying40 elemS (.slice A7 (revBS T pre).length c7) (revBS T pre) (by rfl) HA.out [((T : Int) - xb, (T : Int) - xa)] W.heap.size 1 1 (by rfl) (by rfl) 46 HBLK.out (by simp only [Go.maxLen, List.length_cons, List.length_nil]; omega) (by simp only [List.length_cons, List.length_nil]; omega) (by show w.heap.size ≤ (W.drew.alloc _).heap.size; simp; omega) ?_
      intro v6 w6 ho6 hg6 hat6
      obtain ⟨hv1, hv2, hr2, hk2, hb2⟩ := HBX.out.appended (by decide) HROW.out (by show w.heap.size ≤ W.heap.size; omega) (by omega) ho6 hg6
      have hc1 := hv1.cell
      have hf1 := hv1.frozen
      obtain ⟨A8, c8, rfl⟩ := ho6.form
      generalize hL8 : (revBS T pre ++ [((T : Int) - xb, (T : Int) - xa)]).length = L8 at *
      have HL8 := Lib.hid hL8
      clear hL8
      have S6 : w6.cell? ⟨w.heap.size, 0, none⟩ = some (.pointer (some ⟨gt, 0, none⟩)) ∧ w6.cell? ⟨gt, 0, none⟩ = some (.int .i64 T) ∧ w6.cell? ⟨Bx, 0, none⟩ = some (.int .i64 xa) ∧ w6.cell? ⟨Bx, 1, none⟩ = some (.int .i64 xb) :=
        ⟨hg6.cell HS2.out.1 HNE.out.1, hg6.cell HS2.out.2.1 HNE.out.2.1, hg6.cell HS2.out.2.2.1 HNE.out.2.2.1, hg6.cell HS2.out.2.2.2 HNE.out.2.2.1⟩
      refine hK.out _ _ S6 (fun _ => ?_)
      refine wpAnyH_ready (rs := [20]) (by kernel_rfl) (by simp) ?_
      refine AllReadyH.cons rfl (fun K hK => ?_) AllReadyH.nil
      go_simp
      refine hK.out _ _ ⟨(cell_set_ne (by omega)).trans S6.1, (cell_set_ne (by omega)).trans S6.2.1, (cell_set_ne (by omega)).trans S6.2.2.1, (cell_set_ne (by omega)).trans S6.2.2.2⟩ (fun _ => ?_)
      refine wpAnyH_done (by kernel_rfl) ?_ _
      gi_wp2
      have b5 := (HI5.out.kept hg6 HNE.out.2.2.2).other (B' := w.heap.size + 1) (by omega) (.slice A8 L8 c8)
      have b3 := (HI3.out.kept hg6 HNE.out.1).other (B' := w.heap.size + 1) (by omega) (.slice A8 L8 c8)
      have hb3 : Below w.heap.size W (w6.setCell ⟨w.heap.size + 1, 0, none⟩ (.slice A8 L8 c8)) := ((Below.refl _ W).drew).trans hb2
      have hk3 : KeepsOthers W (w6.setCell ⟨w.heap.size + 1, 0, none⟩ (.slice A8 L8 c8)) := (KeepsOthers.drew W).trans hk2
      exact ⟨hk3.from _, ⟨hb3, (show (w6.setCell ⟨w.heap.size + 1, 0, none⟩ (.slice A8 L8 c8)).heap[w.heap.size + 1 + 1]? = _ from b5).trans (show W.heap[w.heap.size + 1 + 1]? = _ from HI5w.out).symm⟩, ⟨⟨⟨⟨_, hv2, by rw [HSN.out, HL8.out]; exact hr2, trivial⟩, b3⟩, b5⟩, HI4.out.trans hb3⟩, Nat.le_trans HI6.out hb3.size⟩
    · refine AllReadyH.cons rfl (fun K hK => ?_) AllReadyH.nil
      go_simp
      refine hK.out _ _ HS2.out (fun _ => ?_)
      refine wpAnyH_ready (rs := [0]) (by kernel_rfl) (by simp) ?_
      refine AllReadyH.cons rfl (fun K hK => ?_) AllReadyH.nil
      go_simp
      refine hK.out _ _ HS2.out (fun _ => ?_)
      refine wpAnyH_ready (rs := [19]) (by kernel_rfl) (by simp) ?_
      refine AllReadyH.cons rfl (fun K hK => ?_) AllReadyH.nil
      have hrl := HRL.out
      refine step_append_blk (by rfl) _ _ 40 (by rfl) w.heap.size 46 16 Try.underlying40 elemS (.slice A7 (revBS T pre).length c7) (revBS T pre) (by rfl) HA.out [((T : Int) - xb, (T : Int) - xa)] W.heap.size 1 1 (by rfl) (by rfl) 46 HBLK.out (by simp only [Go.maxLen, List.length_cons, List.length_nil]; omega) (by simp only [List.length_cons, List.length_nil]; omega) (by show w.heap.size ≤ (W.drew.alloc _).heap.size; simp; omega) ?_
      intro v6 w6 ho6 hg6 hat6
      obtain ⟨hv1, hv2, hr2, hk2, hb2⟩ := HBX.out.appended (by decide) HROW.out (by show w.heap.size ≤ W.heap.size; omega) (by omega) ho6 hg6
      have hc1 := hv1.cell
      have hf1 := hv1.frozen
      obtain ⟨A8, c8, rfl⟩ := ho6.form
      generalize hL8 : (revBS T pre ++ [((T : Int) - xb, (T : Int) - xa)]).length = L8 at *
      have HL8 := Lib.hid hL8
      clear hL8
      have S6 : w6.cell? ⟨w.heap.size, 0, none⟩ = some (.pointer (some ⟨gt, 0, none⟩)) ∧ w6.cell? ⟨gt, 0, none⟩ = some (.int .i64 T) ∧ w6.cell? ⟨Bx, 0, none⟩ = some (.int .i64 xa) ∧ w6.cell? ⟨Bx, 1, none⟩ = some (.int .i64 xb) :=
        ⟨hg6.cell HS2.out.1 HNE.out.1, hg6.cell HS2.out.2.1 HNE.out.2.1, hg6.cell HS2.out.2.2.1 HNE.out.2.2.1, hg6.cell HS2.out.2.2.2 HNE.out.2.2.1⟩
      refine hK.out _ _ S6 (fun _ => ?_)
      refine wpAnyH_ready (rs := [20]) (by kernel_rfl) (by simp) ?_
      refine AllReadyH.cons rfl (fun K hK => ?_) AllReadyH.nil
      go_simp
      refine hK.out _ _ ⟨(cell_set_ne (by omega)).trans S6.1, (cell_set_ne (by omega)).trans S6.2.1, (cell_set_ne (by omega)).trans S6.2.2.1, (cell_set_ne (by omega)).trans S6.2.2.2⟩ (fun _ => ?_)
      refine wpAnyH_done (by kernel_rfl) ?_ _
      gi_wp2
      have b5 := (HI5.out.kept hg6 HNE.out.2.2.2).other (B' := w.heap.size + 1) (by omega) (.slice A8 L8 c8)
      have b3 := (HI3.out.kept hg6 HNE.out.1).other (B' := w.heap.size + 1) (by omega) (.slice A8 L8 c8)
      have hb3 : Below w.heap.size W (w6.setCell ⟨w.heap.size + 1, 0, none⟩ (.slice A8 L8 c8)) := ((Below.refl _ W).drew).trans hb2
      have hk3 : KeepsOthers W (w6.setCell ⟨w.heap.size + 1, 0, none⟩ (.slice A8 L8 c8)) := (KeepsOthers.drew W).trans hk2
      exact ⟨hk3.from _, ⟨hb3, (show (w6.setCell ⟨w.heap.size + 1, 0, none⟩ (.slice A8 L8 c8)).heap[w.heap.size + 1 + 1]? = _ from b5).trans (show W.heap[w.heap.size + 1 + 1]? = _ from HI5w.out).symm⟩, ⟨⟨⟨⟨_, hv2, by rw [HSN.out, HL8.out]; exact hr2, trivial⟩, b3⟩, b5⟩, HI4.out.trans hb3⟩, Nat.le_trans HI6.out hb3.size⟩
  case done =>
    rintro D ys W hD rfl ⟨⟨⟨⟨⟨v, i1, i2, _⟩, i3⟩, i5⟩, i4⟩, i6⟩ hK
    have zW := i4.size
    have hTW := (i4.cell (p := ⟨gt, 0, none⟩) hgt).trans hT
    have c5 := i1.cell
    have c2 := i3.cell
    gi_wp2
    obtain ⟨A7, c7, rfl⟩ := (show OwnS W w.heap.size v (revBS T (upto (bsAt l hs) l.length)) from i2).form
    have hown : OwnS W w.heap.size (.slice A7 (revBS T (upto (bsAt l hs) l.length)).length c7) (revBS T (upto (bsAt l hs) l.length)) := i2
    have hln : (revBS T (upto (bsAt l hs) l.length)).length ≤ 9223372036854775807 := by rw [revBS_len, upto_length]; omega
    have h1 := i1.lt
    have h3 := i3.lt
    generalize hRR : revBS T (upto (bsAt l hs) l.length) = R at *
    have HRR := Lib.hid hRR
    clear hRR
    have hL : Lst encS 2 W W.heap.size A7 R := Own.lst (fun _ => rfl) hown
    have HSH := Lib.hid (fun W' (h : Below W.heap.size W W') => shift_any T A7 c7 R 1 W' ((hL.below h).more h.size) hln (by omega) (by omega))
    have hW : Below W.heap.size W W.drew := (Below.refl _ _).drew
    have HK := Lib.hid hK
    have HO := Lib.hid hown
    clear hL hown i1 i2 hK
    refine wpIn_wide.2 ?_
    go_region_held3 (fun w' => w'.cell? ⟨w.heap.size, 0, none⟩ = some (.pointer (some ⟨gt, 0, none⟩)) ∧ w'.cell? ⟨gt, 0, none⟩ = some (.int .i64 T) ∧ w'.cell? ⟨w.heap.size + 1, 0, none⟩ = some (.slice A7 R.length c7))
      (exact ⟨(hW.cell (p := ⟨w.heap.size, 0, none⟩) h3).trans c2, (hW.cell (p := ⟨gt, 0, none⟩) (show gt < W.heap.size by omega)).trans hTW, (hW.cell (p := ⟨w.heap.size + 1, 0, none⟩) h1).trans c5⟩)
      ((go_at_call 80; refine (HSH.out _ hW).mono ?_; rintro e wx ⟨vx, rfl, hox, hbx⟩; replace hW := hW.trans (hbx.mono hW.size)))
    have hKx : wx.heap[D]? = some (.deferred (some [])) := (hW.block D (Array.getElem?_eq_some_iff.1 HK.out).1).trans HK.out
    have HOX := Lib.hid (show OwnS wx w.heap.size vx (shiftI T R (1 % (T : Int))) from hox.rebase zW)
    have HKX := Lib.hid hKx
    clear hox hKx
    gi_wp2
    refine ⟨by simp, .inl ⟨_, _, rfl, run_takeDeferred HKX.out, ?_⟩⟩
    exact ⟨_, results_tmp rfl _ _ _, vx, rfl, by rw [HRR.out]; exact ownsRow_putObj HOX.out _ HKX.out rfl, (i4.trans (hW.mono zW)).trans (belowK_b (w := w) (Nat.le_refl _) wx D _ _ (by omega) HKX.out rfl rfl)⟩
  case stop =>
    rintro D c pre W _ _ h _
    exact h.elim

end Go.Proofs.Ytbhjnihcmfagjaa
