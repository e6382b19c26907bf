/-
  Contract of common with the closure of Forbidden.
-/
import Derived.Test.YtdijhhfmicafjaaForb
set_option linter.unusedVariables false
set_option linter.unusedSimpArgs false
namespace Go.Proofs.Ytdijhhfmicafjaa
open Go.RowKit RP

set_option maxHeartbeats 4000000 in
theorem commonF_any (a b : List Occ) (va vb : Value) (gl gb : Nat) (T : Nat) (w : World) (s : List Sp) (hs : ForbAt w gl gb T s) (hlt : gl < gb) (t1 : 1 ≤ T) (t2 : T ≤ 7200) (ha : Cut w gl va (-1) a) (hb : Cut w gl vb (-1) b) :
    Calls Try.prog 30 #[va, vb, .func (.func 32) #[] #[.pointer (some ⟨gl, 0, none⟩), .pointer (some ⟨gb, 0, none⟩)]] w
      (ForbPost w gl gb T ((pairsO a b).foldl (forbStep T) s)) := by
  go_enter Try.func30, Try.ntmps30
  go_wp2_with fail
  go_loopg [0, 1, 6, 7] (a.length + b.length) (fun g s0 s1 s6 s7 wr => ∃ (x y : List Occ) (t : List Sp) (p q : Int), g = x.length + y.length ∧ Cut wr gl s0 p x ∧ Cut wr gl s1 q y ∧ ForbAt wr gl gb T t ∧ (pairsO x y).foldl (forbStep T) t = (pairsO a b).foldl (forbStep T) s ∧ Off (oneB gb) w wr)
  case atStart => exact ⟨a, b, s, _, _, rfl, ha, hb, hs, rfl, Off.refl _ _⟩
  case round =>
    obtain ⟨x, y, t, p, q, hg, hx, hy, ht, hf, hoff⟩ := hrel
    have HF := Lib.hid hf
    clear hf
    obtain ⟨⟨A, c, rfl, hxl, hxc, hxm⟩, hxv⟩ := hx
    obtain ⟨⟨B, d, rfl, hyl, hyc, hym⟩, hyv⟩ := hy
    have HXV := Lib.hid hxv
    have HYV := Lib.hid hyv
    clear hxv hyv
    cases x with
    | nil =>
      go_wp2_with fail
      go_end0
      exact ⟨rfl, by rw [← HF.out]; exact ht, hoff⟩
    | cons x xs =>
      cases y with
      | nil =>
        go_wp2_with fail
        go_end0
        exact ⟨rfl, by rw [← HF.out, pairs_nil_right]; exact ht, hoff⟩
      | cons y ys =>
        obtain ⟨ab, aoff, rfl, habw, a0, a1, a2⟩ := hxl.oc 0 (by simp)
        obtain ⟨bb, boff, rfl, hbbw, b0, b1, b2⟩ := hyl.oc 0 (by simp)
        simp only [List.getElem_cons_zero, Nat.zero_mul, Nat.add_zero] at a0 a1 a2 b0 b1 b2
        obtain ⟨r, f, e⟩ := x
        obtain ⟨r', f', e'⟩ := y
        simp only at a0 a1 a2 b0 b1 b2
        have zl := ht.lt0
        have e1 : ab ≠ wr.heap.size := by omega
        have e2 : ab ≠ wr.heap.size + 1 := by omega
        have e3 : bb ≠ wr.heap.size := by omega
        have e4 : bb ≠ wr.heap.size + 1 := by omega
        have hbel : ∀ W, Off (oneB gb) wr W → Below gl wr W := fun W h => h.below (by omega) fun k hk hs => by have : k = gb := hs; omega
        have HB := Lib.hid hbel
        clear hbel
        have HXC := Lib.hid (show c = 1 → xs.length + 1 ≤ 1 by intro h; simp at hxc; omega)
        have HYC := Lib.hid (show d = 1 → ys.length + 1 ≤ 1 by intro h; simp at hyc; omega)
        rcases Int.lt_trichotomy r r' with q1 | q1 | q1
        · have d1 : (r == r') = false := by simp; omega
          have d2 : decide (r' ≤ r) = false := by simp; omega
          have HF2 := Lib.hid ((congrArg (fun l => List.foldl (forbStep T) t l) (pairs_lt (p := p) (x := (r, f, e)) (a := xs) HYV.out q1)).symm.trans HF.out)
          go_wp2_with fail
          go_region_held3 (fun w' => w'.cell? ⟨ab, aoff, none⟩ = some (.int .i64 r) ∧ w'.cell? ⟨ab, aoff + 1, none⟩ = some (.int .i64 f) ∧ w'.cell? ⟨ab, aoff + 2, none⟩ = some (.int .i64 e) ∧ w'.cell? ⟨bb, boff, none⟩ = some (.int .i64 r') ∧ w'.cell? ⟨bb, boff + 1, none⟩ = some (.int .i64 f') ∧ w'.cell? ⟨bb, boff + 2, none⟩ = some (.int .i64 e')) (go_keep) (fail)
          all_goals go_wp2_with fail
          all_goals
            go_roundg (xs.length + (ys.length + 1))
            case measure => omega
            case rel =>
              refine ⟨xs, (r', f', e') :: ys, t, r, q, rfl, Cut.keep (w := wr) ?_ (HB.out _ (((Off.refl (oneB gb) wr).alloc _).alloc _).drew), (Cut.whole hyl HYV.out hyc hym rfl).keep (HB.out _ (((Off.refl (oneB gb) wr).alloc _).alloc _).drew), (ht.alloc _).alloc _, HF2.out, hoff.trans (((Off.refl (oneB gb) wr).alloc _).alloc _).drew⟩
              first
                | exact Cut.tail1 HXV.out (HXC.out (by assumption))
                | exact Cut.tail2 hxl HXV.out (by simpa using hxc) hxm
        · subst q1
          have d1 : (r == r) = true := by simp
          obtain ⟨_, n1, n2, n3⟩ := (validO_cons.1 HXV.out).1
          obtain ⟨_, m1, m2, m3⟩ := (validO_cons.1 HYV.out).1
          simp only at n1 n2 n3 m1 m2 m3
          have HF2 := Lib.hid ((congrArg (fun l => List.foldl (forbStep T) t l) (pairs_eq HXV.out HYV.out rfl)).symm.trans HF.out)
          go_wp2_with fail
          go_region_held3 (fun w' => w'.cell? ⟨ab, aoff, none⟩ = some (.int .i64 r) ∧ w'.cell? ⟨ab, aoff + 1, none⟩ = some (.int .i64 f) ∧ w'.cell? ⟨ab, aoff + 2, none⟩ = some (.int .i64 e) ∧ w'.cell? ⟨bb, boff, none⟩ = some (.int .i64 r) ∧ w'.cell? ⟨bb, boff + 1, none⟩ = some (.int .i64 f') ∧ w'.cell? ⟨bb, boff + 2, none⟩ = some (.int .i64 e')) (go_keep) (fail)
          all_goals
            go_wp2_with fail
            refine (forbFn_any r f e r f' e' gl gb T t _ (by exact ((ht.alloc _).alloc _).drew) t1 t2 (by omega) (by omega) (by omega) (by omega) (by omega) (by omega) (by omega) (by omega)).mono ?_
            rintro e0 w2 ⟨rfl, ht2, ho2⟩
            have zb := ht.lt
            have k0 : w2.cell? ⟨wr.heap.size, 0, none⟩ = some (.int .i64 r) := (ho2.cell (p := ⟨wr.heap.size, 0, none⟩) (Nat.lt_of_succ_lt (two_size _ _ _)) (by intro h; have h' : wr.heap.size = gb := h; omega)).trans (two_fst _ _ _ _ _ 0)
            have k1 : w2.cell? ⟨wr.heap.size + 1, 0, none⟩ = some (.int .i64 r) := (ho2.cell (p := ⟨wr.heap.size + 1, 0, none⟩) (two_size _ _ _) (by intro h; have h' : wr.heap.size + 1 = gb := h; omega)).trans (two_snd _ _ _ _ _ 0)
            have HO := Lib.hid (((((Off.refl (oneB gb) wr).alloc _).alloc _).drew).trans ho2)
            clear ho2
            go_wp2_with fail
            all_goals
              go_roundg (xs.length + ys.length)
              case measure => omega
              case rel =>
                refine ⟨xs, ys, _, r, r, rfl, Cut.keep (w := wr) ?_ (HB.out _ HO.out), Cut.keep (w := wr) ?_ (HB.out _ HO.out), ht2, HF2.out, hoff.trans HO.out⟩
                · first
                    | exact Cut.tail1 HXV.out (HXC.out (by assumption))
                    | exact Cut.tail2 hxl HXV.out (by simpa using hxc) hxm
                · first
                    | exact Cut.tail1 HYV.out (HYC.out (by assumption))
                    | exact Cut.tail2 hyl HYV.out (by simpa using hyc) hym
        · have d1 : (r == r') = false := by simp; omega
          have d2 : decide (r ≤ r') = false := by simp; omega
          have HF2 := Lib.hid ((congrArg (fun l => List.foldl (forbStep T) t l) (pairs_gt (q := q) (y := (r', f', e')) (b := ys) HXV.out q1)).symm.trans HF.out)
          go_wp2_with fail
          go_region_held3 (fun w' => w'.cell? ⟨ab, aoff, none⟩ = some (.int .i64 r) ∧ w'.cell? ⟨ab, aoff + 1, none⟩ = some (.int .i64 f) ∧ w'.cell? ⟨ab, aoff + 2, none⟩ = some (.int .i64 e) ∧ w'.cell? ⟨bb, boff, none⟩ = some (.int .i64 r') ∧ w'.cell? ⟨bb, boff + 1, none⟩ = some (.int .i64 f') ∧ w'.cell? ⟨bb, boff + 2, none⟩ = some (.int .i64 e')) (go_keep) (fail)
          all_goals go_wp2_with fail
          all_goals
            go_roundg (xs.length + 1 + ys.length)
            case measure => omega
            case rel =>
              refine ⟨(r, f, e) :: xs, ys, t, p, r', rfl, (Cut.whole hxl HXV.out hxc hxm rfl).keep (HB.out _ (((Off.refl (oneB gb) wr).alloc _).alloc _).drew), Cut.keep (w := wr) ?_ (HB.out _ (((Off.refl (oneB gb) wr).alloc _).alloc _).drew), (ht.alloc _).alloc _, HF2.out, hoff.trans (((Off.refl (oneB gb) wr).alloc _).alloc _).drew⟩
              first
                | exact Cut.tail1 HYV.out (HYC.out (by assumption))
                | exact Cut.tail2 hyl HYV.out (by simpa using hyc) hym

end Go.Proofs.Ytdijhhfmicafjaa
