/-
  Contracts of common with the closure of Least, of Least and of awake of chapter 9.
-/
import Derived.Test.YtdijhhfmicafjaaHead
import Derived.Deep.RegionHeld3
set_option linter.unusedVariables false
set_option linter.unusedSimpArgs false
namespace Go.Proofs.Ytdijhhfmicafjaa
open Go.RowKit RP

/-- The two captured variables of Least. -/
def LeastAt (w : World) (gl gb : Nat) (s : Int × Bool) : Prop := w.heap[gl]? = some (.cells #[.int .i64 s.1] 3 (0, 0)) ∧ w.heap[gb]? = some (.cells #[.bool s.2] 4 (0, 0)) ∧ gl ≠ gb
def two (a b : Nat) (k : Nat) : Prop := k = a ∨ k = b

theorem LeastAt.alloc {w : World} {gl gb : Nat} {s : Int × Bool} (h : LeastAt w gl gb s) (o : Obj) : LeastAt (w.alloc o) gl gb s :=
  ⟨(Below.heap_alloc _ _ _ (lt_of_block h.1)).trans h.1, (Below.heap_alloc _ _ _ (lt_of_block h.2.1)).trans h.2.1, h.2.2⟩
theorem LeastAt.drew {w : World} {gl gb : Nat} {s : Int × Bool} (h : LeastAt w gl gb s) : LeastAt w.drew gl gb s := h
theorem LeastAt.store {w : World} {gl gb : Nat} {s : Int × Bool} (h : LeastAt w gl gb s) (x : Int) (b : Bool) : LeastAt ((w.setCell ⟨gl, 0, none⟩ (.int .i64 x)).setCell ⟨gb, 0, none⟩ (.bool b)) gl gb (x, b) :=
  ⟨(Below.heap_setCell _ _ _ _ h.2.2).trans (one_setCell h.1), one_setCell ((Below.heap_setCell _ _ _ _ (Ne.symm h.2.2)).trans h.2.1), h.2.2⟩
theorem LeastAt.off {S : Nat → Prop} {w w' : World} {gl gb : Nat} {s : Int × Bool} (h : LeastAt w gl gb s) (ho : Off S w w') (h1 : ¬ S gl) (h2 : ¬ S gb) : LeastAt w' gl gb s :=
  ⟨(ho.block _ (lt_of_block h.1) h1).trans h.1, (ho.block _ (lt_of_block h.2.1) h2).trans h.2.1, h.2.2⟩

def LeastPost (w : World) (gl gb : Nat) (s : Int × Bool) (e : Ending) (w' : World) : Prop := e = .returned (.tuple #[]) ∧ LeastAt w' gl gb s ∧ Off (two gl gb) w w'

set_option maxHeartbeats 1000000 in
theorem leastFn_any (r f e r' f' e' : Int) (gl gb : Nat) (s : Int × Bool) (w : World) (h : LeastAt w gl gb s) (h1 : -1000000000 ≤ e) (h2 : e ≤ 1000000000) (h3 : -1000000000 ≤ f') (h4 : f' ≤ 1000000000) :
    Calls Try.prog 31 #[.agg #[.int .i64 r, .int .i64 f, .int .i64 e], .agg #[.int .i64 r', .int .i64 f', .int .i64 e'], .pointer (some ⟨gb, 0, none⟩), .pointer (some ⟨gl, 0, none⟩)] w
      (LeastPost w gl gb (leastStep s ((r, f, e), (r', f', e')))) := by
  have H0 := Lib.hid h
  obtain ⟨q1, q2, hne⟩ := h
  obtain ⟨x, ok⟩ := s
  have z1 := lt_of_block q1
  have z2 := lt_of_block q2
  simp only at q1 q2
  have c1 := cell_of_one q1
  have f1 := free_of_one q1
  have c2 := cell_of_one q2
  have f2 := free_of_one q2
  have ne1 : gl ≠ w.heap.size := by omega
  have ne2 : gl ≠ w.heap.size + 1 := by omega
  have ne3 : gb ≠ w.heap.size := by omega
  have ne4 : gb ≠ w.heap.size + 1 := by omega
  have hoff : ∀ u1 u2 o1 o2, Off (two gl gb) w ((((w.setCell ⟨gl, 0, none⟩ u1).setCell ⟨gb, 0, none⟩ u2).alloc o1).alloc o2) := fun u1 u2 o1 o2 => ((((Off.refl _ w).setCell (p := ⟨gl, 0, none⟩) (.inl rfl) u1).setCell (p := ⟨gb, 0, none⟩) (.inr rfl) u2).alloc o1).alloc o2
  clear q1 q2
  have HO := Lib.hid hoff
  clear hoff
  cases ok with
  | false =>
    have HS := Lib.hid (show leastStep (x, false) ((r, f, e), (r', f', e')) = (e - f', true) by simp [leastStep])
    go_enter Try.func31, Try.ntmps31
    go_wp2_with fail
    go_end0
    exact ⟨rfl, by rw [HS.out]; exact ((H0.out.store _ _).alloc _).alloc _, HO.out _ _ _ _⟩
  | true =>
    by_cases hx : x < e - f'
    · have HS := Lib.hid (show leastStep (x, true) ((r, f, e), (r', f', e')) = (e - f', true) by simp [leastStep, hx])
      go_enter Try.func31, Try.ntmps31
      go_wp2_with fail
      go_end0
      exact ⟨rfl, by rw [HS.out]; exact ((H0.out.store _ _).alloc _).alloc _, HO.out _ _ _ _⟩
    · have HS := Lib.hid (show leastStep (x, true) ((r, f, e), (r', f', e')) = (x, true) by simp [leastStep, hx])
      go_enter Try.func31, Try.ntmps31
      go_wp2_with fail
      go_end0
      exact ⟨rfl, by rw [HS.out]; exact (H0.out.alloc _).alloc _, ((Off.refl _ w).alloc _).alloc _⟩

/-- A valid list in memory below block B, as a slice that may be cut. -/
structure Cut (w : World) (B : Nat) (v : Value) (p : Int) (l : List Occ) : Prop where
  ex : ∃ A c, v = .slice A l.length c ∧ Lst encO 3 w B A l ∧ l.length ≤ c ∧ c ≤ 9223372036854775807
  ok : validO p l = true

theorem Lst.tail {α : Type} {enc : α → List Value} {k : Nat} {w : World} {B b off : Nat} {x : α} {xs : List α} (h : Lst enc k w B (some ⟨b, off, none⟩) (x :: xs)) : Lst enc k w B (some ⟨b, off + k, none⟩) xs := fun hn => by
  obtain ⟨b', off', e, hb, hc⟩ := h (by simp)
  injection e with e
  injection e with e1 e2
  subst e1 e2
  refine ⟨b, off + k, rfl, hb, fun i y hy j v hv => ?_⟩
  have := hc (i + 1) y (by simpa using hy) j v hv
  rw [Nat.add_mul, Nat.one_mul] at this
  rw [← this]
  congr 2
  omega
theorem Cut.keep {w w' : World} {B : Nat} {v : Value} {p : Int} {l : List Occ} (h : Cut w B v p l) (hb : Below B w w') : Cut w' B v p l := by
  obtain ⟨⟨A, c, e, h1, h2⟩, h3⟩ := h
  exact ⟨⟨A, c, e, h1.below hb, h2⟩, h3⟩
theorem Cut.whole {w : World} {B c : Nat} {A : Option Addr} {p : Int} {l : List Occ} {n : Nat} (hl : Lst encO 3 w B A l) (hv : validO p l = true) (hc : l.length ≤ c) (hm : c ≤ 9223372036854775807) (hn : n = l.length) : Cut w B (.slice A n c) p l := by
  subst hn; exact ⟨⟨_, _, rfl, hl, hc, hm⟩, hv⟩
theorem Cut.tail1 {w : World} {B b off : Nat} {p : Int} {x : Occ} {xs : List Occ} (hv : validO p (x :: xs) = true) (hc : xs.length + 1 ≤ 1) : Cut w B (.slice (some ⟨b, off, none⟩) xs.length 0) x.1 xs := by
  obtain rfl : xs = [] := List.eq_nil_of_length_eq_zero (by omega)
  exact ⟨⟨_, _, rfl, Lst.nil, by simp, by omega⟩, rfl⟩
theorem Cut.tail2 {w : World} {B b off c : Nat} {p : Int} {x : Occ} {xs : List Occ} (hl : Lst encO 3 w B (some ⟨b, off, none⟩) (x :: xs)) (hv : validO p (x :: xs) = true) (hc : xs.length + 1 ≤ c) (hm : c ≤ 9223372036854775807) : Cut w B (.slice (some ⟨b, off + 3, none⟩) xs.length (c - 1)) x.1 xs :=
  ⟨⟨_, _, rfl, hl.tail, by omega, by omega⟩, (validO_cons.1 hv).2⟩

theorem two_fst (w : World) (c1 c2 : Array Value) (t t' : TypeId) (j : Nat) : ((w.alloc (.cells c1 t)).alloc (.cells c2 t')).drew.cell? ⟨w.heap.size, j, none⟩ = c1[j]? := by
  show ((w.alloc (.cells c1 t)).alloc (.cells c2 t')).cell? _ = _
  rw [World.cell?_alloc_lt _ _ _ (by simp), cell_of_row _ w.heap.size j c1 t (0, 0) (heap_alloc_new w _)]
theorem two_snd (w : World) (c1 c2 : Array Value) (t t' : TypeId) (j : Nat) : ((w.alloc (.cells c1 t)).alloc (.cells c2 t')).drew.cell? ⟨w.heap.size + 1, j, none⟩ = c2[j]? := by
  show ((w.alloc (.cells c1 t)).alloc (.cells c2 t')).cell? _ = _
  exact World.cell?_alloc_at c2 t' _ j (by simp)
theorem two_size (w : World) (o o' : Obj) : w.heap.size + 1 < ((w.alloc o).alloc o').drew.heap.size := by
  show _ < ((w.alloc o).alloc o').heap.size
  simp
set_option maxHeartbeats 4000000 in
theorem commonL_any (a b : List Occ) (va vb : Value) (gl gb : Nat) (w : World) (s : Int × Bool) (hs : LeastAt w gl gb s) (hlt : gl < gb) (ha : Cut w gl va (-1) a) (hb : Cut w gl vb (-1) b) :
    Calls Try.prog 30 #[va, vb, .func (.func 31) #[] #[.pointer (some ⟨gb, 0, none⟩), .pointer (some ⟨gl, 0, none⟩)]] w
      (LeastPost w gl gb ((pairsO a b).foldl leastStep s)) := by
  go_enter Try.func30, Try.ntmps30
  go_wp2_with fail
  go_loopg [0, 1, 6, 7] (a.length + b.length) (fun g s0 s1 s6 s7 wr => ∃ (x y : List Occ) (t : Int × Bool) (p q : Int), g = x.length + y.length ∧ Cut wr gl s0 p x ∧ Cut wr gl s1 q y ∧ LeastAt wr gl gb t ∧ (pairsO x y).foldl leastStep t = (pairsO a b).foldl leastStep s ∧ Off (two gl gb) w wr)
  case atStart => exact ⟨a, b, s, _, _, rfl, ha, hb, hs, rfl, Off.refl _ _⟩
  case round =>
    obtain ⟨x, y, t, p, q, hg, hx, hy, ht, hf, hoff⟩ := hrel
    have HF := Lib.hid hf
    clear hf
    obtain ⟨⟨A, c, rfl, hxl, hxc, hxm⟩, hxv⟩ := hx
    obtain ⟨⟨B, d, rfl, hyl, hyc, hym⟩, hyv⟩ := hy
    have HXV := Lib.hid hxv
    have HYV := Lib.hid hyv
    clear hxv hyv
    cases x with
    | nil =>
      go_wp2_with fail
      go_end0
      exact ⟨rfl, by rw [← HF.out]; exact ht, hoff⟩
    | cons x xs =>
      cases y with
      | nil =>
        go_wp2_with fail
        go_end0
        exact ⟨rfl, by rw [← HF.out, pairs_nil_right]; exact ht, hoff⟩
      | cons y ys =>
        obtain ⟨ab, aoff, rfl, habw, a0, a1, a2⟩ := hxl.oc 0 (by simp)
        obtain ⟨bb, boff, rfl, hbbw, b0, b1, b2⟩ := hyl.oc 0 (by simp)
        simp only [List.getElem_cons_zero, Nat.zero_mul, Nat.add_zero] at a0 a1 a2 b0 b1 b2
        obtain ⟨r, f, e⟩ := x
        obtain ⟨r', f', e'⟩ := y
        simp only at a0 a1 a2 b0 b1 b2
        have zl := lt_of_block ht.1
        have e1 : ab ≠ wr.heap.size := by omega
        have e2 : ab ≠ wr.heap.size + 1 := by omega
        have e3 : bb ≠ wr.heap.size := by omega
        have e4 : bb ≠ wr.heap.size + 1 := by omega
        have hbel : ∀ W, Off (two gl gb) wr W → Below gl wr W := fun W h => h.below (by omega) fun k hk hs => by rcases hs with rfl | rfl <;> omega
        have HB := Lib.hid hbel
        clear hbel
        have HXC := Lib.hid (show c = 1 → xs.length + 1 ≤ 1 by intro h; simp at hxc; omega)
        have HYC := Lib.hid (show d = 1 → ys.length + 1 ≤ 1 by intro h; simp at hyc; omega)
        rcases Int.lt_trichotomy r r' with q1 | q1 | q1
        · have d1 : (r == r') = false := by simp; omega
          have d2 : decide (r' ≤ r) = false := by simp; omega
          have HF2 := Lib.hid ((congrArg (fun l => List.foldl leastStep t l) (pairs_lt (p := p) (x := (r, f, e)) (a := xs) HYV.out q1)).symm.trans HF.out)
          go_wp2_with fail
          go_region_held3 (fun w' => w'.cell? ⟨ab, aoff, none⟩ = some (.int .i64 r) ∧ w'.cell? ⟨ab, aoff + 1, none⟩ = some (.int .i64 f) ∧ w'.cell? ⟨ab, aoff + 2, none⟩ = some (.int .i64 e) ∧ w'.cell? ⟨bb, boff, none⟩ = some (.int .i64 r') ∧ w'.cell? ⟨bb, boff + 1, none⟩ = some (.int .i64 f') ∧ w'.cell? ⟨bb, boff + 2, none⟩ = some (.int .i64 e')) (go_keep) (fail)
          all_goals go_wp2_with fail
          all_goals
            go_roundg (xs.length + (ys.length + 1))
            case measure => omega
            case rel =>
              refine ⟨xs, (r', f', e') :: ys, t, r, q, rfl, Cut.keep (w := wr) ?_ (HB.out _ (((Off.refl (two gl gb) wr).alloc _).alloc _).drew), (Cut.whole hyl HYV.out hyc hym rfl).keep (HB.out _ (((Off.refl (two gl gb) wr).alloc _).alloc _).drew), (ht.alloc _).alloc _, HF2.out, hoff.trans (((Off.refl (two gl gb) wr).alloc _).alloc _).drew⟩
              first
                | exact Cut.tail1 HXV.out (HXC.out (by assumption))
                | exact Cut.tail2 hxl HXV.out (by simpa using hxc) hxm
        · subst q1
          have d1 : (r == r) = true := by simp
          obtain ⟨_, n1, n2, n3⟩ := (validO_cons.1 HXV.out).1
          obtain ⟨_, m1, m2, m3⟩ := (validO_cons.1 HYV.out).1
          simp only at n1 n2 n3 m1 m2 m3
          have HF2 := Lib.hid ((congrArg (fun l => List.foldl leastStep t l) (pairs_eq HXV.out HYV.out rfl)).symm.trans HF.out)
          go_wp2_with fail
          go_region_held3 (fun w' => w'.cell? ⟨ab, aoff, none⟩ = some (.int .i64 r) ∧ w'.cell? ⟨ab, aoff + 1, none⟩ = some (.int .i64 f) ∧ w'.cell? ⟨ab, aoff + 2, none⟩ = some (.int .i64 e) ∧ w'.cell? ⟨bb, boff, none⟩ = some (.int .i64 r) ∧ w'.cell? ⟨bb, boff + 1, none⟩ = some (.int .i64 f') ∧ w'.cell? ⟨bb, boff + 2, none⟩ = some (.int .i64 e')) (go_keep) (fail)
          all_goals
            go_wp2_with fail
            refine (leastFn_any r f e r f' e' gl gb t _ (by exact ((ht.alloc _).alloc _).drew) (by omega) (by omega) (by omega) (by omega)).mono ?_
            rintro e0 w2 ⟨rfl, ht2, ho2⟩
            have zb := lt_of_block ht.2.1
            have k0 : w2.cell? ⟨wr.heap.size, 0, none⟩ = some (.int .i64 r) := (ho2.cell (p := ⟨wr.heap.size, 0, none⟩) (Nat.lt_of_succ_lt (two_size _ _ _)) (by rintro (h | h) <;> simp at h <;> omega)).trans (two_fst _ _ _ _ _ 0)
            have k1 : w2.cell? ⟨wr.heap.size + 1, 0, none⟩ = some (.int .i64 r) := (ho2.cell (p := ⟨wr.heap.size + 1, 0, none⟩) (two_size _ _ _) (by rintro (h | h) <;> simp at h <;> omega)).trans (two_snd _ _ _ _ _ 0)
            have HO := Lib.hid (((((Off.refl (two gl gb) wr).alloc _).alloc _).drew).trans ho2)
            clear ho2
            go_wp2_with fail
            all_goals
              go_roundg (xs.length + ys.length)
              case measure => omega
              case rel =>
                refine ⟨xs, ys, _, r, r, rfl, Cut.keep (w := wr) ?_ (HB.out _ HO.out), Cut.keep (w := wr) ?_ (HB.out _ HO.out), ht2, HF2.out, hoff.trans HO.out⟩
                · first
                    | exact Cut.tail1 HXV.out (HXC.out (by assumption))
                    | exact Cut.tail2 hxl HXV.out (by simpa using hxc) hxm
                · first
                    | exact Cut.tail1 HYV.out (HYC.out (by assumption))
                    | exact Cut.tail2 hyl HYV.out (by simpa using hyc) hym
        · have d1 : (r == r') = false := by simp; omega
          have d2 : decide (r ≤ r') = false := by simp; omega
          have HF2 := Lib.hid ((congrArg (fun l => List.foldl leastStep t l) (pairs_gt (q := q) (y := (r', f', e')) (b := ys) HXV.out q1)).symm.trans HF.out)
          go_wp2_with fail
          go_region_held3 (fun w' => w'.cell? ⟨ab, aoff, none⟩ = some (.int .i64 r) ∧ w'.cell? ⟨ab, aoff + 1, none⟩ = some (.int .i64 f) ∧ w'.cell? ⟨ab, aoff + 2, none⟩ = some (.int .i64 e) ∧ w'.cell? ⟨bb, boff, none⟩ = some (.int .i64 r') ∧ w'.cell? ⟨bb, boff + 1, none⟩ = some (.int .i64 f') ∧ w'.cell? ⟨bb, boff + 2, none⟩ = some (.int .i64 e')) (go_keep) (fail)
          all_goals go_wp2_with fail
          all_goals
            go_roundg (xs.length + 1 + ys.length)
            case measure => omega
            case rel =>
              refine ⟨(r, f, e) :: xs, ys, t, p, r', rfl, (Cut.whole hxl HXV.out hxc hxm rfl).keep (HB.out _ (((Off.refl (two gl gb) wr).alloc _).alloc _).drew), Cut.keep (w := wr) ?_ (HB.out _ (((Off.refl (two gl gb) wr).alloc _).alloc _).drew), (ht.alloc _).alloc _, HF2.out, hoff.trans (((Off.refl (two gl gb) wr).alloc _).alloc _).drew⟩
              first
                | exact Cut.tail1 HYV.out (HYC.out (by assumption))
                | exact Cut.tail2 hyl HYV.out (by simpa using hyc) hym

end Go.Proofs.Ytdijhhfmicafjaa
