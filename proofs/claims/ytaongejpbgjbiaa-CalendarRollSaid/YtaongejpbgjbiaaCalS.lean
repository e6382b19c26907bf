/-
  Contracts of cmp.Or, cmp.Compare and of the closure that orders the trips.
-/
import Derived.Test.YtaongejpbgjbiaaCal
import Derived.Test.YtaongejpbgjbiaaSortKit
import Derived.StillTailTactics
import Derived.Shelf.SlSortCmp.QuietGrown
set_option linter.unusedVariables false
set_option linter.unusedSimpArgs false
namespace Go.Proofs.Ytaongejpbgjbiaa
open Go.RowKit RP Go.Sort

set_option maxHeartbeats 1000000 in
theorem or_any (a b : Int) (g : Nat) (w : World) (h0 : w.cell? ⟨g, 0, none⟩ = some (.int .i64 a)) (h1 : w.cell? ⟨g, 1, none⟩ = some (.int .i64 b)) :
    Calls Try.prog 43 #[.slice (some ⟨g, 0, none⟩) 2 2] w fun e w' => e = .returned (.int .i64 (if a ≠ 0 then a else b)) ∧ w' = w := by
  go_enter Try.func43, Try.ntmps43
  go_wp2_with fail
  go_loopg [5, 8] 2 (fun g s5 s8 wr => ∃ k : Nat, k ≤ 2 ∧ g = 2 - k ∧ s8 = .int .i64 k ∧ (0 < k → a = 0) ∧ (1 < k → b = 0) ∧ wr = w)
  case atStart => exact ⟨0, by omega, by omega, rfl, by omega, by omega, rfl⟩
  case round =>
    obtain ⟨k, hk, hg, rfl, ha, hb, rfl⟩ := hrel
    match k, hk with
    | 0, _ =>
      by_cases hz : a = 0
      · subst hz
        go_wp2_with fail
        go_roundg 1
        case measure => omega
        case rel => exact ⟨1, by omega, by omega, rfl, by simp, by omega, rfl⟩
      · go_wp2_with fail
        go_ret
        exact ⟨ret_int (by simp [hz]), rfl⟩
    | 1, _ =>
      have hz := ha (by omega)
      subst hz
      by_cases hz : b = 0
      · subst hz
        go_wp2_with fail
        go_roundg 0
        case measure => omega
        case rel => exact ⟨2, by omega, by omega, rfl, by simp, by simp, rfl⟩
      · go_wp2_with fail
        go_ret
        exact ⟨ret_int (by simp), rfl⟩
    | 2, _ =>
      have hz := ha (by omega)
      subst hz
      have hz := hb (by omega)
      subst hz
      go_wp2_with fail
      go_ret
      exact ⟨ret_int (by simp), rfl⟩

set_option maxHeartbeats 400000 in
theorem nan_any (a : Int) (w : World) : Calls Try.prog 54 #[.int .i64 a] w fun e w' => e = .returned (.bool false) ∧ w = w' := by
  have h : (a != a) = false := by simp
  go_enter Try.func54, Try.ntmps54
  go_wp2_with fail
  go_ret
  exact ⟨rfl, rfl⟩

def cmpI (a b : Int) : Int := if a < b then -1 else if b < a then 1 else 0
set_option maxHeartbeats 400000 in
theorem cmpInt_any (a b : Int) (w : World) : Calls Try.prog 44 #[.int .i64 a, .int .i64 b] w fun e w' => e = .returned (.int .i64 (cmpI a b)) ∧ w = w' := by
  by_cases h1 : a < b
  · go_enter Try.func44, Try.ntmps44
    go_wp2_with (go_at_call 54; refine (nan_any _ _).mono ?_; rintro e w' ⟨rfl, rfl⟩)
    go_ret
    exact ⟨ret_int (by simp [cmpI, h1]), rfl⟩
  · by_cases h2 : b < a
    · go_enter Try.func44, Try.ntmps44
      go_wp2_with (go_at_call 54; refine (nan_any _ _).mono ?_; rintro e w' ⟨rfl, rfl⟩)
      go_ret
      exact ⟨ret_int (by simp [cmpI, h1, h2]), rfl⟩
    · go_enter Try.func44, Try.ntmps44
      go_wp2_with (go_at_call 54; refine (nan_any _ _).mono ?_; rintro e w' ⟨rfl, rfl⟩)
      go_ret
      exact ⟨ret_int (by unfold cmpI; rw [if_neg (by omega), if_neg (by omega)]), rfl⟩

/-- The order of the trips: by the first departures, then by the lines. -/
def cmpT (u1 l1 u2 l2 : Int) : Int := if cmpI u1 u2 ≠ 0 then cmpI u1 u2 else cmpI l1 l2
set_option maxRecDepth 100000 in
set_option maxHeartbeats 2000000 in
theorem tripCmp_any (x1 x2 y1 y2 u1 u2 : Int) (gx nx cx gy ny cy : Nat) (vx vy : Value) (W : World) (hx : W.cell? ⟨gx, 0, none⟩ = some (.int .i64 u1)) (hy : W.cell? ⟨gy, 0, none⟩ = some (.int .i64 u2)) (hnx : 1 ≤ nx) (hny : 1 ≤ ny) :
    Calls Try.prog 42 #[.agg #[.int .i64 x1, .int .i64 x2, .slice (some ⟨gx, 0, none⟩) nx cx, vx], .agg #[.int .i64 y1, .int .i64 y2, .slice (some ⟨gy, 0, none⟩) ny cy, vy]] W fun e w' => e = .returned (.int .i64 (cmpT u1 x1 u2 y1)) ∧ ∃ q os', w' = grow (W.drewN q) os' := by
  have hc1 := fun W' => cmpInt_any u1 u2 W'
  have hc2 := fun W' => cmpInt_any x1 y1 W'
  have HP := Lib.hid (show (if cmpI u1 u2 ≠ 0 then cmpI u1 u2 else cmpI x1 y1) = cmpT u1 x1 u2 y1 from rfl)
  generalize cmpI u1 u2 = r1 at hc1 HP
  generalize cmpI x1 y1 = r2 at hc2 HP
  have k0 : ((W.alloc (.cells #[.int .i64 x1, .int .i64 x2, .slice (some ⟨gx, 0, none⟩) nx cx, vx] 51)).alloc (.cells #[.int .i64 y1, .int .i64 y2, .slice (some ⟨gy, 0, none⟩) ny cy, vy] 51)).cell? ⟨W.heap.size, 0, none⟩ = some (.int .i64 x1) := by
    rw [World.cell?_alloc_lt _ _ _ (by simp), World.cell?_alloc_at _ _ _ _ rfl]; rfl
  have k1 : ((W.alloc (.cells #[.int .i64 x1, .int .i64 x2, .slice (some ⟨gx, 0, none⟩) nx cx, vx] 51)).alloc (.cells #[.int .i64 y1, .int .i64 y2, .slice (some ⟨gy, 0, none⟩) ny cy, vy] 51)).cell? ⟨W.heap.size, 2, none⟩ = some (.slice (some ⟨gx, 0, none⟩) nx cx) := by
    rw [World.cell?_alloc_lt _ _ _ (by simp), World.cell?_alloc_at _ _ _ _ rfl]; rfl
  have k2 : ((W.alloc (.cells #[.int .i64 x1, .int .i64 x2, .slice (some ⟨gx, 0, none⟩) nx cx, vx] 51)).alloc (.cells #[.int .i64 y1, .int .i64 y2, .slice (some ⟨gy, 0, none⟩) ny cy, vy] 51)).cell? ⟨W.heap.size + 1, 0, none⟩ = some (.int .i64 y1) := by
    rw [World.cell?_alloc_at _ _ _ _ (by simp)]; rfl
  have k3 : ((W.alloc (.cells #[.int .i64 x1, .int .i64 x2, .slice (some ⟨gx, 0, none⟩) nx cx, vx] 51)).alloc (.cells #[.int .i64 y1, .int .i64 y2, .slice (some ⟨gy, 0, none⟩) ny cy, vy] 51)).cell? ⟨W.heap.size + 1, 2, none⟩ = some (.slice (some ⟨gy, 0, none⟩) ny cy) := by
    rw [World.cell?_alloc_at _ _ _ _ (by simp)]; rfl
  have hb : Below W.heap.size W ((W.alloc (.cells #[.int .i64 x1, .int .i64 x2, .slice (some ⟨gx, 0, none⟩) nx cx, vx] 51)).alloc (.cells #[.int .i64 y1, .int .i64 y2, .slice (some ⟨gy, 0, none⟩) ny cy, vy] 51)) := ((Below.refl _ _).alloc (by omega) _).alloc (by simp) _
  have k4 : ((W.alloc (.cells #[.int .i64 x1, .int .i64 x2, .slice (some ⟨gx, 0, none⟩) nx cx, vx] 51)).alloc (.cells #[.int .i64 y1, .int .i64 y2, .slice (some ⟨gy, 0, none⟩) ny cy, vy] 51)).cell? ⟨gx, 0, none⟩ = some (.int .i64 u1) := (hb.cell (p := ⟨gx, 0, none⟩) (cell_lt hx)).trans hx
  have k5 : ((W.alloc (.cells #[.int .i64 x1, .int .i64 x2, .slice (some ⟨gx, 0, none⟩) nx cx, vx] 51)).alloc (.cells #[.int .i64 y1, .int .i64 y2, .slice (some ⟨gy, 0, none⟩) ny cy, vy] 51)).cell? ⟨gy, 0, none⟩ = some (.int .i64 u2) := (hb.cell (p := ⟨gy, 0, none⟩) (cell_lt hy)).trans hy
  have i0 : 0 < nx := by omega
  have i1 : 0 < ny := by omega
  clear hx hy
  go_enter Try.func42, Try.ntmps42
  go_upto_region 1 with fail
  obtain ⟨os, hos⟩ : ∃ os, { ((W.alloc (.cells #[.int .i64 x1, .int .i64 x2, .slice (some ⟨gx, 0, none⟩) nx cx, vx] 51)).alloc (.cells #[.int .i64 y1, .int .i64 y2, .slice (some ⟨gy, 0, none⟩) ny cy, vy] 51)) with drawn := ((W.alloc (.cells #[.int .i64 x1, .int .i64 x2, .slice (some ⟨gx, 0, none⟩) nx cx, vx] 51)).alloc (.cells #[.int .i64 y1, .int .i64 y2, .slice (some ⟨gy, 0, none⟩) ny cy, vy] 51)).drawn + 1 } = grow (W.drewN 1) os := ⟨_, by rw [alloc_eq_grow, alloc_eq_grow, grow_grow]; rfl⟩
  generalize ((W.alloc (.cells #[.int .i64 x1, .int .i64 x2, .slice (some ⟨gx, 0, none⟩) nx cx, vx] 51)).alloc (.cells #[.int .i64 y1, .int .i64 y2, .slice (some ⟨gy, 0, none⟩) ny cy, vy] 51)) = W2 at *
  have hz := hb.size
  generalize hg1 : W.heap.size = g1 at *
  refine wp_region_still_tail 14 (by kernel_rfl) (by kernel_rfl) ?_
  simp only [List.take_succ_cons, List.take_zero, List.drop_succ_cons, List.drop_zero]
  have k0' : { W2 with drawn := W2.drawn + 1 }.cell? ⟨g1, 0, none⟩ = some (.int .i64 x1) := k0
  have k1' : { W2 with drawn := W2.drawn + 1 }.cell? ⟨g1, 2, none⟩ = some (.slice (some ⟨gx, 0, none⟩) nx cx) := k1
  have k2' : { W2 with drawn := W2.drawn + 1 }.cell? ⟨g1 + 1, 0, none⟩ = some (.int .i64 y1) := k2
  have k3' : { W2 with drawn := W2.drawn + 1 }.cell? ⟨g1 + 1, 2, none⟩ = some (.slice (some ⟨gy, 0, none⟩) ny cy) := k3
  have k4' : { W2 with drawn := W2.drawn + 1 }.cell? ⟨gx, 0, none⟩ = some (.int .i64 u1) := k4
  have k5' : { W2 with drawn := W2.drawn + 1 }.cell? ⟨gy, 0, none⟩ = some (.int .i64 u2) := k5
  clear k0 k1 k2 k3 k4 k5 hb hz
  generalize { W2 with drawn := W2.drawn + 1 } = W3 at *
  have hor := or_any r1 r2 W3.heap.size (W3.alloc (.cells #[.int .i64 r1, .int .i64 r2] 3)) (by rw [World.cell?_alloc_at _ _ _ _ rfl]; rfl) (by rw [World.cell?_alloc_at _ _ _ _ rfl]; rfl)
  have HW := Lib.hid hos
  clear hos
  generalize (if r1 ≠ 0 then r1 else r2) = r at hor HP
  still_step
  still_step
  still_step
  still_step
  still_step
  still_step
  still_step
  still_step
  still_call ((hc1 _).mono fun _ _ ⟨a, b⟩ => ⟨a, b.symm⟩)
  still_step
  still_step
  still_step
  still_step
  still_call ((hc2 _).mono fun _ _ ⟨a, b⟩ => ⟨a, b.symm⟩)
  refine wpStill_nil ?_
  go_wp2_with fail
  refine hor.mono ?_
  rintro e w' ⟨rfl, rfl⟩
  go_wp2_with fail
  go_ret
  exact ⟨ret_int HP.out, 1, _, by rw [HW.out, alloc_eq_grow, grow_grow]⟩

end Go.Proofs.Ytaongejpbgjbiaa
