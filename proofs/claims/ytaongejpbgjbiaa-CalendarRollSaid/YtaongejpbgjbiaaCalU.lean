/-
  Contracts of departures and trip.
-/
import Derived.Test.YtaongejpbgjbiaaCalE
import Derived.Test.YtaongejpbgjbiaaCalK
set_option linter.unusedVariables false
set_option linter.unusedSimpArgs false
namespace RP
/-- The first of the first departures of a service on a day, and their number. -/
def depF (T : Nat) (day : Int) (a : Svc) (res : Int) : Int := day * 86400 + a.fst + (res - (day * 86400 + a.fst)) % T
def depN (T : Nat) (day : Int) (a : Svc) (res : Int) : Int := if day * 86400 + a.lst < depF T day a res then 0 else (day * 86400 + a.lst - depF T day a res) / T + 1
end RP
namespace Go.Proofs.Ytaongejpbgjbiaa
open Go.RowKit RP

set_option maxRecDepth 100000 in
set_option maxHeartbeats 2000000 in
theorem departures_any (T : Nat) (day : Int) (a : Svc) (res : Int) (dv av : Value) (w : World) (h1 : 1 ≤ T) (h2 : T ≤ 7200) (d0 : 0 ≤ day) (d1 : day ≤ 31) (f0 : 0 ≤ a.fst) (f1 : a.fst ≤ a.lst) (f2 : a.lst < 86400) (r0 : 0 ≤ res) (r1 : res < T) :
    Calls Try.prog 39 #[.int .i64 T, .int .i64 day, .agg #[.int .i64 a.line, .int .i64 a.days, .int .i64 a.fst, .int .i64 a.lst], .agg #[.int .i64 res, dv, av]] w fun e w' =>
      (∃ f, e = .returned (.tuple #[.int .i64 f, .int .i64 (depN T day a res)]) ∧ (depN T day a res ≠ 0 → f = depF T day a res)) ∧ Below w.heap.size w w' := by
  obtain ⟨li, dy, fs, ls⟩ := a
  simp only at f0 f1 f2
  have HF := Lib.hid (show depF T day ⟨li, dy, fs, ls⟩ res = day * 86400 + fs + (res - (day * 86400 + fs)) % T from rfl)
  have HN := Lib.hid (show depN T day ⟨li, dy, fs, ls⟩ res = if day * 86400 + ls < day * 86400 + fs + (res - (day * 86400 + fs)) % T then 0 else (day * 86400 + ls - (day * 86400 + fs + (res - (day * 86400 + fs)) % T)) / T + 1 from rfl)
  have hb := belA w (.cells #[.int .i64 li, .int .i64 dy, .int .i64 fs, .int .i64 ls] 34)
  have hb2 := belA (w.alloc (.cells #[.int .i64 li, .int .i64 dy, .int .i64 fs, .int .i64 ls] 34)) (.cells #[.int .i64 res, dv, av] 84)
  have HB := Lib.hid (hb.trans (hb2.mono hb.size))
  have m0 := Int.emod_nonneg (res - (day * 86400 + fs)) (show (T : Int) ≠ 0 by omega)
  have m1 := Int.emod_lt_of_pos (res - (day * 86400 + fs)) (show (0 : Int) < T by omega)
  have hmod := fun W => mod_any (res - (day * 86400 + fs)) T W (by omega) (by omega)
  rw [modI, if_neg (by omega)] at hmod
  generalize (res - (day * 86400 + fs)) % (T : Int) = r at *
  have hq0 : day * 86400 + ls - (day * 86400 + fs + r) ≤ 86400 := by omega
  clear hb hb2
  by_cases q : day * 86400 + ls < day * 86400 + fs + r
  · rw [if_pos q] at HN
    go_enter Try.func39, Try.ntmps39
    go_wp2_with fail
    refine (hmod _).mono ?_
    rintro e w' ⟨rfl, rfl⟩
    go_wp2_with fail
    go_ret2
    exact ⟨⟨0, by rw [HN.out]; rfl, fun h => absurd HN.out h⟩, HB.out⟩
  · rw [if_neg q] at HN
    have hnn : (0 : Int) ≤ day * 86400 + ls - (day * 86400 + fs + r) := by omega
    have hq1 := Int.ediv_nonneg hnn (show (0 : Int) ≤ T by omega)
    have hq2 : (day * 86400 + ls - (day * 86400 + fs + r)) / (T : Int) ≤ 86400 := Int.le_trans (Int.ediv_le_self _ hnn) hq0
    have htd : (day * 86400 + ls - (day * 86400 + fs + r)).tdiv (T : Int) = (day * 86400 + ls - (day * 86400 + fs + r)) / (T : Int) := Int.tdiv_eq_ediv_of_nonneg hnn
    have hT0 : ¬ ((T : Int) = 0) := by omega
    have hT1 : ((T : Int) == 0) = false := by simp; omega
    go_enter Try.func39, Try.ntmps39
    go_wp2_with fail
    refine (hmod _).mono ?_
    rintro e w' ⟨rfl, rfl⟩
    go_wp2_with fail
    go_quiet (fail)
    go_wp2_with fail
    go_ret2
    exact ⟨⟨day * 86400 + fs + r, by rw [HN.out]; rfl, fun _ => HF.out.symm⟩, below_drewN HB.out _⟩

/-- What trip keeps: the box of the pattern, the result's cell, the trip. -/
structure TS (w wr : World) (B : Nat) (res : Int) (pd pa : Value) (line day : Int) (dv av : Value) (dl al : List Int) : Prop where
  pat : wr.heap[B]? = some (.cells #[.int .i64 res, pd, pa] 84 (0, 0))
  rc : wr.heap[B + 1]? = some (.cells #[.int .i64 0, .int .i64 0, .slice none 0 0, .slice none 0 0] 51 (0, 0))
  tc : wr.heap[B + 1 + 1]? = some (.cells #[.int .i64 line, .int .i64 day, dv, av] 51 (0, 0))
  dep : OwnN wr (B + 1 + 1 + 1) dv dl
  arr : OwnN wr (B + 1 + 1 + 1) av al
  sep : ∀ q, dv.ownBlock = some q → av.ownBlock ≠ some q
  bel : Below B w wr
  lt : B + 1 + 1 < wr.heap.size
section
variable {w wr wx : World} {B : Nat} {res : Int} {pd pa : Value} {line day : Int} {dv av : Value} {dl al : List Int}
theorem TS.below (h : TS w wr B res pd pa line day dv av dl al) (hb : Below wr.heap.size wr wx) : TS w wx B res pd pa line day dv av dl al :=
  ⟨(hb.block B (by have := h.lt; omega)).trans h.pat, (hb.block (B + 1) (by have := h.lt; omega)).trans h.rc, (hb.block (B + 1 + 1) h.lt).trans h.tc, h.dep.below' hb, h.arr.below' hb, h.sep, h.bel.trans (hb.mono (by have := h.lt; omega)), by have := hb.size; have := h.lt; omega⟩
theorem TS.kept {row : Option Nat} (h : TS w wr B res pd pa line day dv av dl al) (hg : wr.grownBy wx row) (hr : ∀ q, row = some q → B + 1 + 1 + 1 ≤ q) :
    wx.heap[B]? = some (.cells #[.int .i64 res, pd, pa] 84 (0, 0)) ∧ wx.heap[B + 1]? = some (.cells #[.int .i64 0, .int .i64 0, .slice none 0 0, .slice none 0 0] 51 (0, 0)) ∧ wx.heap[B + 1 + 1]? = some (.cells #[.int .i64 line, .int .i64 day, dv, av] 51 (0, 0)) ∧ Below B w wx ∧ B + 1 + 1 < wx.heap.size := by
  have h1 := h.lt
  exact ⟨(hg.block B (by omega) (fun e => by have := hr B e.symm; omega)).trans h.pat, (hg.block (B + 1) (by omega) (fun e => by have := hr _ e.symm; omega)).trans h.rc, (hg.block (B + 1 + 1) (by omega) (fun e => by have := hr _ e.symm; omega)).trans h.tc,
    h.bel.grown hg (by omega) (fun q e => by have := hr q e; omega), by have := hg.size; omega⟩
theorem TS.depPut (h : TS w wr B res pd pa line day dv av dl al) {dv' : Value} {dl' : List Int} (hg : wr.grownBy wx dv.ownBlock) (ho : OwnN wx (B + 1 + 1 + 1) dv' dl') (hat : dv'.ownBlock = dv.ownBlock ∨ ∃ q, dv'.ownBlock = some q ∧ wr.heap.size ≤ q) :
    TS w (wx.setCell ⟨B + 1 + 1, 2, none⟩ dv') B res pd pa line day dv' av dl' al := by
  obtain ⟨k1, k2, k3, k4, k5⟩ := h.kept hg (fun q e => (World.ownsRow.lt h.dep q e).1)
  have ha := h.arr.kept hg (by
    cases hb : av.ownBlock with
    | none => exact .inl rfl
    | some q => exact .inr (fun e => h.sep q e.symm hb))
  exact ⟨(set_other _ (by omega)).trans k1, (set_other _ (by omega)).trans k2, set_block' (o := 2) dv' k3, ho.setBelow (a := ⟨B + 1 + 1, 2, none⟩) (Nat.lt_succ_self _) _, ha.setBelow (a := ⟨B + 1 + 1, 2, none⟩) (Nat.lt_succ_self _) _, fun q hq e => by
    rcases hat with hat | ⟨q', hq', hl⟩
    · exact h.sep q (hat ▸ hq) e
    · rw [hq'] at hq; injection hq with hq; subst hq
      have := (World.ownsRow.lt h.arr _ e).2; omega, k4.setCell (p := ⟨B + 1 + 1, 2, none⟩) (show B ≤ B + 1 + 1 by omega) _, by rw [set_size]; exact k5⟩
theorem TS.arrPut (h : TS w wr B res pd pa line day dv av dl al) {av' : Value} {al' : List Int} (hg : wr.grownBy wx av.ownBlock) (ho : OwnN wx (B + 1 + 1 + 1) av' al') (hat : av'.ownBlock = av.ownBlock ∨ ∃ q, av'.ownBlock = some q ∧ wr.heap.size ≤ q) :
    TS w (wx.setCell ⟨B + 1 + 1, 3, none⟩ av') B res pd pa line day dv av' dl al' := by
  obtain ⟨k1, k2, k3, k4, k5⟩ := h.kept hg (fun q e => (World.ownsRow.lt h.arr q e).1)
  have ha := h.dep.kept hg (by
    cases hb : dv.ownBlock with
    | none => exact .inl rfl
    | some q => exact .inr (fun e => h.sep q hb e.symm))
  exact ⟨(set_other _ (by omega)).trans k1, (set_other _ (by omega)).trans k2, set_block' (o := 3) av' k3, ha.setBelow (a := ⟨B + 1 + 1, 3, none⟩) (Nat.lt_succ_self _) _, ho.setBelow (a := ⟨B + 1 + 1, 3, none⟩) (Nat.lt_succ_self _) _, fun q hq e => by
    rcases hat with hat | ⟨q', hq', hl⟩
    · exact h.sep q hq (hat ▸ e)
    · rw [hq'] at e; injection e with e; subst e
      have := (World.ownsRow.lt h.dep _ hq).2; omega, k4.setCell (p := ⟨B + 1 + 1, 3, none⟩) (show B ≤ B + 1 + 1 by omega) _, by rw [set_size]; exact k5⟩
theorem TS.cells (h : TS w wr B res pd pa line day dv av dl al) :
    (wr.cell? ⟨B, 1, none⟩ = some pd ∧ wr.cell? ⟨B, 2, none⟩ = some pa) ∧ wr.cell? ⟨B + 1 + 1, 0, none⟩ = some (.int .i64 line) ∧ wr.cell? ⟨B + 1 + 1, 1, none⟩ = some (.int .i64 day) ∧ wr.cell? ⟨B + 1 + 1, 2, none⟩ = some dv ∧ wr.cell? ⟨B + 1 + 1, 3, none⟩ = some av ∧
      ∀ o, wr.frozen? ⟨B + 1 + 1, o, none⟩ = false := by
  refine ⟨⟨?_, ?_⟩, ?_, ?_, ?_, ?_, fun o => by simp [World.frozen?, h.tc]⟩
  · rw [cell_of_row wr _ 1 _ _ _ h.pat]; rfl
  · rw [cell_of_row wr _ 2 _ _ _ h.pat]; rfl
  · rw [cell_of_row wr _ 0 _ _ _ h.tc]; rfl
  · rw [cell_of_row wr _ 1 _ _ _ h.tc]; rfl
  · rw [cell_of_row wr _ 2 _ _ _ h.tc]; rfl
  · rw [cell_of_row wr _ 3 _ _ _ h.tc]; rfl
end

end Go.Proofs.Ytaongejpbgjbiaa
