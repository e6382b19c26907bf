/-
  Contract of keep2.Pattern.
-/
import Derived.Test.YtaongejpbgjbiaaPatP
import Derived.Test.YtaongejpbgjbiaaSource
import Derived.Test.YtaongejpbgjbiaaOrd
import Derived.Test.YtaongejpbgjbiaaStp
set_option linter.unusedVariables false
set_option linter.unusedSimpArgs false
namespace Go.Proofs.Ytaongejpbgjbiaa
open Go.RowKit RP

/-- The state of Pattern: the network's block gn, the source's block B + 1, the result's block B. -/
structure PtSt (w wr : World) (B gn : Nat) (A : Option Addr) (c : Nat) (l : List Int) (j T : Nat) (ve va tv : Value) (ev : List Evt) (ac : List Acy) (ts : List Int) : Prop where
  net : wr.heap[gn]? = some (.cells #[.int .i64 T, ve, va] 43 (0, 0))
  rc : wr.heap[B]? = some (.cells #[.int .i64 0, .slice none 0 0, .slice none 0 0] 43 (0, 0))
  evs : OwnE wr (gn + 1) ve ev
  acs : OwnA wr (gn + 1) va ac
  tms : OwnN wr (gn + 1) tv ts
  src : Src wr (B + 1) A c l j
  bel : Below B w wr
  lt : gn < wr.heap.size
  gt : B + 1 < gn
section
variable {w wr wx : World} {B gn : Nat} {A : Option Addr} {c : Nat} {l : List Int} {j T : Nat} {ve va tv : Value} {ev : List Evt} {ac : List Acy} {ts : List Int}
theorem PtSt.drew (h : PtSt w wr B gn A c l j T ve va tv ev ac ts) : PtSt w wr.drew B gn A c l j T ve va tv ev ac ts :=
  ⟨h.net, h.rc, h.evs.drew, h.acs.drew, h.tms.drew, h.src, h.bel.drew, h.lt, h.gt⟩
theorem PtSt.below (h : PtSt w wr B gn A c l j T ve va tv ev ac ts) (hb : Below wr.heap.size wr wx) : PtSt w wx B gn A c l j T ve va tv ev ac ts :=
  ⟨(hb.block gn h.lt).trans h.net, (hb.block B (by have := h.lt; have := h.gt; omega)).trans h.rc, h.evs.below' hb, h.acs.below' hb, h.tms.below' hb, h.src.below hb, h.bel.trans (hb.mono (by have := h.lt; have := h.gt; omega)), by have := h.lt; have := hb.size; omega, h.gt⟩
theorem PtSt.next {j3 : Nat} (h : PtSt w wr B gn A c l j T ve va tv ev ac ts) (hs : Src wx (B + 1) A c l j3) (hg : wr.grownBy wx (some (B + 1))) : PtSt w wx B gn A c l j3 T ve va tv ev ac ts :=
  ⟨(hg.block gn h.lt (fun e => by injection e with e; have := h.gt; omega)).trans h.net, (hg.block B (by have := h.lt; have := h.gt; omega) (fun e => by injection e with e; omega)).trans h.rc,
    h.evs.kept hg (.inr fun e => by have := (World.ownsRow.lt h.evs _ e).1; have := h.gt; omega), h.acs.kept hg (.inr fun e => by have := (World.ownsRow.lt h.acs _ e).1; have := h.gt; omega), h.tms.kept hg (.inr fun e => by have := (World.ownsRow.lt h.tms _ e).1; have := h.gt; omega),
    hs, h.bel.grown hg (by have := h.lt; have := h.gt; omega) (fun q hq => by injection hq with hq; omega), by have := h.lt; have := hg.size; omega, h.gt⟩
theorem own_ne {α β : Type} {enc : α → List Value} {enc' : β → List Value} {k k' : Nat} {e e' : TypeId} {w w' : World} {b b' : Nat} {v v' : Value} {x : List α} {y : List β} (h : Own enc k e w b v x) (h' : Own enc' k' e' w b' v' y) (hne : e ≠ e') (hg : w.grownBy w' v'.ownBlock) : Own enc k e w' b v x :=
  h.kept hg (by
    cases hb : v.ownBlock with
    | none => exact .inl rfl
    | some q => exact .inr fun e => own_apart h h' hne q hb e.symm)
theorem PtSt.grownE {v6 : Value} {ev' : List Evt} (h : PtSt w wr B gn A c l j T ve va tv ev ac ts) (ho : OwnE wx (gn + 1) v6 ev') (hg : wr.grownBy wx ve.ownBlock) :
    wx.heap[gn]? = some (.cells #[.int .i64 T, ve, va] 43 (0, 0)) ∧ PtSt w (wx.setCell ⟨gn, 1, none⟩ v6) B gn A c l j T v6 va tv ev' ac ts := by
  have hlt := h.lt
  have hgt := h.gt
  have hq : ∀ q, ve.ownBlock = some q → gn + 1 ≤ q := fun q e => (World.ownsRow.lt h.evs q e).1
  have hn := (hg.block gn h.lt (fun e => by have := hq _ e.symm; omega)).trans h.net
  refine ⟨hn, set_block' (o := 1) v6 hn, (set_other _ (by omega)).trans ((hg.block B (by omega) (fun e => by have := hq _ e.symm; omega)).trans h.rc), ho.setBelow (a := ⟨gn, 1, none⟩) (Nat.lt_succ_self gn) _,
    (own_ne h.acs h.evs (by decide) hg).setBelow (a := ⟨gn, 1, none⟩) (Nat.lt_succ_self gn) _, (own_ne h.tms h.evs (by decide) hg).setBelow (a := ⟨gn, 1, none⟩) (Nat.lt_succ_self gn) _,
    (h.src.grown hg (fun q e => by have := hq _ e; omega)).belowAt (B := gn) ((Below.refl gn wx).setCell (p := ⟨gn, 1, none⟩) (Nat.le_refl gn) _) (by omega),
    (h.bel.grown hg (by omega) (fun q e => by have := hq _ e; omega)).setCell (p := ⟨gn, 1, none⟩) (show B ≤ gn by omega) _, by rw [set_size]; have := hg.size; omega, h.gt⟩
theorem PtSt.grownA {v6 : Value} {ac' : List Acy} (h : PtSt w wr B gn A c l j T ve va tv ev ac ts) (ho : OwnA wx (gn + 1) v6 ac') (hg : wr.grownBy wx va.ownBlock) :
    wx.heap[gn]? = some (.cells #[.int .i64 T, ve, va] 43 (0, 0)) ∧ PtSt w (wx.setCell ⟨gn, 2, none⟩ v6) B gn A c l j T ve v6 tv ev ac' ts := by
  have hlt := h.lt
  have hgt := h.gt
  have hq : ∀ q, va.ownBlock = some q → gn + 1 ≤ q := fun q e => (World.ownsRow.lt h.acs q e).1
  have hn := (hg.block gn h.lt (fun e => by have := hq _ e.symm; omega)).trans h.net
  refine ⟨hn, set_block' (o := 2) v6 hn, (set_other _ (by omega)).trans ((hg.block B (by omega) (fun e => by have := hq _ e.symm; omega)).trans h.rc),
    (own_ne h.evs h.acs (by decide) hg).setBelow (a := ⟨gn, 2, none⟩) (Nat.lt_succ_self gn) _, ho.setBelow (a := ⟨gn, 2, none⟩) (Nat.lt_succ_self gn) _, (own_ne h.tms h.acs (by decide) hg).setBelow (a := ⟨gn, 2, none⟩) (Nat.lt_succ_self gn) _,
    (h.src.grown hg (fun q e => by have := hq _ e; omega)).belowAt (B := gn) ((Below.refl gn wx).setCell (p := ⟨gn, 2, none⟩) (Nat.le_refl gn) _) (by omega),
    (h.bel.grown hg (by omega) (fun q e => by have := hq _ e; omega)).setCell (p := ⟨gn, 2, none⟩) (show B ≤ gn by omega) _, by rw [set_size]; have := hg.size; omega, h.gt⟩
theorem PtSt.grownT {v6 : Value} {ts' : List Int} (h : PtSt w wr B gn A c l j T ve va tv ev ac ts) (ho : OwnN wx (gn + 1) v6 ts') (hg : wr.grownBy wx tv.ownBlock) :
    PtSt w wx B gn A c l j T ve va v6 ev ac ts' := by
  have hlt := h.lt
  have hgt := h.gt
  have hq : ∀ q, tv.ownBlock = some q → gn + 1 ≤ q := fun q e => (World.ownsRow.lt h.tms q e).1
  have hn := (hg.block gn h.lt (fun e => by have := hq _ e.symm; omega)).trans h.net
  exact ⟨hn, (hg.block B (by omega) (fun e => by have := hq _ e.symm; omega)).trans h.rc, own_ne h.evs h.tms (by decide) hg, own_ne h.acs h.tms (by decide) hg, ho, h.src.grown hg (fun q e => by have := hq _ e; omega),
    h.bel.grown hg (by omega) (fun q e => by have := hq _ e; omega), by have := hg.size; omega, h.gt⟩
theorem PtSt.cells (h : PtSt w wr B gn A c l j T ve va tv ev ac ts) : wr.cell? ⟨gn, 0, none⟩ = some (.int .i64 T) ∧ wr.cell? ⟨gn, 1, none⟩ = some ve ∧ wr.cell? ⟨gn, 2, none⟩ = some va ∧ wr.frozen? ⟨gn, 1, none⟩ = false ∧ wr.frozen? ⟨gn, 2, none⟩ = false :=
  ⟨by rw [cell_of_row wr _ 0 _ _ _ h.net]; rfl, by rw [cell_of_row wr _ 1 _ _ _ h.net]; rfl, by rw [cell_of_row wr _ 2 _ _ _ h.net]; rfl, by simp [World.frozen?, h.net], by simp [World.frozen?, h.net]⟩
end
/-- At the head of the loop over the lines. -/
def HeadP (T L k : Nat) (ev : List Evt) (ac : List Acy) (ts : List Int) : Prop := (k = 0 ∧ ∃ r, 0 < r ∧ PatI T L 0 r ev ac ts) ∨ ∃ k', k = k' + 1 ∧ PatI T L k' 0 ev ac ts
theorem HeadP.of {T L lam r : Nat} {ev : List Evt} {ac : List Acy} {ts : List Int} (h : PatI T L lam r ev ac ts) (hr : 0 < r) : HeadP T L lam ev ac ts := by
  cases lam with
  | zero => exact .inl ⟨rfl, r, hr, h⟩
  | succ k => exact .inr ⟨k, rfl, h.line hr⟩
def PtnPost (w : World) (e : Ending) (w' : World) : Prop :=
  ∃ (T L r : Nat) (E : Option Addr) (cE : Nat) (An : Option Addr) (cA : Nat) (B' : Option Addr) (cB : Nat) (ev : List Evt) (ac : List Acy) (ts : List Int), e = .returned (.tuple #[netV T E ev.length cE An ac.length cA, .slice B' ts.length cB]) ∧
    OwnE w' w.heap.size (.slice E ev.length cE) ev ∧ OwnA w' w.heap.size (.slice An ac.length cA) ac ∧ OwnN w' w.heap.size (.slice B' ts.length cB) ts ∧ PatI T L 0 r ev ac ts ∧ 0 < r ∧ 60 ≤ T ∧ T ≤ 720 ∧ Below w.heap.size w w'

set_option maxRecDepth 100000 in
set_option maxHeartbeats 16000000 in
theorem pattern_any (A : Option Addr) (c : Nat) (l : List Int) (w : World) (h : ArgI w A c l) : Calls Try.prog 19 #[.slice A l.length c] w (PtnPost w) := by
  have ba := belA w (.cells #[.int .i64 0, .slice none 0 0, .slice none 0 0] 43)
  have hres := heap_alloc_new w (.cells #[.int .i64 0, .slice none 0 0, .slice none 0 0] 43)
  have h1 := h.below ba
  generalize hB0 : w.heap.size = B at *
  go_enter Try.func19, Try.ntmps19
  go_wp2_with fail
  refine (from_any A c l _ h1).mono ?_
  rw [World.size_alloc, hB0]
  rintro e w1 ⟨rfl, hs1, hb1⟩
  have HB0 := Lib.hid hB0
  have r1 := (hb1.block B (by omega)).trans hres
  have b1 : Below B w w1 := ba.trans (hb1.mono (by omega))
  have z1 := hs1.lt
  clear ba hres h1 hb1 hB0
  go_wp2_with fail
  refine (next_any (B + 1) A c l 0 12 w1 hs1 (by omega) (by omega)).mono ?_
  rintro e w2 ⟨r, j2, hr0, hr1, rfl, hs2, hg2⟩
  have r2 := (hg2.block B (by omega) (fun e => by injection e; omega)).trans r1
  have z2 := hg2.size
  have b2 : Below B w w2 := b1.grown hg2 (by omega) (fun k hk => by injection hk with hk; omega)
  clear hs1 hg2 r1 b1
  obtain ⟨T, hT⟩ : ∃ T : Nat, (T : Int) = 60 * (1 + r) := ⟨(60 * (1 + r)).toNat, by omega⟩
  go_upto_region 3 with fail
  rw [← hT]
  have hT2 : 60 ≤ T ∧ T ≤ 720 := by omega
  clear hT hr0 hr1
  have bn := belA w2 (.cells #[.int .i64 T, .slice none 0 0, .slice none 0 0] 43)
  have hn3 := heap_alloc_new w2 (.cells #[.int .i64 T, .slice none 0 0, .slice none 0 0] 43)
  have hPS : PtSt w (w2.alloc (.cells #[.int .i64 T, .slice none 0 0, .slice none 0 0] 43)) B w2.heap.size A c l j2 T (.slice none 0 0) (.slice none 0 0) (.slice none 0 0) [] [] [] :=
    ⟨hn3, (bn.block B (by omega)).trans r2, Own.nil _ _ _ _ _, Own.nil _ _ _ _ _, Own.nil _ _ _ _ _, hs2.below bn, b2.trans (bn.mono (by omega)), by simp, by omega⟩
  clear bn hn3 hs2 r2 b2
  generalize w2.alloc (.cells #[.int .i64 T, .slice none 0 0, .slice none 0 0] 43) = w3 at *
  generalize hgn : w2.heap.size = gn at *
  clear hgn
  go_wp2_with fail
  refine (next_any (B + 1) A c l j2 3 w3 hPS.src (by omega) (by omega)).mono ?_
  rintro e w4 ⟨q, j4, hq0, hq1, rfl, hs4, hg4⟩
  have hPS4 := hPS.next hs4 hg4
  clear hs4 hg4 hPS
  obtain ⟨L, hL⟩ : ∃ L : Nat, (L : Int) = 1 + q := ⟨(1 + q).toNat, by omega⟩
  go_wp2_with fail
  rw [← hL]
  have hL2 : 1 ≤ L ∧ L ≤ 3 := by omega
  have HH := Lib.hid (show HeadP T L L [] [] [] from .inr ⟨L - 1, by omega, PatI.start T L (by omega) (by omega)⟩)
  clear hL hq0 hq1
  go_loopg [6, 7, 8, 9, 10, 11] L (fun g s6 s7 s8 s9 s10 s11 wr => ∃ (k j : Nat) (ve va : Value) (ev : List Evt) (ac : List Acy) (ts : List Int), g = k ∧ k ≤ L ∧ s7 = .int .i64 k ∧ PtSt w wr B gn A c l j T ve va s6 ev ac ts ∧ HeadP T L k ev ac ts)
  case atStart => exact ⟨L, j4, _, _, _, _, _, rfl, by omega, rfl, hPS4, HH.out⟩
  case round =>
    obtain ⟨k, j, ve, va, ev, ac, ts, rfl, hk, rfl, hst, hh⟩ := hrel
    rcases hh with ⟨rfl, r, hr, hI⟩ | ⟨k', rfl, hI⟩
    · obtain ⟨Ae, ce, rfl⟩ := hst.evs.form
      obtain ⟨An, cn, rfl⟩ := hst.acs.form
      obtain ⟨B', cB, rfl⟩ := hst.tms.form
      obtain ⟨n0, n1, n2, _, _⟩ := hst.cells
      have hrc := hst.rc
      have rf0 : wr.frozen? ⟨B, 0, none⟩ = false := by simp [World.frozen?, hrc]
      have rf1 : wr.frozen? ⟨B, 1, none⟩ = false := by simp [World.frozen?, hrc]
      have rf2 : wr.frozen? ⟨B, 2, none⟩ = false := by simp [World.frozen?, hrc]
      have r0 : wr.cell? ⟨B, 0, none⟩ = some (.int .i64 0) := by rw [cell_of_row wr _ 0 _ _ _ hrc]; rfl
      have r1 : wr.cell? ⟨B, 1, none⟩ = some (.slice none 0 0) := by rw [cell_of_row wr _ 1 _ _ _ hrc]; rfl
      have r2 : wr.cell? ⟨B, 2, none⟩ = some (.slice none 0 0) := by rw [cell_of_row wr _ 2 _ _ _ hrc]; rfl
      have HRES := Lib.hid (set_block' (o := 2) (.slice An ac.length cn) (set_block' (o := 1) (.slice Ae ev.length ce) (set_block' (o := 0) (.int .i64 T) hrc)))
      have HST := Lib.hid hst
      have HI := Lib.hid hI
      clear hrc hst hPS4 hI
      go_wp2_with fail
      refine bodyPost_ret (results_cell_tmp rfl _ _ B 43 _ _ _ rfl HRES.out Try.underlying43 rfl (by kernel_rfl) (.slice B' ts.length cB) rfl) rfl ?_
      have hps := HST.out
      have hgt := hps.gt
      refine ⟨T, L, r, Ae, ce, An, cn, B', cB, ev, ac, ts, rfl, ?_, ?_, ?_, HI.out, hr, hT2.1, hT2.2, ?_⟩
      · rw [HB0.out]
        exact (((hps.evs.setBelow (a := ⟨B, _, none⟩) (show B < gn + 1 by omega) _).setBelow (a := ⟨B, _, none⟩) (show B < gn + 1 by omega) _).setBelow (a := ⟨B, _, none⟩) (show B < gn + 1 by omega) _).rebase (by omega)
      · rw [HB0.out]
        exact (((hps.acs.setBelow (a := ⟨B, _, none⟩) (show B < gn + 1 by omega) _).setBelow (a := ⟨B, _, none⟩) (show B < gn + 1 by omega) _).setBelow (a := ⟨B, _, none⟩) (show B < gn + 1 by omega) _).rebase (by omega)
      · rw [HB0.out]
        exact (((hps.tms.setBelow (a := ⟨B, _, none⟩) (show B < gn + 1 by omega) _).setBelow (a := ⟨B, _, none⟩) (show B < gn + 1 by omega) _).setBelow (a := ⟨B, _, none⟩) (show B < gn + 1 by omega) _).rebase (by omega)
      · rw [HB0.out]
        exact ((hps.bel.setCell (p := ⟨B, _, none⟩) (Nat.le_refl B) _).setCell (p := ⟨B, _, none⟩) (Nat.le_refl B) _).setCell (p := ⟨B, _, none⟩) (Nat.le_refl B) _
    · obtain ⟨Ae, ce, rfl⟩ := hst.evs.form
      obtain ⟨n0, n1, n2, f1, f2⟩ := hst.cells
      have hKl : ev.length ≤ 18 := by have := hI.len; have := hI.r3; have := hI.L3; omega
      have HI := Lib.hid hI
      have HST := Lib.hid hst
      clear hst hPS4 hI
      go_wp2_with fail
      obtain ⟨W0, rfl⟩ : ∃ W0 : World, W0 = wr := ⟨_, rfl⟩
      generalize hK0 : ev.length = K0 at *
      have HK0 := Lib.hid hK0
      have k00 : (0 : Int) ≤ (K0 : Int) := by omega
      clear hK0 n0 n1 n2 f1 f2
      go_loopg [6, 9, 10, 11] 3 (fun g s6 s9 s10 s11 wr => ∃ (r j : Nat) (ve va : Value) (ev : List Evt) (ac : List Acy) (ts : List Int), r ≤ 3 ∧ g = 3 - r ∧ s9 = .int .i64 r ∧ PtSt w wr B gn A c l j T ve va s6 ev ac ts ∧ PatI T L k' r ev ac ts)
      case atStart => exact ⟨0, _, _, _, _, _, _, by omega, by omega, rfl, by rw [← HK0.out] at HST; exact HST.out, HI.out⟩
      case round =>
        obtain ⟨r, j, ve, va, ev, ac, ts, hr3, hg, rfl, hst, hI⟩ := hrel
        have HI := Lib.hid hI
        clear hI HST
        go_wp2_with fail
        refine (next_any (B + 1) A c l j 2 wr hst.src (by omega) (by omega)).mono ?_
        rintro e w5 ⟨x, j5, x0, x1, rfl, hs5, hg5⟩
        have hst5 := hst.next hs5 hg5
        clear hst hs5 hg5
        by_cases hle : (r : Int) ≤ (K0 : Int) % 4 / 2 + x
        · have hr2 : r < 3 := by omega
          have HHI := HI.out
          have hel : ev.length ≤ 18 := by have := HHI.len; have := HHI.L3; omega
          have hal : ac.length ≤ 18 := by have := HHI.llen; omega
          have htl : ts.length ≤ 18 := by have := HHI.tlen; omega
          have hlam : k' < L := HHI.lamL
          clear HHI
          obtain ⟨Ae, ce, rfl⟩ := hst5.evs.form
          obtain ⟨n0, n1, n2, f1, f2⟩ := hst5.cells
          have hgb := hst5.lt
          have HST := Lib.hid hst5
          clear hst5
          go_wp2_with (at_builtin; refine Stp.put ?_)
          refine Stp.out ?_
          refine wpList_append_rec rfl _ _ 40 rfl (gn + 1) 54 24 Try.underlying40 elemE _ ev rfl HST.out.evs [(1, (k' : Int), (r : Int)), (2, (k' : Int), (r : Int))] _ (by simp [encE]) 2 2 rfl rfl (by simp only [Go.maxLen, List.length_cons, List.length_nil]; omega) (by simp only [List.length_cons, List.length_nil]; omega) (by omega) ?_
          intro v6 w6 ho6 hg6 hat6
          obtain ⟨hn6, hst6⟩ := HST.out.grownE ho6 hg6
          have t1 : w6.cell? ⟨gn, 1, none⟩ = some (.slice Ae ev.length ce) := by rw [cell_of_row w6 _ 1 _ _ _ hn6]; rfl
          have tf : w6.frozen? ⟨gn, 1, none⟩ = false := by simp [World.frozen?, hn6]
          obtain ⟨A6, c6, rfl⟩ := ho6.form
          have hll : (ev ++ [(1, (k' : Int), (r : Int)), (2, (k' : Int), (r : Int))]).length = ev.length + 2 := by simp
          generalize hEV : ev ++ [(1, (k' : Int), (r : Int)), (2, (k' : Int), (r : Int))] = ev' at *
          have HEV := Lib.hid hEV
          have HST6 := Lib.hid hst6
          have l0 : (2 : Int) ≤ (ev'.length : Int) := by omega
          have l1 : (ev'.length : Int) ≤ 20 := by omega
          have HLL := Lib.hid hll
          clear hEV hst6 hn6 hat6 hg6 ho6 n0 n1 n2 f1 f2 HST hll
          go_upto_region 12 with fail
          generalize w6.setCell ⟨gn, 1, none⟩ (.slice A6 ev'.length c6) = w7 at *
          clear t1 tf
          obtain ⟨n0, n1, n2, f1, f2⟩ := HST6.out.cells
          go_wp2_with fail
          generalize hLE : ev'.length = LE at *
          refine (next_any (B + 1) A c l j5 500 w7 HST6.out.src (by omega) (by omega)).mono ?_
          rintro e w8 ⟨y, j8, y0, y1, rfl, hs8, hg8⟩
          have HLE := Lib.hid hLE
          rw [← hLE] at HST6
          have hst8 := HST6.out.next hs8 hg8
          clear hs8 hg8 HST6 n0 n1 n2 f1 f2 hLE
          obtain ⟨An, cn, rfl⟩ := hst8.acs.form
          obtain ⟨n0, n1, n2, f1, f2⟩ := hst8.cells
          have HST8 := Lib.hid hst8
          have hgb8 := hst8.lt
          clear hst8
          go_wp2_with (at_builtin; refine Stp.put ?_)
          refine Stp.out ?_
          refine wpList_append_rec rfl _ _ 41 rfl (gn + 1) 60 48 Try.underlying41 elemA _ ac rfl HST8.out.acs [⟨1, ev.length, (ev.length : Int) + 1, 1 + y, 1 + y + T - 1, 0⟩] _ (by have := HLL.out; have := HLE.out; simp [encA]; omega) 1 1 rfl rfl (by simp only [Go.maxLen, List.length_cons, List.length_nil]; omega) (by simp only [List.length_cons, List.length_nil]; omega) (by omega) ?_
          intro v9 w9 ho9 hg9 hat9
          obtain ⟨hn9, hst9⟩ := HST8.out.grownA ho9 hg9
          have t2 : w9.cell? ⟨gn, 2, none⟩ = some (.slice An ac.length cn) := by rw [cell_of_row w9 _ 2 _ _ _ hn9]; rfl
          have tf : w9.frozen? ⟨gn, 2, none⟩ = false := by simp [World.frozen?, hn9]
          obtain ⟨A9, c9, rfl⟩ := ho9.form
          have hal9 : (ac ++ [(⟨1, ev.length, (ev.length : Int) + 1, 1 + y, 1 + y + T - 1, 0⟩ : Acy)]).length ≤ 19 := by simp; omega
          generalize hAC : ac ++ [(⟨1, ev.length, (ev.length : Int) + 1, 1 + y, 1 + y + T - 1, 0⟩ : Acy)] = ac' at *
          have HAC := Lib.hid hAC
          have HST9 := Lib.hid hst9
          clear hAC hst9 hn9 hat9 hg9 ho9 n0 n1 n2 f1 f2 HST8
          go_upto_region 15 with fail
          generalize w9.setCell ⟨gn, 2, none⟩ (.slice A9 ac'.length c9) = w10 at *
          clear t2 tf
          obtain ⟨n0, n1, n2, f1, f2⟩ := HST9.out.cells
          go_upto_if 75 with fail
          go_cut [11] (fun s11 wx => ∃ (j : Nat) (va : Value) (lo2 : Int), 0 ≤ lo2 ∧ lo2 ≤ 500 ∧ PtSt w wx B gn A c l j T (.slice A6 ev'.length c6) va u6 ev' (ac ++ rideA T ev.length r (1 + y) lo2) ts)
          case first =>
            rcases Nat.eq_zero_or_pos r with hz | hz
            · subst hz
              go_wp2_with fail
              go_meet
              refine ⟨j8, .slice A9 ac'.length c9, 0, by omega, by omega, ?_⟩
              have e : rideA T ev.length 0 (1 + y) 0 = [⟨1, ev.length, (ev.length : Int) + 1, 1 + y, 1 + y + T - 1, 0⟩] := rfl
              rw [e, HAC.out]
              exact HST9.out
            · have hz1 : (0 : Int) < (r : Int) := by omega
              go_wp2_with fail
              refine (next_any (B + 1) A c l j8 60 w10 HST9.out.src (by omega) (by omega)).mono ?_
              rintro e w11 ⟨z, j11, z0, z1, rfl, hs11, hg11⟩
              have hst11 := HST9.out.next hs11 hg11
              clear hs11 hg11 HST9 n0 n1 n2 f1 f2
              obtain ⟨n0, n1, n2, f1, f2⟩ := hst11.cells
              have HST11 := Lib.hid hst11
              have hgb11 := hst11.lt
              clear hst11
              go_wp2_with (at_builtin; refine Stp.put ?_)
              refine Stp.out ?_
              refine wpList_append_rec rfl _ _ 41 rfl (gn + 1) 60 48 Try.underlying41 elemA _ ac' rfl HST11.out.acs [⟨2, (ev.length : Int) - 1, ev.length, z, z + T - 1, 0⟩] _ (by have := HLL.out; have := HLE.out; simp [encA]; omega) 1 1 rfl rfl (by simp only [Go.maxLen, List.length_cons, List.length_nil]; omega) (by simp only [List.length_cons, List.length_nil]; omega) (by omega) ?_
              intro v12 w12 ho12 hg12 hat12
              obtain ⟨hn12, hst12⟩ := HST11.out.grownA ho12 hg12
              have t2 : w12.cell? ⟨gn, 2, none⟩ = some (.slice A9 ac'.length c9) := by rw [cell_of_row w12 _ 2 _ _ _ hn12]; rfl
              have tf : w12.frozen? ⟨gn, 2, none⟩ = false := by simp [World.frozen?, hn12]
              obtain ⟨A12, c12, rfl⟩ := ho12.form
              generalize hA2 : ac' ++ [(⟨2, (ev.length : Int) - 1, ev.length, z, z + T - 1, 0⟩ : Acy)] = ac2 at *
              have HA2 := Lib.hid hA2
              have HST12 := Lib.hid hst12
              clear hA2 hst12 hn12 hat12 hg12 ho12 n0 n1 n2 f1 f2 HST11
              go_wp2_with fail
              go_meet
              refine ⟨j11, .slice A12 ac2.length c12, z, by omega, by omega, ?_⟩
              have e : ac ++ rideA T ev.length r (1 + y) z = ac2 := by rw [← HA2.out, ← HAC.out, List.append_assoc]; simp [rideA, show ¬ r = 0 by omega]
              rw [e]
              exact HST12.out
          case rest =>
            obtain ⟨j13, va13, lo2, q0, q1, hst13⟩ := hcut
            clear HST9 HAC n0 n1 n2 f1 f2
            obtain ⟨W1, rfl⟩ : ∃ W1 : World, W1 = wc := ⟨_, rfl⟩
            obtain ⟨Bt, ct, rfl⟩ := hst13.tms.form
            obtain ⟨n0, n1, n2, f1, f2⟩ := hst13.cells
            have hgb13 := hst13.lt
            have HST13 := Lib.hid hst13
            have hsd := HST13.out.drew
            clear hst13
            go_upto_region 18 with fail
            refine wp_region_until (S := fun w' => w'.cell? ⟨gn, 0, none⟩ = some (.int .i64 T)) 11 (by kernel_rfl) ?_
            have h0 : W1.drew.cell? ⟨gn, 0, none⟩ = some (.int .i64 T) := n0
            refine until_take (i := 0) (v := ?_) rfl (by kernel_rfl) (by kernel_rfl) (by kernel_rfl) (by kernel_rfl) (fun _ _ _ h => h) (Or.inl ⟨by rfl, ?_⟩) h0 ?_
            rotate_left
            · intro u hSu
              (try dsimp only at hSu)
              go_simp
              try rfl
            simp only [Act.put, List.setIfInBounds_toArray, List.set_cons_zero, List.set_cons_succ]
            refine until_take (i := 1) (v := ?_) rfl (by kernel_rfl) (by kernel_rfl) (by kernel_rfl) (by kernel_rfl) (fun _ _ _ h => h) (Or.inl ⟨by rfl, ?_⟩) h0 ?_
            rotate_left
            · intro u hSu
              (try dsimp only at hSu)
              go_simp
              try rfl
            simp only [Act.put, List.setIfInBounds_toArray, List.set_cons_zero, List.set_cons_succ]
            refine until_take (i := 2) (v := ?_) rfl (by kernel_rfl) (by kernel_rfl) (by kernel_rfl) (by kernel_rfl) (fun _ _ _ h => h) (Or.inl ⟨by rfl, ?_⟩) h0 ?_
            rotate_left
            · intro u hSu
              (try dsimp only at hSu)
              go_simp
              try rfl
            simp only [Act.put, List.setIfInBounds_toArray, List.set_cons_zero, List.set_cons_succ]
            refine until_take (i := 3) (v := ?_) rfl (by kernel_rfl) (by kernel_rfl) (by kernel_rfl) (by kernel_rfl) (fun _ _ _ h => h) (Or.inl ⟨by rfl, ?_⟩) h0 ?_
            rotate_left
            · intro u hSu
              (try dsimp only at hSu)
              go_simp
              try rfl
            simp only [Act.put, List.setIfInBounds_toArray, List.set_cons_zero, List.set_cons_succ]
            refine until_take (i := 5) (v := ?_) rfl (by kernel_rfl) (by kernel_rfl) (by kernel_rfl) (by kernel_rfl) (fun _ _ _ h => h) (Or.inl ⟨by rfl, ?_⟩) h0 ?_
            rotate_left
            · intro u hSu
              (try dsimp only at hSu)
              go_simp
              try rfl
            simp only [Act.put, List.setIfInBounds_toArray, List.set_cons_zero, List.set_cons_succ]
            refine until_take (i := 6) (v := ?_) rfl (by kernel_rfl) (by kernel_rfl) (by kernel_rfl) (by kernel_rfl) (fun _ _ _ h => h) (Or.inl ⟨by rfl, ?_⟩) h0 ?_
            rotate_left
            · intro u hSu
              (try dsimp only at hSu)
              go_simp
              try rfl
            simp only [Act.put, List.setIfInBounds_toArray, List.set_cons_zero, List.set_cons_succ]
            refine until_take (i := 7) (v := ?_) rfl (by kernel_rfl) (by kernel_rfl) (by kernel_rfl) (by kernel_rfl) (fun _ _ _ h => h) (Or.inl ⟨by rfl, ?_⟩) h0 ?_
            rotate_left
            · intro u hSu
              (try dsimp only at hSu)
              go_simp
              try rfl
            simp only [Act.put, List.setIfInBounds_toArray, List.set_cons_zero, List.set_cons_succ]
            refine until_one (i := 4) rfl (by kernel_rfl) (fun K hK => ?_)
            go_simp
            refine ((next_any (B + 1) A c l j13 T W1.drew hsd.src (by omega) (by omega))).mono ?_
            rintro e w14 ⟨a1, j14, p0, p1, rfl, hs14, hg14⟩
            have hst14 := hsd.next hs14 hg14
            have m14 := hst14.cells.1
            refine hK.out _ _ (fun _ => m14) ?_
            clear hK K
            replace h0 := m14
            try simp only [Act.put, List.setIfInBounds_toArray, List.set_cons_zero, List.set_cons_succ]
            refine until_one (i := 8) rfl (by kernel_rfl) (fun K hK => ?_)
            go_simp
            refine ((next_any (B + 1) A c l j14 T w14 hst14.src (by omega) (by omega))).mono ?_
            rintro e w15 ⟨a2, j15, p2, p3, rfl, hs15, hg15⟩
            have hst15 := hst14.next hs15 hg15
            have m15 := hst15.cells.1
            refine hK.out _ _ (fun _ => m15) ?_
            clear hK K
            replace h0 := m15
            try simp only [Act.put, List.setIfInBounds_toArray, List.set_cons_zero, List.set_cons_succ]
            refine until_one (i := 9) rfl (by kernel_rfl) (fun K hK => ?_)
            go_simp
            have bX := belA w15 (.cells #[.int .i64 a1, .int .i64 a2] 3)
            have hst16 := hst15.below bX
            have m16 := hst16.cells.1
            refine hK.out _ _ (fun _ => m16) ?_
            clear hK K
            replace h0 := m16
            try simp only [Act.put, List.setIfInBounds_toArray, List.set_cons_zero, List.set_cons_succ]
            refine until_one (i := 10) rfl (by kernel_rfl) (fun K hK => ?_)
            refine step_append_blk (by rfl) _ _ 29 (by rfl) (gn + 1) 3 8 Try.underlying29 elemN (.slice Bt ts.length ct) ts (by rfl) hst16.tms [a1, a2] w15.heap.size 2 2 (by rfl) (by rfl) 3 (heap_alloc_new w15 _) (by simp only [Go.maxLen, List.length_cons, List.length_nil]; omega) (by simp only [List.length_cons, List.length_nil]; omega) hst16.lt ?_
            intro v17 w17 ho17 hg17 hat17
            have hst17 := hst16.grownT ho17 hg17
            have m17 := hst17.cells.1
            refine hK.out _ _ (fun _ => m17) ?_
            clear hK K
            replace h0 := m17
            try simp only [Act.put, List.setIfInBounds_toArray, List.set_cons_zero, List.set_cons_succ]
            refine until_one (i := 11) rfl (by kernel_rfl) (fun K hK => ?_)
            go_simp
            refine hK.out _ _ (fun q => absurd rfl q) ?_
            clear hK K h0
            refine until_done (by kernel_rfl) ?_ _
            have HR := Lib.hid hst17
            clear hsd hs14 hg14 hst14 m14 hs15 hg15 hst15 m15 bX hst16 m16 hst17 m17 ho17 hg17 hat17 n0 n1 n2 f1 f2 HST13
            go_wp2_with fail
            go_roundg (3 - (r + 1))
            case measure => omega
            case rel => exact ⟨r + 1, j15, _, _, _, _, _, by omega, rfl, by go_num, HR.out, by rw [← HEV.out]; exact HI.out.ride hr2 (by omega) (by omega) q0 q1 p0 p1 p2 p3⟩
        · go_wp2_with fail
          go_roundg k'
          case measure => omega
          case rel => exact ⟨k', j5, ve, va, ev, ac, ts, rfl, by omega, by go_num, hst5, HeadP.of HI.out (by omega)⟩
end Go.Proofs.Ytaongejpbgjbiaa
