/-
  Contract of keep2.Trips.
-/
import Derived.Test.YtaongejpbgjbiaaTrs
import Derived.Test.YtaongejpbgjbiaaSource
set_option linter.unusedVariables false
set_option linter.unusedSimpArgs false
namespace Go.Proofs.Ytaongejpbgjbiaa
open Go.RowKit RP

theorem grown_trans {W w1 w2 : World} {gs : Nat} {row : Option Nat} (h : W.grownBy w1 (some gs)) (hg : w1.grownBy w2 row) (hr : ∀ k, row = some k → k = gs ∨ W.heap.size ≤ k) : W.grownBy w2 (some gs) :=
  ⟨hg.os.trans h.os, hg.tape.trans h.tape, hg.output.trans h.output, Nat.le_trans h.size hg.size, fun k hk hn => (hg.block k (Nat.lt_of_lt_of_le hk h.size) (fun e => by
    rcases hr k e.symm with q | q
    · exact hn (by rw [q])
    · omega)).trans (h.block k hk hn)⟩
/-- The state of the inner loop of Trips: the trip's block gt, the source's block gs. -/
structure TpSt (W wr : World) (gs gt : Nat) (A : Option Addr) (c : Nat) (l : List Int) (j : Nat) (tl td : Int) (dv av : Value) (dl al : List Int) : Prop where
  blk : wr.heap[gt]? = some (.cells #[.int .i64 tl, .int .i64 td, dv, av] 51 (0, 0))
  dep : OwnN wr (gt + 1) dv dl
  arr : OwnN wr (gt + 1) av al
  sep : ∀ q, dv.ownBlock = some q → av.ownBlock ≠ some q
  src : Src wr gs A c l j
  kept : W.grownBy wr (some gs)
  lt : gt < wr.heap.size
  gtw : gt = W.heap.size
  gts : gs < gt
section
variable {W wr wx : World} {gs gt : Nat} {A : Option Addr} {c : Nat} {l : List Int} {j : Nat} {tl td : Int} {dv av : Value} {dl al : List Int}
theorem TpSt.cells (h : TpSt W wr gs gt A c l j tl td dv av dl al) : wr.cell? ⟨gt, 0, none⟩ = some (.int .i64 tl) ∧ wr.cell? ⟨gt, 1, none⟩ = some (.int .i64 td) ∧ wr.cell? ⟨gt, 2, none⟩ = some dv ∧ wr.cell? ⟨gt, 3, none⟩ = some av ∧ wr.frozen? ⟨gt, 2, none⟩ = false ∧ wr.frozen? ⟨gt, 3, none⟩ = false :=
  ⟨by rw [cell_of_row wr _ 0 _ _ _ h.blk]; rfl, by rw [cell_of_row wr _ 1 _ _ _ h.blk]; rfl, by rw [cell_of_row wr _ 2 _ _ _ h.blk]; rfl, by rw [cell_of_row wr _ 3 _ _ _ h.blk]; rfl, by simp [World.frozen?, h.blk], by simp [World.frozen?, h.blk]⟩
theorem TpSt.next {j3 : Nat} (h : TpSt W wr gs gt A c l j tl td dv av dl al) (hs : Src wx gs A c l j3) (hg : wr.grownBy wx (some gs)) : TpSt W wx gs gt A c l j3 tl td dv av dl al :=
  ⟨(hg.block gt h.lt (fun e => by injection e with e; have := h.gts; omega)).trans h.blk, h.dep.kept hg (.inr fun e => by have := (World.ownsRow.lt h.dep _ e).1; have := h.gts; omega), h.arr.kept hg (.inr fun e => by have := (World.ownsRow.lt h.arr _ e).1; have := h.gts; omega), h.sep, hs,
    grown_trans h.kept hg (fun k e => by injection e with e; exact .inl e.symm), by have := h.lt; have := hg.size; omega, h.gtw, h.gts⟩
theorem own_kept2 {α β : Type} {enc : α → List Value} {enc' : β → List Value} {k k' : Nat} {e e' : TypeId} {w w' : World} {b b' : Nat} {v v' : Value} {x : List α} (h : Own enc k e w b v x) (hs : ∀ q, v'.ownBlock = some q → v.ownBlock ≠ some q) (hg : w.grownBy w' v'.ownBlock) : Own enc k e w' b v x :=
  h.kept hg (by
    cases hb : v.ownBlock with
    | none => exact .inl rfl
    | some q => exact .inr fun e => hs q e.symm hb)
theorem TpSt.putD {v6 : Value} {dl' : List Int} (h : TpSt W wr gs gt A c l j tl td dv av dl al) (ho : OwnN wx (gt + 1) v6 dl') (hg : wr.grownBy wx dv.ownBlock) (hat : v6.ownBlock = dv.ownBlock ∨ ∃ b, v6.ownBlock = some b ∧ wr.heap.size ≤ b) :
    wx.heap[gt]? = some (.cells #[.int .i64 tl, .int .i64 td, dv, av] 51 (0, 0)) ∧ TpSt W (wx.setCell ⟨gt, 2, none⟩ v6) gs gt A c l j tl td v6 av dl' al := by
  have hlt := h.lt
  have hgt := h.gts
  have hw := h.gtw
  have hq : ∀ q, dv.ownBlock = some q → gt + 1 ≤ q := fun q e => (World.ownsRow.lt h.dep q e).1
  have hn := (hg.block gt h.lt (fun e => by have := hq _ e.symm; omega)).trans h.blk
  have ha : OwnN wx (gt + 1) av al := h.arr.kept hg (by
    cases hb : av.ownBlock with
    | none => exact .inl rfl
    | some q => exact .inr fun e => h.sep q e.symm hb)
  refine ⟨hn, set_block' (o := 2) v6 hn, ho.setBelow (a := ⟨gt, 2, none⟩) (Nat.lt_succ_self gt) _, ha.setBelow (a := ⟨gt, 2, none⟩) (Nat.lt_succ_self gt) _, ?_,
    (h.src.grown hg (fun q e => by have := hq _ e; omega)).belowAt (B := gt) ((Below.refl gt wx).setCell (p := ⟨gt, 2, none⟩) (Nat.le_refl gt) _) (by omega),
    grown_trans (grown_trans h.kept hg (fun q e => .inr (by have := hq _ e; omega))) (set_grown wx gt 2 v6) (fun q e => by injection e with e; exact .inr (by omega)), by rw [set_size]; have := hg.size; omega, h.gtw, h.gts⟩
  intro q e e2
  rcases hat with e1 | ⟨b, e1, e3⟩
  · exact h.sep q (by rw [← e1]; exact e) e2
  · rw [e1] at e; injection e with e
    have := (World.ownsRow.lt h.arr q e2).2
    omega
theorem TpSt.putA {v6 : Value} {al' : List Int} (h : TpSt W wr gs gt A c l j tl td dv av dl al) (ho : OwnN wx (gt + 1) v6 al') (hg : wr.grownBy wx av.ownBlock) (hat : v6.ownBlock = av.ownBlock ∨ ∃ b, v6.ownBlock = some b ∧ wr.heap.size ≤ b) :
    wx.heap[gt]? = some (.cells #[.int .i64 tl, .int .i64 td, dv, av] 51 (0, 0)) ∧ TpSt W (wx.setCell ⟨gt, 3, none⟩ v6) gs gt A c l j tl td dv v6 dl al' := by
  have hlt := h.lt
  have hgt := h.gts
  have hw := h.gtw
  have hq : ∀ q, av.ownBlock = some q → gt + 1 ≤ q := fun q e => (World.ownsRow.lt h.arr q e).1
  have hn := (hg.block gt h.lt (fun e => by have := hq _ e.symm; omega)).trans h.blk
  have hd : OwnN wx (gt + 1) dv dl := h.dep.kept hg (by
    cases hb : dv.ownBlock with
    | none => exact .inl rfl
    | some q => exact .inr fun e => h.sep q hb e.symm)
  refine ⟨hn, set_block' (o := 3) v6 hn, hd.setBelow (a := ⟨gt, 3, none⟩) (Nat.lt_succ_self gt) _, ho.setBelow (a := ⟨gt, 3, none⟩) (Nat.lt_succ_self gt) _, ?_,
    (h.src.grown hg (fun q e => by have := hq _ e; omega)).belowAt (B := gt) ((Below.refl gt wx).setCell (p := ⟨gt, 3, none⟩) (Nat.le_refl gt) _) (by omega),
    grown_trans (grown_trans h.kept hg (fun q e => .inr (by have := hq _ e; omega))) (set_grown wx gt 3 v6) (fun q e => by injection e with e; exact .inr (by omega)), by rw [set_size]; have := hg.size; omega, h.gtw, h.gts⟩
  intro q e e2
  rcases hat with e1 | ⟨b, e1, e3⟩
  · exact h.sep q e (by rw [← e1]; exact e2)
  · rw [e1] at e2; injection e2 with e2
    have := (World.ownsRow.lt h.dep q e).2
    omega
end
/-- The state of the outer loop. -/
structure TrSt (w wr : World) (gs : Nat) (A : Option Addr) (c : Nat) (l : List Int) (j : Nat) (ov : Value) (out : List TripM) : Prop where
  own : OwnT wr (gs + 1) ov out
  each : ∀ t ∈ out, TOk wr (gs + 1) t
  src : Src wr gs A c l j
  bel : Below gs w wr
section
variable {w wr wx : World} {gs : Nat} {A : Option Addr} {c : Nat} {l : List Int} {j j3 : Nat} {ov : Value} {out : List TripM}
theorem TrSt.grown (h : TrSt w wr gs A c l j ov out) (hs : Src wx gs A c l j3) (hg : wr.grownBy wx (some gs)) : TrSt w wx gs A c l j3 ov out :=
  ⟨h.own.kept hg (.inr fun e => by have := (World.ownsRow.lt h.own _ e).1; omega), fun t ht => ⟨(h.each t ht).dep.kept hg (.inr fun e => by have := (World.ownsRow.lt (h.each t ht).dep _ e).1; omega), (h.each t ht).arr.kept hg (.inr fun e => by have := (World.ownsRow.lt (h.each t ht).arr _ e).1; omega)⟩, hs,
    h.bel.grown hg (Nat.le_of_lt h.src.lt) (fun q e => by injection e with e; omega)⟩
theorem TrSt.push {v6 : Value} {t : TripM} (h : TrSt w wr gs A c l j ov out) (ht : TOk wr (gs + 1) t) (ho : OwnT wx (gs + 1) v6 (out ++ [t])) (hg : wr.grownBy wx ov.ownBlock) : TrSt w wx gs A c l j v6 (out ++ [t]) :=
  ⟨ho, fun u hu => by
    rcases List.mem_append.1 hu with hu | hu
    · exact (h.each u hu).kept h.own hg
    · rw [List.mem_singleton.1 hu]; exact ht.kept h.own hg, h.src.grown hg (fun q e => by have := (World.ownsRow.lt h.own _ e).1; omega), h.bel.grown hg (Nat.le_of_lt h.src.lt) (fun q e => by have := (World.ownsRow.lt h.own _ e).1; omega)⟩
end
def TrpsPost (w : World) (e : Ending) (w' : World) : Prop := ∃ A c L, e = .returned (.slice A (List.length L) c) ∧ Trs w' A L ∧ L.length ≤ 5 ∧ Below w.heap.size w w'
theorem TrSt.trs {w wr : World} {gs : Nat} {A : Option Addr} {c : Nat} {l : List Int} {j : Nat} {B : Option Addr} {n cc : Nat} {out : List TripM} (h : TrSt w wr gs A c l j (.slice B n cc) out) : Trs wr B out := by
  refine ⟨Own.lst encT_len h.own, fun t ht => ?_, by have := h.own.maxLen; unfold maxLen at this; omega⟩
  obtain ⟨hd, ha⟩ := h.each t ht
  obtain ⟨A1, c1, e1⟩ := hd.form
  obtain ⟨A2, c2, e2⟩ := ha.form
  have m1 := hd.maxLen
  have m2 := ha.maxLen
  unfold maxLen at m1 m2
  unfold Sv.v at hd ha e1 e2
  injection e1 with x1 x2 x3
  injection e2 with y1 y2 y3
  exact ⟨x2, y2, Own.lst encI_len hd, Own.lst encI_len ha, by omega, by omega⟩

set_option maxRecDepth 100000 in
set_option maxHeartbeats 8000000 in
theorem trips_any (A : Option Addr) (c : Nat) (l : List Int) (w : World) (h : ArgI w A c l) : Calls Try.prog 28 #[.slice A l.length c] w (TrpsPost w) := by
  go_enter Try.func28, Try.ntmps28
  go_wp2_with fail
  refine (from_any A c l w h).mono ?_
  rintro e w1 ⟨rfl, hs1, hb1⟩
  generalize hgs : w.heap.size = gs at *
  have HGS := Lib.hid hgs
  have hst : TrSt w w1 gs A c l 0 (.slice none 0 0) [] := ⟨Own.nil _ _ _ _ _, by simp, hs1, hb1⟩
  clear hs1 hb1 hgs
  go_wp2_with fail
  refine (next_any gs A c l 0 6 w1 hst.src (by omega) (by omega)).mono ?_
  rintro e w2 ⟨k0, j2, hk0, hk1, rfl, hs2, hg2⟩
  have hst2 := hst.grown hs2 hg2
  clear hst hs2 hg2
  obtain ⟨K, rfl⟩ := Int.eq_ofNat_of_zero_le hk0
  go_wp2_with fail
  go_loopg [4, 5, 6, 7, 8, 9] K (fun g s4 s5 s6 s7 s8 s9 wr => ∃ (k j : Nat) (at_ : Int) (out : List TripM), g = k ∧ k ≤ 5 ∧ s6 = .int .i64 k ∧ s5 = .int .i64 at_ ∧ 0 ≤ at_ ∧ at_ + 9 * (k : Int) ≤ 100 ∧ out.length + k ≤ 5 ∧ TrSt w wr gs A c l j s4 out)
  case atStart => exact ⟨K, j2, 0, [], rfl, by omega, rfl, rfl, by omega, by omega, by simp; omega, hst2⟩
  case round =>
    obtain ⟨k, j, at_, out, hgk, hk, rfl, rfl, ha0, ha1, hlen, hst⟩ := hrel
    obtain rfl := hgk.symm
    rcases Nat.eq_zero_or_pos k with hz | hz
    · subst hz
      obtain ⟨B, cc, rfl⟩ := hst.own.form
      have HST := Lib.hid hst
      clear hst hst2
      go_wp2_with fail
      go_ret
      exact ⟨B, cc, out, rfl, HST.out.trs, by omega, by rw [HGS.out]; exact HST.out.bel⟩
    · obtain ⟨k, rfl⟩ : ∃ k', k = k' + 1 := ⟨k - 1, by omega⟩
      go_wp2_with fail
      refine (next_any gs A c l j 9 wr hst.src (by omega) (by omega)).mono ?_
      rintro e w3 ⟨x3, j3, x30, x31, rfl, hs3, hg3⟩
      have hst3 := hst.grown hs3 hg3
      clear hst hs3 hg3 hst2
      go_wp2_with fail
      refine (next_any gs A c l j3 3 w3 hst3.src (by omega) (by omega)).mono ?_
      rintro e w4 ⟨tl, j4, x40, x41, rfl, hs4, hg4⟩
      have hst4 := hst3.grown hs4 hg4
      clear hst3 hs4 hg4
      go_wp2_with fail
      refine (next_any gs A c l j4 2 w4 hst4.src (by omega) (by omega)).mono ?_
      rintro e w5 ⟨td, j5, x50, x51, rfl, hs5, hg5⟩
      have hst5 := hst4.grown hs5 hg5
      clear hst4 hs5 hg5
      have ba := belA w5 (.cells #[.int .i64 tl, .int .i64 td, .slice none 0 0, .slice none 0 0] 51)
      have htp : TpSt w5 (w5.alloc (.cells #[.int .i64 tl, .int .i64 td, .slice none 0 0, .slice none 0 0] 51)) gs w5.heap.size A c l j5 tl td (.slice none 0 0) (.slice none 0 0) [] [] :=
        ⟨heap_alloc_new w5 _, Own.nil _ _ _ _ _, Own.nil _ _ _ _ _, (fun _ e => by cases e), hst5.src.below ba, grownBy_of_below ba _, by simp, rfl, hst5.src.lt⟩
      have HST5 := Lib.hid hst5
      clear ba hst5
      go_wp2_with fail
      generalize w5.alloc (.cells #[.int .i64 tl, .int .i64 td, .slice none 0 0, .slice none 0 0] 51) = w6 at *
      generalize hgt : w5.heap.size = gt at *
      clear hgt
      refine (next_any gs A c l j5 2 w6 htp.src (by omega) (by omega)).mono ?_
      rintro e w7 ⟨r0, j7, r00, r01, rfl, hs7, hg7⟩
      have htp7 := htp.next hs7 hg7
      clear htp hs7 hg7
      obtain ⟨R, hR⟩ : ∃ R : Nat, (R : Int) = 1 + r0 := ⟨(1 + r0).toNat, by omega⟩
      go_wp2_with fail
      rw [← hR]
      have hR2 : R ≤ 2 := by omega
      clear hR
      obtain ⟨W5, rfl⟩ : ∃ W : World, W = w5 := ⟨_, rfl⟩
      go_loopg [8, 9] R (fun g s8 s9 wr => ∃ (r j : Nat) (x : Int) (dv av : Value) (dl al : List Int), g = r ∧ r ≤ 2 ∧ s9 = .int .i64 r ∧ s8 = .int .i64 x ∧ 0 ≤ x ∧ x + 3 * (r : Int) ≤ 200 ∧ dl.length + r ≤ 2 ∧ al.length + r ≤ 2 ∧ TpSt W5 wr gs gt A c l j tl td dv av dl al)
      case atStart => exact ⟨R, j7, _, _, _, [], [], rfl, by omega, rfl, rfl, by omega, by omega, by simp; omega, by simp; omega, htp7⟩
      case round =>
        obtain ⟨r, j8, x, dv, av, dl, al, hgr, hr, rfl, rfl, hx0, hx1, hdl, hal, htp⟩ := hrel
        obtain rfl := hgr.symm
        clear htp7
        rcases Nat.eq_zero_or_pos r with hz2 | hz2
        · subst hz2
          obtain ⟨c0, c1, c2, c3, f2, f3⟩ := htp.cells
          obtain ⟨dS, rfl, hdS⟩ := own_sv htp.dep
          obtain ⟨aS, rfl, haS⟩ := own_sv htp.arr
          have hst9 := HST5.out.grown htp.src htp.kept
          have hsz := hst9.src.lt
          have hgts := htp.gts
          have HTK := Lib.hid (TOk.mk (t := ⟨tl, td, dl, al, dS, aS⟩) (htp.dep.rebase (show gs + 1 ≤ gt + 1 by omega)) (htp.arr.rebase (show gs + 1 ≤ gt + 1 by omega)))
          obtain ⟨da, dn, dc⟩ := dS
          obtain ⟨aa, an, ac⟩ := aS
          have c2' : _root_.Go.World.cell? _ ⟨gt, 2, none⟩ = some (.slice da dn dc) := c2
          have c3' : _root_.Go.World.cell? _ ⟨gt, 3, none⟩ = some (.slice aa an ac) := c3
          have HST := Lib.hid hst9
          clear c2 c3 hst9 htp hdS haS
          go_wp2_with (at_builtin; refine Stp.put ?_)
          refine Stp.out ?_
          refine wpList_append_rec rfl _ _ 47 rfl (gs + 1) 51 64 Try.underlying47 elemT _ out rfl HST.out.own [⟨tl, td, dl, al, ⟨da, dn, dc⟩, ⟨aa, an, ac⟩⟩] _ rfl 1 1 rfl rfl (by simp only [Go.maxLen, List.length_cons, List.length_nil]; omega) (by simp only [List.length_cons, List.length_nil]; omega) (by omega) ?_
          intro v6 w9 ho6 hg6 hat6
          have HN := Lib.hid (HST.out.push HTK.out ho6 hg6)
          clear ho6 hg6 hat6 HST HTK
          go_wp2_with fail
          go_roundg k
          case measure => omega
          case rel => exact ⟨k, j8, _, _, rfl, by omega, by go_num, rfl, by omega, by omega, by simp; omega, HN.out⟩
        · obtain ⟨r, rfl⟩ : ∃ r', r = r' + 1 := ⟨r - 1, by omega⟩
          have hd3 : dl.length ≤ 2 := by omega
          have ha3 : al.length ≤ 2 := by omega
          obtain ⟨c0, c1, c2, c3, f2, f3⟩ := htp.cells
          obtain ⟨Av, cv, rfl⟩ := htp.dep.form
          have HS := Lib.hid htp
          have hzz := htp.lt
          clear htp
          go_wp2_with (at_builtin; refine Stp.put ?_)
          refine Stp.out ?_
          refine wpList_append_rec rfl _ _ 29 rfl (gt + 1) 3 8 Try.underlying29 elemN _ dl rfl HS.out.dep [x] _ rfl 1 1 rfl rfl (by simp only [Go.maxLen, List.length_cons, List.length_nil]; omega) (by simp only [List.length_cons, List.length_nil]; omega) (by omega) ?_
          intro v6 w6 ho6 hg6 hat6
          obtain ⟨hn6, hst6⟩ := HS.out.putD ho6 hg6 (hat6.imp id fun e => ⟨_, e, by omega⟩)
          obtain ⟨A6, c6, rfl⟩ := ho6.form
          generalize hL : dl ++ [x] = nl at *
          have HL := Lib.hid hL
          have t2 : w6.cell? ⟨gt, 2, none⟩ = some (.slice Av (dl).length cv) := by rw [cell_of_row w6 _ 2 _ _ _ hn6]; rfl
          have tf : w6.frozen? ⟨gt, 2, none⟩ = false := by simp [World.frozen?, hn6]
          have HS6 := Lib.hid hst6
          clear hL hst6 hn6 ho6 hg6 hat6 c0 c1 c2 c3 f2 f3 HS
          go_upto_region 14 with fail
          generalize w6.setCell ⟨gt, 2, none⟩ (.slice A6 nl.length c6) = w10 at *
          clear t2 tf
          have htp2 := HS6.out
          go_wp2_with fail
          refine (next_any gs A c l j8 3 w10 htp2.src (by omega) (by omega)).mono ?_
          rintro e w11 ⟨y, j11, y0, y1, rfl, hs11, hg11⟩
          have htp3 := htp2.next hs11 hg11
          have HDL := HL
          clear htp2 hs11 hg11 HS6 HL
          obtain ⟨c0, c1, c2, c3, f2, f3⟩ := htp3.cells
          obtain ⟨Av, cv, rfl⟩ := htp3.arr.form
          have HS := Lib.hid htp3
          have hzz := htp3.lt
          clear htp3
          go_wp2_with (at_builtin; refine Stp.put ?_)
          refine Stp.out ?_
          refine wpList_append_rec rfl _ _ 29 rfl (gt + 1) 3 8 Try.underlying29 elemN _ al rfl HS.out.arr [x + (1 + y)] _ rfl 1 1 rfl rfl (by simp only [Go.maxLen, List.length_cons, List.length_nil]; omega) (by simp only [List.length_cons, List.length_nil]; omega) (by omega) ?_
          intro v6 w6 ho6 hg6 hat6
          obtain ⟨hn6, hst6⟩ := HS.out.putA ho6 hg6 (hat6.imp id fun e => ⟨_, e, by omega⟩)
          obtain ⟨A6, c6, rfl⟩ := ho6.form
          generalize hL : al ++ [x + (1 + y)] = nl at *
          have HL := Lib.hid hL
          have t2 : w6.cell? ⟨gt, 3, none⟩ = some (.slice Av (al).length cv) := by rw [cell_of_row w6 _ 3 _ _ _ hn6]; rfl
          have tf : w6.frozen? ⟨gt, 3, none⟩ = false := by simp [World.frozen?, hn6]
          have HS6 := Lib.hid hst6
          clear hL hst6 hn6 ho6 hg6 hat6 c0 c1 c2 c3 f2 f3 HS
          go_wp2_with fail
          go_roundg r
          case measure => omega
          case rel => exact ⟨r, j11, _, _, _, _, _, rfl, by omega, by go_num, rfl, by omega, by omega, by rw [← HDL.out]; simp; omega, by rw [← HL.out]; simp; omega, HS6.out⟩
end Go.Proofs.Ytaongejpbgjbiaa
