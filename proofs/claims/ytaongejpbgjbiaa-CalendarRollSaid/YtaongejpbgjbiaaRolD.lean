/-
  Contract of the reference's trip (chapter 24).
-/
import Derived.Test.YtaongejpbgjbiaaRolB
import Derived.Test.YtaongejpbgjbiaaCalY
set_option linter.unusedVariables false
set_option linter.unusedSimpArgs false
namespace RP
section
variable {T m : Nat} {ts : List Int} {ev : List (Int × Int × Int)} {l : List Acy} {line : Int} {R : Nat} {P Q : Nat → Nat} {D W : Nat → Int} (h : PatOk T ts ev l line R P Q D W) (hg : goodB T m l ts = true)
include h hg
theorem PatOk.depB (k : Nat) (hk : k < R) : -100000000 ≤ depO D W k ∧ depO D W k ≤ 100000000 := by
  have h2 := h.le
  have ha := h.nB hg k (by omega)
  unfold depO
  cases k with
  | zero => simp [nowB]
  | succ j =>
    have := h.dB hg j (by omega)
    rw [if_neg (by omega)]
    omega
theorem PatOk.nowBd (k : Nat) (hk : k ≤ R) : -100000000 ≤ nowB D W k ∧ nowB D W k ≤ 100000000 := by
  have h2 := h.le
  have ha := h.nB hg k hk
  omega
end
end RP
namespace Go.Proofs.Ytaongejpbgjbiaa
open Go.RowKit RP

/-- The state of the reference's trip: the trip's block gt, laid before W1. -/
structure RtSt (W1 wr : World) (gt : Nat) (line day : Int) (dv av : Value) (dl al : List Int) : Prop where
  blk : wr.heap[gt]? = some (.cells #[.int .i64 line, .int .i64 day, dv, av] 51 (0, 0))
  dep : OwnN wr W1.heap.size dv dl
  arr : OwnN wr W1.heap.size av al
  sep : ∀ q, dv.ownBlock = some q → av.ownBlock ≠ some q
  kept : W1.grownBy wr (some gt)
  ltw : gt < W1.heap.size
section
variable {W1 wr wx : World} {gt : Nat} {line day : Int} {dv av : Value} {dl al : List Int}
theorem RtSt.cells (h : RtSt W1 wr gt line day dv av dl al) : wr.cell? ⟨gt, 0, none⟩ = some (.int .i64 line) ∧ wr.cell? ⟨gt, 1, none⟩ = some (.int .i64 day) ∧ wr.cell? ⟨gt, 2, none⟩ = some dv ∧ wr.cell? ⟨gt, 3, none⟩ = some av ∧ wr.frozen? ⟨gt, 2, none⟩ = false ∧ wr.frozen? ⟨gt, 3, none⟩ = false :=
  ⟨by rw [cell_of_row wr _ 0 _ _ _ h.blk]; rfl, by rw [cell_of_row wr _ 1 _ _ _ h.blk]; rfl, by rw [cell_of_row wr _ 2 _ _ _ h.blk]; rfl, by rw [cell_of_row wr _ 3 _ _ _ h.blk]; rfl, by simp [World.frozen?, h.blk], by simp [World.frozen?, h.blk]⟩
theorem grownT {W w1 w2 : World} {gs : Nat} {row : Option Nat} (h : W.grownBy w1 (some gs)) (hg : w1.grownBy w2 row) (hr : ∀ k, row = some k → k = gs ∨ W.heap.size ≤ k) : W.grownBy w2 (some gs) :=
  ⟨hg.os.trans h.os, hg.tape.trans h.tape, hg.output.trans h.output, Nat.le_trans h.size hg.size, fun k hk hn => (hg.block k (Nat.lt_of_lt_of_le hk h.size) (fun e => by
    rcases hr k e.symm with q | q
    · exact hn (by rw [q])
    · omega)).trans (h.block k hk hn)⟩
theorem RtSt.below (h : RtSt W1 wr gt line day dv av dl al) (hb : Below wr.heap.size wr wx) : RtSt W1 wx gt line day dv av dl al :=
  ⟨(hb.block gt (by have := h.ltw; have := h.kept.size; omega)).trans h.blk, h.dep.below' hb, h.arr.below' hb, h.sep, grownT h.kept (grownBy_of_below hb none) (fun k e => by cases e), h.ltw⟩
theorem RtSt.putD {v6 : Value} {dl' : List Int} (h : RtSt W1 wr gt line day dv av dl al) (ho : OwnN wx W1.heap.size v6 dl') (hg : wr.grownBy wx dv.ownBlock) (hat : v6.ownBlock = dv.ownBlock ∨ ∃ b, v6.ownBlock = some b ∧ wr.heap.size ≤ b) :
    wx.heap[gt]? = some (.cells #[.int .i64 line, .int .i64 day, dv, av] 51 (0, 0)) ∧ RtSt W1 (wx.setCell ⟨gt, 2, none⟩ v6) gt line day v6 av dl' al := by
  have hlt := h.ltw
  have hks := h.kept.size
  have hq : ∀ q, dv.ownBlock = some q → W1.heap.size ≤ q := fun q e => (World.ownsRow.lt h.dep q e).1
  have hn := (hg.block gt (by omega) (fun e => by have := hq _ e.symm; omega)).trans h.blk
  have ha : OwnN wx W1.heap.size av al := h.arr.kept hg (by
    cases hb : av.ownBlock with
    | none => exact .inl rfl
    | some q => exact .inr fun e => h.sep q e.symm hb)
  refine ⟨hn, set_block' (o := 2) v6 hn, ho.setBelow (a := ⟨gt, 2, none⟩) hlt _, ha.setBelow (a := ⟨gt, 2, none⟩) hlt _, ?_,
    grownT (grownT h.kept hg (fun q e => .inr (hq _ e))) (set_grown wx gt 2 v6) (fun q e => by injection e with e; exact .inl e.symm), h.ltw⟩
  intro q e e2
  rcases hat with e1 | ⟨b, e1, e3⟩
  · exact h.sep q (by rw [← e1]; exact e) e2
  · rw [e1] at e; injection e with e
    have := (World.ownsRow.lt h.arr q e2).2
    omega
theorem RtSt.putA {v6 : Value} {al' : List Int} (h : RtSt W1 wr gt line day dv av dl al) (ho : OwnN wx W1.heap.size v6 al') (hg : wr.grownBy wx av.ownBlock) (hat : v6.ownBlock = av.ownBlock ∨ ∃ b, v6.ownBlock = some b ∧ wr.heap.size ≤ b) :
    wx.heap[gt]? = some (.cells #[.int .i64 line, .int .i64 day, dv, av] 51 (0, 0)) ∧ RtSt W1 (wx.setCell ⟨gt, 3, none⟩ v6) gt line day dv v6 dl al' := by
  have hlt := h.ltw
  have hks := h.kept.size
  have hq : ∀ q, av.ownBlock = some q → W1.heap.size ≤ q := fun q e => (World.ownsRow.lt h.arr q e).1
  have hn := (hg.block gt (by omega) (fun e => by have := hq _ e.symm; omega)).trans h.blk
  have hd : OwnN wx W1.heap.size dv dl := h.dep.kept hg (by
    cases hb : dv.ownBlock with
    | none => exact .inl rfl
    | some q => exact .inr fun e => h.sep q hb e.symm)
  refine ⟨hn, set_block' (o := 3) v6 hn, hd.setBelow (a := ⟨gt, 3, none⟩) hlt _, ho.setBelow (a := ⟨gt, 3, none⟩) hlt _, ?_,
    grownT (grownT h.kept hg (fun q e => .inr (hq _ e))) (set_grown wx gt 3 v6) (fun q e => by injection e with e; exact .inl e.symm), h.ltw⟩
  intro q e e2
  rcases hat with e1 | ⟨b, e1, e3⟩
  · exact h.sep q e (by rw [← e1]; exact e2)
  · rw [e1] at e2; injection e2 with e2
    have := (World.ownsRow.lt h.dep q e).2
    omega
end
/-- The second at which the activity at place k begins, and the lists so far. -/
def atK (D W : Nat → Int) (start : Int) (k : Nat) : Int := start + (if k % 2 = 0 then depO D W (k / 2) else nowB D W (k / 2 + 1))
def depK (D W : Nat → Int) (start : Int) (k : Nat) : List Int := (depL D W ((k + 1) / 2)).map (start + ·)
def arrK (D W : Nat → Int) (start : Int) (k : Nat) : List Int := (arrL D W ((k + 1) / 2)).map (start + ·)

set_option maxRecDepth 100000 in
set_option maxHeartbeats 8000000 in
theorem refTrip_any (T : Nat) (E : Option Addr) (cE : Nat) (A : Option Addr) (cA : Nat) (ev : List Evt) (l : List Acy) (B' : Option Addr) (cB : Nat) (line start : Int) (ts : List Int) (R : Nat) (P Q : Nat → Nat) (D W : Nat → Int) (w : World) (he : Lst encE 3 w w.heap.size E ev) (hl : Lst encA 6 w w.heap.size A l) (ht : Lst encI 1 w w.heap.size B' ts) (hP : PatOk T ts ev l line R P Q D W) (hg : goodB T ev.length l ts = true) (s0 : 0 ≤ start) (s1 : start ≤ 2764800) :
    Calls Try.prog 46 #[netV T E ev.length cE A l.length cA, .slice B' ts.length cB, .int .i64 line, .int .i64 start] w (TripSv w line (start / 86400) ((depL D W R).map (start + ·)) ((arrL D W R).map (start + ·))) := by
  have hR1 := hP.pos
  have hR2 := hP.le
  have hnb := (netB_iff.1 (goodB_iff.1 hg).1).1
  have hev : ev.length ≤ 48 := hnb.2.2.1
  have hll : l.length ≤ 512 := hnb.2.2.2
  have HG := Lib.hid hg
  have HP := Lib.hid hP
  have HDP := Lib.hid (hP.depB hg)
  have HNP := Lib.hid (hP.nowBd hg)
  have ba := belA w (.cells #[.int .i64 T, .slice E ev.length cE, .slice A l.length cA] 43)
  have hn := heap_alloc_new w (.cells #[.int .i64 T, .slice E ev.length cE, .slice A l.length cA] 43)
  have z0 : (w.alloc (.cells #[.int .i64 T, .slice E ev.length cE, .slice A l.length cA] 43)).heap.size = w.heap.size + 1 := by simp
  generalize hw1 : w.alloc (.cells #[.int .i64 T, .slice E ev.length cE, .slice A l.length cA] 43) = w1 at *
  have bb := belA w1 (.cells #[.int .i64 0, .int .i64 0, .slice none 0 0, .slice none 0 0] 51)
  have hm := heap_alloc_new w1 (.cells #[.int .i64 0, .int .i64 0, .slice none 0 0, .slice none 0 0] 51)
  have z1 : (w1.alloc (.cells #[.int .i64 0, .int .i64 0, .slice none 0 0, .slice none 0 0] 51)).heap.size = w.heap.size + 2 := by rw [World.size_alloc, z0]
  generalize hw2 : w1.alloc (.cells #[.int .i64 0, .int .i64 0, .slice none 0 0, .slice none 0 0] 51) = w2 at *
  have bc := belA w2 (.cells #[.int .i64 line, .int .i64 (start / 86400), .slice none 0 0, .slice none 0 0] 51)
  have hk := heap_alloc_new w2 (.cells #[.int .i64 line, .int .i64 (start / 86400), .slice none 0 0, .slice none 0 0] 51)
  have z2 : (w2.alloc (.cells #[.int .i64 line, .int .i64 (start / 86400), .slice none 0 0, .slice none 0 0] 51)).heap.size = w.heap.size + 3 := by rw [World.size_alloc, z1]
  generalize hw3 : w2.alloc (.cells #[.int .i64 line, .int .i64 (start / 86400), .slice none 0 0, .slice none 0 0] 51) = w3 at *
  rw [z0] at hm
  rw [z1] at hk
  have hB := ba.trans ((bb.trans (bc.mono (by omega))).mono (by omega))
  have HB := Lib.hid hB
  have HE := Lib.hid (he.below hB)
  have HL := Lib.hid (hl.below hB)
  have HT := Lib.hid (ht.below hB)
  have HN := Lib.hid (BxN.mk ((bc.block w.heap.size (by omega)).trans ((bb.block w.heap.size (by omega)).trans hn)))
  have HM := Lib.hid ((bc.block (w.heap.size + 1) (by omega)).trans hm)
  have HK := Lib.hid hk
  have H1 := Lib.hid hw1
  have H2 := Lib.hid hw2
  have H3 := Lib.hid hw3
  have Z3 := Lib.hid z2
  have zz : w.heap.size + 2 < w3.heap.size := by omega
  clear he hl ht hg hP hnb ba hn z0 bb hm z1 bc hk z2 hB hw1 hw2 hw3
  go_enter Try.func46, Try.ntmps46
  go_upto_region 2 with fail
  rw [H1.out, H2.out, H3.out]
  clear H1 H2 H3
  have z3 := Z3.out
  generalize hgz : w.heap.size = gz at *
  have HGZ := Lib.hid hgz
  obtain ⟨n0, n1, n2, ng⟩ := HN.out.cells
  have hpt := refPat_any T E cE A cA ev l line ts R P Q D W w3 (HE.out.more (by omega)) (HL.out.more (by omega)) HP.out hev hll
  clear hgz
  go_wp2_with fail
  refine hpt.mono ?_
  rintro e W1 ⟨lv, rfl, ho, hb1⟩
  have hpl := patL_len l P Q R
  obtain ⟨LA, lc, rfl⟩ := ho.form
  generalize hNN : 2 * R - 1 = NN at *
  have HNN := Lib.hid hNN
  rw [hpl] at ho
  have zW := hb1.size
  have HO := Lib.hid ho
  have HB1 := Lib.hid hb1
  have HPL := Lib.hid hpl
  have hst : RtSt W1 W1 (gz + 2) line (start / 86400) (.slice none 0 0) (.slice none 0 0) (depK D W start 0) (arrK D W start 0) :=
    ⟨(hb1.block (gz + 2) (by omega)).trans HK.out, Own.nil _ _ _ _ _, Own.nil _ _ _ _ _, (fun _ e => by cases e), grownBy_refl _ _, by omega⟩
  have HST := Lib.hid hst
  rw [hpl]
  clear hpt ho hb1 hpl hst n0 n1 n2 hNN
  go_wp2_with fail
  go_loopg [12, 13, 27] (NN) (fun g s12 s13 s27 wr => ∃ (k : Nat) (at_ : Int) (dv av : Value), k ≤ NN ∧ g = NN - k ∧ s27 = .int .i64 k ∧ s12 = .int .i64 at_ ∧ (k < NN → at_ = atK D W start k) ∧ RtSt W1 wr (gz + 2) line (start / 86400) dv av (depK D W start k) (arrK D W start k))
  case atStart => exact ⟨0, start, _, _, by omega, by omega, rfl, rfl, fun _ => by simp [atK, depO, nowB], HST.out⟩
  case round =>
    obtain ⟨k, at_, dv, av, hk, hg, rfl, rfl, hat, hst⟩ := hrel
    by_cases hlt : k < NN
    · have ht := hat hlt
      obtain ⟨c0, c1, c2, c3, f2, f3⟩ := hst.cells
      have hks := hst.kept.size
      have i0 : (0 : Int) ≤ (k : Int) := by omega
      have i1 : (k : Int) < (NN : Int) := by omega
      have i2 : (k : Int) ≤ 100 := by have := HNN.out; omega
      have hkl : k < (patL l P Q R).length := by rw [HPL.out]; exact hlt
      have hdl : (depK D W start k).length ≤ 48 := by unfold depK; rw [List.length_map, depL_len]; have := HNN.out; omega
      have hal : (arrK D W start k).length ≤ 48 := by unfold arrK; rw [List.length_map, arrL_len]; have := HNN.out; omega
      clear hat
      rcases (show (∃ r, k = 2 * r) ∨ ∃ r, k = 2 * r + 1 by rcases Nat.mod_two_eq_zero_or_one k with e | e; exact .inl ⟨k / 2, by omega⟩; exact .inr ⟨k / 2, by omega⟩) with ⟨r, hkr⟩ | ⟨r, hkr⟩
      · have hrR : r < R := by have := HNN.out; omega
        obtain ⟨kk, e1, a, ha, hdur⟩ := HP.out.even (Nat.le_refl R) r hrR
        have hx : (patL l P Q R)[k] = (kk : Int) := by rw [← hkr, List.getElem?_eq_getElem hkl] at e1; injection e1
        have hat2 : at_ = start + depO D W r := by rw [ht]; unfold atK; rw [if_pos (by omega), show k / 2 = r by omega]
        have HNX := Lib.hid (show atK D W start (k + 1) = at_ + W r by unfold atK; rw [if_neg (by omega), show (k + 1) / 2 = r by omega, hat2]; show start + (depO D W r + W r) = _; omega)
        have HDK := Lib.hid (show depK D W start (k + 1) = depK D W start k ++ [at_] by unfold depK; rw [show (k + 1 + 1) / 2 = r + 1 by omega, show (k + 1) / 2 = r by omega, hat2, ← depL_succ, List.map_append]; rfl)
        have HAK := Lib.hid (show arrK D W start (k + 1) = arrK D W start k ++ [at_ + W r] by unfold arrK; rw [show (k + 1 + 1) / 2 = r + 1 by omega, show (k + 1) / 2 = r by omega, hat2, ← arrL_succ, List.map_append]; show _ ++ [start + (depO D W r + W r)] = _; rw [Int.add_assoc])
        have b1 := HDP.out r hrR
        have b2 := HNP.out (r + 1) (by omega)
        have b3 : nowB D W (r + 1) = depO D W r + W r := rfl
        have g1 : ((k : Int) % 2 == 0) = true := by simp; omega
        have ba1 : -100000000 ≤ at_ := by omega
        have ba2 : at_ ≤ 200000000 := by omega
        have bn1 : -100000000 ≤ at_ + W r := by omega
        have bn2 : at_ + W r ≤ 200000000 := by omega
        have HDU := Lib.hid hdur
        have HKK := Lib.hid ha
        generalize W r = dur at *
        generalize depK D W start k = dl at *
        generalize arrK D W start k = al at *
        have HX := Lib.hid hx
        have HKR := Lib.hid hkr
        obtain ⟨A1, q1, rfl⟩ := hst.dep.form
        have HS := Lib.hid hst
        clear hst ht b1 b2 b3 hat2 hdur ha e1 hx hkr
        go_wp2_with (at_builtin; refine Stp.put ?_)
        refine Stp.out ?_
        refine wpList_append_rec rfl _ _ 29 rfl W1.heap.size 3 8 Try.underlying29 elemN _ dl rfl HS.out.dep [at_] _ rfl 1 1 rfl rfl (by simp only [Go.maxLen, List.length_cons, List.length_nil]; omega) (by simp only [List.length_cons, List.length_nil]; omega) hks ?_
        intro v6 w6 ho6 hg6 hat6
        obtain ⟨hn6, hst6⟩ := HS.out.putD ho6 hg6 (hat6.imp id fun e => ⟨_, e, by omega⟩)
        have t2 : w6.cell? ⟨gz + 2, 2, none⟩ = some (.slice A1 dl.length q1) := by rw [cell_of_row w6 _ 2 _ _ _ hn6]; rfl
        have tf : w6.frozen? ⟨gz + 2, 2, none⟩ = false := by simp [World.frozen?, hn6]
        obtain ⟨A6, c6, rfl⟩ := ho6.form
        generalize hdl' : dl ++ [at_] = dl' at *
        have HDL := Lib.hid hdl'
        have HS6 := Lib.hid hst6
        clear hst6 hn6 ho6 hg6 hat6 c0 c1 c2 c3 f2 f3 HS hdl'
        go_upto_region 9 with fail
        generalize w6.setCell ⟨gz + 2, 2, none⟩ (.slice A6 dl'.length c6) = w7 at *
        clear t2 tf
        have hkv := HS6.out.kept.size
        have hbx := below_of_grownBy HS6.out.kept (B := gz) (by omega) (fun q e => by injection e with e; omega)
        have hwv := (HB1.out.mono (show gz ≤ w3.heap.size by omega)).trans hbx
        have hbn := BxN.mk ((HS6.out.kept.block gz (by omega) (fun e => by injection e; omega)).trans ((HB1.out.block gz (by omega)).trans HN.out.blk))
        have hol : OwnN w7 w3.heap.size (.slice LA NN lc) (patL l P Q R) := HO.out.kept HS6.out.kept (.inr fun e => by have := (World.ownsRow.lt HO.out _ e).1; omega)
        obtain ⟨lb, lo, rfl, zlb, x0⟩ := (Own.lst encI_len hol).it k hkl
        rw [HX.out] at x0
        obtain ⟨n0, n1, n2, ng⟩ := hbn.cells
        have hdn := fun V (b : Below (w7).heap.size w7 V) => refDurN_any T ev.length E cE A cA l B' cB ts kk a V ((HL.out.below (hwv.trans (b.mono (by omega)))).more (by have := b.size; omega)) ((HT.out.below (hwv.trans (b.mono (by omega)))).more (by have := b.size; omega)) HG.out HKK.out
        rw [HDU.out] at hdn
        have HDN := Lib.hid hdn
        have sw : IntKind.i64.wrap (at_ + dur) = at_ + dur := IntWalk.i64_in _ (by omega)
        have hB0 : Below (w7).heap.size w7 (w7).drew := (Below.refl _ _).drew
        clear hbx hwv hbn hol hdn
        go_cut [12] (fun s12 wx => s12 = .int .i64 (at_ + dur) ∧ Below (w7).heap.size w7 wx)
        case first =>
          go_region_held3 (fun w' => w'.cell? ⟨gz, 0, none⟩ = some (.int .i64 T) ∧ w'.cell? ⟨gz, 1, none⟩ = some (.slice E ev.length cE) ∧ w'.cell? ⟨gz, 2, none⟩ = some (.slice A l.length cA) ∧ w'.cell? ⟨lb, lo + k, none⟩ = some (.int .i64 kk))
            (exact ⟨(hB0.cell (p := ⟨gz, 0, none⟩) ng).trans n0, (hB0.cell (p := ⟨gz, 1, none⟩) ng).trans n1, (hB0.cell (p := ⟨gz, 2, none⟩) ng).trans n2, (hB0.cell (p := ⟨lb, lo + k, none⟩) zlb).trans x0⟩)
            ((go_at_call 56; (with_reducible refine (HDN.out _ hB0).mono ?_); rintro e w' ⟨rfl, hb'⟩; replace hB0 := hB0.trans (hb'.mono hB0.size)))
          all_goals
            go_wp2_with fail
            go_meet
            exact ⟨rfl, hB0⟩
        case rest =>
          obtain ⟨rfl, hbc⟩ := hcut
          have hst8 := HS6.out.below hbc
          obtain ⟨c0, c1, c2, c3, f2, f3⟩ := hst8.cells
          obtain ⟨A8, q8, rfl⟩ := hst8.arr.form
          have HS8 := Lib.hid hst8
          have hks8 := hst8.kept.size
          clear hst8 hbc HS6
          go_wp2_with (at_builtin; refine Stp.put ?_)
          refine Stp.out ?_
          refine wpList_append_rec rfl _ _ 29 rfl W1.heap.size 3 8 Try.underlying29 elemN _ al rfl HS8.out.arr [at_ + dur] _ rfl 1 1 rfl rfl (by simp only [Go.maxLen, List.length_cons, List.length_nil]; omega) (by simp only [List.length_cons, List.length_nil]; omega) hks8 ?_
          intro v9 w9 ho9 hg9 hat9
          obtain ⟨hn9, hst9⟩ := HS8.out.putA ho9 hg9 (hat9.imp id fun e => ⟨_, e, by omega⟩)
          have t2 : w9.cell? ⟨gz + 2, 3, none⟩ = some (.slice A8 al.length q8) := by rw [cell_of_row w9 _ 3 _ _ _ hn9]; rfl
          have tf : w9.frozen? ⟨gz + 2, 3, none⟩ = false := by simp [World.frozen?, hn9]
          obtain ⟨A9, c9, rfl⟩ := ho9.form
          generalize hal' : al ++ [at_ + dur] = al' at *
          have HALL := Lib.hid hal'
          have HS9 := Lib.hid hst9
          clear hst9 hn9 ho9 hg9 hat9 c0 c1 c2 c3 f2 f3 HS8 hal'
          go_wp2_with fail
          go_roundg (NN - (k + 1))
          case measure => omega
          case rel => exact ⟨k + 1, _, _, _, by omega, rfl, by go_num, rfl, fun _ => HNX.out.symm, by rw [HDK.out, HAK.out]; exact HS9.out⟩
      · have hrR : r + 1 < R := by have := HNN.out; omega
        obtain ⟨kk, e1, a, ha, hdur⟩ := HP.out.odd (Nat.le_refl R) r hrR
        have hx : (patL l P Q R)[k] = (kk : Int) := by rw [← hkr, List.getElem?_eq_getElem hkl] at e1; injection e1
        have hat2 : at_ = start + nowB D W (r + 1) := by rw [ht]; unfold atK; rw [if_neg (by omega), show k / 2 = r by omega]
        have HNX := Lib.hid (show atK D W start (k + 1) = at_ + D (r + 1) by unfold atK; rw [if_pos (by omega), show (k + 1) / 2 = r + 1 by omega, hat2]; unfold depO; rw [if_neg (by omega)]; omega)
        have HDK := Lib.hid (show depK D W start (k + 1) = depK D W start k by unfold depK; rw [show (k + 1 + 1) / 2 = r + 1 by omega, show (k + 1) / 2 = r + 1 by omega])
        have HAK := Lib.hid (show arrK D W start (k + 1) = arrK D W start k by unfold arrK; rw [show (k + 1 + 1) / 2 = r + 1 by omega, show (k + 1) / 2 = r + 1 by omega])
        have b1 := HNP.out (r + 1) (by omega)
        have b2 := HDP.out (r + 1) hrR
        have b3 : depO D W (r + 1) = nowB D W (r + 1) + D (r + 1) := by unfold depO; rw [if_neg (by omega)]
        have g1 : ((k : Int) % 2 == 0) = false := by simp; omega
        have ba1 : -100000000 ≤ at_ := by omega
        have ba2 : at_ ≤ 200000000 := by omega
        have bn1 : -100000000 ≤ at_ + D (r + 1) := by omega
        have bn2 : at_ + D (r + 1) ≤ 200000000 := by omega
        have HDU := Lib.hid hdur
        have HKK := Lib.hid ha
        generalize D (r + 1) = dur at *
        generalize depK D W start k = dl at *
        generalize arrK D W start k = al at *
        have HX := Lib.hid hx
        have HKR := Lib.hid hkr
        have HS := Lib.hid hst
        clear hst ht b1 b2 b3 hat2 hdur ha e1 hx hkr c0 c1 c2 c3 f2 f3
        go_wp2_with fail
        have hkv := HS.out.kept.size
        have hbx := below_of_grownBy HS.out.kept (B := gz) (by omega) (fun q e => by injection e with e; omega)
        have hwv := (HB1.out.mono (show gz ≤ w3.heap.size by omega)).trans hbx
        have hbn := BxN.mk ((HS.out.kept.block gz (by omega) (fun e => by injection e; omega)).trans ((HB1.out.block gz (by omega)).trans HN.out.blk))
        have hol : OwnN wr w3.heap.size (.slice LA NN lc) (patL l P Q R) := HO.out.kept HS.out.kept (.inr fun e => by have := (World.ownsRow.lt HO.out _ e).1; omega)
        obtain ⟨lb, lo, rfl, zlb, x0⟩ := (Own.lst encI_len hol).it k hkl
        rw [HX.out] at x0
        obtain ⟨n0, n1, n2, ng⟩ := hbn.cells
        have hdn := fun V (b : Below (wr).heap.size wr V) => refDurN_any T ev.length E cE A cA l B' cB ts kk a V ((HL.out.below (hwv.trans (b.mono (by omega)))).more (by have := b.size; omega)) ((HT.out.below (hwv.trans (b.mono (by omega)))).more (by have := b.size; omega)) HG.out HKK.out
        rw [HDU.out] at hdn
        have HDN := Lib.hid hdn
        have sw : IntKind.i64.wrap (at_ + dur) = at_ + dur := IntWalk.i64_in _ (by omega)
        have hB0 : Below (wr).heap.size wr (wr).drew := (Below.refl _ _).drew
        clear hbx hwv hbn hol hdn
        go_cut [12] (fun s12 wx => s12 = .int .i64 (at_ + dur) ∧ Below (wr).heap.size wr wx)
        case first =>
          go_region_held3 (fun w' => w'.cell? ⟨gz, 0, none⟩ = some (.int .i64 T) ∧ w'.cell? ⟨gz, 1, none⟩ = some (.slice E ev.length cE) ∧ w'.cell? ⟨gz, 2, none⟩ = some (.slice A l.length cA) ∧ w'.cell? ⟨lb, lo + k, none⟩ = some (.int .i64 kk))
            (exact ⟨(hB0.cell (p := ⟨gz, 0, none⟩) ng).trans n0, (hB0.cell (p := ⟨gz, 1, none⟩) ng).trans n1, (hB0.cell (p := ⟨gz, 2, none⟩) ng).trans n2, (hB0.cell (p := ⟨lb, lo + k, none⟩) zlb).trans x0⟩)
            ((go_at_call 56; (with_reducible refine (HDN.out _ hB0).mono ?_); rintro e w' ⟨rfl, hb'⟩; replace hB0 := hB0.trans (hb'.mono hB0.size)))
          all_goals
            go_wp2_with fail
            go_meet
            exact ⟨rfl, hB0⟩
        case rest =>
          obtain ⟨rfl, hbc⟩ := hcut
          have HS8 := Lib.hid (HS.out.below hbc)
          clear hbc HS
          go_wp2_with fail
          go_roundg (NN - (k + 1))
          case measure => omega
          case rel => exact ⟨k + 1, _, _, _, by omega, rfl, by go_num, rfl, fun _ => HNX.out.symm, by rw [HDK.out, HAK.out]; exact HS8.out⟩
    · have hkR : (k + 1) / 2 = R := by have := HNN.out; omega
      have HDK := Lib.hid (show depK D W start k = (depL D W R).map (start + ·) by unfold depK; rw [hkR])
      have HAK := Lib.hid (show arrK D W start k = (arrL D W R).map (start + ·) by unfold arrK; rw [hkR])
      obtain ⟨dS, rfl, hdS⟩ := own_sv hst.dep
      obtain ⟨aS, rfl, haS⟩ := own_sv hst.arr
      clear hdS haS
      obtain ⟨c0, c1, c2, c3, f2, f3⟩ := hst.cells
      have hks := hst.kept.size
      have hrc := (hst.kept.block (gz + 1) (by omega) (fun e => by injection e; omega)).trans ((HB1.out.block (gz + 1) (by omega)).trans HM.out)
      have r0 : wr.cell? ⟨gz + 1, 0, none⟩ = some (.int .i64 0) := by rw [cell_of_row wr _ 0 _ _ _ hrc]; rfl
      have r1 : wr.cell? ⟨gz + 1, 1, none⟩ = some (.int .i64 0) := by rw [cell_of_row wr _ 1 _ _ _ hrc]; rfl
      have r2 : wr.cell? ⟨gz + 1, 2, none⟩ = some (.slice none 0 0) := by rw [cell_of_row wr _ 2 _ _ _ hrc]; rfl
      have r3 : wr.cell? ⟨gz + 1, 3, none⟩ = some (.slice none 0 0) := by rw [cell_of_row wr _ 3 _ _ _ hrc]; rfl
      have rf0 : wr.frozen? ⟨gz + 1, 0, none⟩ = false := by simp [World.frozen?, hrc]
      have rf1 : wr.frozen? ⟨gz + 1, 1, none⟩ = false := by simp [World.frozen?, hrc]
      have rf2 : wr.frozen? ⟨gz + 1, 2, none⟩ = false := by simp [World.frozen?, hrc]
      have rf3 : wr.frozen? ⟨gz + 1, 3, none⟩ = false := by simp [World.frozen?, hrc]
      have HS := Lib.hid hst
      obtain ⟨da, dn, dc⟩ := dS
      obtain ⟨aa, an, ac⟩ := aS
      have c2' : wr.cell? ⟨gz + 2, 2, none⟩ = some (.slice da dn dc) := c2
      have c3' : wr.cell? ⟨gz + 2, 3, none⟩ = some (.slice aa an ac) := c3
      have HRES := Lib.hid (set_block' (o := 3) (.slice aa an ac) (set_block' (o := 2) (.slice da dn dc) (set_block' (o := 1) (.int .i64 (start / 86400)) (set_block' (o := 0) (.int .i64 line) hrc))))
      clear hrc hst c2 c3 hat hkR
      go_wp2_with fail
      refine bodyPost_ret (results_cell_row rfl _ _ (gz + 1) 51 _ _ _ rfl HRES.out Try.underlying51 rfl (by kernel_rfl)) rfl ?_
      have hps := HS.out
      have hlt1 : gz + 1 < W1.heap.size := by omega
      refine ⟨⟨da, dn, dc⟩, ⟨aa, an, ac⟩, rfl, ⟨?_, ?_⟩, ?_⟩
      · rw [HGZ.out, ← HDK.out]
        exact ((((hps.dep.setBelow (a := ⟨gz + 1, _, none⟩) hlt1 _).setBelow (a := ⟨gz + 1, _, none⟩) hlt1 _).setBelow (a := ⟨gz + 1, _, none⟩) hlt1 _).setBelow (a := ⟨gz + 1, _, none⟩) hlt1 _).rebase (by omega)
      · rw [HGZ.out, ← HAK.out]
        exact ((((hps.arr.setBelow (a := ⟨gz + 1, _, none⟩) hlt1 _).setBelow (a := ⟨gz + 1, _, none⟩) hlt1 _).setBelow (a := ⟨gz + 1, _, none⟩) hlt1 _).setBelow (a := ⟨gz + 1, _, none⟩) hlt1 _).rebase (by omega)
      · rw [HGZ.out]
        have hbx := below_of_grownBy hps.kept (B := gz) (by omega) (fun q e => by injection e with e; omega)
        have hall := HB.out.trans ((HB1.out.mono (show gz ≤ w3.heap.size by omega)).trans hbx)
        have hle : gz ≤ gz + 1 := by omega
        exact (((hall.setCell (p := ⟨gz + 1, _, none⟩) hle _).setCell (p := ⟨gz + 1, _, none⟩) hle _).setCell (p := ⟨gz + 1, _, none⟩) hle _).setCell (p := ⟨gz + 1, _, none⟩) hle _
end Go.Proofs.Ytaongejpbgjbiaa
