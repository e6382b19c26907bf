/-
  The walk of CalendarRoll.
-/
import Derived.Test.YtaongejpbgjbiaaRolF
import Derived.Test.YtaongejpbgjbiaaCalCnt
set_option linter.unusedVariables false
set_option linter.unusedSimpArgs false
namespace Go.Proofs.Ytaongejpbgjbiaa
open Go.RowKit RP

/-- A list of trips that Roll may return. -/
def RollIs (T D : Nat) (s : List Svc) (x : List Exc) (pf : Int → PatP) (L : List TripM) : Prop := (1024 < cntS T s x pf D s ∧ L = []) ∨ (cntS T s x pf D s ≤ 1024 ∧ (L.map TripM.p).Perm (allT T s x pf D s) ∧ (L.map TripM.p).Pairwise fun a b => leT a b = true)
theorem roll_sl {T D : Nat} {s : List Svc} {x : List Exc} {pf : Int → PatP} {w w' : World} {e : Ending} (h : RollPost T D s x pf w e w') : ∃ A c L, e = .returned (.tuple #[.slice A (L : List TripM).length c, .int .i64 (if 1024 < cntS T s x pf D s then 7 else 0)]) ∧ Trs w' A L ∧ RollIs T D s x pf L ∧ Below w.heap.size w w' := by
  obtain ⟨hb, ⟨hc, rfl⟩ | ⟨hc, A, c, L, rfl, ht, hp, hs⟩⟩ := h
  · exact ⟨none, 0, [], by rw [if_pos hc]; rfl, ⟨Lst.nil, by simp, by simp⟩, .inl ⟨hc, rfl⟩, hb⟩
  · exact ⟨A, c, L, by rw [if_neg (by omega)], ht.trs, .inr ⟨hc, hp, sorted_p (hs.imp fun h => by omega)⟩, hb⟩
theorem rolls_eq {T D : Nat} {ts : List Int} {ev : List Evt} {ac : List Acy} {s : List Svc} {x : List Exc} {pf : Int → PatP} (h : RollOk T ts ev ac D s x pf) {L M : List TripM} (a : RollIs T D s x pf L) (b : RollIs T D s x pf M) : L.map TripM.p = M.map TripM.p := by
  rcases a with ⟨a, rfl⟩ | ⟨a, hp, hs⟩
  · rcases b with ⟨b, rfl⟩ | ⟨b, _⟩
    · rfl
    · omega
  · rcases b with ⟨b, rfl⟩ | ⟨b, hp', hs'⟩
    · omega
    · refine perm_sorted_eq (R := fun a b => leT a b = true) (fun a ha b hb h1 h2 => ?_) (hp.trans hp'.symm) hs hs'
      exact allT_anti (show 1 ≤ T by have := h.one; omega) h.ok (fun a ha => (h.time a ha).zero) h.ok (fun a ha => (h.time a ha).zero) (hp.mem_iff.1 ha) (hp.mem_iff.1 hb) h1 h2

set_option maxRecDepth 100000 in
set_option maxHeartbeats 16000000 in
theorem walkCalendarRoll (A : Option Addr) (c : Nat) (net : List Int) (B : Option Addr) (d : Nat) (l : List Int) (days : Int) (w : World) (hnet : ArgI w A c net) (hl : ArgI w B d l) (rd : R64 days) :
    Calls Try.prog 10 #[.slice A net.length c, .slice B l.length d, .int .i64 days] w fun e w' => e = .returned (.bool true) ∧ Below w.heap.size w w' := by
  have q1 := fun W => pick_any days 3 W (by omega) (by omega)
  have p1 := pickI_range days 3 (by omega)
  go_enter Try.func10, Try.ntmps10
  go_wp2_with fail
  refine (pattern_any A c net w hnet).mono ?_
  rintro e w1 ⟨T, L, r, E, cE, An, cA, B', cB, ev, ac, ts, rfl, hE, hA, hT, hI, hr, hT1, hT2, hb1⟩
  have hE1 := Own.lst encE_len hE
  have hA1 := Own.lst encA_len hA
  have hTs1 := Own.lst encI_len hT
  have hl1 := hl.below hb1
  have ba := belA w1 (.cells #[.int .i64 T, .slice E ev.length cE, .slice An ac.length cA] 43)
  have hn := heap_alloc_new w1 (.cells #[.int .i64 T, .slice E ev.length cE, .slice An ac.length cA] 43)
  have HE := Lib.hid (hE1.belowMore ba ba.size)
  have HA := Lib.hid (hA1.belowMore ba ba.size)
  have HT := Lib.hid (hTs1.belowMore ba ba.size)
  have HB := Lib.hid (hb1.trans (ba.mono hb1.size))
  have hl2 := hl1.below ba
  have HN := Lib.hid hn
  obtain ⟨pf, hpf⟩ := pats_of hI hr hT1
  have hev := hI.evs hr
  have HEV := Lib.hid (fun e he => (hev.1 e he))
  have hL3 := hI.L3
  have hL1 := hI.lamL
  have hen : ev.length ≤ 18 := by have := hI.len; have := hI.r3; omega
  have htn : ts.length ≤ 18 := by have := hI.tlen; omega
  have HLK := Lib.hid (linesK_of (by omega) hev.1 hev.2)
  have HRO := Lib.hid (fun (D : Nat) s x (hm : MadeV D L s x) (d1 : 1 ≤ D) (d2 : D ≤ 31) => rollOk_of hI hr hT1 hT2 hpf hm d1 d2)
  have HAC := Lib.hid (show ac.length ≤ 512 by
    have := (netB_iff.1 (goodB_iff.1 (feas_iff.1 (hI.feas hT1 hT2)).1).1).1
    omega)
  generalize hgn : w1.heap.size = gn at *
  clear hE hA hT hE1 hA1 hTs1 hl1 ba hn hI hpf hev hb1 hl
  go_wp2_with fail
  generalize w1.alloc (.cells #[.int .i64 T, .slice E ev.length cE, .slice An ac.length cA] 43) = w2 at *
  have n0 : w2.cell? ⟨gn, 0, none⟩ = some (.int .i64 T) := by rw [cell_of_row w2 _ 0 _ _ _ HN.out]; rfl
  have n1 : w2.cell? ⟨gn, 1, none⟩ = some (.slice E ev.length cE) := by rw [cell_of_row w2 _ 1 _ _ _ HN.out]; rfl
  have n2 : w2.cell? ⟨gn, 2, none⟩ = some (.slice An ac.length cA) := by rw [cell_of_row w2 _ 2 _ _ _ HN.out]; rfl
  clear hgn
  refine (q1 w2).mono ?_
  rintro e w' ⟨rfl, rfl⟩
  clear q1
  generalize pickI days 3 = pd at *
  obtain ⟨D, hD⟩ : ∃ D : Nat, (D : Int) = 1 + pd := ⟨(1 + pd).toNat, by omega⟩
  have hD2 : 1 ≤ D ∧ D ≤ 3 := by omega
  go_wp2_with fail
  refine (linesK_any T E cE An ac.length cA ev w2 HE.out (by omega) (fun e he => by have := HEV.out e he; omega)).mono ?_
  rintro e w3 ⟨rfl, hb3⟩
  rw [HLK.out, ← hD]
  clear hD
  have HB3 := Lib.hid hb3
  have hl3 := hl2.below hb3
  clear hb3 hl2
  go_wp2_with fail
  refine (services_any L D B d l w3 (by omega) (by omega) (by omega) hl3).mono ?_
  rintro e w4 ⟨va, vb, s, x, rfl, ha, hb, hmv, hb4⟩
  obtain ⟨S, cS, rfl, hSl, hcS, hcS2⟩ := own_cut encV_len ha
  obtain ⟨X, cX, rfl, hXl, hcX, hcX2⟩ := own_cut encX_len hb
  have hB4 := HB3.out.trans (hb4.mono HB3.out.size)
  have HRK := Lib.hid (HRO.out D s x hmv (by omega) (by omega))
  have hns := HRK.out.ns
  have hnx := HRK.out.nx
  have hev64 : ∀ e ∈ ev, R64 e.2.1 := fun e he => ⟨by have := HEV.out e he; omega, by have := HEV.out e he; omega⟩
  have HEV64 := Lib.hid hev64
  have HB4 := Lib.hid hB4
  have HS := Lib.hid hSl
  have HX := Lib.hid hXl
  have hrl := roll_ok HRK.out hev64 E cE An cA B' cB S cS X cX w4 (HE.out.belowMore hB4 hB4.size) (HA.out.belowMore hB4 hB4.size) (HT.out.belowMore hB4 hB4.size) hSl hXl
  have k0 := (hB4.cell (p := ⟨gn, 0, none⟩) (cell_lt n0)).trans n0
  have k1 := (hB4.cell (p := ⟨gn, 1, none⟩) (cell_lt n1)).trans n1
  have k2 := (hB4.cell (p := ⟨gn, 2, none⟩) (cell_lt n2)).trans n2
  clear ha hb hmv hb4 hB4 n0 n1 n2 hl3 hSl hXl hev64 HRO
  go_wp2_with fail
  refine hrl.mono ?_
  intro e w5 hp5
  obtain ⟨A5, c5, L5, rfl, hT5, hI5, hb5⟩ := roll_sl hp5
  have HI5 := Lib.hid hI5
  have HT5 := Lib.hid hT5
  have HB5 := Lib.hid hb5
  have hB5 := HB4.out.trans (hb5.mono HB4.out.size)
  have hrr := refRoll_any HRK.out HEV64.out (by omega) HAC.out (by omega) E cE An cA B' cB S cS X cX w5 hcS hcS2 hcX hcX2 (HE.out.belowMore hB5 hB5.size) (HA.out.belowMore hB5 hB5.size) (HT.out.belowMore hB5 hB5.size) (HS.out.belowMore hb5 hb5.size) (HX.out.belowMore hb5 hb5.size)
  have m0 := (hb5.cell (p := ⟨gn, 0, none⟩) (cell_lt k0)).trans k0
  have m1 := (hb5.cell (p := ⟨gn, 1, none⟩) (cell_lt k1)).trans k1
  have m2 := (hb5.cell (p := ⟨gn, 2, none⟩) (cell_lt k2)).trans k2
  clear k0 k1 k2 hp5 hT5 hI5 hb5 hB5 hrl
  generalize hq : (if 1024 < cntS T s x pf D s then (7 : Int) else 0) = q at *
  have HQ := Lib.hid hq
  clear hq
  go_wp2_with fail
  refine hrr.mono ?_
  intro e w6 hp6
  obtain ⟨A6, c6, L6, rfl, hT6, hI6, hb6⟩ := roll_sl hp6
  rw [HQ.out]
  have HI6 := Lib.hid hI6
  have HT6 := Lib.hid hT6
  have HT56 := Lib.hid (HT5.out.below hb6)
  have hb46 := HB5.out.trans (hb6.mono HB5.out.size)
  have HB46 := Lib.hid hb46
  have hB6 := HB4.out.trans (hb46.mono HB4.out.size)
  have hcc := countAll_any T E cE An cA ev ac B' cB ts D S cS s X cX x pf w6 (HE.out.belowMore hB6 hB6.size) (HA.out.belowMore hB6 hB6.size) (HT.out.belowMore hB6 hB6.size) (HS.out.belowMore hb46 hb46.size) (HX.out.belowMore hb46 hb46.size) HRK.out.feas HRK.out.check HRK.out.pat HEV64.out HRK.out.le hns hnx HRK.out.ok (fun a ha => HRK.out.days a ha)
  have k0 := (hb6.cell (p := ⟨gn, 0, none⟩) (cell_lt m0)).trans m0
  have k1 := (hb6.cell (p := ⟨gn, 1, none⟩) (cell_lt m1)).trans m1
  have k2 := (hb6.cell (p := ⟨gn, 2, none⟩) (cell_lt m2)).trans m2
  clear m0 m1 m2 hp6 hT6 hI6 hb6 hB6 hb46 hrr
  go_wp2_with fail
  refine hcc.mono ?_
  rintro e w7 ⟨rfl, hb7⟩
  have hb47 := HB46.out.trans (hb7.mono HB46.out.size)
  have HB47 := Lib.hid hb47
  have hB7 := HB4.out.trans (hb47.mono HB4.out.size)
  have HT67 := Lib.hid (HT6.out.below hb7)
  have HT57 := Lib.hid (HT56.out.below hb7)
  have hrc := refCount_any HRK.out HEV64.out (by omega) HAC.out (by omega) E cE An cA B' cB S cS X cX w7 hcS hcS2 hcX hcX2 (HE.out.belowMore hB7 hB7.size) (HA.out.belowMore hB7 hB7.size) (HT.out.belowMore hB7 hB7.size) (HS.out.belowMore hb47 hb47.size) (HX.out.belowMore hb47 hb47.size)
  have m0 := (hb7.cell (p := ⟨gn, 0, none⟩) (cell_lt k0)).trans k0
  have m1 := (hb7.cell (p := ⟨gn, 1, none⟩) (cell_lt k1)).trans k1
  have m2 := (hb7.cell (p := ⟨gn, 2, none⟩) (cell_lt k2)).trans k2
  clear k0 k1 k2 hb7 hB7 hb47 hcc
  generalize cntS T s x pf D s = cn at *
  go_wp2_with fail
  refine hrc.mono ?_
  rintro e w8 ⟨rfl, hb8⟩
  have HB48 := Lib.hid (HB47.out.trans (hb8.mono HB47.out.size))
  have HT68 := Lib.hid (HT67.out.below hb8)
  have HT58 := Lib.hid (HT57.out.below hb8)
  clear hb8 hrc m0 m1 m2
  go_wp2_with fail
  refine (awake_any _).mono ?_
  rintro e w9 ⟨rfl, hb9⟩
  have HB49 := Lib.hid (HB48.out.trans (hb9.mono HB48.out.size))
  have HT69 := Lib.hid (HT68.out.below hb9)
  have HT59 := Lib.hid (HT58.out.below hb9)
  have HEQ := Lib.hid (rolls_eq HRK.out HI5.out HI6.out)
  clear hb9
  go_wp2_with fail
  refine (sameTrips_any A5 A6 c5 c6 L5 L6 w9 HT59.out HT69.out).mono ?_
  rintro e w10 ⟨rfl, q', rfl⟩
  rw [show decide (L5.map TripM.p = L6.map TripM.p) = true from decide_eq_true HEQ.out]
  have HBF := Lib.hid (HB.out.trans ((below_drewN (HB4.out.trans (HB49.out.mono HB4.out.size)) q').mono HB.out.size))
  go_wp2_with fail
  go_ret
  exact ⟨rfl, HBF.out⟩
end Go.Proofs.Ytaongejpbgjbiaa
