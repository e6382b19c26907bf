/-
  Walk of PropagateRejects.
-/
import Derived.Test.YtbhjnihcmfagjaaL13B
import Derived.Test.YtbhjnihcmfagjaaNetR
import Derived.Test.YtbhjnihcmfagjaaLiftN
set_option linter.unusedVariables false
set_option linter.unusedSimpArgs false
namespace Go.Proofs.Ytbhjnihcmfagjaa
open Go.RowKit Go.Shelf RP

/-- Close on a network, valid or not. -/
theorem closeBoth_any (T : Int) (E : Option Addr) (m cE : Nat) (A : Option Addr) (cA : Nat) (ev : List Evt) (l : List Acy) (w : World) (hl : Lst encA 6 w w.heap.size A l) (he : Lst encE 3 w w.heap.size E ev) (hm : ev.length = m) (hn : l.length ≤ 9223372036854775807) :
    Calls Try.prog 14 #[netV T E m cE A l.length cA] w fun ex w' => (if netB T m l = true then ∃ gt, ex = .returned (.tuple #[.pointer (some ⟨gt, 0, none⟩), .int .i64 0]) else ex = .returned (.tuple #[.pointer none, .int .i64 1])) ∧ Below w.heap.size w w' := by
  cases hnet : netB T m l with
  | false =>
    refine (closeNo_any T E m cE A cA l w hl hn hnet).mono ?_
    rintro ex w' ⟨rfl, hb⟩
    exact ⟨by simp, hb⟩
  | true =>
    have h2 := (netB_iff.1 hnet).1.1
    obtain ⟨N, rfl⟩ := Int.eq_ofNat_of_zero_le (show 0 ≤ T by omega)
    refine (close_any N E m cE A cA ev l w hl he hm hnet).mono ?_
    intro ex w' hp
    obtain ⟨gt, D, e, rfl, hS, hb⟩ := shut_of_post hp
    exact ⟨by simp, hb⟩



theorem own_apart {α β : Type} {enc : α → List Value} {enc' : β → List Value} {k k' : Nat} {e e' : TypeId} {w : World} {b b' : Nat} {v v' : Value} {l : List α} {l' : List β} (h : Own enc k e w b v l) (h' : Own enc' k' e' w b' v' l') (hne : e ≠ e') :
    ∀ g, v.ownBlock = some g → v'.ownBlock ≠ some g := by
  intro g hg hg'
  rcases h.2 with ⟨rfl, _⟩ | ⟨g1, cap, cur, rfl, _, hh, _⟩
  · simp [Value.ownBlock] at hg
  · rcases h'.2 with ⟨rfl, _⟩ | ⟨g2, cap', cur', rfl, _, hh', _⟩
    · simp [Value.ownBlock] at hg'
    · simp [Value.ownBlock] at hg hg'
      subst hg hg'
      rw [hh] at hh'
      injection hh' with q
      injection q with _ q2
      exact hne q2

/-- What stands behind the change of the network. -/
def Changed (w W : World) (g0 g1 : Nat) (T0 : Int) (E0 : Option Addr) (m0 c0 : Nat) (A0 : Option Addr) (d0 : Nat) (ac : List Acy) (E : Option Addr) (m cE : Nat) (A' : Option Addr) (cA n : Nat) (ev : List Evt) : Prop :=
  ∃ (T' : Int) (actR : List Acy), actR.length = n ∧ R64 T' ∧ W.heap[g1]? = some (.cells #[.int .i64 T', .slice E m cE, .slice A' n cA] 25 (0, 0)) ∧ W.heap[g0]? = some (.cells #[.int .i64 T0, .slice E0 m0 c0, .slice A0 ac.length d0] 25 (0, 0)) ∧
    Lst encA 6 W W.heap.size A' actR ∧ Lst encE 3 W W.heap.size E ev ∧ Below w.heap.size w W

theorem changed_act {w W : World} {g0 g1 : Nat} {T : Nat} {T0 : Int} {E0 : Option Addr} {m0 c0 : Nat} {A0 : Option Addr} {d0 : Nat} {ac : List Acy} {E : Option Addr} {m cE : Nat} {ga cA b0 : Nat} {ev : List Evt} {acts : List Acy} (hT : T ≤ 9)
    (h1 : W.heap[g1]? = some (.cells #[.int .i64 T, .slice E m cE, .slice (some ⟨ga, 0, none⟩) acts.length cA] 25 (0, 0))) (h0 : W.heap[g0]? = some (.cells #[.int .i64 T0, .slice E0 m0 c0, .slice A0 ac.length d0] 25 (0, 0)))
    (hA : OwnA W b0 (.slice (some ⟨ga, 0, none⟩) acts.length cA) acts) (hE : OwnE W b0 (.slice E m cE) ev) (hap : (Value.slice E m cE).ownBlock ≠ some ga) (hg1 : ga < g1) (hg0 : g0 + 1 ≤ ga) (hw : w.heap.size = g0) (hb : Below w.heap.size w W)
    (K : Nat) (hK : K < acts.length) (j : Nat) (hj : j < 6) (u : Value) (x' : Acy) (hx : encA x' = (encA acts[K]).set j u) (n : Nat) :
    Changed w ((W.setCell ⟨ga, K * 6 + j, none⟩ u).drewN n) g0 g1 T0 E0 m0 c0 A0 d0 ac E m cE (some ⟨ga, 0, none⟩) cA acts.length ev := by
  obtain ⟨q1, q2⟩ := Own.stored encA_len hA K j u x' hK hj hx
  have kS : Kept [ga] W (W.setCell ⟨ga, K * 6 + j, none⟩ u) := (Kept.refl [ga] W).setCell ga (K * 6 + j) _ (.inl (by simp))
  have l1 := (Array.getElem?_eq_some_iff.1 h1).1
  have l0 := (Array.getElem?_eq_some_iff.1 h0).1
  refine ⟨T, acts.set K x', by simp, ⟨by omega, by omega⟩, (kS.block g1 l1 (by simp; omega)).trans h1, (kS.block g0 l0 (by simp; omega)).trans h0, Own.lst encA_len (q1.drewN n), Own.lst encE_len ((hE.kept q2 (.inr hap)).drewN n), ?_⟩
  exact below_drewN (hb.trans (kS.below (by simp; omega) (by have := hb.size; omega))) n
theorem changed_per {w W : World} {g0 g1 : Nat} {T : Nat} {T0 : Int} {E0 : Option Addr} {m0 c0 : Nat} {A0 : Option Addr} {d0 : Nat} {ac : List Acy} {E : Option Addr} {m cE : Nat} {A' : Option Addr} {cA b0 : Nat} {ev : List Evt} {acts : List Acy}
    (h1 : W.heap[g1]? = some (.cells #[.int .i64 T, .slice E m cE, .slice A' acts.length cA] 25 (0, 0))) (h0 : W.heap[g0]? = some (.cells #[.int .i64 T0, .slice E0 m0 c0, .slice A0 ac.length d0] 25 (0, 0)))
    (hA : OwnA W b0 (.slice A' acts.length cA) acts) (hE : OwnE W b0 (.slice E m cE) ev) (ha : ∀ q, (Value.slice A' acts.length cA).ownBlock = some q → g0 + 1 ≤ q ∧ q < g1) (he : ∀ q, (Value.slice E m cE).ownBlock = some q → g0 + 1 ≤ q ∧ q < g1) (hg : g0 < g1) (hw : w.heap.size = g0) (hb : Below w.heap.size w W) (T' : Int) (hT : R64 T') (n : Nat) :
    Changed w ((W.setCell ⟨g1, 0, none⟩ (.int .i64 T')).drewN n) g0 g1 T0 E0 m0 c0 A0 d0 ac E m cE A' cA acts.length ev := by
  have kS : Kept [g1] W (W.setCell ⟨g1, 0, none⟩ (.int .i64 T')) := (Kept.refl [g1] W).setCell g1 0 _ (.inl (by simp))
  have bS : Below g1 W (W.setCell ⟨g1, 0, none⟩ (.int .i64 T')) := (Below.refl g1 W).setCell (p := ⟨g1, 0, none⟩) (Nat.le_refl g1) _
  have l0 := (Array.getElem?_eq_some_iff.1 h0).1
  refine ⟨T', acts, rfl, hT, set_block' (o := 0) (.int .i64 T') h1, (kS.block g0 l0 (by simp; omega)).trans h0, Own.lst encA_len ((hA.below bS fun g q => (ha g q).2).drewN n), Own.lst encE_len ((hE.below bS fun g q => (he g q).2).drewN n), ?_⟩
  exact below_drewN (hb.trans (bS.mono (by omega))) n

set_option maxRecDepth 100000 in
set_option maxHeartbeats 8000000 in
theorem walkPropagateRejects (T0 : Int) (E0 : Option Addr) (m0 c0 : Nat) (A0 : Option Addr) (d0 : Nat) (ac : List Acy) (A : Option Addr) (c : Nat) (l : List Int) (at' fld v : Int) (w : World) (_ : R64 T0) (hN : ArgA w A0 d0 ac) (h : ArgI w A c l) (_ : R64 at') (_ : R64 fld) (_ : R64 v) :
    Calls Try.prog 3 #[netV T0 E0 m0 c0 A0 ac.length d0, .slice A l.length c, .int .i64 at', .int .i64 fld, .int .i64 v] w fun e w' => e = .returned (.bool true) ∧ Below w.heap.size w w' := by
  obtain ⟨hL0, hac, _, _, _⟩ := hN
  have b0 := belA w (.cells #[.int .i64 T0, .slice E0 m0 c0, .slice A0 ac.length d0] 25)
  have hblk0 := heap_alloc_new w (.cells #[.int .i64 T0, .slice E0 m0 c0, .slice A0 ac.length d0] 25)
  have h0 := h.below b0
  have hLL := hL0.belowMore b0 b0.size
  have zg0 : w.heap.size < (w.alloc (.cells #[.int .i64 T0, .slice E0 m0 c0, .slice A0 ac.length d0] 25)).heap.size := by simp
  have zg1 : (w.alloc (.cells #[.int .i64 T0, .slice E0 m0 c0, .slice A0 ac.length d0] 25)).heap.size = w.heap.size + 1 := by simp
  go_enter Try.func3, Try.ntmps3
  go_wp2_with fail
  generalize w.alloc (.cells #[.int .i64 T0, .slice E0 m0 c0, .slice A0 ac.length d0] 25) = wb at *
  refine (network_any A c l wb h0).mono ?_
  rintro ex w1 ⟨T, m, E, cE, A', cA, ev, acts, rfl, hev, hoE, hoA, hmade, hb1⟩
  have HMD := Lib.hid hmade
  obtain ⟨_, t1, t2, m1, m2, la⟩ := hmade
  have z1 := hb1.size
  have ba := belA w1 (.cells #[.int .i64 T, .slice E m cE, .slice A' acts.length cA] 25)
  have hnew := heap_alloc_new w1 (.cells #[.int .i64 T, .slice E m cE, .slice A' acts.length cA] 25)
  have HEV := Lib.hid hev
  have hbw : Below w.heap.size w (w1.alloc (.cells #[.int .i64 T, .slice E m cE, .slice A' acts.length cA] 25)) := (b0.trans (hb1.mono (by omega))).trans (ba.mono (by omega))
  have hbk := (ba.block w.heap.size (by omega)).trans ((hb1.block w.heap.size zg0).trans hblk0)
  have hL2 := (hLL.belowMore hb1 hb1.size).belowMore ba ba.size
  have hL2w := ((hL0.below b0).below (hb1.mono (by omega))).below (ba.mono (by omega))
  have hE2 := (Own.lst encE_len hoE).belowMore ba ba.size
  have hE1 := (Own.lst encE_len hoE).below ba
  have hA2 := hoA.alloc (.cells #[.int .i64 T, .slice E m cE, .slice A' acts.length cA] 25)
  have hEb : ∀ q, (Value.slice E m cE).ownBlock = some q → wb.heap.size ≤ q ∧ q < w1.heap.size := fun q hq => World.ownsRow.lt hoE q hq
  have hAb : ∀ q, (Value.slice A' acts.length cA).ownBlock = some q → wb.heap.size ≤ q ∧ q < w1.heap.size := fun q hq => World.ownsRow.lt hoA q hq
  have hoE2 := hoE.alloc (.cells #[.int .i64 T, .slice E m cE, .slice A' acts.length cA] 25)
  have hap := own_apart hoA hoE (by decide)
  have hWs : (w1.alloc (.cells #[.int .i64 T, .slice E m cE, .slice A' acts.length cA] 25)).heap.size = w1.heap.size + 1 := by simp
  clear hblk0 h0 hLL hb1 ba hev hoE hoA b0 hL2 hL2w hE2 hE1
  have n2 : (w1.alloc (.cells #[.int .i64 T, .slice E m cE, .slice A' acts.length cA] 25)).cell? ⟨w1.heap.size, 2, none⟩ = some (.slice A' acts.length cA) := by rw [cell_of_row _ _ 2 _ _ _ hnew]; rfl
  go_upto_if 22 with fail
  generalize w1.alloc (.cells #[.int .i64 T, .slice E m cE, .slice A' acts.length cA] 25) = W2 at *
  generalize hg1 : w1.heap.size = g1 at *
  generalize hg0 : w.heap.size = g0 at *
  rw [zg1] at z1 hAb hEb
  have HG := Lib.hid (And.intro hg0 hg1)
  clear hg0 hg1 zg0 zg1
  go_cut [12] (fun s12 wx => Changed w wx g0 g1 T0 E0 m0 c0 A0 d0 ac E m cE A' cA acts.length ev)
  case first =>
    have HBW := Lib.hid (show Below w.heap.size w W2 by rw [HG.out.1]; exact hbw)
    have HL2 := Lib.hid hA2
    have HE2 := Lib.hid hoE2
    clear hbw
    by_cases hz : 0 < acts.length
    · obtain ⟨ga, ca, hvA, hga1, hga2, hcap, hcell, hfz⟩ := hA2.at_ encA_len (fun q => by rw [q] at hz; exact absurd hz (by simp))
      injection hvA with hvA1 _ hvA3
      subst hvA1 hvA3
      have hgaw := hAb ga rfl
      obtain ⟨K, hK, hqk⟩ := pickN at' acts.length (by omega)
      have hqk := fun W => (show pickI at' acts.length = K from hqk) ▸ pick_any at' acts.length W (by omega) (by omega)
      obtain ⟨Fd, hFd, hqd⟩ := pickN fld 3 (by omega)
      have hqd := fun W => (show pickI fld 3 = Fd from hqd) ▸ pick_any fld 3 W (by omega) (by omega)
      have hce : ∀ j u, (encA acts[K])[j]? = some u → W2.cell? ⟨ga, K * 6 + j, none⟩ = some u := fun j u hu => hcell K acts[K] (by simp [hK]) j u hu
      have y2 := hce 2 _ rfl
      have y4 := hce 4 _ rfl
      have f2 := hfz (K * 6 + 2)
      have f4 := hfz (K * 6 + 4)
      have n0 : W2.cell? ⟨g1, 0, none⟩ = some (.int .i64 T) := by rw [cell_of_row W2 _ 0 _ _ _ hnew]; rfl
      have nf : W2.frozen? ⟨g1, 0, none⟩ = false := by simp [World.frozen?, hnew]
      have i0 : (0 : Int) ≤ (K : Int) := by omega
      have i1 : (K : Int) < (acts.length : Int) := by omega
      have hap' := hap ga rfl
      clear hcell hce hfz hA2 hoE2 hap hAb
      go_upto_region 3 with fail
      go_quiet ((go_at_call 13; exact quiet_left ((hqk _).mono fun _ _ q => q)))
      go_wp2_with fail
      refine (hqd _).mono ?_
      rintro ex w' ⟨rfl, rfl⟩
      have HN := Lib.hid hnew
      have HBK := Lib.hid hbk
      have HAP := Lib.hid hap'
      have HEB := Lib.hid hEb
      have HZ := Lib.hid HG.out.1
      have hgw2 := hgaw.2
      have hgw1 := hgaw.1
      clear hnew hbk hap' hEb hgaw
      rcases (show Fd = 0 ∨ Fd = 1 ∨ Fd = 2 by omega) with rfl | rfl | rfl
      · go_wp2_with fail
        go_meet
        exact changed_act t2 HN.out HBK.out HL2.out HE2.out HAP.out hgw2 hgw1 HZ.out HBW.out K hK 2 (by omega) (.int .i64 v) { acts[K] with dst := v } rfl nq
      · go_wp2_with fail
        go_meet
        exact changed_act t2 HN.out HBK.out HL2.out HE2.out HAP.out hgw2 hgw1 HZ.out HBW.out K hK 4 (by omega) (.int .i64 v) { acts[K] with hi := v } rfl nq
      · obtain ⟨Pv, hPv, hqv⟩ := pickN v 12 (by omega)
        have hqv := fun W => (show pickI v 12 = Pv from hqv) ▸ pick_any v 12 W (by omega) (by omega)
        go_wp2_with fail
        refine (hqv _).mono ?_
        rintro ex w' ⟨rfl, rfl⟩
        go_wp2_with fail
        go_meet
        exact changed_per HN.out HBK.out HL2.out HE2.out (fun q hq => by simp [Value.ownBlock] at hq; omega) HEB.out (by omega) HZ.out HBW.out _ ⟨by omega, by omega⟩ nq
    · go_wp2_with fail
      go_meet
      exact ⟨T, acts, rfl, ⟨by omega, by omega⟩, hnew, hbk, Own.lst encA_len HL2.out, Own.lst encE_len HE2.out, HBW.out⟩
  case rest =>
    obtain ⟨T', actR, hlen, hr', hblkR, hblk0', HLR, HER, HBR⟩ := hcut
    clear n2 hnew hbk hA2 hoE2 hap hWs hAb hEb hbw
    have hr1 := hr'.1
    have hr2 := hr'.2
    have HL0 := Lib.hid ((show Lst encA 6 w w.heap.size A0 ac by rw [HG.out.1]; exact hL0).belowMore HBR HBR.size)
    generalize w1.heap.size = g1' at *
    obtain ⟨WR, rfl⟩ : ∃ W : World, W = wc := ⟨_, rfl⟩
    rw [← hlen] at hblkR
    have hlen8 : actR.length ≤ 8 := by omega
    clear hlen hr' hL0 HG la
    have HHR := Lib.hid HLR
    have HHE := Lib.hid HER
    have HHB := Lib.hid HBR
    clear HLR HER HBR
    have r0 : WR.cell? ⟨g1, 0, none⟩ = some (.int .i64 T') := by rw [cell_of_row WR _ 0 _ _ _ hblkR]; rfl
    have r1 : WR.cell? ⟨g1, 1, none⟩ = some (.slice E m cE) := by rw [cell_of_row WR _ 1 _ _ _ hblkR]; rfl
    have r2 : WR.cell? ⟨g1, 2, none⟩ = some (.slice A' actR.length cA) := by rw [cell_of_row WR _ 2 _ _ _ hblkR]; rfl
    have q0 : WR.cell? ⟨g0, 0, none⟩ = some (.int .i64 T0) := by rw [cell_of_row WR _ 0 _ _ _ hblk0']; rfl
    have q1 : WR.cell? ⟨g0, 1, none⟩ = some (.slice E0 m0 c0) := by rw [cell_of_row WR _ 1 _ _ _ hblk0']; rfl
    have q2 : WR.cell? ⟨g0, 2, none⟩ = some (.slice A0 ac.length d0) := by rw [cell_of_row WR _ 2 _ _ _ hblk0']; rfl
    have hg1 : g1 < WR.heap.size := (Array.getElem?_eq_some_iff.1 hblkR).1
    have hg0 : g0 < WR.heap.size := (Array.getElem?_eq_some_iff.1 hblk0').1
    clear hblkR hblk0'
    go_wp2_with fail
    refine (closeBoth_any T' E m cE A' cA ev actR WR HHR.out HHE.out HEV.out (by omega)).mono ?_
    rintro ex w5 ⟨hif, hb5⟩
    replace r0 := (hb5.cell (p := ⟨g1, 0, none⟩) hg1).trans r0
    replace r1 := (hb5.cell (p := ⟨g1, 1, none⟩) hg1).trans r1
    replace r2 := (hb5.cell (p := ⟨g1, 2, none⟩) hg1).trans r2
    replace q0 := (hb5.cell (p := ⟨g0, 0, none⟩) hg0).trans q0
    replace q1 := (hb5.cell (p := ⟨g0, 1, none⟩) hg0).trans q1
    replace q2 := (hb5.cell (p := ⟨g0, 2, none⟩) hg0).trans q2
    have z5 := hb5.size
    have HL5 := Lib.hid (HHR.out.belowMore hb5 hb5.size)
    have HA5 := Lib.hid (HL0.out.belowMore hb5 hb5.size)
    have HB5 := Lib.hid (HHB.out.trans (hb5.mono HHB.out.size))
    have hrf := refNet_any T' E m cE A' cA actR w5 HL5.out (by omega)
    clear hb5
    cases hnet : netB T' m actR with
    | false =>
      rw [hnet] at hif hrf
      simp only [Bool.false_eq_true, if_false] at hif
      subst hif
      clear hnet
      go_wp2_with fail
      refine hrf.mono ?_
      rintro ex w6 ⟨rfl, hb6⟩
      replace q0 := (hb6.cell (p := ⟨g0, 0, none⟩) (show g0 < w5.heap.size by omega)).trans q0
      replace q1 := (hb6.cell (p := ⟨g0, 1, none⟩) (show g0 < w5.heap.size by omega)).trans q1
      replace q2 := (hb6.cell (p := ⟨g0, 2, none⟩) (show g0 < w5.heap.size by omega)).trans q2
      have z6 := hb6.size
      have HA6 := Lib.hid (HA5.out.belowMore hb6 hb6.size)
      have HB6 := Lib.hid (HB5.out.trans (hb6.mono HB5.out.size))
      have hrn := refNet_any T0 E0 m0 c0 A0 d0 ac w6 HA6.out hac
      clear hb6 hrf r0 r1 r2
      cases hnn : netB T0 m0 ac with
      | true =>
        rw [hnn] at hrn
        clear hnn
        go_wp2_with fail
        refine hrn.mono ?_
        rintro ex w7 ⟨rfl, hb7⟩
        have HB7 := Lib.hid (HB6.out.trans (hb7.mono HB6.out.size))
        clear hb7
        go_wp2_with fail
        go_ret
        exact ⟨rfl, HB7.out⟩
      | false =>
        rw [hnn] at hrn
        have HNN := Lib.hid hnn
        clear hnn
        go_wp2_with fail
        refine hrn.mono ?_
        rintro ex w7 ⟨rfl, hb7⟩
        replace q0 := (hb7.cell (p := ⟨g0, 0, none⟩) (show g0 < w6.heap.size by omega)).trans q0
        replace q1 := (hb7.cell (p := ⟨g0, 1, none⟩) (show g0 < w6.heap.size by omega)).trans q1
        replace q2 := (hb7.cell (p := ⟨g0, 2, none⟩) (show g0 < w6.heap.size by omega)).trans q2
        have HA7 := Lib.hid (HA6.out.belowMore hb7 hb7.size)
        have HB7 := Lib.hid (HB6.out.trans (hb7.mono HB6.out.size))
        clear hb7
        go_wp2_with fail
        refine (closeNo_any T0 E0 m0 c0 A0 d0 ac w7 HA7.out hac HNN.out).mono ?_
        rintro ex w8 ⟨rfl, hb8⟩
        have HB8 := Lib.hid (HB7.out.trans (hb8.mono HB7.out.size))
        clear hb8
        go_wp2_with fail
        go_ret
        exact ⟨rfl, HB8.out⟩
    | true =>
      rw [hnet] at hif hrf
      simp only [if_true] at hif
      obtain ⟨gt, rfl⟩ := hif
      clear hnet
      go_wp2_with fail
      refine hrf.mono ?_
      rintro ex w6 ⟨rfl, hb6⟩
      replace q0 := (hb6.cell (p := ⟨g0, 0, none⟩) (show g0 < w5.heap.size by omega)).trans q0
      replace q1 := (hb6.cell (p := ⟨g0, 1, none⟩) (show g0 < w5.heap.size by omega)).trans q1
      replace q2 := (hb6.cell (p := ⟨g0, 2, none⟩) (show g0 < w5.heap.size by omega)).trans q2
      have z6 := hb6.size
      have HA6 := Lib.hid (HA5.out.belowMore hb6 hb6.size)
      have HB6 := Lib.hid (HB5.out.trans (hb6.mono HB5.out.size))
      have hrn := refNet_any T0 E0 m0 c0 A0 d0 ac w6 HA6.out hac
      clear hb6 hrf r0 r1 r2
      cases hnn : netB T0 m0 ac with
      | true =>
        rw [hnn] at hrn
        clear hnn
        go_wp2_with fail
        refine hrn.mono ?_
        rintro ex w7 ⟨rfl, hb7⟩
        have HB7 := Lib.hid (HB6.out.trans (hb7.mono HB6.out.size))
        clear hb7
        go_wp2_with fail
        go_ret
        exact ⟨rfl, HB7.out⟩
      | false =>
        rw [hnn] at hrn
        have HNN := Lib.hid hnn
        clear hnn
        go_wp2_with fail
        refine hrn.mono ?_
        rintro ex w7 ⟨rfl, hb7⟩
        replace q0 := (hb7.cell (p := ⟨g0, 0, none⟩) (show g0 < w6.heap.size by omega)).trans q0
        replace q1 := (hb7.cell (p := ⟨g0, 1, none⟩) (show g0 < w6.heap.size by omega)).trans q1
        replace q2 := (hb7.cell (p := ⟨g0, 2, none⟩) (show g0 < w6.heap.size by omega)).trans q2
        have HA7 := Lib.hid (HA6.out.belowMore hb7 hb7.size)
        have HB7 := Lib.hid (HB6.out.trans (hb7.mono HB6.out.size))
        clear hb7
        go_wp2_with fail
        refine (closeNo_any T0 E0 m0 c0 A0 d0 ac w7 HA7.out hac HNN.out).mono ?_
        rintro ex w8 ⟨rfl, hb8⟩
        have HB8 := Lib.hid (HB7.out.trans (hb8.mono HB7.out.size))
        clear hb8
        go_wp2_with fail
        go_ret
        exact ⟨rfl, HB8.out⟩

end Go.Proofs.Ytbhjnihcmfagjaa
