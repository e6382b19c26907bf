/-
  The walk of CalendarHorizon.
-/
import Derived.Test.YtaongejpbgjbiaaL24X
import Derived.Test.YtaongejpbgjbiaaCalF
set_option linter.unusedVariables false
set_option linter.unusedSimpArgs false
namespace RP
theorem cnt_cut {T D : Nat} (h1 : 1 ≤ T) {s : List Svc} {pf : Int → PatP} (hok : ∀ a ∈ s, SvcOk T pf a) : cntS T (s.map (cutV D)) [] pf D (s.map (cutV D)) ≤ cntS T s [] pf (D + 1) s := by
  have hok' : ∀ a ∈ s.map (cutV D), SvcOk T pf a := fun a ha => by
    obtain ⟨b, hb, rfl⟩ := List.mem_map.1 ha
    exact hok b hb
  rw [← allT_cnt h1 hok, ← allT_cnt h1 hok', ← allT_cut]
  have := List.length_filter_le (fun t : TripP => decide (t.day < (D : Int))) (allT T s [] pf (D + 1) s)
  omega
/-- The services of which the first k are cut. -/
def cutTo (D k : Nat) (s : List Svc) : List Svc := (s.take k).map (cutV D) ++ s.drop k
theorem cutTo_len (D k : Nat) (s : List Svc) (h : k ≤ s.length) : (cutTo D k s).length = s.length := by simp [cutTo]; omega
theorem cutTo_get {D k : Nat} {s : List Svc} (h : k < s.length) : (cutTo D k s)[k]? = some s[k] := by
  unfold cutTo
  rw [List.getElem?_append_right (by simp; omega)]
  simp [Nat.min_eq_left (Nat.le_of_lt h), h]
theorem cutTo_set {D k : Nat} {s : List Svc} (h : k < s.length) : (cutTo D k s).set k (cutV D s[k]) = cutTo D (k + 1) s := by
  unfold cutTo
  rw [List.set_append_right _ _ (by simp; omega), List.take_succ_eq_append_getElem h, List.map_append, List.append_assoc]
  congr 1
  rw [List.length_map, List.length_take, Nat.min_eq_left (Nat.le_of_lt h), Nat.sub_self, List.drop_eq_getElem_cons h, List.set_cons_zero]
  rfl
end RP
namespace Go.Proofs.Ytaongejpbgjbiaa
open Go.RowKit RP

def keepD (E : Nat) (t : TripM) : Bool := decide (t.day < (E : Int))
set_option maxRecDepth 100000 in
set_option maxHeartbeats 16000000 in
theorem walkCalendarHorizon (A : Option Addr) (c : Nat) (net : List Int) (B : Option Addr) (d : Nat) (l : List Int) (days : Int) (w : World) (hnet : ArgI w A c net) (hl : ArgI w B d l) (rd : R64 days) :
    Calls Try.prog 8 #[.slice A net.length c, .slice B l.length d, .int .i64 days] w fun e w' => e = .returned (.bool true) ∧ Below w.heap.size w w' := by
  have q1 := fun W => pick_any days 2 W (by omega) (by omega)
  have p1 := pickI_range days 2 (by omega)
  go_enter Try.func8, Try.ntmps8
  go_wp2_with fail
  refine (pattern_any A c net w hnet).mono ?_
  rintro e w1 ⟨T, L, r, E, cE, An, cA, B', cB, ev, ac, ts, rfl, hE, hA, hT, hI, hr, hT1, hT2, hb1⟩
  have hE1 := Own.lst encE_len hE
  have hA1 := Own.lst encA_len hA
  have hTs1 := Own.lst encI_len hT
  have hl1 := hl.below hb1
  have ba := belA w1 (.cells #[.int .i64 T, .slice E ev.length cE, .slice An ac.length cA] 43)
  have hn := heap_alloc_new w1 (.cells #[.int .i64 T, .slice E ev.length cE, .slice An ac.length cA] 43)
  have HE := Lib.hid (hE1.belowMore ba ba.size)
  have HA := Lib.hid (hA1.belowMore ba ba.size)
  have HT := Lib.hid (hTs1.belowMore ba ba.size)
  have HB := Lib.hid (hb1.trans (ba.mono hb1.size))
  have hl2 := hl1.below ba
  have HN := Lib.hid hn
  obtain ⟨pf, hpf⟩ := pats_of hI hr hT1
  have hev := hI.evs hr
  have HEV := Lib.hid (fun e he => (hev.1 e he))
  have hL3 := hI.L3
  have hL1 := hI.lamL
  have hen : ev.length ≤ 18 := by have := hI.len; have := hI.r3; omega
  have htn : ts.length ≤ 18 := by have := hI.tlen; omega
  have HLK := Lib.hid (linesK_of (by omega) hev.1 hev.2)
  have HRO := Lib.hid (fun (D : Nat) s x (hm : MadeV D L s x) (d1 : 1 ≤ D) (d2 : D ≤ 31) => rollOk_of hI hr hT1 hT2 hpf hm d1 d2)
  generalize hgn : w1.heap.size = gn at *
  clear hE hA hT hE1 hA1 hTs1 hl1 ba hn hI hpf hev hb1 hl
  go_wp2_with fail
  generalize w1.alloc (.cells #[.int .i64 T, .slice E ev.length cE, .slice An ac.length cA] 43) = w2 at *
  have n0 : w2.cell? ⟨gn, 0, none⟩ = some (.int .i64 T) := by rw [cell_of_row w2 _ 0 _ _ _ HN.out]; rfl
  have n1 : w2.cell? ⟨gn, 1, none⟩ = some (.slice E ev.length cE) := by rw [cell_of_row w2 _ 1 _ _ _ HN.out]; rfl
  have n2 : w2.cell? ⟨gn, 2, none⟩ = some (.slice An ac.length cA) := by rw [cell_of_row w2 _ 2 _ _ _ HN.out]; rfl
  clear hgn
  refine (q1 w2).mono ?_
  rintro e w' ⟨rfl, rfl⟩
  clear q1
  generalize pickI days 2 = pd at *
  obtain ⟨D, hD⟩ : ∃ D : Nat, (D : Int) = 2 + pd := ⟨(2 + pd).toNat, by omega⟩
  obtain ⟨E', hE'⟩ : ∃ E' : Nat, D = E' + 1 := ⟨D - 1, by omega⟩
  have hD2 : 2 ≤ D ∧ D ≤ 3 := by omega
  have HDE := Lib.hid hE'
  have eD : (D : Int) - 1 = (E' : Int) := by omega
  have e1 : 1 ≤ E' := by omega
  have e2 : E' ≤ 2 := by omega
  clear hE'
  go_wp2_with fail
  refine (linesK_any T E cE An ac.length cA ev w2 HE.out (by omega) (fun e he => by have := HEV.out e he; omega)).mono ?_
  rintro e w3 ⟨rfl, hb3⟩
  rw [HLK.out, ← hD]
  clear hD
  have HB3 := Lib.hid hb3
  have hl3 := hl2.below hb3
  clear hb3 hl2
  go_wp2_with fail
  refine (services_any L D B d l w3 (by omega) (by omega) (by omega) hl3).mono ?_
  rintro e w4 ⟨va, vb, s, x, rfl, ha, hb, hmv, hb4⟩
  obtain ⟨S, cS, rfl⟩ := ha.form
  obtain ⟨X, cX, rfl⟩ := hb.form
  have HMV := Lib.hid hmv
  have hns : s.length ≤ 16 := by have := hmv.olen; omega
  have hSl := Own.lst encV_len ha
  have HS := Lib.hid hSl
  have hB4 := HB3.out.trans (hb4.mono HB3.out.size)
  have HB4 := Lib.hid hB4
  have k0 := (hB4.cell (p := ⟨gn, 0, none⟩) (cell_lt n0)).trans n0
  have k1 := (hB4.cell (p := ⟨gn, 1, none⟩) (cell_lt n1)).trans n1
  have k2 := (hB4.cell (p := ⟨gn, 2, none⟩) (cell_lt n2)).trans n2
  clear ha hb hmv hb4 hB4 n0 n1 n2 hl3
  have hro := HRO.out D s [] HMV.out.bare (by omega) (by omega)
  have hev64 : ∀ e ∈ ev, R64 e.2.1 := fun e he => ⟨by have := HEV.out e he; omega, by have := HEV.out e he; omega⟩
  have HEV64 := Lib.hid hev64
  have hrl := roll_ok hro hev64 E cE An cA B' cB S cS none 0 w4 (HE.out.belowMore HB4.out HB4.out.size) (HA.out.belowMore HB4.out HB4.out.size) (HT.out.belowMore HB4.out HB4.out.size) HS.out Lst.nil
  have HRO1 := Lib.hid hro
  clear hro hev64 hSl
  go_wp2_with fail
  refine hrl.mono ?_
  rintro e w6 ⟨hb6, ⟨hc, rfl⟩ | ⟨hc, TA, tc, Lt, rfl, hTr, hp, hsrt⟩⟩
  · have HBF := Lib.hid (HB4.out.trans (hb6.mono HB4.out.size))
    clear hb6 hrl
    go_wp2_with fail
    refine (awake_any _).mono ?_
    rintro e w9 ⟨rfl, hb9⟩
    have hB9 := HBF.out.trans (hb9.mono HBF.out.size)
    have HB9 := Lib.hid (HB.out.trans (hB9.mono HB.out.size))
    clear hb9 hB9
    go_wp2_with fail
    go_ret
    exact ⟨rfl, HB9.out⟩
  · have HTR := Lib.hid hTr.trs
    have HP := Lib.hid hp
    have HSR := Lib.hid hsrt
    have HC := Lib.hid hc
    have hTl := HTR.out
    have hLn : Lt.length ≤ 1024 := by
      have h1 := HP.out.length_eq
      have h2 := allT_cnt (s := s) (x := []) (pf := pf) (D := D) (show 1 ≤ T by omega) HRO1.out.ok
      have h3 := HC.out
      rw [List.length_map] at h1
      omega
    have m0 := (hb6.cell (p := ⟨gn, 0, none⟩) (cell_lt k0)).trans k0
    have m1 := (hb6.cell (p := ⟨gn, 1, none⟩) (cell_lt k1)).trans k1
    have m2 := (hb6.cell (p := ⟨gn, 2, none⟩) (cell_lt k2)).trans k2
    have hs6 := HS.out.belowMore hb6 hb6.size
    have HB6 := Lib.hid (HB4.out.trans (hb6.mono HB4.out.size))
    have HB46 := Lib.hid hb6
    clear hTr hp hsrt hc hrl hb6 k0 k1 k2
    go_wp2_with fail
    obtain ⟨w8, rfl⟩ : ∃ w8 : World, w8 = w6 := ⟨_, rfl⟩
    go_loopg [14, 16, 54] Lt.length (fun g s14 s16 s54 wr => ∃ i : Nat, i ≤ Lt.length ∧ g = Lt.length - i ∧ s54 = .int .i64 i ∧ LeftOk wr w8.heap.size s14 ((Lt.take i).filter (keepD E')) ∧ Below w8.heap.size w8 wr)
    case atStart => exact ⟨0, by omega, by omega, rfl, ⟨Own.nil _ _ _ _ _, by simp⟩, Below.refl _ _⟩
    case round =>
      obtain ⟨i, hi, hg, rfl, hlo, hb⟩ := hrel
      by_cases hlt : i < Lt.length
      · have HTS := Lib.hid (takeF_snoc (keepD E') hlt)
        have hll : ((Lt.take i).filter (keepD E')).length ≤ 1024 := by
          have h1 := List.length_filter_le (keepD E') (Lt.take i)
          have h2 : (Lt.take i).length ≤ Lt.length := by rw [List.length_take]; omega
          omega
        obtain ⟨b, off, rfl, hbb, a0, a1, a2, a3⟩ := (hTl.lst.belowMore hb hb.size).tr i hlt
        have htl := (hTl.at_ Lt[i] (List.getElem_mem hlt)).belowMore hb (Nat.le_refl _)
        have zb := hb.size
        generalize Lt[i] = t at *
        obtain ⟨tl, td, dep, arr, ⟨ta, tn, tc1⟩, ⟨ta', tn', tc2'⟩⟩ := t
        simp only at a0 a1 a2 a3
        have ba := belA wr (.cells #[.int .i64 tl, .int .i64 td, .slice ta tn tc1, .slice ta' tn' tc2'] 51)
        have hnew := heap_alloc_new wr (.cells #[.int .i64 tl, .int .i64 td, .slice ta tn tc1, .slice ta' tn' tc2'] 51)
        have zx : wr.heap.size < (wr.alloc (.cells #[.int .i64 tl, .int .i64 td, .slice ta tn tc1, .slice ta' tn' tc2'] 51)).heap.size := by simp
        have HLO := Lib.hid (hlo.keep ba zb)
        have HTL := Lib.hid (htl.belowMore (ba.mono zb) (Nat.le_refl _))
        have HB2 := Lib.hid (hb.trans (ba.mono zb))
        have HBLK := Lib.hid hnew
        have i0 : (0 : Int) ≤ (i : Int) := by omega
        have i1 : (i : Int) < (Lt.length : Int) := by omega
        clear hlo hb htl hnew ba
        go_upto_region 11 with fail
        generalize wr.alloc (.cells #[.int .i64 tl, .int .i64 td, .slice ta tn tc1, .slice ta' tn' tc2'] 51) = w9 at *
        generalize hgt : wr.heap.size = gt at *
        have t0c : w9.cell? ⟨gt, 0, none⟩ = some (.int .i64 tl) := by rw [cell_of_row w9 _ 0 _ _ _ HBLK.out]; rfl
        have t1c : w9.cell? ⟨gt, 1, none⟩ = some (.int .i64 td) := by rw [cell_of_row w9 _ 1 _ _ _ HBLK.out]; rfl
        have t2c : w9.cell? ⟨gt, 2, none⟩ = some (.slice ta tn tc1) := by rw [cell_of_row w9 _ 2 _ _ _ HBLK.out]; rfl
        have t3c : w9.cell? ⟨gt, 3, none⟩ = some (.slice ta' tn' tc2') := by rw [cell_of_row w9 _ 3 _ _ _ HBLK.out]; rfl
        have zg : w8.heap.size ≤ w9.heap.size := HB2.out.size
        clear a0 a1 a2 a3 hgt
        by_cases h1 : td < (E' : Int)
        · have HQ := Lib.hid (show keepD E' ⟨tl, td, dep, arr, ⟨ta, tn, tc1⟩, ⟨ta', tn', tc2'⟩⟩ = true by simpa [keepD] using h1)
          rw [HQ.out, if_pos rfl] at HTS
          go_wp2_with (at_builtin; refine Stp.put ?_)
          refine Stp.out ?_
          refine wpList_append_rec rfl _ _ 47 rfl w8.heap.size 51 64 Try.underlying47 elemT _ ((Lt.take i).filter (keepD E')) rfl HLO.out.1 [⟨tl, td, dep, arr, ⟨ta, tn, tc1⟩, ⟨ta', tn', tc2'⟩⟩] _ rfl 1 1 rfl rfl (by simp only [Go.maxLen, List.length_cons, List.length_nil]; omega) (by simp only [List.length_cons, List.length_nil]; omega) HB2.out.size ?_
          intro v6 w11 ho6 hg6 hat6
          have HNL := Lib.hid (HLO.out.push HTL.out ho6 hg6 HB2.out.size)
          have HNB := Lib.hid (HB2.out.grown hg6 HB2.out.size (fun q e => (World.ownsRow.lt HLO.out.1 q e).1))
          clear ho6 hg6 hat6
          go_wp2_with fail
          go_roundg (Lt.length - (i + 1))
          case measure => omega
          case rel => exact ⟨i + 1, by omega, rfl, by go_num, by rw [HTS.out]; exact HNL.out, HNB.out⟩
        · have HQ := Lib.hid (show keepD E' ⟨tl, td, dep, arr, ⟨ta, tn, tc1⟩, ⟨ta', tn', tc2'⟩⟩ = false by simpa [keepD] using h1)
          go_wp2_with fail
          go_roundg (Lt.length - (i + 1))
          case measure => omega
          case rel => exact ⟨i + 1, by omega, rfl, by go_num, by rw [HTS.out, HQ.out]; simpa using HLO.out, HB2.out⟩
      · rw [List.take_of_length_le (by omega)] at hlo
        obtain ⟨LA, lc, rfl⟩ := hlo.1.form
        have hLT := hlo.trs hb.size
        have HLT := Lib.hid hLT
        have hsr := hs6.belowMore hb hb.size
        generalize hlf : Lt.filter (keepD E') = left at *
        have HLF := Lib.hid hlf
        clear hlf
        have HBR := Lib.hid hb
        have zb := hb.size
        have l0 := (hb.cell (p := ⟨gn, 0, none⟩) (cell_lt m0)).trans m0
        have l1 := (hb.cell (p := ⟨gn, 1, none⟩) (cell_lt m1)).trans m1
        have l2 := (hb.cell (p := ⟨gn, 2, none⟩) (cell_lt m2)).trans m2
        clear hlo hb hTl hLT m0 m1 m2
        go_wp2_with (at_builtin; refine Stp.put ?_)
        refine Stp.out ?_
        refine wpList_append_lst rfl _ _ 22 rfl wr.heap.size 34 32 Try.underlying22 elemV _ [] rfl (Own.nil _ _ _ _ _) s _ _ cS _ rfl rfl hsr (by simp only [Go.maxLen, List.length_nil]; omega) (by simp only [List.length_nil]; omega) (Nat.le_refl _) ?_
        intro v7 w7 ho7 hg7 hat7
        rw [List.nil_append] at ho7
        obtain ⟨VA, vc, rfl⟩ := ho7.form
        have hb7 : Below wr.heap.size wr w7 := below_of_grownBy hg7 (Nat.le_refl _) (fun k hk => by cases hk)
        have HB7 := Lib.hid hb7
        have HOW := Lib.hid (show Own encV 4 34 w7 wr.heap.size (.slice VA s.length vc) (cutTo E' 0 s) by simpa [cutTo] using ho7)
        have hpw : (2 : Int) ^ E' ≤ 4 := by
          have := Nat.pow_le_pow_right (n := 2) (by omega) e2
          have h3 : (2 : Int) ^ E' = ((2 ^ E' : Nat) : Int) := by simp
          omega
        have hpw0 : (0 : Int) < 2 ^ E' := Int.pow_pos (by omega)
        have swp : IntKind.i64.wrap ((2 : Int) ^ E') = 2 ^ E' := IntWalk.i64_in _ (by omega)
        have swd : IntKind.i64.wrap ((D : Int) - 1) = (E' : Int) := by rw [eD]; exact IntWalk.i64_in _ (by omega)
        have hpne : ¬ ((2 : Int) ^ E' = 0) := by omega
        have HDY := Lib.hid (fun a (ha : a ∈ s) => (HMV.out.svc a ha))
        clear ho7 hg7 hat7 hb7 hsr
        go_wp2_with fail
        obtain ⟨wq, rfl⟩ : ∃ W : World, W = wr := ⟨_, rfl⟩
        go_loopg [18, 72] s.length (fun g s18 s72 wz => ∃ i : Nat, i ≤ s.length ∧ g = s.length - i ∧ s72 = .int .i64 i ∧ Own encV 4 34 wz wq.heap.size (.slice VA s.length vc) (cutTo E' i s) ∧ Below wq.heap.size wq wz)
        case atStart => exact ⟨0, by omega, by omega, rfl, HOW.out, HB7.out⟩
        case round =>
          obtain ⟨i2, hi2, hg2, rfl, ho, hbz⟩ := hrel
          by_cases hlt2 : i2 < s.length
          · obtain ⟨g, c', hv, hbg, hgl, _, hcl, hfr⟩ := ho.at_ encV_len (by intro e; have := cutTo_len E' i2 s hi2; rw [e] at this; simp at this; omega)
            injection hv with hv1 hv2 hv3
            subst hv1
            have hd := (HDY.out s[i2] (List.getElem_mem hlt2))
            have v1 : (_root_.Go.World.cell? _ ⟨g, i2 * 4 + 1, none⟩ = _) := hcl i2 s[i2] (cutTo_get hlt2) 1 _ rfl
            have f1 := hfr (i2 * 4 + 1)
            have hsm : s[i2].days % 2 ^ E' = (cutV E' s[i2]).days := rfl
            have hst := ho.stored encV_len i2 1 (.int .i64 (s[i2].days % 2 ^ E')) (cutV E' s[i2]) (by rw [cutTo_len _ _ _ hi2]; exact hlt2) (by omega) (by
              have e1 := cutTo_get (D := E') hlt2
              rw [List.getElem?_eq_getElem (by rw [cutTo_len _ _ _ hi2]; exact hlt2)] at e1
              injection e1 with e1
              rw [e1]; rfl)
            rw [cutTo_set hlt2] at hst
            have HST1 := Lib.hid hst.1
            have HBZ := Lib.hid (hbz.grown hst.2 hbz.size (fun q e => by injection e with e; omega))
            have hd0 : 0 ≤ s[i2].days := hd.2.2.1
            clear hd hcl hfr hst ho hbz hsm
            generalize s[i2].days = dy at *
            have sq : dy.tmod (2 ^ E') = dy % 2 ^ E' := Int.tmod_eq_emod_of_nonneg hd0
            have m1' := Int.emod_nonneg dy hpne
            have m2' := Int.emod_lt_of_pos dy hpw0
            have swq : IntKind.i64.wrap (dy % 2 ^ E') = dy % 2 ^ E' := IntWalk.i64_in _ (by omega)
            have i0 : (0 : Int) ≤ (i2 : Int) := by omega
            have i1 : (i2 : Int) < (s.length : Int) := by omega
            go_wp2_with fail
            go_region
            go_wp2_with fail
            go_roundg (s.length - (i2 + 1))
            case measure => omega
            case rel => exact ⟨i2 + 1, by omega, rfl, by go_num, HST1.out.drew, HBZ.out.drew⟩
          · have hcut0 := ho
            unfold cutTo at hcut0
            rw [List.take_of_length_le (by omega), List.drop_eq_nil_of_le (by omega), List.append_nil] at hcut0
            have hcl := Own.lst encV_len hcut0
            have hcn : (s.map (cutV E')).length = s.length := List.length_map _
            have hB9 := HB6.out.trans ((HBR.out.trans (hbz.mono zb)).mono HB6.out.size)
            have hro2 := HRO.out E' (s.map (cutV E')) [] (by have := HMV.out; rw [HDE.out] at this; exact this.cut) (by omega) (by omega)
            have hrl2 := roll_ok hro2 HEV64.out E cE An cA B' cB VA vc none 0 wr (HE.out.belowMore hB9 hB9.size) (HA.out.belowMore hB9 hB9.size) (HT.out.belowMore hB9 hB9.size) hcl Lst.nil
            rw [hcn] at hrl2
            have HRO2 := Lib.hid hro2
            have m0 := (hbz.cell (p := ⟨gn, 0, none⟩) (cell_lt l0)).trans l0
            have m1 := (hbz.cell (p := ⟨gn, 1, none⟩) (cell_lt l1)).trans l1
            have m2 := (hbz.cell (p := ⟨gn, 2, none⟩) (cell_lt l2)).trans l2
            have HB9 := Lib.hid hB9
            have HBZ := Lib.hid hbz
            clear ho hcut0 hcl hcn hB9 hro2 hbz l0 l1 l2
            go_wp2_with fail
            refine hrl2.mono ?_
            rintro e w12 ⟨hb12, ⟨hc2, rfl⟩ | ⟨hc2, TB, tc2, Lu, rfl, hTr2, hp2, hsrt2⟩⟩
            · have h1 := cnt_cut (D := E') (s := s) (pf := pf) (show 1 ≤ T by omega) HRO1.out.ok
              have h2 := HC.out
              rw [HDE.out] at h2
              omega
            · have hP1 := HP.out
              have hR1 := HRO1.out
              rw [HDE.out] at hP1 hR1
              have HEQ := Lib.hid (rolled_eq (s' := s.map (cutV E')) (show 1 ≤ T by omega) hR1.ok (fun a ha => (hR1.time a ha).zero) (fun t => decide (t.day < (E' : Int))) hP1 hp2 (allT_cut (D := E') s) (sorted_p (HSR.out.imp fun h => by omega)) (sorted_p (hsrt2.imp fun h => by omega)))
              have HTU := Lib.hid hTr2.trs
              have HLT2 := Lib.hid ((HLT.out.below HBZ.out).below hb12)
              have HB12 := Lib.hid (HB9.out.trans (hb12.mono HB9.out.size))
              have HDQ := Lib.hid (show decide (Lu.map TripM.p = left.map TripM.p) = true by
                rw [HEQ.out, ← HLF.out, List.filter_map, decide_eq_true_eq]; rfl)
              clear hTr2 hp2 hsrt2 hb12 hrl2 hP1 hR1 m0 m1 m2
              go_wp2_with fail
              refine (awake_any _).mono ?_
              rintro e w10 ⟨rfl, hb10⟩
              have HB10 := Lib.hid (HB12.out.trans (hb10.mono HB12.out.size))
              have HS1 := Lib.hid (HTU.out.below hb10)
              have HS2 := Lib.hid (HLT2.out.below hb10)
              clear hb10
              go_wp2_with fail
              refine (sameTrips_any TB LA tc2 lc Lu left w10 HS1.out HS2.out).mono ?_
              rintro e w11 ⟨rfl, q, rfl⟩
              rw [HDQ.out]
              have HB11 := Lib.hid (HB.out.trans ((below_drewN HB10.out q).mono HB.out.size))
              go_wp2_with fail
              go_ret
              exact ⟨rfl, HB11.out⟩
end Go.Proofs.Ytaongejpbgjbiaa
