/-
  Walk of DivertMade.
-/
import Derived.Test.YtlillkfelfoafaaDivC
import Derived.Test.YtlillkfelfoafaaDivEz
import Derived.Test.YtlillkfelfoafaaDivF
import Derived.Test.YtlillkfelfoafaaDivKj
set_option linter.unusedVariables false
set_option linter.unusedSimpArgs false
namespace Go.Proofs.Ytlillkfelfoafaa
open Go.RowKit RP

/-- What Check says of one made job. -/
theorem check_one {s : Int} (s0 : 0 ≤ s) (s1 : s < 70) {st st' : List Ste} {os os' : List Occ} (h : MadeOp 6 st os) (h' : MadeOp 6 st' os') : checkJ [⟨s, [⟨st, os⟩, ⟨st', os'⟩]⟩] = true :=
  checkJ_iff.2 ⟨by simp, fun j hj => by
    rw [List.mem_singleton.1 hj]
    refine okJob_iff.2 ⟨⟨s0, by show s ≤ 4194304; omega⟩, ⟨by show 1 ≤ 2; omega, by show 2 ≤ 8; omega⟩, fun o ho => ?_⟩
    rcases List.mem_cons.1 ho with rfl | ho
    · exact h.valid
    · rw [List.mem_singleton.1 ho]; exact h'.valid⟩
theorem check_none (s : Int) : checkJ [⟨s, []⟩] = false := by
  rw [← Bool.not_eq_true]
  intro h
  have := (okJob_iff.1 ((checkJ_iff.1 h).2 _ (List.mem_singleton.2 rfl))).2.1.1
  simp at this
theorem MadeC.r64 {l : List Clo} (h : MadeC l) : ∀ z ∈ l, R64 z.1 ∧ R64 z.2.1 ∧ R64 z.2.2 := fun z hz => by
  have := h.2 z hz
  unfold R64
  omega
theorem MadeOp.r64 {k : Nat} {st : List Ste} {os : List Occ} (h : MadeOp k st os) (hk : k ≤ 6) : ∀ z ∈ os, R64 z.1 := fun z hz => by
  have := h.oc z hz
  unfold R64
  omega
set_option maxRecDepth 100000 in
set_option maxHeartbeats 8000000 in
theorem walkDivertMade (A1 : Option Addr) (c1 : Nat) (l1 : List Int) (A2 : Option Addr) (c2 : Nat) (l2 : List Int) (A3 : Option Addr) (c3 : Nat) (l3 : List Int) (A4 : Option Addr) (c4 : Nat) (l4 : List Int) (x y : Int) (w : World)
    (h1 : ArgI w A1 c1 l1) (h2 : ArgI w A2 c2 l2) (h3 : ArgI w A3 c3 l3) (h4 : ArgI w A4 c4 l4) (hx : R64 x) (hy : R64 y) :
    Calls Try.prog 4 #[.slice A1 l1.length c1, .slice A2 l2.length c2, .slice A3 l3.length c3, .slice A4 l4.length c4, .int .i64 x, .int .i64 y] w fun e w' => e = .returned (.bool true) ∧ Below w.heap.size w w' := by
  have awk := awake26_any
  have s0 := pickI_range x 70 (by omega)
  have t0 := pickI_range y 70 (by omega)
  have hps := fun W => pick_any x 70 W (by omega) (by omega)
  have hpt := fun W => pick_any y 70 W (by omega) (by omega)
  generalize pickI x 70 = s at *
  generalize pickI y 70 = t at *
  go_enter Try.func4, Try.ntmps4
  go_wp2_with fail
  refine (keepOption_any A1 c1 l1 w h1).mono ?_
  rintro e w1 ⟨⟨st, os, ⟨sa, sn, sc⟩, ⟨oa, on, oc⟩⟩, rfl, ho1, hm1, hb1⟩
  have e1 : sn = st.length := own_len ho1.st
  have e2 : on = os.length := own_len ho1.oc
  subst e1 e2
  have HO1 := Lib.hid ho1.olst
  have HM1 := Lib.hid hm1
  clear ho1 hm1
  simp only [OptM.v, Sv.v]
  go_wp2_with fail
  refine (keepOption_any A2 c2 l2 w1 (h2.below hb1)).mono ?_
  rintro e w2 ⟨⟨st', os', ⟨ta, tn, tc⟩, ⟨pa, pn, pc⟩⟩, rfl, ho2, hm2, hb2⟩
  have e1 : tn = st'.length := own_len ho2.st
  have e2 : pn = os'.length := own_len ho2.oc
  subst e1 e2
  have HO2 := Lib.hid ho2.olst
  have HM2 := Lib.hid hm2
  have hb12 := hb1.trans (hb2.mono hb1.size)
  clear ho2 hm2
  simp only [OptM.v, Sv.v]
  go_wp2_with fail
  refine (closures_any A3 c3 l3 w2 (h3.below hb12)).mono ?_
  rintro e w3 ⟨v3, cl, rfl, hcl, hmc, hb3⟩
  obtain ⟨CA, cc, rfl⟩ := hcl.form
  have hb123 := hb12.trans (hb3.mono hb12.size)
  have HC := Lib.hid (Own.lst encO_len hcl)
  have HMC := Lib.hid hmc
  clear hcl hmc
  go_wp2_with fail
  refine (oneways_any A4 c4 l4 w3 (h4.below hb123)).mono ?_
  rintro e w4 ⟨v4, ow, rfl, how, hmw, hb4⟩
  obtain ⟨WA, wc, rfl⟩ := how.form
  have hbw := hb123.trans (hb4.mono hb123.size)
  have HW := Lib.hid (Own.lst encW_len how)
  have HMW := Lib.hid hmw
  have HB := Lib.hid hbw
  have HB2 := Lib.hid hb2
  have HB3 := Lib.hid hb3
  have HB4 := Lib.hid hb4
  clear how hmw hbw hb123 hb12 hb1 hb2 hb3 hb4 h1 h2 h3 h4
  go_upto_region 2 with fail
  have sz1 : ∀ (W : World) (o : Obj), (W.alloc o).heap.size = W.heap.size + 1 := fun W o => by simp
  obtain ⟨w5, hw5⟩ : ∃ V, V = (w4.alloc (.cells #[.slice sa st.length sc, .slice oa os.length oc] 28)).alloc (.cells #[.slice ta st'.length tc, .slice pa os'.length pc] 28) := ⟨_, rfl⟩
  have b45 : Below w4.heap.size w4 w5 := by rw [hw5]; exact ((Below.refl _ w4).alloc (Nat.le_refl _) _).alloc (by rw [sz1]; omega) _
  have n0 : w5.heap[w4.heap.size]? = some (.cells #[.slice sa st.length sc, .slice oa os.length oc] 28 (0, 0)) := by
    rw [hw5, Below.heap_alloc _ _ _ (by rw [sz1]; omega)]; exact heap_alloc_new w4 _
  have n1 : w5.heap[w4.heap.size + 1]? = some (.cells #[.slice ta st'.length tc, .slice pa os'.length pc] 28 (0, 0)) := by
    have := heap_alloc_new (w4.alloc (.cells #[.slice sa st.length sc, .slice oa os.length oc] 28)) (.cells #[.slice ta st'.length tc, .slice pa os'.length pc] 28)
    rw [sz1] at this; rw [hw5]; exact this
  have b5 := HB.out.trans (b45.mono HB.out.size)
  have b15 : Below w1.heap.size w1 w5 := ((HB2.out.trans (HB3.out.mono HB2.out.size)).trans (HB4.out.mono (HB2.out.trans (HB3.out.mono HB2.out.size)).size)).trans (b45.mono ((HB2.out.trans (HB3.out.mono HB2.out.size)).trans (HB4.out.mono (HB2.out.trans (HB3.out.mono HB2.out.size)).size)).size)
  have b25 : Below w2.heap.size w2 w5 := (HB3.out.trans (HB4.out.mono HB3.out.size)).trans (b45.mono (HB3.out.trans (HB4.out.mono HB3.out.size)).size)
  have b35 : Below w3.heap.size w3 w5 := HB4.out.trans (b45.mono HB4.out.size)
  have O1 := Lib.hid (HO1.out.belowMore b15 b15.size)
  have O2 := Lib.hid (HO2.out.belowMore b25 b25.size)
  have C1 := Lib.hid (HC.out.belowMore b35 b35.size)
  have W1 := Lib.hid (HW.out.belowMore b45 b45.size)
  have HB5 := Lib.hid b5
  have HWS := Lib.hid hw5
  have HZ5 := Lib.hid (show w4.heap.size + 1 < w5.heap.size by rw [hw5, sz1, sz1]; omega)
  clear hw5 sz1 b45 b5 b15 b25 b35 HO1 HO2 HC HW HB HB2 HB3 HB4
  rw [← HWS.out]
  clear HWS
  generalize hg1 : w4.heap.size + 1 = g1 at *
  generalize hgz : w4.heap.size = gz at *
  clear hg1 hgz
  have m0 : w5.cell? ⟨gz, 0, none⟩ = some (.slice sa st.length sc) := by rw [cell_of_row w5 _ 0 _ _ _ n0]; rfl
  have m1 : w5.cell? ⟨gz, 1, none⟩ = some (.slice oa os.length oc) := by rw [cell_of_row w5 _ 1 _ _ _ n0]; rfl
  have m2 : w5.cell? ⟨g1, 0, none⟩ = some (.slice ta st'.length tc) := by rw [cell_of_row w5 _ 0 _ _ _ n1]; rfl
  have m3 : w5.cell? ⟨g1, 1, none⟩ = some (.slice pa os'.length pc) := by rw [cell_of_row w5 _ 1 _ _ _ n1]; rfl
  clear n0 n1
  have hcn : cl.length * 24 ≤ 140737488355328 := by have := HMC.out.1; omega
  have hwn : ow.length ≤ 9223372036854775807 := by have := HMW.out.1; omega
  have HA1 := Lib.hid (fun V (b : Below w5.heap.size w5 V) => admits_any CA cc cl WA wc ow sa sc st oa oc os s V (C1.out.belowMore b b.size) hcn HMC.out.r64 (W1.out.belowMore b b.size) hwn (O1.out.st.belowMore b b.size) (O1.out.oc.belowMore b b.size) O1.out.sm O1.out.om (HM1.out.r64 (Nat.le_refl 6)))
  have HA2 := Lib.hid (fun V (b : Below w5.heap.size w5 V) => refAdmits_any CA cc cl WA wc ow sa sc st oa oc os s V (C1.out.belowMore b b.size) (by omega) (W1.out.belowMore b b.size) hwn (O1.out.st.belowMore b b.size) (O1.out.oc.belowMore b b.size) O1.out.sm O1.out.om)
  have HT1 := Lib.hid (fun V (b : Below w5.heap.size w5 V) => dMeets_any sa sc st oa oc os s ta tc st' pa pc os' t V (O1.out.st.belowMore b b.size) (O1.out.oc.belowMore b b.size) O1.out.sm O1.out.om (O2.out.st.belowMore b b.size) (O2.out.oc.belowMore b b.size) O2.out.sm O2.out.om)
  have HT2 := Lib.hid (fun V (b : Below w5.heap.size w5 V) => refMeets_any sa sc st oa oc os s ta tc st' pa pc os' t V (O1.out.st.belowMore b b.size) (O1.out.oc.belowMore b b.size) O1.out.sm O1.out.om (O2.out.st.belowMore b b.size) (O2.out.oc.belowMore b b.size) O2.out.sm O2.out.om)
  have HT3 := Lib.hid (fun V (b : Below w5.heap.size w5 V) => dMeets_any ta tc st' pa pc os' t sa sc st oa oc os s V (O2.out.st.belowMore b b.size) (O2.out.oc.belowMore b b.size) O2.out.sm O2.out.om (O1.out.st.belowMore b b.size) (O1.out.oc.belowMore b b.size) O1.out.sm O1.out.om)
  rw [meet_comm ⟨st', os'⟩] at HT3
  clear hcn hwn HMC HMW C1 W1
  generalize admitsB cl ow ⟨st, os⟩ s = b2 at *
  generalize meetB ⟨st, os⟩ s ⟨st', os'⟩ t = b3 at *
  go_wp2_with (first | (go_at_call 23; first | (with_reducible refine (hps _).mono ?_; rintro _ _ ⟨rfl, rfl⟩) | (with_reducible refine (hpt _).mono ?_; rintro _ _ ⟨rfl, rfl⟩)))
  have hB0 : Below w5.heap.size w5 w5.drew := (Below.refl _ _).drew
  go_cut [67] (fun s67 wx => s67 = .bool false ∧ Below w5.heap.size w5 wx)
  case first =>
    go_region_held3 (fun w' => w'.cell? ⟨gz, 0, none⟩ = some (.slice sa st.length sc) ∧ w'.cell? ⟨gz, 1, none⟩ = some (.slice oa os.length oc) ∧ w'.cell? ⟨g1, 0, none⟩ = some (.slice ta st'.length tc) ∧ w'.cell? ⟨g1, 1, none⟩ = some (.slice pa os'.length pc))
      (exact ⟨(hB0.cell (p := ⟨gz, 0, none⟩) (cell_lt m0)).trans m0, (hB0.cell (p := ⟨gz, 1, none⟩) (cell_lt m1)).trans m1, (hB0.cell (p := ⟨g1, 0, none⟩) (cell_lt m2)).trans m2, (hB0.cell (p := ⟨g1, 1, none⟩) (cell_lt m3)).trans m3⟩)
      (first
        | (go_at_call 16; (with_reducible refine (HA1.out _ hB0).mono ?_); rintro e w' ⟨rfl, hb'⟩; replace hB0 := hB0.trans (hb'.mono hB0.size))
        | (go_at_call 17; (with_reducible refine (HA2.out _ hB0).mono ?_); rintro e w' ⟨rfl, hb'⟩; replace hB0 := hB0.trans (hb'.mono hB0.size))
        | (go_at_call 18; (with_reducible refine (HT1.out _ hB0).mono ?_); rintro e w' ⟨rfl, hb'⟩; replace hB0 := hB0.trans (hb'.mono hB0.size))
        | (go_at_call 18; (with_reducible refine (HT3.out _ hB0).mono ?_); rintro e w' ⟨rfl, hb'⟩; replace hB0 := hB0.trans (hb'.mono hB0.size))
        | (go_at_call 19; (with_reducible refine (HT2.out _ hB0).mono ?_); rintro e w' ⟨rfl, hb'⟩; replace hB0 := hB0.trans (hb'.mono hB0.size)))
    all_goals
      go_wp2_with fail
      go_meet
      exact ⟨by simp, hB0⟩
  case rest =>
    obtain ⟨rfl, hbc⟩ := hcut
    obtain ⟨w6, rfl⟩ : ∃ W : World, W = wc := ⟨_, rfl⟩
    have q0 := (hbc.cell (p := ⟨gz, 0, none⟩) (cell_lt m0)).trans m0
    have q1 := (hbc.cell (p := ⟨gz, 1, none⟩) (cell_lt m1)).trans m1
    have q2 := (hbc.cell (p := ⟨g1, 0, none⟩) (cell_lt m2)).trans m2
    have q3 := (hbc.cell (p := ⟨g1, 1, none⟩) (cell_lt m3)).trans m3
    have HB6 := Lib.hid (HB5.out.trans (hbc.mono HB5.out.size))
    have HO1 := Lib.hid (O1.out.belowMore hbc hbc.size)
    have HO2 := Lib.hid (O2.out.belowMore hbc hbc.size)
    clear hbc hB0 m0 m1 m2 m3 O1 O2 HA1 HA2 HT1 HT2 HT3 HB5 HZ5
    go_wp2_with (first | (go_at_call 13; refine (awk _).mono ?_; rintro e w7 ⟨rfl, hb7⟩; replace q0 := (hb7.cell (p := ⟨gz, 0, none⟩) (cell_lt q0)).trans q0; replace q1 := (hb7.cell (p := ⟨gz, 1, none⟩) (cell_lt q1)).trans q1; replace q2 := (hb7.cell (p := ⟨g1, 0, none⟩) (cell_lt q2)).trans q2; replace q3 := (hb7.cell (p := ⟨g1, 1, none⟩) (cell_lt q3)).trans q3))
    obtain ⟨W7, rfl⟩ : ∃ W : World, W = w7 := ⟨_, rfl⟩
    have sz1 : ∀ (W : World) (o : Obj), (W.alloc o).heap.size = W.heap.size + 1 := fun W o => by simp
    have h0 := Own.lit W7 28 W7.heap.size #[.slice sa st.length sc, .slice oa os.length oc, .slice ta st'.length tc, .slice pa os'.length pc] [(⟨st, os, ⟨sa, st.length, sc⟩, ⟨oa, os.length, oc⟩⟩ : OptM), ⟨st', os', ⟨ta, st'.length, tc⟩, ⟨pa, os'.length, pc⟩⟩] 2 rfl encOp_len rfl (Nat.le_refl _) (by simp [Go.maxLen])
    have h1 := Own.lit (W7.alloc (.cells #[.slice sa st.length sc, .slice oa os.length oc, .slice ta st'.length tc, .slice pa os'.length pc] 28)) 41 W7.heap.size #[.int .i64 s, .slice (some ⟨W7.heap.size, 0, none⟩) 2 2] [(⟨s, [⟨st, os, ⟨sa, st.length, sc⟩, ⟨oa, os.length, oc⟩⟩, ⟨st', os', ⟨ta, st'.length, tc⟩, ⟨pa, os'.length, pc⟩⟩], ⟨some ⟨W7.heap.size, 0, none⟩, 2, 2⟩⟩ : JobM)] 1 rfl encJb_len rfl (by rw [sz1]; omega) (by simp [Go.maxLen])
    rw [sz1] at h1
    have k0 := h0.alloc (.cells #[.int .i64 s, .slice (some ⟨W7.heap.size, 0, none⟩) 2 2] 41)
    have b79 : Below W7.heap.size W7 ((W7.alloc (.cells #[.slice sa st.length sc, .slice oa os.length oc, .slice ta st'.length tc, .slice pa os'.length pc] 28)).alloc (.cells #[.int .i64 s, .slice (some ⟨W7.heap.size, 0, none⟩) 2 2] 41)) := ((Below.refl _ W7).alloc (Nat.le_refl _) _).alloc (by rw [sz1]; omega) _
    have HB9 := Lib.hid (HB6.out.trans ((hb7.trans (b79.mono hb7.size)).mono HB6.out.size))
    have o1 := (HO1.out.belowMore hb7 hb7.size).belowMore b79 b79.size
    have o2 := (HO2.out.belowMore hb7 hb7.size).belowMore b79 b79.size
    have z79 := b79.size
    generalize (W7.alloc (.cells #[.slice sa st.length sc, .slice oa os.length oc, .slice ta st'.length tc, .slice pa os'.length pc] 28)).alloc (.cells #[.int .i64 s, .slice (some ⟨W7.heap.size, 0, none⟩) 2 2] 41) = w9 at *
    have hjb : Jbs w9 w9.heap.size (some ⟨W7.heap.size + 1, 0, none⟩) [(⟨s, [⟨st, os, ⟨sa, st.length, sc⟩, ⟨oa, os.length, oc⟩⟩, ⟨st', os', ⟨ta, st'.length, tc⟩, ⟨pa, os'.length, pc⟩⟩], ⟨some ⟨W7.heap.size, 0, none⟩, 2, 2⟩⟩ : JobM)] :=
      ⟨Own.lst encJb_len h1, fun j hj => by
        rw [List.mem_singleton] at hj; subst hj
        exact ⟨rfl, Own.lst encOp_len k0, fun o ho => by
          rcases List.mem_cons.1 ho with rfl | ho
          · exact o1
          · rw [List.mem_singleton] at ho; subst ho; exact o2, by simp⟩, by simp⟩
    have hck := dcheck_any (some ⟨W7.heap.size + 1, 0, none⟩) 1 _ w9 hjb
    rw [show checkJ (List.map JobM.p [(⟨s, [⟨st, os, ⟨sa, st.length, sc⟩, ⟨oa, os.length, oc⟩⟩, ⟨st', os', ⟨ta, st'.length, tc⟩, ⟨pa, os'.length, pc⟩⟩], ⟨some ⟨W7.heap.size, 0, none⟩, 2, 2⟩⟩ : JobM)]) = true from check_one s0.1 s0.2 HM1.out HM2.out] at hck
    refine hck.mono ?_
    rintro e w10 ⟨rfl, hb10⟩
    have HB10 := Lib.hid (HB9.out.trans (hb10.mono HB9.out.size))
    have h2 := Own.lit w10 41 w10.heap.size #[.int .i64 s, .slice none 0 0] [(⟨s, [], ⟨none, 0, 0⟩⟩ : JobM)] 1 rfl encJb_len rfl (Nat.le_refl _) (by simp [Go.maxLen])
    clear h0 h1 k0 b79 hb7 hb10 o1 o2 z79 q0 q1 q2 q3 hck hjb sz1 HB9
    go_wp2_with fail
    have hj2 : Jbs (w10.alloc (.cells #[.int .i64 s, .slice none 0 0] 41)) (w10.alloc (.cells #[.int .i64 s, .slice none 0 0] 41)).heap.size (some ⟨w10.heap.size, 0, none⟩) [(⟨s, [], ⟨none, 0, 0⟩⟩ : JobM)] :=
      ⟨Own.lst encJb_len h2, fun j hj => by
        rw [List.mem_singleton] at hj; subst hj
        exact ⟨rfl, Lst.nil, fun o ho => by simp at ho, by simp⟩, by simp⟩
    have hck := dcheck_any (some ⟨w10.heap.size, 0, none⟩) 1 _ _ hj2
    rw [show checkJ (List.map JobM.p [(⟨s, [], ⟨none, 0, 0⟩⟩ : JobM)]) = false from check_none s] at hck
    refine hck.mono ?_
    rintro e w11 ⟨rfl, hb11⟩
    have ba := belA w10 (.cells #[.int .i64 s, .slice none 0 0] 41)
    have HB11 := Lib.hid (HB10.out.trans ((ba.trans (hb11.mono ba.size)).mono HB10.out.size))
    clear ba hb11 hj2 h2 hck
    go_wp2_with fail
    go_ret
    exact ⟨rfl, HB11.out⟩
end Go.Proofs.Ytlillkfelfoafaa
