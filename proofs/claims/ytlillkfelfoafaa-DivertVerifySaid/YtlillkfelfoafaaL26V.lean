/-
  Walk of DivertVerify.
-/
import Derived.Test.YtlillkfelfoafaaDivPl
import Derived.Test.YtlillkfelfoafaaDivRv
import Derived.StillTailTactics
set_option linter.unusedVariables false
set_option linter.unusedSimpArgs false
namespace Go.Proofs.Ytlillkfelfoafaa
open Go.RowKit Go.Shelf RP

/-- The made jobs and choices that were changed, in memory. -/
structure VfS (w w' : World) (JA : Option Addr) (L : List JobM) (CA : Option Addr) (cl : List Clo) (WA : Option Addr) (ow : List OWy) (KA : Option Addr) (n kc : Nat) (ch : List Cho) : Prop where
  md : MdS w w' JA L CA cl WA ow
  own : ∃ b, w.heap.size ≤ b ∧ Own encK 2 55 w' b (.slice KA n kc) ch
theorem VfS.more {w w1 w2 : World} {JA CA WA KA : Option Addr} {L : List JobM} {cl : List Clo} {ow : List OWy} {n kc : Nat} {ch : List Cho} (h : VfS w w1 JA L CA cl WA ow KA n kc ch) (hb : Below w1.heap.size w1 w2) : VfS w w2 JA L CA cl WA ow KA n kc ch := by
  obtain ⟨b, h1, h2⟩ := h.own
  exact ⟨h.md.more hb, b, h1, h2.below' hb⟩
theorem VfS.ver {w w1 : World} {JA CA WA KA : Option Addr} {L : List JobM} {cl : List Clo} {ow : List OWy} {n kc : Nat} {ch : List Cho} (h : VfS w w1 JA L CA cl WA ow KA n kc ch) (jc cc wc : Nat) :
    Calls Try.prog 29 #[.slice JA L.length jc, .slice CA cl.length cc, .slice WA ow.length wc, .slice KA n kc] w1 (fun e w' => e = .returned (.bool (verB (L.map JobM.p) cl ow ch)) ∧ Below w1.heap.size w1 w') ∧
    Calls Try.prog 30 #[.slice JA L.length jc, .slice CA cl.length cc, .slice WA ow.length wc, .slice KA n kc] w1 (fun e w' => e = .returned (.bool (verB (L.map JobM.p) cl ow ch)) ∧ Below w1.heap.size w1 w') := by
  obtain ⟨b, _, ho⟩ := h.own
  obtain ⟨A', c', hv⟩ := ho.form
  injection hv with _ hn _
  subst hn
  have hs := h.md.small
  have hcap := own_caps ho
  exact ⟨dVerify_any JA jc L CA cc cl WA wc ow KA kc ch w1 h.md.jobs h.md.cls h.md.ows (Own.lst encK_len ho) h.md.mj.res (by omega) (madeC_r64 h.md.mc) (by omega) hcap,
    rVerify_any JA jc L CA cc cl WA wc ow KA kc ch w1 h.md.jobs h.md.cls h.md.ows (Own.lst encK_len ho) (by omega) (by omega) hcap⟩
theorem MdS.raw {w w1 : World} {JA CA WA : Option Addr} {L : List JobM} {cl : List Clo} {ow : List OWy} (h : MdS w w1 JA L CA cl WA ow) {RA : Option Addr} {rc : Nat} {raw : List Cho} (hr : ArgK w RA rc raw) (jc cc wc : Nat) :
    Calls Try.prog 29 #[.slice JA L.length jc, .slice CA cl.length cc, .slice WA ow.length wc, .slice RA raw.length rc] w1 (fun e w' => e = .returned (.bool (verB (L.map JobM.p) cl ow raw)) ∧ Below w1.heap.size w1 w') ∧
    Calls Try.prog 30 #[.slice JA L.length jc, .slice CA cl.length cc, .slice WA ow.length wc, .slice RA raw.length rc] w1 (fun e w' => e = .returned (.bool (verB (L.map JobM.p) cl ow raw)) ∧ Below w1.heap.size w1 w') := by
  have hs := h.small
  have hk := hr.lst.belowMore h.bel h.bel.size
  exact ⟨dVerify_any JA jc L CA cc cl WA wc ow RA rc raw w1 h.jobs h.cls h.ows hk h.mj.res (by omega) (madeC_r64 h.mc) (by omega) ⟨hr.cap, hr.cap63⟩,
    rVerify_any JA jc L CA cc cl WA wc ow RA rc raw w1 h.jobs h.cls h.ows hk (by omega) (by omega) ⟨hr.cap, hr.cap63⟩⟩
set_option maxRecDepth 100000 in
set_option maxHeartbeats 8000000 in
theorem walkDivertVerify (A1 : Option Addr) (c1 : Nat) (l1 : List Int) (A2 : Option Addr) (c2 : Nat) (l2 : List Int) (A3 : Option Addr) (c3 : Nat) (l3 : List Int) (RA : Option Addr) (rc : Nat) (raw : List Cho) (at_ v : Int) (w : World)
    (h1 : ArgI w A1 c1 l1) (h2 : ArgI w A2 c2 l2) (h3 : ArgI w A3 c3 l3) (hr : ArgK w RA rc raw) (hx : R64 at_) (hy : R64 v) :
    Calls Try.prog 10 #[.slice A1 l1.length c1, .slice A2 l2.length c2, .slice A3 l3.length c3, .slice RA raw.length rc, .int .i64 at_, .int .i64 v] w fun e w' => e = .returned (.bool true) ∧ Below w.heap.size w w' := by
  have HR := Lib.hid hr
  clear hr
  have hp2 := fun W => pick_any v 2 W (by omega) (by omega)
  have t0 := pickI_range v 2 (by omega)
  have hpa := Lib.hid (fun (z n : Int) (h1 : 1 ≤ n) (h2 : n ≤ 4294967296) W => pick_any z n W h1 h2)
  generalize pickI v 2 = tv at *
  go_enter Try.func10, Try.ntmps10
  go_wp2_with fail
  refine (jobs_any A1 c1 l1 w h1).mono ?_
  rintro e w1 ⟨JA, jc, L, rfl, hown, hjo, hmj, hb1⟩
  go_wp2_with fail
  refine (closures_any A2 c2 l2 w1 (h2.below hb1)).mono ?_
  rintro e w2 ⟨v2, cl, rfl, hcl, hmc, hb2⟩
  obtain ⟨CA, cc, rfl⟩ := hcl.form
  have hb12 := hb1.trans (hb2.mono hb1.size)
  go_wp2_with fail
  refine (oneways_any A3 c3 l3 w2 (h3.below hb12)).mono ?_
  rintro e w3 ⟨v3, ow, rfl, how, hmw, hb3⟩
  obtain ⟨WA, wc, rfl⟩ := how.form
  have HM := Lib.hid (mds_of hown hjo hmj hb1 hcl hmc hb2 how hmw hb3)
  clear hown hjo hmj hb1 hcl hmc hb2 how hmw hb3 hb12 h1 h2 h3
  go_wp2_with fail
  refine (HM.out.rplan jc cc wc 40 1048576).mono ?_
  rintro e w4 ⟨ch, pn, err, KA, kc, rfl, hpi, hko, hb4⟩
  obtain ⟨rfl, ord, hord, hch⟩ := made_plan HM.out.mj (by omega) (by omega) hpi
  have hlen : ch.length = L.length := by rw [hch, planF_len, List.length_map]
  have hs := HM.out.small
  have hc13 : 1 ≤ ch.length ∧ ch.length ≤ 3 := by omega
  have HB34 := Lib.hid hb4
  have hko' := hko.rebase HM.out.bel.size
  obtain ⟨gq, kc', hKA, hgq, _, _, _, _⟩ := hko.at_ encK_len (by intro h0; rw [h0] at hc13; simp at hc13)
  injection hKA with hK1 _ hK3
  subst hK1 hK3
  have HKO := Lib.hid hko'
  clear hpi hord hch hko hb4 hko' hs hlen
  have p0 := pickI_range at_ (ch.length : Int) (by omega)
  have hpn := fun W => hpa.out at_ (ch.length : Int) (by omega) (by omega) W
  generalize pickI at_ (ch.length : Int) = pi at *
  obtain ⟨p, rfl⟩ : ∃ p : Nat, pi = p := ⟨pi.toNat, by omega⟩
  obtain ⟨x0, y0, hxy⟩ : ∃ x y, ch.getD p (0, 0) = (x, y) := ⟨_, _, rfl⟩
  have hpl : p < ch.length := by omega
  obtain ⟨q0, q1, f0, f1⟩ := own_cellsK HKO.out p hpl hxy
  have HVF := Lib.hid (fun (W : World) (l : List Cho) (ho : Own encK 2 55 W w.heap.size (.slice (some ⟨gq, 0, none⟩) ch.length kc) l) (hg : w4.grownBy W (some gq)) => VfS.mk (HM.out.more (HB34.out.grown hg HB34.out.size (fun q e => by injection e with e; omega))) ⟨w.heap.size, Nat.le_refl _, ho⟩)
  have HS1 := Lib.hid (fun (z : Int) => Own.stored (enc := encK) (k := 2) (fun _ => rfl) HKO.out p 1 (.int .i64 z) (ch[p].1, z) hpl (by omega) rfl)
  have HS0 := Lib.hid (fun (z : Int) => Own.stored (enc := encK) (k := 2) (fun _ => rfl) HKO.out p 0 (.int .i64 z) (z, ch[p].2) hpl (by omega) rfl)
  have i0 : (0 : Int) ≤ (p : Int) := by omega
  have i1 : (p : Int) < (ch.length : Int) := by omega
  clear hxy
  by_cases hz : tv = 0
  · subst hz
    go_upto_region 5 with (go_at_call 23; first | (with_reducible refine (hpn _).mono ?_; rintro _ _ ⟨rfl, rfl⟩) | (with_reducible refine (hp2 _).mono ?_; rintro _ _ ⟨rfl, rfl⟩))
    refine wp_region_still_tail 11 (by kernel_rfl) (by kernel_rfl) ?_
    simp only [List.take_succ_cons, List.take_zero, List.drop_succ_cons, List.drop_zero]
    have q0' : { w4 with drawn := w4.drawn + 1 }.cell? ⟨gq, p * 2, none⟩ = some (.int .i64 x0) := q0
    have q1' : { w4 with drawn := w4.drawn + 1 }.cell? ⟨gq, p * 2 + 1, none⟩ = some (.int .i64 y0) := q1
    have f0' : { w4 with drawn := w4.drawn + 1 }.frozen? ⟨gq, p * 2, none⟩ = false := f0
    have f1' : { w4 with drawn := w4.drawn + 1 }.frozen? ⟨gq, p * 2 + 1, none⟩ = false := f1
    still_step
    still_step
    still_step
    still_step
    still_step
    still_step
    still_call ((hpa.out _ 30 (by omega) (by omega) _).mono fun _ _ ⟨a, b⟩ => ⟨a, b.symm⟩)
    still_step
    still_step
    still_step
    still_step
    refine wpStill_nil ?_
    have HD : Hid (∀ z : Int, VfS w (({ w4 with drawn := w4.drawn + 1 } : World).setCell ⟨gq, p * 2 + 1, none⟩ (.int .i64 z)) JA L CA cl WA ow (some ⟨gq, 0, none⟩) ch.length kc (ch.set p (ch[p].1, z))) := fun z => HVF.out _ _ ⟨(HS1.out z).1.1, (HS1.out z).1.2⟩ ⟨(HS1.out z).2.os, (HS1.out z).2.tape, (HS1.out z).2.output, (HS1.out z).2.size, (HS1.out z).2.block⟩
    generalize { w4 with drawn := w4.drawn + 1 } = W4 at *
    go_wp2_with fail
    have hv := HD.out (wrap64 (y0 + wrap64 (pickI (wrap64 (v.tdiv 2)) 30 - 10)))
    generalize wrap64 (y0 + wrap64 (pickI (wrap64 (v.tdiv 2)) 30 - 10)) = zz at *
    generalize W4.setCell ⟨gq, p * 2 + 1, none⟩ (.int .i64 zz) = W5 at *
    generalize ch.set p (ch[p].1, zz) = ch5 at *
    clear q0' q1' f0' f1' HD
    have HV := Lib.hid hv
    clear hv
    go_wp2_with fail
    refine (awake26_any _).mono ?_
    rintro e w6 ⟨rfl, hb6⟩
    have HV6 := Lib.hid (HV.out.more hb6)
    clear hb6
    go_wp2_with fail
    refine (HV6.out.ver jc cc wc).1.mono ?_
    rintro e w7 ⟨rfl, hb7⟩
    have HV7 := Lib.hid (HV6.out.more hb7)
    clear hb7
    go_wp2_with fail
    refine (HV7.out.ver jc cc wc).2.mono ?_
    rintro e w8 ⟨rfl, hb8⟩
    have HV8 := Lib.hid (HV7.out.more hb8)
    clear hb8
    go_wp2_with fail
    refine (HV8.out.md.raw HR.out jc cc wc).1.mono ?_
    rintro e w9 ⟨rfl, hb9⟩
    have HV9 := Lib.hid (HV8.out.more hb9)
    clear hb9
    go_wp2_with fail
    refine (HV9.out.md.raw HR.out jc cc wc).2.mono ?_
    rintro e w10 ⟨rfl, hb10⟩
    have HV10 := Lib.hid (HV9.out.more hb10)
    clear hb10
    go_wp2_with fail
    go_ret
    exact ⟨ret_bool (by simp), HV10.out.md.bel⟩
  · have hz2 : (tv == 0) = false := by simpa using hz
    go_wp2_with (go_at_call 23; first | (with_reducible refine (hpn _).mono ?_; rintro _ _ ⟨rfl, rfl⟩) | (with_reducible refine (hp2 _).mono ?_; rintro _ _ ⟨rfl, rfl⟩) | (refine (hpa.out _ 4 (by omega) (by omega) _).mono ?_; rintro _ _ ⟨rfl, rfl⟩))
    generalize wrap64 (pickI (wrap64 (v.tdiv 2)) 4 - 1) = zz at *
    have hv := HVF.out _ _ (by have h := (HS0.out zz).1; rw [Nat.add_zero] at h; exact h) (by have h := (HS0.out zz).2; rw [Nat.add_zero] at h; exact h)
    generalize w4.setCell ⟨gq, p * 2, none⟩ (.int .i64 zz) = W5 at *
    generalize ch.set p (zz, ch[p].2) = ch5 at *
    clear q0 q1 f0 f1
    have HV := Lib.hid hv
    clear hv
    go_wp2_with fail
    refine (awake26_any _).mono ?_
    rintro e w6 ⟨rfl, hb6⟩
    have HV6 := Lib.hid (HV.out.more hb6)
    clear hb6
    go_wp2_with fail
    refine (HV6.out.ver jc cc wc).1.mono ?_
    rintro e w7 ⟨rfl, hb7⟩
    have HV7 := Lib.hid (HV6.out.more hb7)
    clear hb7
    go_wp2_with fail
    refine (HV7.out.ver jc cc wc).2.mono ?_
    rintro e w8 ⟨rfl, hb8⟩
    have HV8 := Lib.hid (HV7.out.more hb8)
    clear hb8
    go_wp2_with fail
    refine (HV8.out.md.raw HR.out jc cc wc).1.mono ?_
    rintro e w9 ⟨rfl, hb9⟩
    have HV9 := Lib.hid (HV8.out.more hb9)
    clear hb9
    go_wp2_with fail
    refine (HV9.out.md.raw HR.out jc cc wc).2.mono ?_
    rintro e w10 ⟨rfl, hb10⟩
    have HV10 := Lib.hid (HV9.out.more hb10)
    clear hb10
    go_wp2_with fail
    go_ret
    exact ⟨ret_bool (by simp), HV10.out.md.bel⟩
end Go.Proofs.Ytlillkfelfoafaa
