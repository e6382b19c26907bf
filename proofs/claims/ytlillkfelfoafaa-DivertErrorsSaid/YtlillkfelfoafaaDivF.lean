/-
  Contract of the reference's Meets.
-/
import Derived.Test.YtlillkfelfoafaaDivC
set_option linter.unusedVariables false
set_option linter.unusedSimpArgs false
namespace Go.Proofs.Ytlillkfelfoafaa
open Go.RowKit RP

def meetsIn (a b : List Occ) (x y : Int) : Bool := a.any fun c => b.any fun d => decide (c.1 = d.1) && touchB c d x y
set_option maxRecDepth 100000 in
set_option maxHeartbeats 16000000 in
theorem refMeets_any (SA : Option Addr) (sc : Nat) (st : List Ste) (OA : Option Addr) (oc : Nat) (os : List Occ) (x : Int) (SA' : Option Addr) (sc' : Nat) (st' : List Ste) (OA' : Option Addr) (oc' : Nat) (os' : List Occ) (y : Int) (w : World)
    (hs : Lst encSte 2 w w.heap.size SA st) (ho : Lst encO 3 w w.heap.size OA os) (hn : st.length ≤ 9223372036854775807) (hn' : os.length ≤ 9223372036854775807)
    (hs' : Lst encSte 2 w w.heap.size SA' st') (ho' : Lst encO 3 w w.heap.size OA' os') (hm : st'.length ≤ 9223372036854775807) (hm' : os'.length ≤ 9223372036854775807) :
    Calls Try.prog 19 #[.agg #[.slice SA st.length sc, .slice OA os.length oc], .int .i64 x, .agg #[.slice SA' st'.length sc', .slice OA' os'.length oc'], .int .i64 y] w fun e w' => e = .returned (.bool (meetB ⟨st, os⟩ x ⟨st', os'⟩ y)) ∧ Below w.heap.size w w' := by
  have b1 := belA w (.cells #[.slice SA st.length sc, .slice OA os.length oc] 28)
  have h1 := BxO.mk (heap_alloc_new w (.cells #[.slice SA st.length sc, .slice OA os.length oc] 28))
  have z1 : (w.alloc (.cells #[.slice SA st.length sc, .slice OA os.length oc] 28)).heap.size = w.heap.size + 1 := by simp
  have b2 := belA (w.alloc (.cells #[.slice SA st.length sc, .slice OA os.length oc] 28)) (.cells #[.slice SA' st'.length sc', .slice OA' os'.length oc'] 28)
  have h2 := BxO.mk (heap_alloc_new (w.alloc (.cells #[.slice SA st.length sc, .slice OA os.length oc] 28)) (.cells #[.slice SA' st'.length sc', .slice OA' os'.length oc'] 28))
  rw [z1] at h2
  have hB := b1.trans (b2.mono (by omega))
  have HBA := Lib.hid hB
  have HN1 := Lib.hid (h1.below b2 (by omega))
  have HN2 := Lib.hid h2
  have HS := Lib.hid (hs.belowMore hB hB.size)
  have HO := Lib.hid (ho.belowMore hB hB.size)
  have HS' := Lib.hid (hs'.belowMore hB hB.size)
  have HO' := Lib.hid (ho'.belowMore hB hB.size)
  clear hs ho hs' ho' b1 b2 h1 h2 z1 hB
  go_enter Try.func19, Try.ntmps19
  go_upto_region 1 with fail
  generalize (w.alloc (.cells #[.slice SA st.length sc, .slice OA os.length oc] 28)).alloc (.cells #[.slice SA' st'.length sc', .slice OA' os'.length oc'] 28) = w0 at *
  generalize hgz : w.heap.size = gz at *
  have HGZ := Lib.hid hgz
  clear hgz
  obtain ⟨n0, n1, hg1⟩ := HN1.out.cells
  obtain ⟨n2, n3, hg2⟩ := HN2.out.cells
  have hz0 : gz ≤ w0.heap.size := by omega
  have hva := rvalid_any SA sc st OA oc os w0 HS.out HO.out hn hn'
  have HVB := Lib.hid (fun V (b : Below w0.heap.size w0 V) => rvalid_any SA' sc' st' OA' oc' os' V (HS'.out.belowMore b b.size) (HO'.out.belowMore b b.size) hm hm')
  cases hv : validOp ⟨st, os⟩ with
  | false =>
    rw [hv] at hva
    have HQ := Lib.hid (show meetB ⟨st, os⟩ x ⟨st', os'⟩ y = false by unfold meetB; rw [hv]; rfl)
    clear hv
    go_wp2_with (first | (go_at_call 34; first | ((with_reducible refine hva.mono ?_); rintro e w1 ⟨rfl, hb1⟩; obtain ⟨m0, m1, mg⟩ := (HN1.out.below hb1 hg1).cells; obtain ⟨m2, m3, mg'⟩ := (HN2.out.below hb1 hg2).cells) | ((with_reducible refine (HVB.out _ hb1).mono ?_); rintro e w2 ⟨rfl, hb2⟩; replace hb1 := hb1.trans (hb2.mono hb1.size); obtain ⟨m0, m1, mg⟩ := (HN1.out.below hb1 hg1).cells; obtain ⟨m2, m3, mg'⟩ := (HN2.out.below hb1 hg2).cells)))
    go_ret
    exact ⟨ret_bool HQ.out.symm, by rw [HGZ.out]; exact HBA.out.trans (hb1.mono hz0)⟩
  | true =>
    rw [hv] at hva
    cases hv' : validOp ⟨st', os'⟩ with
    | false =>
      rw [hv'] at HVB
      have HQ := Lib.hid (show meetB ⟨st, os⟩ x ⟨st', os'⟩ y = false by unfold meetB; rw [hv, hv']; rfl)
      clear hv hv'
      go_wp2_with (first | (go_at_call 34; first | ((with_reducible refine hva.mono ?_); rintro e w1 ⟨rfl, hb1⟩; obtain ⟨m0, m1, mg⟩ := (HN1.out.below hb1 hg1).cells; obtain ⟨m2, m3, mg'⟩ := (HN2.out.below hb1 hg2).cells) | ((with_reducible refine (HVB.out _ hb1).mono ?_); rintro e w2 ⟨rfl, hb2⟩; replace hb1 := hb1.trans (hb2.mono hb1.size); obtain ⟨m0, m1, mg⟩ := (HN1.out.below hb1 hg1).cells; obtain ⟨m2, m3, mg'⟩ := (HN2.out.below hb1 hg2).cells)))
      go_ret
      exact ⟨ret_bool HQ.out.symm, by rw [HGZ.out]; exact HBA.out.trans (hb1.mono hz0)⟩
    | true =>
      rw [hv'] at HVB
      have HV := Lib.hid hv
      have HV' := Lib.hid hv'
      clear hv hv'
      by_cases q0 : x < 0
      · have HQ := Lib.hid (show meetB ⟨st, os⟩ x ⟨st', os'⟩ y = false by unfold meetB bigB; rw [decide_eq_false (show ¬ 0 ≤ x by omega)]; simp)
        go_wp2_with (first | (go_at_call 34; first | ((with_reducible refine hva.mono ?_); rintro e w1 ⟨rfl, hb1⟩; obtain ⟨m0, m1, mg⟩ := (HN1.out.below hb1 hg1).cells; obtain ⟨m2, m3, mg'⟩ := (HN2.out.below hb1 hg2).cells) | ((with_reducible refine (HVB.out _ hb1).mono ?_); rintro e w2 ⟨rfl, hb2⟩; replace hb1 := hb1.trans (hb2.mono hb1.size); obtain ⟨m0, m1, mg⟩ := (HN1.out.below hb1 hg1).cells; obtain ⟨m2, m3, mg'⟩ := (HN2.out.below hb1 hg2).cells)))
        go_ret
        exact ⟨ret_bool HQ.out.symm, by rw [HGZ.out]; exact HBA.out.trans (hb1.mono hz0)⟩
      · by_cases q1 : 1099511627776 < x
        · have HQ := Lib.hid (show meetB ⟨st, os⟩ x ⟨st', os'⟩ y = false by unfold meetB bigB; rw [decide_eq_false (show ¬ x ≤ 1099511627776 by omega)]; simp)
          go_wp2_with (first | (go_at_call 34; first | ((with_reducible refine hva.mono ?_); rintro e w1 ⟨rfl, hb1⟩; obtain ⟨m0, m1, mg⟩ := (HN1.out.below hb1 hg1).cells; obtain ⟨m2, m3, mg'⟩ := (HN2.out.below hb1 hg2).cells) | ((with_reducible refine (HVB.out _ hb1).mono ?_); rintro e w2 ⟨rfl, hb2⟩; replace hb1 := hb1.trans (hb2.mono hb1.size); obtain ⟨m0, m1, mg⟩ := (HN1.out.below hb1 hg1).cells; obtain ⟨m2, m3, mg'⟩ := (HN2.out.below hb1 hg2).cells)))
          go_ret
          exact ⟨ret_bool HQ.out.symm, by rw [HGZ.out]; exact HBA.out.trans (hb1.mono hz0)⟩
        · by_cases q2 : y < 0
          · have HQ := Lib.hid (show meetB ⟨st, os⟩ x ⟨st', os'⟩ y = false by unfold meetB; rw [show bigB y = false by unfold bigB; rw [decide_eq_false (show ¬ 0 ≤ y by omega)]; rfl]; simp)
            go_wp2_with (first | (go_at_call 34; first | ((with_reducible refine hva.mono ?_); rintro e w1 ⟨rfl, hb1⟩; obtain ⟨m0, m1, mg⟩ := (HN1.out.below hb1 hg1).cells; obtain ⟨m2, m3, mg'⟩ := (HN2.out.below hb1 hg2).cells) | ((with_reducible refine (HVB.out _ hb1).mono ?_); rintro e w2 ⟨rfl, hb2⟩; replace hb1 := hb1.trans (hb2.mono hb1.size); obtain ⟨m0, m1, mg⟩ := (HN1.out.below hb1 hg1).cells; obtain ⟨m2, m3, mg'⟩ := (HN2.out.below hb1 hg2).cells)))
            go_ret
            exact ⟨ret_bool HQ.out.symm, by rw [HGZ.out]; exact HBA.out.trans (hb1.mono hz0)⟩
          · by_cases q3 : 1099511627776 < y
            · have HQ := Lib.hid (show meetB ⟨st, os⟩ x ⟨st', os'⟩ y = false by unfold meetB; rw [show bigB y = false by unfold bigB; rw [decide_eq_false (show ¬ y ≤ 1099511627776 by omega)]; simp]; simp)
              go_wp2_with (first | (go_at_call 34; first | ((with_reducible refine hva.mono ?_); rintro e w1 ⟨rfl, hb1⟩; obtain ⟨m0, m1, mg⟩ := (HN1.out.below hb1 hg1).cells; obtain ⟨m2, m3, mg'⟩ := (HN2.out.below hb1 hg2).cells) | ((with_reducible refine (HVB.out _ hb1).mono ?_); rintro e w2 ⟨rfl, hb2⟩; replace hb1 := hb1.trans (hb2.mono hb1.size); obtain ⟨m0, m1, mg⟩ := (HN1.out.below hb1 hg1).cells; obtain ⟨m2, m3, mg'⟩ := (HN2.out.below hb1 hg2).cells)))
              go_ret
              exact ⟨ret_bool HQ.out.symm, by rw [HGZ.out]; exact HBA.out.trans (hb1.mono hz0)⟩
            · have HM := Lib.hid (show meetB ⟨st, os⟩ x ⟨st', os'⟩ y = meetsIn os os' x y by unfold meetB; rw [HV.out, HV'.out, bigB_iff.2 ⟨by omega, by omega⟩, bigB_iff.2 ⟨by omega, by omega⟩]; rfl)
              have HRG := Lib.hid (validO_lt (validOp_iff.1 HV.out).2.2.1)
              have HRG' := Lib.hid (validO_lt (validOp_iff.1 HV'.out).2.2.1)
              go_wp2_with (first | (go_at_call 34; first | ((with_reducible refine hva.mono ?_); rintro e w1 ⟨rfl, hb1⟩; obtain ⟨m0, m1, mg⟩ := (HN1.out.below hb1 hg1).cells; obtain ⟨m2, m3, mg'⟩ := (HN2.out.below hb1 hg2).cells) | ((with_reducible refine (HVB.out _ hb1).mono ?_); rintro e w2 ⟨rfl, hb2⟩; replace hb1 := hb1.trans (hb2.mono hb1.size); obtain ⟨m0, m1, mg⟩ := (HN1.out.below hb1 hg1).cells; obtain ⟨m2, m3, mg'⟩ := (HN2.out.below hb1 hg2).cells)))
              clear hva HVB n0 n1 n2 n3 m0 m1 mg m2 m3 mg'
              go_loopg [10, 12, 40] os.length (fun g s10 s12 s40 wr => ∃ k : Nat, k ≤ os.length ∧ g = os.length - k ∧ s40 = .int .i64 k ∧ meetsIn (os.take k) os' x y = false ∧ Below w0.heap.size w0 wr)
              case atStart => exact ⟨0, by omega, by omega, rfl, rfl, hb1⟩
              case round =>
                obtain ⟨k, hk, hg, rfl, ha, hb⟩ := hrel
                have HA := Lib.hid ha
                clear ha hb1
                by_cases hlt : k < os.length
                · obtain ⟨b, off, rfl, hbw, c0, c1, c2⟩ := (HO.out.belowMore hb hb.size).oc k hlt
                  have HYES := Lib.hid (fun (h : (os'.any fun d => decide (os[k].1 = d.1) && touchB os[k] d x y) = true) => show meetB ⟨st, os⟩ x ⟨st', os'⟩ y = true from HM.out.trans (any_yes (p := fun (c : Occ) => os'.any fun (d : Occ) => decide (c.1 = d.1) && touchB c d x y) hlt h))
                  have HNO := Lib.hid (fun (h : (os'.any fun d => decide (os[k].1 = d.1) && touchB os[k] d x y) = false) => show meetsIn (os.take (k + 1)) os' x y = false from any_take_snoc (p := fun (c : Occ) => os'.any fun (d : Occ) => decide (c.1 = d.1) && touchB c d x y) hlt HA.out h)
                  have hrg := HRG.out os[k] (List.getElem_mem hlt)
                  have ba := belA wr (.cells #[.int .i64 os[k].1, .int .i64 os[k].2.1, .int .i64 os[k].2.2] 46)
                  have hblk := heap_alloc_new wr (.cells #[.int .i64 os[k].1, .int .i64 os[k].2.1, .int .i64 os[k].2.2] 46)
                  generalize os[k] = c at *
                  obtain ⟨r, f, t⟩ := c
                  simp only at c0 c1 c2 ba hblk hrg HYES HNO
                  have hB := hb.trans (ba.mono hb.size)
                  have HB := Lib.hid hB
                  have HBK := Lib.hid hblk
                  have i0 : (0 : Int) ≤ (k : Int) := by omega
                  have i1 : (k : Int) < (os.length : Int) := by omega
                  have sw1 : IntKind.i64.wrap (x + f) = x + f := IntWalk.i64_in _ (by omega)
                  have sw2 : IntKind.i64.wrap (x + t) = x + t := IntWalk.i64_in _ (by omega)
                  have hgo : wr.heap.size < (wr.alloc (.cells #[.int .i64 r, .int .i64 f, .int .i64 t] 46)).heap.size := by simp
                  clear ba hblk hb
                  go_upto_region 6 with fail
                  generalize wr.alloc (.cells #[.int .i64 r, .int .i64 f, .int .i64 t] 46) = w3 at *
                  generalize wr.heap.size = go at *
                  obtain ⟨m2, m3, mg'⟩ := (HN2.out.below hB hg2).cells
                  clear hB
                  go_wp2_with fail
                  clear c0 c1 c2 m2 m3 mg'
                  go_loopg [12, 47] os'.length (fun g s12 s47 wr => ∃ i : Nat, i ≤ os'.length ∧ g = os'.length - i ∧ s47 = .int .i64 i ∧ (os'.take i).any (fun d => decide (r = d.1) && touchB (r, f, t) d x y) = false ∧ Below w3.heap.size w3 wr)
                  case atStart => exact ⟨0, by omega, by omega, rfl, rfl, Below.refl _ _⟩
                  case round =>
                    obtain ⟨i, hi, hg2, rfl, ha2, hb5⟩ := hrel
                    have HA2 := Lib.hid ha2
                    clear ha2
                    by_cases hlt2 : i < os'.length
                    · have hB5 := HB.out.trans (hb5.mono HB.out.size)
                      obtain ⟨b', off', rfl, hbw', d0, d1, d2⟩ := (HO'.out.belowMore hB5 hB5.size).oc i hlt2
                      have HYES2 := Lib.hid (fun (h : (decide (r = os'[i].1) && touchB (r, f, t) os'[i] x y) = true) => HYES.out (any_yes (p := fun d => decide (r = d.1) && touchB (r, f, t) d x y) hlt2 h))
                      have HNO2 := Lib.hid (fun (h : (decide (r = os'[i].1) && touchB (r, f, t) os'[i] x y) = false) => any_take_snoc (p := fun d => decide (r = d.1) && touchB (r, f, t) d x y) hlt2 HA2.out h)
                      have hrg' := HRG'.out os'[i] (List.getElem_mem hlt2)
                      have ba := belA wr (.cells #[.int .i64 os'[i].1, .int .i64 os'[i].2.1, .int .i64 os'[i].2.2] 46)
                      have hblk := heap_alloc_new wr (.cells #[.int .i64 os'[i].1, .int .i64 os'[i].2.1, .int .i64 os'[i].2.2] 46)
                      generalize os'[i] = d at *
                      obtain ⟨r', f', t'⟩ := d
                      simp only at d0 d1 d2 ba hblk hrg' HYES2 HNO2
                      have HB5 := Lib.hid (hb5.trans (ba.mono hb5.size))
                      have HBK5 := Lib.hid (((hb5.trans (ba.mono hb5.size)).block go hgo).trans HBK.out)
                      have HBK6 := Lib.hid hblk
                      have j0 : (0 : Int) ≤ (i : Int) := by omega
                      have j1 : (i : Int) < (os'.length : Int) := by omega
                      have sw3 : IntKind.i64.wrap (y + f') = y + f' := IntWalk.i64_in _ (by omega)
                      have sw4 : IntKind.i64.wrap (y + t') = y + t' := IntWalk.i64_in _ (by omega)
                      clear ba hblk hb5 hB5
                      go_upto_region 9 with fail
                      generalize wr.alloc (.cells #[.int .i64 r', .int .i64 f', .int .i64 t'] 46) = w5 at *
                      generalize wr.heap.size = gq at *
                      have o0 : w5.cell? ⟨go, 0, none⟩ = some (.int .i64 r) := by rw [cell_of_row w5 _ 0 _ _ _ HBK5.out]; rfl
                      have o1 : w5.cell? ⟨go, 1, none⟩ = some (.int .i64 f) := by rw [cell_of_row w5 _ 1 _ _ _ HBK5.out]; rfl
                      have o2 : w5.cell? ⟨go, 2, none⟩ = some (.int .i64 t) := by rw [cell_of_row w5 _ 2 _ _ _ HBK5.out]; rfl
                      have p0 : w5.cell? ⟨gq, 0, none⟩ = some (.int .i64 r') := by rw [cell_of_row w5 _ 0 _ _ _ HBK6.out]; rfl
                      have p1 : w5.cell? ⟨gq, 1, none⟩ = some (.int .i64 f') := by rw [cell_of_row w5 _ 1 _ _ _ HBK6.out]; rfl
                      have p2 : w5.cell? ⟨gq, 2, none⟩ = some (.int .i64 t') := by rw [cell_of_row w5 _ 2 _ _ _ HBK6.out]; rfl
                      by_cases e1 : r = r'
                      · by_cases e2 : x + f < y + t'
                        · by_cases e3 : y + f' < x + t
                          · have HY := Lib.hid (HYES2.out (show (decide (r = r') && touchB (r, f, t) (r', f', t') x y) = true by simp [touchB, e1, e2, e3]))
                            have k1 : (r == r') = true := by simpa using e1
                            clear e1
                            go_wp2_with fail
                            go_ret
                            exact ⟨ret_bool HY.out.symm, by rw [HGZ.out]; exact HBA.out.trans ((HB.out.trans (HB5.out.mono HB.out.size)).mono hz0)⟩
                          · have HF := Lib.hid (HNO2.out (show (decide (r = r') && touchB (r, f, t) (r', f', t') x y) = false by simp [touchB, e3]))
                            have k1 : (r == r') = true := by simpa using e1
                            clear e1
                            go_wp2_with fail
                            go_roundg (os'.length - (i + 1))
                            case measure => omega
                            case rel => exact ⟨i + 1, by omega, rfl, by go_num, HF.out, HB5.out⟩
                        · have HF := Lib.hid (HNO2.out (show (decide (r = r') && touchB (r, f, t) (r', f', t') x y) = false by simp [touchB, e2]))
                          have k1 : (r == r') = true := by simpa using e1
                          clear e1
                          go_wp2_with fail
                          go_roundg (os'.length - (i + 1))
                          case measure => omega
                          case rel => exact ⟨i + 1, by omega, rfl, by go_num, HF.out, HB5.out⟩
                      · have HF := Lib.hid (HNO2.out (show (decide (r = r') && touchB (r, f, t) (r', f', t') x y) = false by simp [e1]))
                        have k1 : (r == r') = false := by simpa using e1
                        clear e1
                        go_wp2_with fail
                        go_roundg (os'.length - (i + 1))
                        case measure => omega
                        case rel => exact ⟨i + 1, by omega, rfl, by go_num, HF.out, HB5.out⟩
                    · have ha := HA2.out
                      rw [List.take_of_length_le (by omega)] at ha
                      have HF := Lib.hid (HNO.out ha)
                      clear ha
                      go_wp2_with fail
                      go_roundg (os.length - (k + 1))
                      case measure => omega
                      case rel => exact ⟨k + 1, by omega, rfl, by go_num, HF.out, HB.out.trans (hb5.mono HB.out.size)⟩
                · have ha := HA.out
                  rw [List.take_of_length_le (by omega)] at ha
                  have HQ := Lib.hid (HM.out.trans ha)
                  clear ha
                  go_wp2_with fail
                  go_ret
                  exact ⟨ret_bool HQ.out.symm, by rw [HGZ.out]; exact HBA.out.trans (hb.mono hz0)⟩
end Go.Proofs.Ytlillkfelfoafaa
