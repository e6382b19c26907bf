/-
  Contracts of divert's opposes and Admits, and of the reference's against and Admits.
  Contract of divert's Admits.
  Contracts of the reference's against, Admits and Meets.
-/
import Derived.Test.YtlillkfelfoafaaDivA
import Derived.Test.YtlillkfelfoafaaCloS
set_option linter.unusedVariables false
set_option linter.unusedSimpArgs false
namespace Go.Proofs.Ytlillkfelfoafaa
open Go.RowKit RP

def oppS (ws wd : Int) (s : Ste) : Bool := decide (s.1 = ws) && decide (s.2 ≠ wd)
/-- A block of a one-way rule that is only read. -/
structure BxW (w : World) (g : Nat) (x : OWy) : Prop where
  h : w.heap[g]? = some (.cells #[.int .i64 x.1, .int .i64 x.2.1, .int .i64 x.2.2.1, .int .i64 x.2.2.2] 70 (0, 0))
theorem BxW.below {w w' : World} {g B : Nat} {x : OWy} (h : BxW w g x) (hb : Below B w w') (hg : g < B) : BxW w' g x := ⟨(hb.block g hg).trans h.h⟩
theorem BxW.cells {w : World} {g : Nat} {x : OWy} (h : BxW w g x) : w.cell? ⟨g, 0, none⟩ = some (.int .i64 x.1) ∧ w.cell? ⟨g, 1, none⟩ = some (.int .i64 x.2.1) ∧ w.cell? ⟨g, 2, none⟩ = some (.int .i64 x.2.2.1) ∧ w.cell? ⟨g, 3, none⟩ = some (.int .i64 x.2.2.2) ∧ g < w.heap.size :=
  ⟨by rw [cell_of_row w _ 0 _ _ _ h.h]; rfl, by rw [cell_of_row w _ 1 _ _ _ h.h]; rfl, by rw [cell_of_row w _ 2 _ _ _ h.h]; rfl, by rw [cell_of_row w _ 3 _ _ _ h.h]; rfl, (Array.getElem?_eq_some_iff.1 h.h).1⟩

set_option maxRecDepth 100000 in
set_option maxHeartbeats 4000000 in
theorem opp_any (SA : Option Addr) (sc : Nat) (st : List Ste) (OA : Option Addr) (on oc : Nat) (ws wd wf wt : Int) (w : World) (hs : Lst encSte 2 w w.heap.size SA st) (hn : st.length ≤ 9223372036854775807) :
    Calls Try.prog 36 #[.agg #[.slice SA st.length sc, .slice OA on oc], .agg #[.int .i64 ws, .int .i64 wd, .int .i64 wf, .int .i64 wt]] w fun e w' => e = .returned (.bool (st.any (oppS ws wd))) ∧ Below w.heap.size w w' := by
  have b1 := belA w (.cells #[.slice SA st.length sc, .slice OA on oc] 28)
  have h1 := BxO.mk (heap_alloc_new w (.cells #[.slice SA st.length sc, .slice OA on oc] 28))
  have z1 : (w.alloc (.cells #[.slice SA st.length sc, .slice OA on oc] 28)).heap.size = w.heap.size + 1 := by simp
  have b2 := belA (w.alloc (.cells #[.slice SA st.length sc, .slice OA on oc] 28)) (.cells #[.int .i64 ws, .int .i64 wd, .int .i64 wf, .int .i64 wt] 70)
  have h2 := BxW.mk (x := (ws, wd, wf, wt)) (heap_alloc_new (w.alloc (.cells #[.slice SA st.length sc, .slice OA on oc] 28)) (.cells #[.int .i64 ws, .int .i64 wd, .int .i64 wf, .int .i64 wt] 70))
  rw [z1] at h2
  have HB := Lib.hid (b1.trans (b2.mono (by omega)))
  have HN1 := Lib.hid (h1.below b2 (by omega))
  have HN2 := Lib.hid h2
  have HS := Lib.hid (hs.belowMore (b1.trans (b2.mono (by omega))) (b1.trans (b2.mono (by omega))).size)
  clear hs b1 b2 h1 h2 z1
  go_enter Try.func36, Try.ntmps36
  go_upto_region 1 with fail
  generalize (w.alloc (.cells #[.slice SA st.length sc, .slice OA on oc] 28)).alloc (.cells #[.int .i64 ws, .int .i64 wd, .int .i64 wf, .int .i64 wt] 70) = w0 at *
  generalize hgz : w.heap.size = gz at *
  have HGZ := Lib.hid hgz
  clear hgz
  obtain ⟨n0, n1, ng⟩ := HN1.out.cells
  have hz0 : gz ≤ w0.heap.size := by have := HB.out.size; have := HGZ.out; omega
  go_wp2_with fail
  go_loopg [6, 10] st.length (fun g s6 s10 wr => ∃ k : Nat, k ≤ st.length ∧ g = st.length - k ∧ s10 = .int .i64 k ∧ (st.take k).any (oppS ws wd) = false ∧ Below w0.heap.size w0 wr)
  case atStart => exact ⟨0, by omega, by omega, rfl, rfl, Below.refl _ _⟩
  case round =>
    obtain ⟨k, hk, hg, rfl, ha, hb⟩ := hrel
    have HA := Lib.hid ha
    clear ha
    by_cases hlt : k < st.length
    · obtain ⟨b, off, rfl, hbw, c0, c1⟩ := (HS.out.belowMore hb hb.size).ste k hlt
      have HYES := Lib.hid (fun h => any_yes (p := oppS ws wd) hlt h)
      have HNO := Lib.hid (fun h => any_take_snoc (p := oppS ws wd) hlt HA.out h)
      obtain ⟨p0, p1, p2, p3, pg⟩ := (HN2.out.below hb HN2.out.cells.2.2.2.2).cells
      simp only at p0 p1 p2 p3
      have p0' := al24' (x := .cells #[.int .i64 st[k].1, .int .i64 st[k].2] 94) p0
      have p1' := al24' (x := .cells #[.int .i64 st[k].1, .int .i64 st[k].2] 94) p1
      generalize st[k] = x at *
      obtain ⟨a, d⟩ := x
      have HB1 := Lib.hid (hb.alloc hb.size (.cells #[.int .i64 a, .int .i64 d] 94))
      clear p0 p1 p2 p3 pg
      by_cases q1 : a = ws
      · by_cases q2 : d = wd
        · have HF := Lib.hid (HNO.out (show oppS ws wd (a, d) = false by simp [oppS, q2]))
          have e1 : (a == ws) = true := by simpa using q1
          have e2 : (d != wd) = false := by simpa using q2
          clear q1 q2
          go_wp2_with fail
          go_roundg (st.length - (k + 1))
          case measure => omega
          case rel => exact ⟨k + 1, by omega, rfl, by go_num, HF.out, HB1.out⟩
        · have HY := Lib.hid (HYES.out (show oppS ws wd (a, d) = true by simp [oppS, q1, q2]))
          have e1 : (a == ws) = true := by simpa using q1
          have e2 : (d != wd) = true := by simpa using q2
          clear q1 q2
          go_wp2_with fail
          go_ret
          exact ⟨ret_bool HY.out.symm, by rw [HGZ.out]; exact HB.out.trans (HB1.out.mono hz0)⟩
      · have HF := Lib.hid (HNO.out (show oppS ws wd (a, d) = false by simp [oppS, q1]))
        have e1 : (a == ws) = false := by simpa using q1
        clear q1
        go_wp2_with fail
        go_roundg (st.length - (k + 1))
        case measure => omega
        case rel => exact ⟨k + 1, by omega, rfl, by go_num, HF.out, HB1.out⟩
    · have ha := HA.out
      rw [List.take_of_length_le (by omega)] at ha
      have HQ := Lib.hid ha
      clear ha
      go_wp2_with fail
      go_ret
      exact ⟨ret_bool HQ.out.symm, by rw [HGZ.out]; exact HB.out.trans (hb.mono hz0)⟩
end Go.Proofs.Ytlillkfelfoafaa

namespace Go.Proofs.Ytlillkfelfoafaa
open Go.RowKit RP

set_option maxRecDepth 100000 in
set_option maxHeartbeats 8000000 in
theorem admits_any (CA : Option Addr) (cc : Nat) (cl : List Clo) (WA : Option Addr) (wc : Nat) (ow : List OWy) (SA : Option Addr) (sc : Nat) (st : List Ste) (OA : Option Addr) (oc : Nat) (os : List Occ) (s : Int) (w : World)
    (hc : Lst encO 3 w w.heap.size CA cl) (hcn : cl.length * 24 ≤ 140737488355328) (hcr : ∀ x ∈ cl, R64 x.1 ∧ R64 x.2.1 ∧ R64 x.2.2) (hw : Lst encW 4 w w.heap.size WA ow) (hwn : ow.length ≤ 9223372036854775807)
    (hs : Lst encSte 2 w w.heap.size SA st) (ho : Lst encO 3 w w.heap.size OA os) (hn : st.length ≤ 9223372036854775807) (hn' : os.length ≤ 9223372036854775807) (hor : ∀ x ∈ os, R64 x.1) :
    Calls Try.prog 16 #[.slice CA cl.length cc, .slice WA ow.length wc, .agg #[.slice SA st.length sc, .slice OA os.length oc], .int .i64 s] w fun e w' => e = .returned (.bool (admitsB cl ow ⟨st, os⟩ s)) ∧ Below w.heap.size w w' := by
  have ba := belA w (.cells #[.slice SA st.length sc, .slice OA os.length oc] 28)
  have hnw := heap_alloc_new w (.cells #[.slice SA st.length sc, .slice OA os.length oc] 28)
  have hg0 : w.heap.size < (w.alloc (.cells #[.slice SA st.length sc, .slice OA os.length oc] 28)).heap.size := by simp
  have HS := Lib.hid (hs.belowMore ba ba.size)
  have HO := Lib.hid (ho.belowMore ba ba.size)
  have HC := Lib.hid (hc.belowMore ba ba.size)
  have HW := Lib.hid (hw.belowMore ba ba.size)
  have HBA := Lib.hid ba
  have HN := Lib.hid (BxO.mk hnw)
  clear hs ho hc hw ba hnw
  go_enter Try.func16, Try.ntmps16
  go_upto_region 1 with fail
  generalize w.alloc (.cells #[.slice SA st.length sc, .slice OA os.length oc] 28) = w0 at *
  generalize hgz : w.heap.size = gz at *
  have HGZ := Lib.hid hgz
  clear hgz
  obtain ⟨n0, n1, ng⟩ := HN.out.cells
  have hva := dvalid_any SA sc st OA oc os w0 HS.out HO.out hn hn'
  have HEN := Lib.hid (fun V (b : Below w0.heap.size w0 V) => enters_any CA OA cc oc cl os s V (HC.out.belowMore b b.size) (HO.out.belowMore b b.size) hcn hn' hcr hor)
  cases hv : validOp ⟨st, os⟩ with
  | false =>
    rw [hv] at hva
    have HQ := Lib.hid (show admitsB cl ow ⟨st, os⟩ s = false by unfold admitsB; rw [hv]; rfl)
    clear hv
    go_wp2_with (first | (go_at_call 33; refine hva.mono ?_; rintro e w1 ⟨rfl, hb1⟩; obtain ⟨m0, m1, mg⟩ := (HN.out.below hb1 hg0).cells) | (go_at_call 35; refine (HEN.out _ hb1).mono ?_; rintro e w2 ⟨rfl, hb2⟩; replace hb1 := hb1.trans (hb2.mono hb1.size)))
    go_ret
    exact ⟨ret_bool HQ.out.symm, by rw [HGZ.out]; exact HBA.out.trans (hb1.mono (Nat.le_of_lt hg0))⟩
  | true =>
    rw [hv] at hva
    have HV := Lib.hid hv
    clear hv
    by_cases q0 : s < 0
    · have HQ := Lib.hid (show admitsB cl ow ⟨st, os⟩ s = false by unfold admitsB bigB; rw [HV.out, decide_eq_false (show ¬ 0 ≤ s by omega)]; rfl)
      go_wp2_with (first | (go_at_call 33; refine hva.mono ?_; rintro e w1 ⟨rfl, hb1⟩; obtain ⟨m0, m1, mg⟩ := (HN.out.below hb1 hg0).cells) | (go_at_call 35; refine (HEN.out _ hb1).mono ?_; rintro e w2 ⟨rfl, hb2⟩; replace hb1 := hb1.trans (hb2.mono hb1.size)))
      go_ret
      exact ⟨ret_bool HQ.out.symm, by rw [HGZ.out]; exact HBA.out.trans (hb1.mono (Nat.le_of_lt hg0))⟩
    · by_cases q1 : 1099511627776 < s
      · have HQ := Lib.hid (show admitsB cl ow ⟨st, os⟩ s = false by unfold admitsB bigB; rw [HV.out, decide_eq_false (show ¬ s ≤ 1099511627776 by omega)]; simp)
        go_wp2_with (first | (go_at_call 33; refine hva.mono ?_; rintro e w1 ⟨rfl, hb1⟩; obtain ⟨m0, m1, mg⟩ := (HN.out.below hb1 hg0).cells) | (go_at_call 35; refine (HEN.out _ hb1).mono ?_; rintro e w2 ⟨rfl, hb2⟩; replace hb1 := hb1.trans (hb2.mono hb1.size)))
        go_ret
        exact ⟨ret_bool HQ.out.symm, by rw [HGZ.out]; exact HBA.out.trans (hb1.mono (Nat.le_of_lt hg0))⟩
      · have HBG := Lib.hid (show bigB s = true from bigB_iff.2 ⟨by omega, by omega⟩)
        cases he : entersC cl os s with
        | false =>
          rw [he] at HEN
          have HQ := Lib.hid (show admitsB cl ow ⟨st, os⟩ s = false by unfold admitsB; rw [HV.out, HBG.out, he]; rfl)
          clear he
          go_wp2_with (first | (go_at_call 33; refine hva.mono ?_; rintro e w1 ⟨rfl, hb1⟩; obtain ⟨m0, m1, mg⟩ := (HN.out.below hb1 hg0).cells) | (go_at_call 35; refine (HEN.out _ hb1).mono ?_; rintro e w2 ⟨rfl, hb2⟩; replace hb1 := hb1.trans (hb2.mono hb1.size)))
          go_ret
          exact ⟨ret_bool HQ.out.symm, by rw [HGZ.out]; exact HBA.out.trans (hb1.mono (Nat.le_of_lt hg0))⟩
        | true =>
          rw [he] at HEN
          have HE := Lib.hid (show ∀ b, agB ow ⟨st, os⟩ s = b → admitsB cl ow ⟨st, os⟩ s = !b from fun b hb => by unfold admitsB; rw [HV.out, HBG.out, he, hb]; rfl)
          clear he
          go_wp2_with (first | (go_at_call 33; refine hva.mono ?_; rintro e w1 ⟨rfl, hb1⟩; obtain ⟨m0, m1, mg⟩ := (HN.out.below hb1 hg0).cells) | (go_at_call 35; refine (HEN.out _ hb1).mono ?_; rintro e w2 ⟨rfl, hb2⟩; replace hb1 := hb1.trans (hb2.mono hb1.size)))
          clear hva HEN n0 n1 m0 m1 mg
          have HRG := Lib.hid (validO_lt (validOp_iff.1 HV.out).2.2.1)
          go_loopg [10, 12, 34] ow.length (fun g s10 s12 s34 wr => ∃ k : Nat, k ≤ ow.length ∧ g = ow.length - k ∧ s34 = .int .i64 k ∧ agB (ow.take k) ⟨st, os⟩ s = false ∧ Below w0.heap.size w0 wr)
          case atStart => exact ⟨0, by omega, by omega, rfl, rfl, hb1⟩
          case round =>
            obtain ⟨k, hk, hg, rfl, ha, hb⟩ := hrel
            have HA := Lib.hid ha
            clear ha hb1
            by_cases hlt : k < ow.length
            · obtain ⟨b, off, rfl, hbw, a0, a1, a2, a3⟩ := (HW.out.belowMore hb hb.size).owy k hlt
              have HYES := Lib.hid (fun (h : (oppB ⟨st, os⟩ ow[k] && os.any fun c => inW c ow[k] s) = true) => show agB ow ⟨st, os⟩ s = true from any_yes (p := fun w => oppB ⟨st, os⟩ w && os.any fun c => inW c w s) hlt h)
              have HNO := Lib.hid (fun (h : (oppB ⟨st, os⟩ ow[k] && os.any fun c => inW c ow[k] s) = false) => show agB (ow.take (k + 1)) ⟨st, os⟩ s = false from any_take_snoc (p := fun w => oppB ⟨st, os⟩ w && os.any fun c => inW c w s) hlt HA.out h)
              have ba := belA wr (.cells #[.int .i64 ow[k].1, .int .i64 ow[k].2.1, .int .i64 ow[k].2.2.1, .int .i64 ow[k].2.2.2] 70)
              have hbx := BxW.mk (x := ow[k]) (heap_alloc_new wr (.cells #[.int .i64 ow[k].1, .int .i64 ow[k].2.1, .int .i64 ow[k].2.2.1, .int .i64 ow[k].2.2.2] 70))
              generalize ow[k] = x at *
              obtain ⟨ws, wd, wf, wt⟩ := x
              simp only at a0 a1 a2 a3 ba hbx HYES HNO
              have HBX := Lib.hid hbx
              have hB := hb.trans (ba.mono hb.size)
              have HB := Lib.hid hB
              have hop := opp_any SA sc st OA os.length oc ws wd wf wt _ (HS.out.belowMore hB hB.size) hn
              have hgl : wr.heap.size < (wr.alloc (.cells #[.int .i64 ws, .int .i64 wd, .int .i64 wf, .int .i64 wt] 70)).heap.size := by simp
              have i0 : (0 : Int) ≤ (k : Int) := by omega
              have i1 : (k : Int) < (ow.length : Int) := by omega
              clear hbx hB ba hb
              go_upto_region 6 with fail
              generalize wr.alloc (.cells #[.int .i64 ws, .int .i64 wd, .int .i64 wf, .int .i64 wt] 70) = w3 at *
              generalize wr.heap.size = gw at *
              obtain ⟨p0, p1, p2, p3, pg⟩ := HBX.out.cells
              obtain ⟨m0, m1, mg⟩ := (HN.out.below HB.out hg0).cells
              simp only at p0 p1 p2 p3
              cases hop2 : st.any (oppS ws wd) with
              | false =>
                rw [hop2] at hop
                have HF := Lib.hid (HNO.out (by show (st.any (oppS ws wd) && _) = false; rw [hop2]; rfl))
                clear hop2
                go_wp2_with (go_at_call 36; refine hop.mono ?_; rintro e w4 ⟨rfl, hb4⟩)
                go_roundg (ow.length - (k + 1))
                case measure => omega
                case rel => exact ⟨k + 1, by omega, rfl, by go_num, HF.out, HB.out.trans (hb4.mono HB.out.size)⟩
              | true =>
                rw [hop2] at hop
                have HOP := Lib.hid hop2
                clear hop2
                go_wp2_with (go_at_call 36; refine hop.mono ?_; rintro e w4 ⟨rfl, hb4⟩; have hB4 := HB.out.trans (hb4.mono HB.out.size); obtain ⟨l0, l1, lg⟩ := (HN.out.below hB4 hg0).cells)
                clear m0 m1 mg p0 p1 p2 p3 hop l0 l1 lg
                have HB4 := Lib.hid hB4
                have HX4 := Lib.hid (HBX.out.below hb4 pg)
                have pg4 := HX4.out.cells.2.2.2.2
                clear hB4 hb4 a0 a1 a2 a3 i0 i1
                go_loopg [12, 45] os.length (fun g s12 s45 wr => ∃ i : Nat, i ≤ os.length ∧ g = os.length - i ∧ s45 = .int .i64 i ∧ (os.take i).any (fun c => inW c (ws, wd, wf, wt) s) = false ∧ Below w4.heap.size w4 wr)
                case atStart => exact ⟨0, by omega, by omega, rfl, rfl, Below.refl _ _⟩
                case round =>
                  obtain ⟨i, hi, hg2, rfl, ha2, hb5⟩ := hrel
                  have HA2 := Lib.hid ha2
                  clear ha2
                  by_cases hlt2 : i < os.length
                  · have hB5 := HB4.out.trans (hb5.mono HB4.out.size)
                    obtain ⟨b', off', rfl, hbw', c0, c1, c2⟩ := (HO.out.belowMore hB5 hB5.size).oc i hlt2
                    have HYES2 := Lib.hid (fun (h : inW os[i] (ws, wd, wf, wt) s = true) => HE.out true (HYES.out (by
                      show (st.any (oppS ws wd) && os.any fun c => inW c (ws, wd, wf, wt) s) = true
                      rw [HOP.out, any_yes (p := fun c => inW c (ws, wd, wf, wt) s) hlt2 h]; rfl)))
                    have HNO2 := Lib.hid (fun h => any_take_snoc (p := fun c => inW c (ws, wd, wf, wt) s) hlt2 HA2.out h)
                    have hrg := HRG.out os[i] (List.getElem_mem hlt2)
                    have ba := belA wr (.cells #[.int .i64 os[i].1, .int .i64 os[i].2.1, .int .i64 os[i].2.2] 46)
                    have hblk := heap_alloc_new wr (.cells #[.int .i64 os[i].1, .int .i64 os[i].2.1, .int .i64 os[i].2.2] 46)
                    generalize os[i] = y at *
                    obtain ⟨r, f, t⟩ := y
                    simp only at c0 c1 c2 ba hblk hrg
                    have HB5 := Lib.hid (hb5.trans (ba.mono hb5.size))
                    have HBK := Lib.hid hblk
                    have HX5 := Lib.hid (HX4.out.below (hb5.trans (ba.mono hb5.size)) pg4)
                    have i0 : (0 : Int) ≤ (i : Int) := by omega
                    have i1 : (i : Int) < (os.length : Int) := by omega
                    have sw : IntKind.i64.wrap (s + f) = s + f := IntWalk.i64_in _ (by omega)
                    clear ba hblk hb5 hB5
                    go_upto_region 10 with fail
                    generalize wr.alloc (.cells #[.int .i64 r, .int .i64 f, .int .i64 t] 46) = w5 at *
                    generalize wr.heap.size = go at *
                    obtain ⟨p0, p1, p2, p3, pg⟩ := HX5.out.cells
                    simp only at p0 p1 p2 p3
                    have o0 : w5.cell? ⟨go, 0, none⟩ = some (.int .i64 r) := by rw [cell_of_row w5 _ 0 _ _ _ HBK.out]; rfl
                    have o1 : w5.cell? ⟨go, 1, none⟩ = some (.int .i64 f) := by rw [cell_of_row w5 _ 1 _ _ _ HBK.out]; rfl
                    by_cases e1 : r = ws
                    · by_cases e2 : wf ≤ s + f
                      · by_cases e3 : s + f < wt
                        · have HY := Lib.hid (HYES2.out (show inW (r, f, t) (ws, wd, wf, wt) s = true by simp [inW, e1, e2, e3]))
                          have d1 : (r == ws) = true := by simpa using e1
                          clear e1
                          go_wp2_with fail
                          go_ret
                          exact ⟨ret_bool HY.out.symm, by rw [HGZ.out]; exact HBA.out.trans ((HB4.out.trans (HB5.out.mono HB4.out.size)).mono (Nat.le_of_lt hg0))⟩
                        · have HF := Lib.hid (HNO2.out (show inW (r, f, t) (ws, wd, wf, wt) s = false by simp [inW, e3]))
                          have d1 : (r == ws) = true := by simpa using e1
                          clear e1
                          go_wp2_with fail
                          go_roundg (os.length - (i + 1))
                          case measure => omega
                          case rel => exact ⟨i + 1, by omega, rfl, by go_num, HF.out, HB5.out⟩
                      · have HF := Lib.hid (HNO2.out (show inW (r, f, t) (ws, wd, wf, wt) s = false by simp [inW, e2]))
                        have d1 : (r == ws) = true := by simpa using e1
                        clear e1
                        go_wp2_with fail
                        go_roundg (os.length - (i + 1))
                        case measure => omega
                        case rel => exact ⟨i + 1, by omega, rfl, by go_num, HF.out, HB5.out⟩
                    · have HF := Lib.hid (HNO2.out (show inW (r, f, t) (ws, wd, wf, wt) s = false by simp [inW, e1]))
                      have d1 : (r == ws) = false := by simpa using e1
                      clear e1
                      go_wp2_with fail
                      go_roundg (os.length - (i + 1))
                      case measure => omega
                      case rel => exact ⟨i + 1, by omega, rfl, by go_num, HF.out, HB5.out⟩
                  · have ha := HA2.out
                    rw [List.take_of_length_le (by omega)] at ha
                    have HF := Lib.hid (HNO.out (by show (_ && os.any fun c => inW c (ws, wd, wf, wt) s) = false; rw [ha, Bool.and_false]))
                    clear ha
                    go_wp2_with fail
                    go_roundg (ow.length - (k + 1))
                    case measure => omega
                    case rel => exact ⟨k + 1, by omega, rfl, by go_num, HF.out, HB4.out.trans (hb5.mono HB4.out.size)⟩
            · have ha := HA.out
              rw [List.take_of_length_le (by omega)] at ha
              have HQ := Lib.hid (HE.out false ha)
              clear ha
              go_wp2_with fail
              go_ret
              exact ⟨ret_bool HQ.out.symm, by rw [HGZ.out]; exact HBA.out.trans (hb.mono (Nat.le_of_lt hg0))⟩
end Go.Proofs.Ytlillkfelfoafaa

namespace Go.Proofs.Ytlillkfelfoafaa
open Go.RowKit RP

theorem ag_swap (ow : List OWy) (o : OptP) (s : Int) : (o.occs.any fun c => ow.any fun w => inW c w s && oppB o w) = agB ow o s := by
  unfold agB
  rw [any_swap]
  congr 1
  funext w
  cases oppB o w <;> simp
set_option maxRecDepth 100000 in
set_option maxHeartbeats 8000000 in
theorem against_any (WA : Option Addr) (wc : Nat) (ow : List OWy) (SA : Option Addr) (sc : Nat) (st : List Ste) (OA : Option Addr) (oc : Nat) (os : List Occ) (s : Int) (w : World)
    (hw : Lst encW 4 w w.heap.size WA ow) (hwn : ow.length ≤ 9223372036854775807)
    (hs : Lst encSte 2 w w.heap.size SA st) (ho : Lst encO 3 w w.heap.size OA os) (hn : st.length ≤ 9223372036854775807) (hn' : os.length ≤ 9223372036854775807) (hor : ∀ x ∈ os, -65536 ≤ x.2.1 ∧ x.2.1 ≤ 65536) (s0 : 0 ≤ s) (s1 : s ≤ 1099511627776) :
    Calls Try.prog 38 #[.slice WA ow.length wc, .agg #[.slice SA st.length sc, .slice OA os.length oc], .int .i64 s] w fun e w' => e = .returned (.bool (agB ow ⟨st, os⟩ s)) ∧ Below w.heap.size w w' := by
  have ba := belA w (.cells #[.slice SA st.length sc, .slice OA os.length oc] 28)
  have hnw := heap_alloc_new w (.cells #[.slice SA st.length sc, .slice OA os.length oc] 28)
  have hg0 : w.heap.size < (w.alloc (.cells #[.slice SA st.length sc, .slice OA os.length oc] 28)).heap.size := by simp
  have HS := Lib.hid (hs.belowMore ba ba.size)
  have HO := Lib.hid (ho.belowMore ba ba.size)
  have HW := Lib.hid (hw.belowMore ba ba.size)
  have HBA := Lib.hid ba
  have HN := Lib.hid (BxO.mk hnw)
  have HSW := Lib.hid (ag_swap ow ⟨st, os⟩ s)
  have HRG := Lib.hid hor
  clear hs ho hw ba hnw hor
  go_enter Try.func38, Try.ntmps38
  go_upto_region 1 with fail
  generalize w.alloc (.cells #[.slice SA st.length sc, .slice OA os.length oc] 28) = w0 at *
  generalize hgz : w.heap.size = gz at *
  have HGZ := Lib.hid hgz
  clear hgz
  obtain ⟨n0, n1, ng⟩ := HN.out.cells
  go_wp2_with fail
  go_loopg [8, 10, 12, 16] os.length (fun g s8 s10 s12 s16 wr => ∃ k : Nat, k ≤ os.length ∧ g = os.length - k ∧ s16 = .int .i64 k ∧ (os.take k).any (fun c => ow.any fun w => inW c w s && oppB ⟨st, os⟩ w) = false ∧ Below w0.heap.size w0 wr)
  case atStart => exact ⟨0, by omega, by omega, rfl, rfl, Below.refl _ _⟩
  case round =>
    obtain ⟨k, hk, hg, rfl, ha, hb⟩ := hrel
    have HA := Lib.hid ha
    clear ha
    by_cases hlt : k < os.length
    · obtain ⟨b, off, rfl, hbw, c0, c1, c2⟩ := (HO.out.belowMore hb hb.size).oc k hlt
      have HYES := Lib.hid (fun (h : (ow.any fun w => inW os[k] w s && oppB ⟨st, os⟩ w) = true) => show agB ow ⟨st, os⟩ s = true from HSW.out.symm.trans (any_yes (p := fun c => ow.any fun w => inW c w s && oppB ⟨st, os⟩ w) hlt h))
      have HNO := Lib.hid (fun (h : (ow.any fun w => inW os[k] w s && oppB ⟨st, os⟩ w) = false) => any_take_snoc (p := fun c => ow.any fun w => inW c w s && oppB ⟨st, os⟩ w) hlt HA.out h)
      have hrg := HRG.out os[k] (List.getElem_mem hlt)
      have ba := belA wr (.cells #[.int .i64 os[k].1, .int .i64 os[k].2.1, .int .i64 os[k].2.2] 46)
      have hblk := heap_alloc_new wr (.cells #[.int .i64 os[k].1, .int .i64 os[k].2.1, .int .i64 os[k].2.2] 46)
      generalize os[k] = y at *
      obtain ⟨r, f, t⟩ := y
      simp only at c0 c1 c2 ba hblk hrg HYES HNO
      have HB := Lib.hid (hb.trans (ba.mono hb.size))
      have HBK := Lib.hid hblk
      have i0 : (0 : Int) ≤ (k : Int) := by omega
      have i1 : (k : Int) < (os.length : Int) := by omega
      have sw : IntKind.i64.wrap (s + f) = s + f := IntWalk.i64_in _ (by omega)
      have hgo : wr.heap.size < (wr.alloc (.cells #[.int .i64 r, .int .i64 f, .int .i64 t] 46)).heap.size := by simp
      clear ba hblk hb
      go_upto_region 4 with fail
      generalize wr.alloc (.cells #[.int .i64 r, .int .i64 f, .int .i64 t] 46) = w3 at *
      generalize wr.heap.size = go at *
      go_wp2_with fail
      clear c0 c1 c2
      go_loopg [10, 12, 22] ow.length (fun g s10 s12 s22 wr => ∃ i : Nat, i ≤ ow.length ∧ g = ow.length - i ∧ s22 = .int .i64 i ∧ (ow.take i).any (fun w => inW (r, f, t) w s && oppB ⟨st, os⟩ w) = false ∧ Below w3.heap.size w3 wr)
      case atStart => exact ⟨0, by omega, by omega, rfl, rfl, Below.refl _ _⟩
      case round =>
        obtain ⟨i, hi, hg2, rfl, ha2, hb5⟩ := hrel
        have HA2 := Lib.hid ha2
        clear ha2
        by_cases hlt2 : i < ow.length
        · have hB5 := HB.out.trans (hb5.mono HB.out.size)
          obtain ⟨b', off', rfl, hbw', a0, a1, a2, a3⟩ := (HW.out.belowMore hB5 hB5.size).owy i hlt2
          have HYES2 := Lib.hid (fun (h : (inW (r, f, t) ow[i] s && oppB ⟨st, os⟩ ow[i]) = true) => HYES.out (any_yes (p := fun w => inW (r, f, t) w s && oppB ⟨st, os⟩ w) hlt2 h))
          have HNO2 := Lib.hid (fun h => any_take_snoc (p := fun w => inW (r, f, t) w s && oppB ⟨st, os⟩ w) hlt2 HA2.out h)
          have ba := belA wr (.cells #[.int .i64 ow[i].1, .int .i64 ow[i].2.1, .int .i64 ow[i].2.2.1, .int .i64 ow[i].2.2.2] 70)
          have hbx := BxW.mk (x := ow[i]) (heap_alloc_new wr (.cells #[.int .i64 ow[i].1, .int .i64 ow[i].2.1, .int .i64 ow[i].2.2.1, .int .i64 ow[i].2.2.2] 70))
          generalize ow[i] = x at *
          obtain ⟨ws, wd, wf, wt⟩ := x
          simp only at a0 a1 a2 a3 ba hbx
          have HBX := Lib.hid hbx
          have HB5 := Lib.hid (hb5.trans (ba.mono hb5.size))
          have HBK5 := Lib.hid (((hb5.trans (ba.mono hb5.size)).block go hgo).trans HBK.out)
          have j0 : (0 : Int) ≤ (i : Int) := by omega
          have j1 : (i : Int) < (ow.length : Int) := by omega
          have hgl : wr.heap.size < (wr.alloc (.cells #[.int .i64 ws, .int .i64 wd, .int .i64 wf, .int .i64 wt] 70)).heap.size := by simp
          clear hbx ba hb5 hB5
          go_upto_region 7 with fail
          generalize wr.alloc (.cells #[.int .i64 ws, .int .i64 wd, .int .i64 wf, .int .i64 wt] 70) = w5 at *
          generalize wr.heap.size = gw at *
          obtain ⟨p0, p1, p2, p3, pg⟩ := HBX.out.cells
          have hBn := HB.out.trans (HB5.out.mono HB.out.size)
          obtain ⟨m0, m1, mg⟩ := (HN.out.below hBn hg0).cells
          have HBn := Lib.hid hBn
          clear hBn
          simp only at p0 p1 p2 p3
          have o0 : w5.cell? ⟨go, 0, none⟩ = some (.int .i64 r) := by rw [cell_of_row w5 _ 0 _ _ _ HBK5.out]; rfl
          have o1 : w5.cell? ⟨go, 1, none⟩ = some (.int .i64 f) := by rw [cell_of_row w5 _ 1 _ _ _ HBK5.out]; rfl
          by_cases e1 : r = ws
          · by_cases e2 : wf ≤ s + f
            · by_cases e3 : s + f < wt
              · have HIN := Lib.hid (show inW (r, f, t) (ws, wd, wf, wt) s = true by simp [inW, e1, e2, e3])
                have d1 : (ws != r) = false := by simp [e1]
                clear e1
                go_wp2_with fail
                clear p2 p3 a0 a1 a2 a3 o0 o1
                go_loopg [12, 52] st.length (fun g s12 s52 wr => ∃ j : Nat, j ≤ st.length ∧ g = st.length - j ∧ s52 = .int .i64 j ∧ (st.take j).any (oppS ws wd) = false ∧ Below w5.heap.size w5 wr)
                case atStart => exact ⟨0, by omega, by omega, rfl, rfl, Below.refl _ _⟩
                case round =>
                  obtain ⟨j, hj, hg3, rfl, ha3, hb6⟩ := hrel
                  have HA3 := Lib.hid ha3
                  clear ha3
                  by_cases hlt3 : j < st.length
                  · have hB6 := HBn.out.trans (hb6.mono HBn.out.size)
                    obtain ⟨b6, off6, rfl, hbw6, t0, t1⟩ := (HS.out.belowMore hB6 hB6.size).ste j hlt3
                    have HYES3 := Lib.hid (fun (h : oppS ws wd st[j] = true) => HYES2.out (by
                      rw [HIN.out]
                      show (true && st.any (oppS ws wd)) = true
                      rw [any_yes (p := oppS ws wd) hlt3 h]; rfl))
                    have HNO3 := Lib.hid (fun h => any_take_snoc (p := oppS ws wd) hlt3 HA3.out h)
                    have u0 := al24' (x := .cells #[.int .i64 st[j].1, .int .i64 st[j].2] 94) ((hb6.cell (p := ⟨gw, 0, none⟩) pg).trans p0)
                    have u1 := al24' (x := .cells #[.int .i64 st[j].1, .int .i64 st[j].2] 94) ((hb6.cell (p := ⟨gw, 1, none⟩) pg).trans p1)
                    generalize st[j] = z at *
                    obtain ⟨za, zd⟩ := z
                    have HB7 := Lib.hid (hb6.alloc hb6.size (.cells #[.int .i64 za, .int .i64 zd] 94))
                    clear hB6
                    by_cases q1 : za = ws
                    · by_cases q2 : zd = wd
                      · have HF := Lib.hid (HNO3.out (show oppS ws wd (za, zd) = false by simp [oppS, q2]))
                        have e1 : (za == ws) = true := by simpa using q1
                        have e2 : (zd != wd) = false := by simpa using q2
                        clear q1 q2
                        go_wp2_with fail
                        go_roundg (st.length - (j + 1))
                        case measure => omega
                        case rel => exact ⟨j + 1, by omega, rfl, by go_num, HF.out, HB7.out⟩
                      · have HY := Lib.hid (HYES3.out (show oppS ws wd (za, zd) = true by simp [oppS, q1, q2]))
                        have e1 : (za == ws) = true := by simpa using q1
                        have e2 : (zd != wd) = true := by simpa using q2
                        clear q1 q2
                        go_wp2_with fail
                        go_ret
                        exact ⟨ret_bool HY.out.symm, by rw [HGZ.out]; exact HBA.out.trans ((HBn.out.trans (HB7.out.mono HBn.out.size)).mono (Nat.le_of_lt hg0))⟩
                    · have HF := Lib.hid (HNO3.out (show oppS ws wd (za, zd) = false by simp [oppS, q1]))
                      have e1 : (za == ws) = false := by simpa using q1
                      clear q1
                      go_wp2_with fail
                      go_roundg (st.length - (j + 1))
                      case measure => omega
                      case rel => exact ⟨j + 1, by omega, rfl, by go_num, HF.out, HB7.out⟩
                  · have ha := HA3.out
                    rw [List.take_of_length_le (by omega)] at ha
                    have HF := Lib.hid (HNO2.out (by show (_ && st.any (oppS ws wd)) = false; rw [ha, Bool.and_false]))
                    clear ha
                    go_wp2_with fail
                    go_roundg (ow.length - (i + 1))
                    case measure => omega
                    case rel => exact ⟨i + 1, by omega, rfl, by go_num, HF.out, HB5.out.trans (hb6.mono HB5.out.size)⟩
              · have HF := Lib.hid (HNO2.out (show (inW (r, f, t) (ws, wd, wf, wt) s && oppB ⟨st, os⟩ (ws, wd, wf, wt)) = false by simp [inW, e3]))
                have d1 : (ws != r) = false := by simp [e1]
                have d3 : wt ≤ s + f := by omega
                clear e1 e3
                go_wp2_with fail
                go_roundg (ow.length - (i + 1))
                case measure => omega
                case rel => exact ⟨i + 1, by omega, rfl, by go_num, HF.out, HB5.out⟩
            · have HF := Lib.hid (HNO2.out (show (inW (r, f, t) (ws, wd, wf, wt) s && oppB ⟨st, os⟩ (ws, wd, wf, wt)) = false by simp [inW, e2]))
              have d1 : (ws != r) = false := by simp [e1]
              have d2 : s + f < wf := by omega
              clear e1 e2
              go_wp2_with fail
              go_roundg (ow.length - (i + 1))
              case measure => omega
              case rel => exact ⟨i + 1, by omega, rfl, by go_num, HF.out, HB5.out⟩
          · have HF := Lib.hid (HNO2.out (show (inW (r, f, t) (ws, wd, wf, wt) s && oppB ⟨st, os⟩ (ws, wd, wf, wt)) = false by simp [inW, e1]))
            have d1 : (ws != r) = true := by simp; exact fun e => e1 e.symm
            clear e1
            go_wp2_with fail
            go_roundg (ow.length - (i + 1))
            case measure => omega
            case rel => exact ⟨i + 1, by omega, rfl, by go_num, HF.out, HB5.out⟩
        · have ha := HA2.out
          rw [List.take_of_length_le (by omega)] at ha
          have HF := Lib.hid (HNO.out ha)
          clear ha
          go_wp2_with fail
          go_roundg (os.length - (k + 1))
          case measure => omega
          case rel => exact ⟨k + 1, by omega, rfl, by go_num, HF.out, HB.out.trans (hb5.mono HB.out.size)⟩
    · have ha := HA.out
      rw [List.take_of_length_le (by omega)] at ha
      have HQ := Lib.hid (HSW.out.symm.trans ha)
      clear ha
      go_wp2_with fail
      go_ret
      exact ⟨ret_bool HQ.out.symm, by rw [HGZ.out]; exact HBA.out.trans (hb.mono (Nat.le_of_lt hg0))⟩

set_option maxRecDepth 100000 in
set_option maxHeartbeats 8000000 in
theorem refAdmits_any (CA : Option Addr) (cc : Nat) (cl : List Clo) (WA : Option Addr) (wc : Nat) (ow : List OWy) (SA : Option Addr) (sc : Nat) (st : List Ste) (OA : Option Addr) (oc : Nat) (os : List Occ) (s : Int) (w : World)
    (hc : Lst encO 3 w w.heap.size CA cl) (hcn : cl.length ≤ 9223372036854775807) (hw : Lst encW 4 w w.heap.size WA ow) (hwn : ow.length ≤ 9223372036854775807)
    (hs : Lst encSte 2 w w.heap.size SA st) (ho : Lst encO 3 w w.heap.size OA os) (hn : st.length ≤ 9223372036854775807) (hn' : os.length ≤ 9223372036854775807) :
    Calls Try.prog 17 #[.slice CA cl.length cc, .slice WA ow.length wc, .agg #[.slice SA st.length sc, .slice OA os.length oc], .int .i64 s] w fun e w' => e = .returned (.bool (admitsB cl ow ⟨st, os⟩ s)) ∧ Below w.heap.size w w' := by
  have ba := belA w (.cells #[.slice SA st.length sc, .slice OA os.length oc] 28)
  have hnw := heap_alloc_new w (.cells #[.slice SA st.length sc, .slice OA os.length oc] 28)
  have hg0 : w.heap.size < (w.alloc (.cells #[.slice SA st.length sc, .slice OA os.length oc] 28)).heap.size := by simp
  have HS := Lib.hid (hs.belowMore ba ba.size)
  have HO := Lib.hid (ho.belowMore ba ba.size)
  have HC := Lib.hid (hc.belowMore ba ba.size)
  have HW := Lib.hid (hw.belowMore ba ba.size)
  have HBA := Lib.hid ba
  have HN := Lib.hid (BxO.mk hnw)
  clear hs ho hc hw ba hnw
  go_enter Try.func17, Try.ntmps17
  go_upto_region 1 with fail
  generalize w.alloc (.cells #[.slice SA st.length sc, .slice OA os.length oc] 28) = w0 at *
  generalize hgz : w.heap.size = gz at *
  have HGZ := Lib.hid hgz
  clear hgz
  obtain ⟨n0, n1, ng⟩ := HN.out.cells
  have hva := rvalid_any SA sc st OA oc os w0 HS.out HO.out hn hn'
  have HEN := Lib.hid (fun V (b : Below w0.heap.size w0 V) => refEnters_any CA OA cc oc cl os s V (HC.out.belowMore b b.size) (HO.out.belowMore b b.size) hcn hn')
  cases hv : validOp ⟨st, os⟩ with
  | false =>
    rw [hv] at hva
    have HQ := Lib.hid (show admitsB cl ow ⟨st, os⟩ s = false by unfold admitsB; rw [hv]; rfl)
    clear hv
    go_wp2_with (first | (go_at_call 34; refine hva.mono ?_; rintro e w1 ⟨rfl, hb1⟩; obtain ⟨m0, m1, mg⟩ := (HN.out.below hb1 hg0).cells) | (go_at_call 37; refine (HEN.out _ hb1).mono ?_; rintro e w2 ⟨rfl, hb2⟩; replace hb1 := hb1.trans (hb2.mono hb1.size); obtain ⟨l0, l1, lg⟩ := (HN.out.below hb1 hg0).cells) | (go_at_call 38; refine (HAG.out _ hb1).mono ?_; rintro e w4 ⟨rfl, hb4⟩; replace hb1 := hb1.trans (hb4.mono hb1.size)))
    go_ret
    exact ⟨ret_bool HQ.out.symm, by rw [HGZ.out]; exact HBA.out.trans (hb1.mono (Nat.le_of_lt hg0))⟩
  | true =>
    rw [hv] at hva
    have HV := Lib.hid hv
    clear hv
    by_cases q0 : 0 ≤ s
    · by_cases q1 : s ≤ 1099511627776
      · have HBG := Lib.hid (show bigB s = true from bigB_iff.2 ⟨by omega, by omega⟩)
        have HAG := Lib.hid (fun V (b : Below w0.heap.size w0 V) => against_any WA wc ow SA sc st OA oc os s V (HW.out.belowMore b b.size) hwn (HS.out.belowMore b b.size) (HO.out.belowMore b b.size) hn hn' (fun x hx => by have := validO_lt (validOp_iff.1 HV.out).2.2.1 x hx; omega) q0 q1)
        cases he : entersC cl os s with
        | false =>
          rw [he] at HEN
          have HQ := Lib.hid (show admitsB cl ow ⟨st, os⟩ s = false by unfold admitsB; rw [HV.out, HBG.out, he]; rfl)
          clear he
          go_wp2_with (first | (go_at_call 34; refine hva.mono ?_; rintro e w1 ⟨rfl, hb1⟩; obtain ⟨m0, m1, mg⟩ := (HN.out.below hb1 hg0).cells) | (go_at_call 37; refine (HEN.out _ hb1).mono ?_; rintro e w2 ⟨rfl, hb2⟩; replace hb1 := hb1.trans (hb2.mono hb1.size); obtain ⟨l0, l1, lg⟩ := (HN.out.below hb1 hg0).cells) | (go_at_call 38; refine (HAG.out _ hb1).mono ?_; rintro e w4 ⟨rfl, hb4⟩; replace hb1 := hb1.trans (hb4.mono hb1.size)))
          go_ret
          exact ⟨ret_bool HQ.out.symm, by rw [HGZ.out]; exact HBA.out.trans (hb1.mono (Nat.le_of_lt hg0))⟩
        | true =>
          rw [he] at HEN
          have HQ := Lib.hid (show admitsB cl ow ⟨st, os⟩ s = !agB ow ⟨st, os⟩ s by unfold admitsB; rw [HV.out, HBG.out, he]; rfl)
          clear he
          generalize agB ow ⟨st, os⟩ s = ag at *
          go_wp2_with (first | (go_at_call 34; refine hva.mono ?_; rintro e w1 ⟨rfl, hb1⟩; obtain ⟨m0, m1, mg⟩ := (HN.out.below hb1 hg0).cells) | (go_at_call 37; refine (HEN.out _ hb1).mono ?_; rintro e w2 ⟨rfl, hb2⟩; replace hb1 := hb1.trans (hb2.mono hb1.size); obtain ⟨l0, l1, lg⟩ := (HN.out.below hb1 hg0).cells) | (go_at_call 38; refine (HAG.out _ hb1).mono ?_; rintro e w4 ⟨rfl, hb4⟩; replace hb1 := hb1.trans (hb4.mono hb1.size)))
          go_ret
          exact ⟨ret_bool HQ.out.symm, by rw [HGZ.out]; exact HBA.out.trans (hb1.mono (Nat.le_of_lt hg0))⟩
      · have HQ := Lib.hid (show admitsB cl ow ⟨st, os⟩ s = false by unfold admitsB bigB; rw [HV.out, decide_eq_false q1]; simp)
        go_wp2_with (first | (go_at_call 34; refine hva.mono ?_; rintro e w1 ⟨rfl, hb1⟩; obtain ⟨m0, m1, mg⟩ := (HN.out.below hb1 hg0).cells) | (go_at_call 37; refine (HEN.out _ hb1).mono ?_; rintro e w2 ⟨rfl, hb2⟩; replace hb1 := hb1.trans (hb2.mono hb1.size); obtain ⟨l0, l1, lg⟩ := (HN.out.below hb1 hg0).cells) | (go_at_call 38; refine (HAG.out _ hb1).mono ?_; rintro e w4 ⟨rfl, hb4⟩; replace hb1 := hb1.trans (hb4.mono hb1.size)))
        go_ret
        exact ⟨ret_bool HQ.out.symm, by rw [HGZ.out]; exact HBA.out.trans (hb1.mono (Nat.le_of_lt hg0))⟩
    · have HQ := Lib.hid (show admitsB cl ow ⟨st, os⟩ s = false by unfold admitsB bigB; rw [HV.out, decide_eq_false q0]; rfl)
      go_wp2_with (first | (go_at_call 34; refine hva.mono ?_; rintro e w1 ⟨rfl, hb1⟩; obtain ⟨m0, m1, mg⟩ := (HN.out.below hb1 hg0).cells) | (go_at_call 37; refine (HEN.out _ hb1).mono ?_; rintro e w2 ⟨rfl, hb2⟩; replace hb1 := hb1.trans (hb2.mono hb1.size); obtain ⟨l0, l1, lg⟩ := (HN.out.below hb1 hg0).cells) | (go_at_call 38; refine (HAG.out _ hb1).mono ?_; rintro e w4 ⟨rfl, hb4⟩; replace hb1 := hb1.trans (hb4.mono hb1.size)))
      go_ret
      exact ⟨ret_bool HQ.out.symm, by rw [HGZ.out]; exact HBA.out.trans (hb1.mono (Nat.le_of_lt hg0))⟩
end Go.Proofs.Ytlillkfelfoafaa
