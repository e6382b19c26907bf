/-
  Contract of the reference's placed.
-/
import Derived.Test.YtlillkfelfoafaaDivOp
import Derived.Test.YtlillkfelfoafaaDivRo
import Derived.Test.YtlillkfelfoafaaDivF
set_option linter.unusedVariables false
set_option linter.unusedSimpArgs false
namespace Go.Proofs.Ytlillkfelfoafaa
open Go.RowKit Go.Shelf RP

theorem getD_ch {l : List Cho} {i : Nat} (h : i < l.length) : l.getD i (0, 0) = l[i] := by
  rw [List.getD_eq_getElem?_getD, List.getElem?_eq_getElem h]; rfl
/-- Choice i in memory. -/
theorem Lst.ch_at {w : World} {B : Nat} {KA : Option Addr} {ch : List Cho} (h : Lst encK 2 w B KA ch) {i : Nat} (hi : i < ch.length) : ∃ (kb ko : Nat) (x y : Int), KA = some ⟨kb, ko, none⟩ ∧ ch.getD i (0, 0) = (x, y) ∧ w.cell? ⟨kb, ko + i * 2, none⟩ = some (.int .i64 x) ∧ w.cell? ⟨kb, ko + i * 2 + 1, none⟩ = some (.int .i64 y) := by
  obtain ⟨kb, ko, e, _, d0, d1⟩ := h.cho i hi
  exact ⟨kb, ko, _, _, e, getD_ch hi, d0, d1⟩
/-- One conjunct of plcB. -/
def plc1 (jobs : List JobP) (out : List Cho) (o : OptP) (x : Int) (i : Nat) : Bool :=
  decide ((out.getD i (0, 0)).1 < 0) || !meetB (optAt (jobAt jobs i) (out.getD i (0, 0)).1.toNat) (out.getD i (0, 0)).2 o x
theorem plc_eq (jobs : List JobP) (out : List Cho) (bef : List Nat) (o : OptP) (x : Int) : plcB jobs out bef o x = bef.all (plc1 jobs out o x) := rfl
set_option maxRecDepth 100000 in
set_option maxHeartbeats 8000000 in
theorem placed_any (JA : Option Addr) (jc : Nat) (L : List JobM) (KA : Option Addr) (kc n : Nat) (ch : List Cho) (NA : Option Addr) (nc : Nat) (bef : List Nat) (SA : Option Addr) (sc : Nat) (st : List Ste) (OA : Option Addr) (oc : Nat) (os : List Occ) (x : Int) (w : World)
    (hj : Jbs w w.heap.size JA L) (hch : Lst encK 2 w w.heap.size KA ch) (hcl : ch.length = n) (hb : Lst encI 1 w w.heap.size NA (natI bef)) (hbl : bef.length ≤ 1000) (hs : Lst encSte 2 w w.heap.size SA st) (ho : Lst encO 3 w w.heap.size OA os) (hn : st.length ≤ 9223372036854775807) (hn' : os.length ≤ 9223372036854775807)
    (hr : ∀ i ∈ bef, i < L.length ∧ i < ch.length ∧ ((ch.getD i (0, 0)).1 < 0 ∨ ∃ k : Nat, (ch.getD i (0, 0)).1 = (k : Int) ∧ k < (jobAt (L.map JobM.p) i).opts.length)) :
    Calls Try.prog 48 #[.slice JA L.length jc, .slice KA n kc, .slice NA bef.length nc, .agg #[.slice SA st.length sc, .slice OA os.length oc], .int .i64 x] w fun e w' => e = .returned (.bool (plcB (L.map JobM.p) ch bef ⟨st, os⟩ x)) ∧ Below w.heap.size w w' := by
  have ba := belA w (.cells #[.slice SA st.length sc, .slice OA os.length oc] 28)
  have hnw := heap_alloc_new w (.cells #[.slice SA st.length sc, .slice OA os.length oc] 28)
  have hg0 : w.heap.size < (w.alloc (.cells #[.slice SA st.length sc, .slice OA os.length oc] 28)).heap.size := by simp
  have HS := Lib.hid (hs.belowMore ba ba.size)
  have HO := Lib.hid (ho.belowMore ba ba.size)
  have HJ := Lib.hid (hj.belowMore ba ba.size)
  have HC := Lib.hid (hch.belowMore ba ba.size)
  have HN := Lib.hid (hb.belowMore ba ba.size)
  have HBA := Lib.hid ba
  have HBX := Lib.hid (BxO.mk hnw)
  have HR := Lib.hid hr
  clear hs ho hj hch hb ba hnw hr
  go_enter Try.func48, Try.ntmps48
  go_wp2_with fail
  generalize w.alloc (.cells #[.slice SA st.length sc, .slice OA os.length oc] 28) = w0 at *
  generalize hgz : w.heap.size = gz at *
  have HGZ := Lib.hid hgz
  clear hgz
  obtain ⟨n0, n1, ng⟩ := HBX.out.cells
  go_loopg [15] bef.length (fun g s15 wr => ∃ k : Nat, k ≤ bef.length ∧ g = bef.length - k ∧ s15 = .int .i64 k ∧ (bef.take k).all (plc1 (L.map JobM.p) ch ⟨st, os⟩ x) = true ∧ Below w0.heap.size w0 wr)
  case atStart => exact ⟨0, by omega, by omega, rfl, rfl, Below.refl _ _⟩
  case round =>
    obtain ⟨k, hk, hg, rfl, ha, hb⟩ := hrel
    have HA := Lib.hid ha
    clear ha
    by_cases hlt : k < bef.length
    · have HNO := Lib.hid (fun h => all_no (p := plc1 (L.map JobM.p) ch ⟨st, os⟩ x) hlt h)
      have HYES := Lib.hid (fun h => all_take_snoc (p := plc1 (L.map JobM.p) ch ⟨st, os⟩ x) hlt HA.out h)
      obtain ⟨nb, no, rfl, _, b0⟩ := (HN.out.belowMore hb hb.size).it k (by rw [natI_len]; exact hlt)
      rw [natI_get hlt] at b0
      obtain ⟨r1, r2, r3⟩ := HR.out bef[k] (List.getElem_mem hlt)
      generalize bef[k] = i at *
      obtain ⟨kb, ko, dx, dy, rfl, hgi, d0, d1⟩ := (HC.out.belowMore hb hb.size).ch_at r2
      rw [hgi] at r3
      have k0 : (0 : Int) ≤ (k : Int) := by omega
      have k1 : (k : Int) < (bef.length : Int) := by omega
      have i0 : (0 : Int) ≤ (i : Int) := by omega
      have i1 : (i : Int) < (n : Int) := by omega
      have i2 : (i : Int) < (L.length : Int) := by omega
      by_cases hneg : dx < 0
      · have HP := Lib.hid (HYES.out (by unfold plc1; rw [hgi, decide_eq_true (show ((dx, dy) : Cho).1 < 0 from hneg)]; rfl))
        have hd : decide ((0 : Int) ≤ dx) = false := decide_eq_false (by omega)
        have HB2 := Lib.hid hb
        clear hneg r3 hgi hb
        go_wp2_with fail
        go_quiet (fail)
        go_wp2_with fail
        go_roundg (bef.length - (k + 1))
        case measure => omega
        case rel => exact ⟨k + 1, by omega, rfl, by go_num, HP.out, below_drewN HB2.out _⟩
      · obtain ⟨kd, hkd, hdl⟩ := r3.resolve_left hneg
        simp only at hkd
        subst hkd
        obtain ⟨jb, jo, pb, po, nk, jvk, s1, xA, xcp, xst, yA, ycp, yos, rfl, hnk, _, ho2, _, hin⟩ := (HJ.out.belowMore hb hb.size).opt_in r1 hdl
        have HPE := Lib.hid (show plc1 (L.map JobM.p) ch ⟨st, os⟩ x i = !meetB ⟨xst, yos⟩ dy ⟨st, os⟩ x by
          unfold plc1
          rw [hgi]
          simp only [Int.toNat_natCast]
          rw [ho2, decide_eq_false (by omega), Bool.false_or])
        obtain ⟨hkn, _, a1, a2, a3, hol⟩ := hin
        have j0 : (0 : Int) ≤ (kd : Int) := by omega
        have j1 : (kd : Int) < (nk : Int) := by omega
        have hd : decide ((0 : Int) ≤ (kd : Int)) = true := decide_eq_true j0
        have m0 := (hb.cell (p := ⟨gz, 0, none⟩) ng).trans n0
        have m1 := (hb.cell (p := ⟨gz, 1, none⟩) ng).trans n1
        have hs2 := HS.out.belowMore hb hb.size
        have ho2' := HO.out.belowMore hb hb.size
        have HMT := Lib.hid (fun V (b : Below wr.heap.size wr V) => refMeets_any xA xcp xst yA ycp yos dy SA sc st OA oc os x V (hol.st.belowMore b b.size) (hol.oc.belowMore b b.size) hol.sm hol.om (hs2.belowMore b b.size) (ho2'.belowMore b b.size) hn hn')
        have HB2 := Lib.hid hb
        have hB0 : Below wr.heap.size wr wr.drew := (Below.refl _ _).drew
        clear hneg hgi r3 hdl hnk ho2 hkn hol hs2 ho2' hb
        obtain ⟨W, rfl⟩ : ∃ V : World, V = wr := ⟨_, rfl⟩
        go_upto_region 4 with fail
        go_cut [46] (fun s46 wx => s46 = .bool (meetB ⟨xst, yos⟩ dy ⟨st, os⟩ x) ∧ Below W.heap.size W wx)
        case first =>
          go_region_held3 (fun w' => w'.cell? ⟨kb, ko + i * 2, none⟩ = some (.int .i64 kd) ∧ w'.cell? ⟨kb, ko + i * 2 + 1, none⟩ = some (.int .i64 dy) ∧ w'.cell? ⟨jb, jo + i * 2 + 1, none⟩ = some (.slice (some ⟨pb, po, none⟩) nk jvk) ∧ w'.cell? ⟨pb, po + kd * 2, none⟩ = some (.slice xA xst.length xcp) ∧ w'.cell? ⟨pb, po + kd * 2 + 1, none⟩ = some (.slice yA yos.length ycp) ∧ w'.cell? ⟨gz, 0, none⟩ = some (.slice SA st.length sc) ∧ w'.cell? ⟨gz, 1, none⟩ = some (.slice OA os.length oc))
            (exact ⟨(hB0.cell (p := ⟨kb, ko + i * 2, none⟩) (cell_lt d0)).trans d0, (hB0.cell (p := ⟨kb, ko + i * 2 + 1, none⟩) (cell_lt d1)).trans d1, (hB0.cell (p := ⟨jb, jo + i * 2 + 1, none⟩) (cell_lt a1)).trans a1, (hB0.cell (p := ⟨pb, po + kd * 2, none⟩) (cell_lt a2)).trans a2, (hB0.cell (p := ⟨pb, po + kd * 2 + 1, none⟩) (cell_lt a3)).trans a3, (hB0.cell (p := ⟨gz, 0, none⟩) (cell_lt m0)).trans m0, (hB0.cell (p := ⟨gz, 1, none⟩) (cell_lt m1)).trans m1⟩)
            ((go_at_call 19; (with_reducible refine (HMT.out _ hB0).mono ?_); rintro e w' ⟨rfl, hb'⟩; replace hB0 := hB0.trans (hb'.mono hB0.size)))
          all_goals
            go_wp2_with fail
            go_meet
            exact ⟨rfl, hB0⟩
        case rest =>
          obtain ⟨rfl, hbc⟩ := hcut
          have HB9 := Lib.hid (HB2.out.trans (hbc.mono HB2.out.size))
          clear hbc
          cases hmt : meetB ⟨xst, yos⟩ dy ⟨st, os⟩ x with
          | true =>
            have HF := Lib.hid (HNO.out (by rw [HPE.out, hmt]; rfl))
            clear hmt
            go_wp2_with fail
            go_ret
            exact ⟨ret_bool (by rw [plc_eq]; exact HF.out.symm), by rw [HGZ.out]; exact HBA.out.trans (HB9.out.mono (Nat.le_of_lt hg0))⟩
          | false =>
            have HP := Lib.hid (HYES.out (by rw [HPE.out, hmt]; rfl))
            clear hmt
            go_wp2_with fail
            go_roundg (bef.length - (k + 1))
            case measure => omega
            case rel => exact ⟨k + 1, by omega, rfl, by go_num, HP.out, HB9.out⟩
    · have ha := HA.out
      rw [List.take_of_length_le (by omega)] at ha
      have HF := Lib.hid ha
      have HB2 := Lib.hid hb
      clear ha hb
      go_wp2_with fail
      go_ret
      exact ⟨ret_bool (by rw [plc_eq]; exact HF.out.symm), by rw [HGZ.out]; exact HBA.out.trans (HB2.out.mono (Nat.le_of_lt hg0))⟩
end Go.Proofs.Ytlillkfelfoafaa
