/-
  Walk of DivertSafe.
-/
import Derived.Test.YtlillkfelfoafaaDivOp
import Derived.Test.YtlillkfelfoafaaDivEz
set_option linter.unusedVariables false
set_option linter.unusedSimpArgs false
namespace Go.Proofs.Ytlillkfelfoafaa
open Go.RowKit Go.Shelf RP

theorem MadeC.r64' {l : List Clo} (h : MadeC l) : ∀ z ∈ l, R64 z.1 ∧ R64 z.2.1 ∧ R64 z.2.2 := fun z hz => by
  have := h.2 z hz
  unfold R64
  omega
theorem MadeW.r64 {l : List OWy} (h : MadeW l) : ∀ z ∈ l, R64 z.1 := fun z hz => by
  have := h.2 z hz
  unfold R64
  omega
/-- What Safe looks at: choice i. -/
structure SfP (L : List JobM) (ch : List Cho) : Prop where
  len : ch.length = L.length
  rng : ∀ i < L.length, (ch.getD i (0, 0)).1 < 0 ∨ ∃ k : Nat, (ch.getD i (0, 0)).1 = (k : Int) ∧ k < (jobAt (L.map JobM.p) i).opts.length
  apart : ∀ i < L.length, ∀ k < i, (ch.getD i (0, 0)).1 < 0 ∨ (ch.getD k (0, 0)).1 < 0 ∨ meetB (optAt (jobAt (L.map JobM.p) i) (ch.getD i (0, 0)).1.toNat) (ch.getD i (0, 0)).2 (optAt (jobAt (L.map JobM.p) k) (ch.getD k (0, 0)).1.toNat) (ch.getD k (0, 0)).2 = false
theorem sfp_of {L : List JobM} (hm : MadeJs (L.map JobM.p)) {cl : List Clo} {ow : List OWy} {M : Nat} {ord : List Nat} (h : InOrd (L.map JobM.p) ord) : SfP L (planF (L.map JobM.p) cl ow M ord).1 := by
  refine ⟨by rw [planF_len, List.length_map], fun i hi => plan_rng hm.ok cl ow M h (by rw [List.length_map]; exact hi), fun i hi k hk => ?_⟩
  have := plan_apart2 hm.ok cl ow M h (i := i) (k := k) (by rw [List.length_map]; exact hi) (by rw [List.length_map]; omega) (by omega)
  rw [meet_comm] at this
  rcases this with q | q | q
  · exact .inr (.inl q)
  · exact .inl q
  · exact .inr (.inr q)
theorem getD_at {l : List Cho} {i : Nat} (h : i < l.length) : l.getD i (0, 0) = l[i] := by
  rw [List.getD_eq_getElem?_getD, List.getElem?_eq_getElem h]; rfl
/-- Choice i in memory. -/
theorem Lst.cho_at {w : World} {B : Nat} {KA : Option Addr} {ch : List Cho} (h : Lst encK 2 w B KA ch) {i : Nat} (hi : i < ch.length) : ∃ (kb ko : Nat) (x y : Int), KA = some ⟨kb, ko, none⟩ ∧ ch.getD i (0, 0) = (x, y) ∧ w.cell? ⟨kb, ko + i * 2, none⟩ = some (.int .i64 x) ∧ w.cell? ⟨kb, ko + i * 2 + 1, none⟩ = some (.int .i64 y) := by
  obtain ⟨kb, ko, e, _, d0, d1⟩ := h.cho i hi
  exact ⟨kb, ko, _, _, e, getD_at hi, d0, d1⟩
set_option maxRecDepth 100000 in
set_option maxHeartbeats 8000000 in
theorem walkDivertSafe (A1 : Option Addr) (c1 : Nat) (l1 : List Int) (A2 : Option Addr) (c2 : Nat) (l2 : List Int) (A3 : Option Addr) (c3 : Nat) (l3 : List Int) (most : Int) (w : World)
    (h1 : ArgI w A1 c1 l1) (h2 : ArgI w A2 c2 l2) (h3 : ArgI w A3 c3 l3) (hx : R64 most) :
    Calls Try.prog 8 #[.slice A1 l1.length c1, .slice A2 l2.length c2, .slice A3 l3.length c3, .int .i64 most] w fun e w' => e = .returned (.bool true) ∧ Below w.heap.size w w' := by
  have s0 := pickI_range most 60 (by omega)
  have hps := fun W => pick_any most 60 W (by omega) (by omega)
  generalize pickI most 60 = mo at *
  go_enter Try.func8, Try.ntmps8
  go_wp2_with fail
  refine (jobs_any A1 c1 l1 w h1).mono ?_
  rintro e w1 ⟨JA, jc, L, rfl, hown, hjo, hmj, hb1⟩
  have HJ1 := Lib.hid (jbs_own hown hjo)
  have HMJ := Lib.hid hmj
  clear hown hjo hmj
  go_wp2_with fail
  refine (closures_any A2 c2 l2 w1 (h2.below hb1)).mono ?_
  rintro e w2 ⟨v2, cl, rfl, hcl, hmc, hb2⟩
  obtain ⟨CA, cc, rfl⟩ := hcl.form
  have hb12 := hb1.trans (hb2.mono hb1.size)
  have HC2 := Lib.hid (Own.lst encO_len hcl)
  have HMC := Lib.hid hmc
  clear hcl hmc
  go_wp2_with fail
  refine (oneways_any A3 c3 l3 w2 (h3.below hb12)).mono ?_
  rintro e w3 ⟨v3, ow, rfl, how, hmw, hb3⟩
  obtain ⟨WA, wc, rfl⟩ := how.form
  have HMW := Lib.hid hmw
  have HB3 := Lib.hid (hb12.trans (hb3.mono hb12.size))
  have hb23 := hb2.trans (hb3.mono hb2.size)
  have hj3 := HJ1.out.belowMore hb23 hb23.size
  have hc3 := HC2.out.belowMore hb3 hb3.size
  have hw3 := Own.lst encW_len how
  have hcn : cl.length ≤ 5 := HMC.out.1
  have hwn : ow.length ≤ 3 := HMW.out.1
  have hL3 := HMJ.out.len3
  clear how hmw hb1 hb2 hb3 hb12 hb23 HJ1 HC2 h1 h2 h3
  have hpl := plan_any JA jc L CA cc cl WA wc ow mo 1048576 w3 hj3 hc3 hw3 HMJ.out.res (by omega) (fun z hz => (HMC.out.r64' z hz).1) (fun z hz => HMW.out.r64 z hz) (by omega)
  go_wp2_with (first | (go_at_call 23; refine (hps _).mono ?_; rintro _ _ ⟨rfl, rfl⟩))
  refine hpl.mono ?_
  rintro e w4 ⟨ch, pn, err, KA, kc, rfl, hpi, hko, hb4⟩
  obtain ⟨rfl, ord, hord, hch⟩ := made_plan HMJ.out s0.1 s0.2 hpi
  have HSF := Lib.hid (show SfP L ch by rw [hch]; exact sfp_of HMJ.out hord)
  have hver : verB (L.map JobM.p) cl ow ch = true := by rw [hch]; exact plan_ver HMJ.out.ok cl ow _ hord
  have hcap := own_caps hko
  have hk4 := Own.lst encK_len hko
  have HB4 := Lib.hid (HB3.out.trans (hb4.mono HB3.out.size))
  have hj4 := hj3.belowMore hb4 hb4.size
  have hve := dVerify_any JA jc L CA cc cl WA wc ow KA kc ch w4 hj4 (hc3.belowMore hb4 hb4.size) (hw3.belowMore hb4 hb4.size) hk4 HMJ.out.res (by omega) HMC.out.r64' (by omega) hcap
  rw [hver] at hve
  have HJ4 := Lib.hid hj4
  have HK4 := Lib.hid hk4
  have hlen := HSF.out.len
  have hne : ((ch.length : Int) != (L.length : Int)) = false := by simp [hlen]
  clear hj3 hc3 hw3 hpl hpi hko hb4 hord hch hver hk4 hj4 HB3 hlen
  go_wp2_with (first | (go_at_call 29; refine hve.mono ?_; rintro e w5 ⟨rfl, hb5⟩))
  obtain ⟨W, rfl⟩ : ∃ V : World, V = w5 := ⟨_, rfl⟩
  have HB5 := Lib.hid (HB4.out.trans (hb5.mono HB4.out.size))
  have HJ5 := Lib.hid (HJ4.out.belowMore hb5 hb5.size)
  have HK5 := Lib.hid (HK4.out.belowMore hb5 hb5.size)
  clear hb5 hve HJ4 HK4 HB4 hne
  go_loopg [54] ch.length (fun g s54 wr => ∃ i : Nat, i ≤ ch.length ∧ g = ch.length - i ∧ s54 = .int .i64 i ∧ Below W.heap.size W wr)
  case atStart => exact ⟨0, by omega, by omega, rfl, Below.refl _ _⟩
  case round =>
    obtain ⟨i, hi, hg, rfl, hb⟩ := hrel
    by_cases hlt : i < ch.length
    · have hiL : i < L.length := by have := HSF.out.len; omega
      obtain ⟨kb, ko, x, y, hKA, hgi, d0, d1⟩ := (HK5.out.belowMore hb hb.size).cho_at hlt
      subst hKA
      obtain ⟨jb, jo, va, n, jvc, s, hJA, hn, hs, _, a1⟩ := (HJ5.out.belowMore hb hb.size).job_at hiL
      subst hJA
      have hr := HSF.out.rng i hiL
      rw [hgi, ← hn] at hr
      have r1 : ¬ (n : Int) ≤ x := by rcases hr with hr | ⟨k, hr, hk⟩ <;> simp only at hr <;> omega
      have HR := Lib.hid hr
      have HAP := Lib.hid (HSF.out.apart i hiL)
      have HGI := Lib.hid hgi
      have HN := Lib.hid hn
      have hbx := belA wr (.cells #[.int .i64 x, .int .i64 y] 55)
      have hnx := heap_alloc_new wr (.cells #[.int .i64 x, .int .i64 y] 55)
      have HB6 := Lib.hid (hb.trans (hbx.mono hb.size))
      have a1' := (hbx.cell (p := ⟨jb, jo + i * 2 + 1, none⟩) (cell_lt a1)).trans a1
      have i0 : (0 : Int) ≤ (i : Int) := by omega
      have i1 : (i : Int) < (ch.length : Int) := by omega
      have i2 : (i : Int) < (L.length : Int) := by omega
      have i3 : (i : Int) ≤ (kc : Int) := by omega
      clear hr hgi hn hs a1
      go_upto_region 8 with fail
      clear d0 d1 hbx hb
      generalize wr.alloc (.cells #[.int .i64 x, .int .i64 y] 55) = w6 at *
      generalize wr.heap.size = gd at *
      have c0 : w6.cell? ⟨gd, 0, none⟩ = some (.int .i64 x) := by rw [cell_of_row w6 _ 0 _ _ _ hnx]; rfl
      have c1 : w6.cell? ⟨gd, 1, none⟩ = some (.int .i64 y) := by rw [cell_of_row w6 _ 1 _ _ _ hnx]; rfl
      clear hnx
      go_quiet (fail)
      go_wp2_with fail
      clear a1' r1
      go_loopg [72] i (fun g s72 wr2 => ∃ k : Nat, k ≤ i ∧ g = i - k ∧ s72 = .int .i64 k ∧ Below w6.heap.size w6 wr2)
      case atStart => exact ⟨0, by omega, by omega, rfl, below_drewN (Below.refl _ _) _⟩
      case round =>
        obtain ⟨k, hk, hg2, rfl, hb2⟩ := hrel
        by_cases hlt2 : k < i
        · have hbk := HB6.out.trans (hb2.mono HB6.out.size)
          obtain ⟨kb', ko', dx, dy, hKA, hgk, f0, f1⟩ := (HK5.out.belowMore hbk hbk.size).cho_at (i := k) (by omega)
          injection hKA with hKA; injection hKA with hK1 hK2 _
          subst hK1 hK2
          have hap := HAP.out k hlt2
          rw [HGI.out, hgk] at hap
          have hrk := HSF.out.rng k (by omega)
          rw [hgk] at hrk
          have k0 : (0 : Int) ≤ (k : Int) := by omega
          have k1 : (k : Int) < (i : Int) := by omega
          have hbx := belA wr (.cells #[.int .i64 dx, .int .i64 dy] 55)
          have hnx := heap_alloc_new wr (.cells #[.int .i64 dx, .int .i64 dy] 55)
          have hB5 := hb2.trans (hbx.mono hb2.size)
          have v3 := (hB5.cell (p := ⟨gd, 0, none⟩) (cell_lt c0)).trans c0
          have v4 := (hB5.cell (p := ⟨gd, 1, none⟩) (cell_lt c1)).trans c1
          have HB7 := Lib.hid hB5
          by_cases hx0 : x < 0
          · have hd : decide ((0 : Int) ≤ x) = false := decide_eq_false (by omega)
            clear hap hrk hgk hx0
            go_upto_region 13 with fail
            clear f0 f1 hbx hb2 hB5 hnx hbk
            generalize wr.alloc (.cells #[.int .i64 dx, .int .i64 dy] 55) = w7 at *
            generalize wr.heap.size = g7 at *
            go_quiet (fail)
            go_wp2_with fail
            go_roundg (i - (k + 1))
            case measure => omega
            case rel => exact ⟨k + 1, by omega, rfl, by go_num, below_drewN HB7.out _⟩
          · by_cases hd0 : dx < 0
            · have hdx : decide ((0 : Int) ≤ x) = true := decide_eq_true (by omega)
              have hd : decide ((0 : Int) ≤ dx) = false := decide_eq_false (by omega)
              clear hap hrk hgk hx0 hd0
              go_upto_region 13 with fail
              clear f0 f1 hbx hb2 hB5 hbk
              generalize wr.alloc (.cells #[.int .i64 dx, .int .i64 dy] 55) = w7 at *
              generalize wr.heap.size = g7 at *
              have v8 : w7.cell? ⟨g7, 0, none⟩ = some (.int .i64 dx) := by rw [cell_of_row w7 _ 0 _ _ _ hnx]; rfl
              clear hnx
              go_quiet (fail)
              go_wp2_with fail
              go_roundg (i - (k + 1))
              case measure => omega
              case rel => exact ⟨k + 1, by omega, rfl, by go_num, below_drewN HB7.out _⟩
            · obtain ⟨kx, hkx, hkl⟩ := HR.out.resolve_left hx0
              obtain ⟨kd, hkd, hdl⟩ := hrk.resolve_left hd0
              simp only at hkx hkd
              subst hkx hkd
              have hmt := (hap.resolve_left hx0).resolve_left hd0
              simp only [Int.toNat_natCast] at hmt
              rw [HN.out] at hkl
              obtain ⟨jb1, jo1, ob, oo, nk, jvk, s1, uA, ucp, ust, vA, vcp, uos, hJ1, hnk, _, ho1, _, hin1⟩ := (HJ5.out.belowMore hbk hbk.size).opt_in hiL hkl
              obtain ⟨jb2, jo2, pb, po, nk2, jvk2, s2, xA, xcp, xst, yA, ycp, yos, hJ2, hnk2, _, ho2, _, hin2⟩ := (HJ5.out.belowMore hbk hbk.size).opt_in (i := k) (by omega) hdl
              injection hJ1 with hJ1; injection hJ1 with e1 e2 _
              subst e1 e2
              injection hJ2 with hJ2; injection hJ2 with e1 e2 _
              subst e1 e2
              rw [ho1, ho2] at hmt
              have hlx : k < L.length := by omega
              have l2 : (k : Int) < (L.length : Int) := by omega
              have j0 : (0 : Int) ≤ (kx : Int) := by omega
              have j1 : (kx : Int) < (nk : Int) := by have := hin1.kn; omega
              have j2 : (0 : Int) ≤ (kd : Int) := by omega
              have j3 : (kd : Int) < (nk2 : Int) := by have := hin2.kn; omega
              have hd1 : decide ((0 : Int) ≤ (kx : Int)) = true := decide_eq_true j0
              have hd2 : decide ((0 : Int) ≤ (kd : Int)) = true := decide_eq_true j2
              obtain ⟨_, _, a1, a2, a3, hol1⟩ := hin1.below hbx (Nat.le_refl _) hbx _ hbx.size
              obtain ⟨_, _, b1, b2, b3, hol2⟩ := hin2.below hbx (Nat.le_refl _) hbx _ hbx.size
              clear hap hrk hgk hx0 hd0 hkl hdl hnk hnk2 ho1 ho2 hin1 hin2 hlx
              go_upto_region 13 with fail
              clear f0 f1 hbx hb2 hB5 hbk
              generalize wr.alloc (.cells #[.int .i64 kd, .int .i64 dy] 55) = w7 at *
              generalize wr.heap.size = g7 at *
              have v8 : w7.cell? ⟨g7, 0, none⟩ = some (.int .i64 kd) := by rw [cell_of_row w7 _ 0 _ _ _ hnx]; rfl
              have v9 : w7.cell? ⟨g7, 1, none⟩ = some (.int .i64 dy) := by rw [cell_of_row w7 _ 1 _ _ _ hnx]; rfl
              have HMT := Lib.hid (fun V (b : Below w7.heap.size w7 V) => refMeets_any uA ucp ust vA vcp uos y xA xcp xst yA ycp yos dy V (hol1.st.belowMore b b.size) (hol1.oc.belowMore b b.size) hol1.sm hol1.om (hol2.st.belowMore b b.size) (hol2.oc.belowMore b b.size) hol2.sm hol2.om)
              rw [hmt] at HMT
              have hB0 : Below w7.heap.size w7 w7.drew := (Below.refl _ _).drew
              clear hnx hol1 hol2 hmt
              go_cut [109] (fun s109 wx => s109 = .bool false ∧ Below w7.heap.size w7 wx)
              case first =>
                go_region_held3 (fun w' => w'.cell? ⟨jb, jo + i * 2 + 1, none⟩ = some (.slice (some ⟨ob, oo, none⟩) nk jvk) ∧ w'.cell? ⟨ob, oo + kx * 2, none⟩ = some (.slice uA ust.length ucp) ∧ w'.cell? ⟨ob, oo + kx * 2 + 1, none⟩ = some (.slice vA uos.length vcp) ∧ w'.cell? ⟨jb, jo + k * 2 + 1, none⟩ = some (.slice (some ⟨pb, po, none⟩) nk2 jvk2) ∧ w'.cell? ⟨pb, po + kd * 2, none⟩ = some (.slice xA xst.length xcp) ∧ w'.cell? ⟨pb, po + kd * 2 + 1, none⟩ = some (.slice yA yos.length ycp) ∧ w'.cell? ⟨gd, 0, none⟩ = some (.int .i64 kx) ∧ w'.cell? ⟨gd, 1, none⟩ = some (.int .i64 y) ∧ w'.cell? ⟨g7, 0, none⟩ = some (.int .i64 kd) ∧ w'.cell? ⟨g7, 1, none⟩ = some (.int .i64 dy))
                  (exact ⟨(hB0.cell (p := ⟨jb, jo + i * 2 + 1, none⟩) (cell_lt a1)).trans a1, (hB0.cell (p := ⟨ob, oo + kx * 2, none⟩) (cell_lt a2)).trans a2, (hB0.cell (p := ⟨ob, oo + kx * 2 + 1, none⟩) (cell_lt a3)).trans a3, (hB0.cell (p := ⟨jb, jo + k * 2 + 1, none⟩) (cell_lt b1)).trans b1, (hB0.cell (p := ⟨pb, po + kd * 2, none⟩) (cell_lt b2)).trans b2, (hB0.cell (p := ⟨pb, po + kd * 2 + 1, none⟩) (cell_lt b3)).trans b3, (hB0.cell (p := ⟨gd, 0, none⟩) (cell_lt v3)).trans v3, (hB0.cell (p := ⟨gd, 1, none⟩) (cell_lt v4)).trans v4, (hB0.cell (p := ⟨g7, 0, none⟩) (cell_lt v8)).trans v8, (hB0.cell (p := ⟨g7, 1, none⟩) (cell_lt v9)).trans v9⟩)
                  ((go_at_call 19; (with_reducible refine (HMT.out _ hB0).mono ?_); rintro e w' ⟨rfl, hb'⟩; replace hB0 := hB0.trans (hb'.mono hB0.size)))
                all_goals
                  go_wp2_with fail
                  go_meet
                  exact ⟨rfl, hB0⟩
              case rest =>
                obtain ⟨rfl, hbc⟩ := hcut
                have HB9 := Lib.hid (HB7.out.trans (hbc.mono HB7.out.size))
                clear hbc
                go_wp2_with fail
                go_roundg (i - (k + 1))
                case measure => omega
                case rel => exact ⟨k + 1, by omega, rfl, by go_num, HB9.out⟩
        · have HB8 := Lib.hid (HB6.out.trans (hb2.mono HB6.out.size))
          clear hb2
          go_wp2_with fail
          go_roundg (ch.length - (i + 1))
          case measure => omega
          case rel => exact ⟨i + 1, by omega, rfl, by go_num, HB8.out⟩
    · have HB6 := Lib.hid (HB5.out.trans (hb.mono HB5.out.size))
      clear hb
      go_wp2_with fail
      refine (awake26_any _).mono ?_
      rintro e w7 ⟨rfl, hb7⟩
      have b7 := HB6.out.trans (hb7.mono HB6.out.size)
      clear hb7
      go_wp2_with fail
      go_ret
      exact ⟨rfl, b7⟩
end Go.Proofs.Ytlillkfelfoafaa
