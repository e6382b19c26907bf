/-
  The walk of CalendarTimes.
-/
import Derived.Test.YtaongejpbgjbiaaTimQ
import Derived.Test.YtaongejpbgjbiaaPatW
import Derived.Test.YtaongejpbgjbiaaTrs
import Derived.Test.YtaongejpbgjbiaaCalRB
import Derived.Test.YtaongejpbgjbiaaLiftX
import Derived.Test.YtaongejpbgjbiaaOrd
set_option linter.unusedVariables false
set_option linter.unusedSimpArgs false
namespace Go.Proofs.Ytaongejpbgjbiaa
open Go.RowKit RP

theorem hro_times {T D : Nat} {ts : List Int} {ev : List Evt} {ac : List Acy} {s : List Svc} {x : List Exc} {pf : Int → PatP} (h : RollOk T ts ev ac D s x pf) {L : List TripM} (hp : (L.map TripM.p).Perm (allT T s x pf D s)) (i : Nat) (hi : i < L.length) : TimesOk T ts ev s x L[i].line L[i].day L[i].dep L[i].arr :=
  h.times (hp.mem_iff.1 (List.mem_map.2 ⟨L[i], List.getElem_mem hi, rfl⟩))
theorem hro_strict {T D : Nat} {ts : List Int} {ev : List Evt} {ac : List Acy} {s : List Svc} {x : List Exc} {pf : Int → PatP} (h : RollOk T ts ev ac D s x pf) {L : List TripM} (hp : (L.map TripM.p).Perm (allT T s x pf D s)) (hs : L.Pairwise (fun a b => ¬ tcmp b a < 0)) (i : Nat) (hi : i + 1 < L.length) :
    L[i].dep.getD 0 0 ≤ L[i + 1].dep.getD 0 0 ∧ (L[i].dep.getD 0 0 = L[i + 1].dep.getD 0 0 → L[i].line < L[i + 1].line) := by
  have := h.strict hp (sorted_p hs) i (by simpa using hi)
  simpa [TripM.p] using this
theorem it_getD {w : World} {B : Nat} {A : Option Addr} {l : List Int} (h : Lst encI 1 w B A l) (i : Nat) (hi : i < l.length) :
    ∃ b off, A = some ⟨b, off, none⟩ ∧ b < B ∧ w.cell? ⟨b, off + i, none⟩ = some (.int .i64 (l.getD i 0)) := by
  obtain ⟨b, off, h1, h2, h3⟩ := h.it i hi
  exact ⟨b, off, h1, h2, by rw [h3]; simp [hi]⟩
theorem it_zero {w : World} {B : Nat} {A : Option Addr} {l : List Int} (h : Lst encI 1 w B A l) (hi : 1 ≤ l.length) :
    ∃ b off, A = some ⟨b, off, none⟩ ∧ b < B ∧ w.cell? ⟨b, off, none⟩ = some (.int .i64 (l.getD 0 0)) := by
  obtain ⟨b, off, h1, h2, h3⟩ := it_getD h 0 hi
  exact ⟨b, off, h1, h2, by simpa using h3⟩
theorem ret_full {a b : Bool} (h : a = true) (h' : b = true) : (if a = true then b else false) = true := by rw [h, h']; rfl

set_option maxRecDepth 100000 in
set_option maxHeartbeats 16000000 in
theorem walkCalendarTimes (A : Option Addr) (c : Nat) (net : List Int) (B : Option Addr) (d : Nat) (l : List Int) (days : Int) (w : World) (hnet : ArgI w A c net) (hl : ArgI w B d l) (rd : R64 days) :
    Calls Try.prog 6 #[.slice A net.length c, .slice B l.length d, .int .i64 days] w fun e w' => e = .returned (.bool true) ∧ Below w.heap.size w w' := by
  have q1 := fun W => pick_any days 3 W (by omega) (by omega)
  have p1 := pickI_range days 3 (by omega)
  go_enter Try.func6, Try.ntmps6
  go_wp2_with fail
  refine (pattern_any A c net w hnet).mono ?_
  rintro e w1 ⟨T, L, r, E, cE, An, cA, B', cB, ev, ac, ts, rfl, hE, hA, hT, hI, hr, hT1, hT2, hb1⟩
  have hE1 := Own.lst encE_len hE
  have hA1 := Own.lst encA_len hA
  have hTs1 := Own.lst encI_len hT
  have hl1 := hl.below hb1
  have ba := belA w1 (.cells #[.int .i64 T, .slice E ev.length cE, .slice An ac.length cA] 43)
  have hn := heap_alloc_new w1 (.cells #[.int .i64 T, .slice E ev.length cE, .slice An ac.length cA] 43)
  have z2 : (w1.alloc (.cells #[.int .i64 T, .slice E ev.length cE, .slice An ac.length cA] 43)).heap.size = w1.heap.size + 1 := by simp
  have HE := Lib.hid (hE1.belowMore ba ba.size)
  have HA := Lib.hid (hA1.belowMore ba ba.size)
  have HT := Lib.hid (hTs1.belowMore ba ba.size)
  have HB := Lib.hid (hb1.trans (ba.mono hb1.size))
  have hl2 := hl1.below ba
  have HN := Lib.hid hn
  obtain ⟨pf, hpf⟩ := pats_of hI hr hT1
  have hev := hI.evs hr
  have HEV := Lib.hid (fun e he => (hev.1 e he))
  have hL3 := hI.L3
  have hL1 := hI.lamL
  have hen : ev.length ≤ 18 := by have := hI.len; have := hI.r3; omega
  have htn : ts.length ≤ 18 := by have := hI.tlen; omega
  have HLK := Lib.hid (linesK_of (by omega) hev.1 hev.2)
  have HRO := Lib.hid (fun (D : Nat) s x (hm : MadeV D L s x) (d1 : 1 ≤ D) (d2 : D ≤ 31) => rollOk_of hI hr hT1 hT2 hpf hm d1 d2)
  generalize hgn : w1.heap.size = gn at *
  clear hE hA hT hE1 hA1 hTs1 hl1 ba hn hI hpf hev hb1 hl
  go_wp2_with fail
  generalize w1.alloc (.cells #[.int .i64 T, .slice E ev.length cE, .slice An ac.length cA] 43) = w2 at *
  have n0 : w2.cell? ⟨gn, 0, none⟩ = some (.int .i64 T) := by rw [cell_of_row w2 _ 0 _ _ _ HN.out]; rfl
  have n1 : w2.cell? ⟨gn, 1, none⟩ = some (.slice E ev.length cE) := by rw [cell_of_row w2 _ 1 _ _ _ HN.out]; rfl
  have n2 : w2.cell? ⟨gn, 2, none⟩ = some (.slice An ac.length cA) := by rw [cell_of_row w2 _ 2 _ _ _ HN.out]; rfl
  clear hgn
  refine (q1 w2).mono ?_
  rintro e w' ⟨rfl, rfl⟩
  clear q1
  generalize pickI days 3 = pd at *
  obtain ⟨D, hD⟩ : ∃ D : Nat, (D : Int) = 1 + pd := ⟨(1 + pd).toNat, by omega⟩
  have hD2 : 1 ≤ D ∧ D ≤ 3 := by omega
  go_wp2_with fail
  refine (linesK_any T E cE An ac.length cA ev w2 HE.out (by omega) (fun e he => by have := HEV.out e he; omega)).mono ?_
  rintro e w3 ⟨rfl, hb3⟩
  rw [HLK.out, ← hD]
  clear hD
  have HB3 := Lib.hid hb3
  have hl3 := hl2.below hb3
  have z3 := hb3.size
  clear hb3 hl2
  go_wp2_with fail
  refine (services_any L D B d l w3 (by omega) (by omega) (by omega) hl3).mono ?_
  rintro e w4 ⟨va, vb, s, x, rfl, ha, hb, hmv, hb4⟩
  obtain ⟨S, cS, rfl⟩ := ha.form
  obtain ⟨X, cX, rfl⟩ := hb.form
  have hro := HRO.out D s x hmv (by omega) (by omega)
  have HS := Lib.hid (Own.lst encV_len ha)
  have HX := Lib.hid (Own.lst encX_len hb)
  have hB4 := HB3.out.trans (hb4.mono HB3.out.size)
  have HB4 := Lib.hid hB4
  have k0 := (hB4.cell (p := ⟨gn, 0, none⟩) (cell_lt n0)).trans n0
  have k1 := (hB4.cell (p := ⟨gn, 1, none⟩) (cell_lt n1)).trans n1
  have k2 := (hB4.cell (p := ⟨gn, 2, none⟩) (cell_lt n2)).trans n2
  have hrl := roll_ok hro (fun e he => ⟨by have := HEV.out e he; omega, by have := HEV.out e he; omega⟩) E cE An cA B' cB S cS X cX w4 (HE.out.belowMore hB4 hB4.size) (HA.out.belowMore hB4 hB4.size) (HT.out.belowMore hB4 hB4.size) HS.out HX.out
  have HROK := Lib.hid hro
  clear ha hb hmv hb4 hB4 hro n0 n1 n2 hl3
  go_wp2_with fail
  refine hrl.mono ?_
  rintro e w5 ⟨hb5, ⟨hc, rfl⟩ | ⟨hc, TA, tc, Lt, rfl, hTr, hp, hsrt⟩⟩
  · have HB5 := Lib.hid (HB4.out.trans (hb5.mono HB4.out.size))
    clear hb5 hrl
    go_wp2_with fail
    refine (awake_any _).mono ?_
    rintro e w6 ⟨rfl, hb6⟩
    have hB6 := HB5.out.trans (hb6.mono HB5.out.size)
    have HB6 := Lib.hid (HB.out.trans (hB6.mono HB.out.size))
    clear hb6 hB6
    go_wp2_with fail
    go_ret
    exact ⟨rfl, HB6.out⟩
  · have hTrs := hTr.trs
    have HTM := Lib.hid (fun (i : Nat) (hi : i < Lt.length) => (hro_times HROK.out hp i hi))
    have HST := Lib.hid (fun (i : Nat) (hi : i + 1 < Lt.length) => (hro_strict HROK.out hp hsrt i hi))
    have hB5 := HB4.out.trans (hb5.mono HB4.out.size)
    have HB5 := Lib.hid hB5
    have HB45 := Lib.hid hb5
    have m0 := (hb5.cell (p := ⟨gn, 0, none⟩) (cell_lt k0)).trans k0
    have m1 := (hb5.cell (p := ⟨gn, 1, none⟩) (cell_lt k1)).trans k1
    have m2 := (hb5.cell (p := ⟨gn, 2, none⟩) (cell_lt k2)).trans k2
    have hE5 := HE.out.belowMore hB5 hB5.size
    have hT5 := HT.out.belowMore hB5 hB5.size
    have hS5 := HS.out.belowMore hb5 hb5.size
    have hX5 := HX.out.belowMore hb5 hb5.size
    have hss := HROK.out.ns
    have hxx := HROK.out.nx
    have hT1' := HROK.out.one
    have HDA := Lib.hid HROK.out.days
    have hLn := hTrs.len
    clear hTr hp hsrt hb5 hB5 hrl k0 k1 k2
    go_wp2_with fail
    go_loopg [14, 15, 16, 17, 18, 53] Lt.length (fun g s14 s15 s16 s17 s18 s53 wr => ∃ i : Nat, i ≤ Lt.length ∧ g = Lt.length - i ∧ s53 = .int .i64 i ∧ Below w5.heap.size w5 wr)
    case atStart => exact ⟨0, by omega, by omega, rfl, Below.refl _ _⟩
    case round =>
      obtain ⟨i, hi, hg, rfl, hb⟩ := hrel
      by_cases hlt : i < Lt.length
      · have hTb := hTrs.below hb
        have hTM := HTM.out i hlt
        obtain ⟨b, off, rfl, hbb, a0, a1, a2, a3⟩ := hTb.lst.tr i hlt
        have htl := hTb.at_ Lt[i] (List.getElem_mem hlt)
        have hprev : i = 0 ∨ ∃ i', i = i' + 1 ∧ ∃ (ul u0 : Int) (pn pc pb po : Nat), wr.cell? ⟨b, off + i' * 4, none⟩ = some (.int .i64 ul) ∧ wr.cell? ⟨b, off + i' * 4 + 2, none⟩ = some (.slice (some ⟨pb, po, none⟩) pn pc) ∧ wr.cell? ⟨pb, po, none⟩ = some (.int .i64 u0) ∧ 1 ≤ pn ∧ u0 ≤ Lt[i].dep.getD 0 0 ∧ (u0 = Lt[i].dep.getD 0 0 → ul < Lt[i].line) := by
          rcases Nat.eq_zero_or_pos i with h0 | h0
          · exact .inl h0
          · obtain ⟨i', rfl⟩ : ∃ i', i = i' + 1 := ⟨i - 1, by omega⟩
            have hlt' : i' < Lt.length := by omega
            obtain ⟨b1, off1, e1, _, c0, _, c2, _⟩ := hTb.lst.tr i' hlt'
            injection e1 with e1
            injection e1 with e1 e2
            subst e1 e2
            have hu := hTb.at_ Lt[i'] (List.getElem_mem hlt')
            have hup := (HTM.out i' hlt').pos
            obtain ⟨pb, po, e3, _, c3⟩ := it_zero hu.dep hup
            rw [e3] at c2
            have hs := HST.out i' (by omega)
            exact .inr ⟨i', rfl, _, _, _, _, pb, po, c0, c2, c3, by rw [hu.dn]; exact hup, hs.1, hs.2⟩
        have ba := belA wr (.cells #[.int .i64 Lt[i].line, .int .i64 Lt[i].day, .slice Lt[i].dv.a Lt[i].dv.n Lt[i].dv.c, .slice Lt[i].av.a Lt[i].av.n Lt[i].av.c] 51)
        have hnew := heap_alloc_new wr (.cells #[.int .i64 Lt[i].line, .int .i64 Lt[i].day, .slice Lt[i].dv.a Lt[i].dv.n Lt[i].dv.c, .slice Lt[i].av.a Lt[i].av.n Lt[i].av.c] 51)
        have zx : (wr.alloc (.cells #[.int .i64 Lt[i].line, .int .i64 Lt[i].day, .slice Lt[i].dv.a Lt[i].dv.n Lt[i].dv.c, .slice Lt[i].av.a Lt[i].av.n Lt[i].av.c] 51)).heap.size = wr.heap.size + 1 := by simp
        have hBx := hb.trans (ba.mono hb.size)
        have hda := htl.dep.belowMore ba ba.size
        have har := htl.arr.belowMore ba ba.size
        generalize Lt[i] = t at *
        obtain ⟨tl, td, dep, arr, ⟨ta, tn, tc1⟩, ⟨ta', tn', tc2⟩⟩ := t
        obtain ⟨dn1, an1, _, _, dm1, am1⟩ := htl
        simp only at dn1 an1 dm1 am1 a0 a1 a2 a3 hTM hprev zx hnew ba hBx hda har
        obtain ⟨hpos, hlen, hd0, hd1, hday, hruns, hat⟩ := hTM
        subst dn1 an1
        obtain ⟨td0, tdo, rfl, htd, e0⟩ := it_zero hda hpos
        have HAT := Lib.hid hat
        have HDAY := Lib.hid hday
        have HDA' := Lib.hid hda
        have HAR := Lib.hid har
        have HBA := Lib.hid ba
        have HBX := Lib.hid hBx
        have HBLK := Lib.hid hnew
        have HRUNS := Lib.hid hruns
        have HPV := Lib.hid hprev
        have hb4 : off + i * 4 + 2 < off + i * 4 + 3 := by omega
        clear hday hat hda har hBx hnew hprev hTrs hTb hb hE5 hT5 hS5 hX5 hruns
        generalize hdn : dep.length = dn at *
        generalize hann : arr.length = an at *
        generalize dep.getD 0 0 = t0 at *
        subst hlen
        have HDN := Lib.hid (And.intro hdn hann)
        clear hdn hann
        have i0 : (0 : Int) ≤ (i : Int) := by omega
        have i1 : (i : Int) < (Lt.length : Int) := by omega
        have dpos : (0 : Int) < (an : Int) := by omega
        have fA : ((an : Int) == 0) = false := by simp; omega
        go_wp2_with fail
        generalize wr.alloc (.cells #[.int .i64 tl, .int .i64 td, .slice (some ⟨td0, tdo, none⟩) an tc1, .slice ta' an tc2] 51) = w1' at *
        generalize hgt : wr.heap.size = gt at *
        have HGT := Lib.hid hgt
        clear hgt
        have t0c : w1'.cell? ⟨gt, 0, none⟩ = some (.int .i64 tl) := by rw [cell_of_row w1' _ 0 _ _ _ HBLK.out]; rfl
        have t1c : w1'.cell? ⟨gt, 1, none⟩ = some (.int .i64 td) := by rw [cell_of_row w1' _ 1 _ _ _ HBLK.out]; rfl
        have t2c : w1'.cell? ⟨gt, 2, none⟩ = some (.slice (some ⟨td0, tdo, none⟩) an tc1) := by rw [cell_of_row w1' _ 2 _ _ _ HBLK.out]; rfl
        have t3c : w1'.cell? ⟨gt, 3, none⟩ = some (.slice ta' an tc2) := by rw [cell_of_row w1' _ 3 _ _ _ HBLK.out]; rfl
        clear a0 a1 a2 a3 hb4
        go_cut [115] (fun s115 wx => s115 = .bool false ∧ ∃ q, wx = w1'.drewN q)
        case first =>
          as_aux_lemma =>
            rcases HPV.out with h0 | ⟨i', h0, ul, u0, pn, pc, pb, po, c0, c2, c3, c4, c5, c6⟩
            · have g1 : decide (0 < i) = false := by simp; omega
              have g2 : decide ((0 : Int) < (i : Int)) = false := by simp; omega
              clear h0
              go_quiet (fail)
              go_wp2_with fail
              go_meet
              exact ⟨rfl, nq, rfl⟩
            · have g1 : decide (0 < i) = true := by simp; omega
              have g2 : decide ((0 : Int) < (i : Int)) = true := by simp; omega
              have sw : IntKind.i64.wrap ((i : Int) - 1) = (i' : Int) := by rw [h0, show ((i' + 1 : Nat) : Int) - 1 = (i' : Int) by omega]; exact IntWalk.i64_in _ (by omega)
              have j0 : (0 : Int) ≤ (i' : Int) := by omega
              have j1 : (i' : Int) < (Lt.length : Int) := by omega
              have j2 : (0 : Int) < (pn : Int) := by omega
              have p0 := (HBA.out.cell (p := ⟨b, off + i' * 4, none⟩) hbb).trans c0
              have p2 := (HBA.out.cell (p := ⟨b, off + i' * 4 + 2, none⟩) hbb).trans c2
              have p3 := (HBA.out.cell (p := ⟨pb, po, none⟩) (by rw [← HGT.out]; exact cell_lt c3)).trans c3
              have o1 : decide (t0 < u0) = false := by simp; omega
              by_cases hu : u0 = t0
              · have o2 : (u0 == t0) = true := by simpa using hu
                have o3 : decide (tl ≤ ul) = false := by have := c6 hu; simp; omega
                clear hu c6 c0 c2 c3 h0 c5
                go_quiet (fail)
                go_wp2_with fail
                go_meet
                exact ⟨rfl, nq, rfl⟩
              · have o2 : (u0 == t0) = false := by simpa using hu
                clear hu c6 c0 c2 c3 h0 c5
                go_quiet (fail)
                go_wp2_with fail
                go_meet
                exact ⟨rfl, nq, rfl⟩
        case rest =>
          as_aux_lemma =>
            obtain ⟨rfl, q, rfl⟩ := hcut
            obtain ⟨W2, hW2⟩ : ∃ W, W = w1'.drewN q := ⟨_, rfl⟩
            rw [← hW2]
            replace t0c : W2.cell? ⟨gt, 0, none⟩ = some (.int .i64 tl) := by rw [hW2]; exact t0c
            replace t1c : W2.cell? ⟨gt, 1, none⟩ = some (.int .i64 td) := by rw [hW2]; exact t1c
            replace t2c : W2.cell? ⟨gt, 2, none⟩ = some (.slice (some ⟨td0, tdo, none⟩) an tc1) := by rw [hW2]; exact t2c
            replace t3c : W2.cell? ⟨gt, 3, none⟩ = some (.slice ta' an tc2) := by rw [hW2]; exact t3c
            replace e0 : W2.cell? ⟨td0, tdo, none⟩ = some (.int .i64 t0) := by rw [hW2]; exact e0
            have zW : gt < W2.heap.size := cell_lt t0c
            have hBW := Lib.hid (show Below w5.heap.size w5 W2 by rw [hW2]; exact below_drewN HBX.out q)
            have hD2 : Lst encI 1 W2 W2.heap.size (some ⟨td0, tdo, none⟩) dep := by rw [hW2]; exact HDA'.out
            have hR2 : Lst encI 1 W2 W2.heap.size ta' arr := by rw [hW2]; exact HAR.out
            have HD2 := Lib.hid hD2
            have HR2 := Lib.hid hR2
            have zd : td0 < W2.heap.size := cell_lt e0
            clear hW2 HBX HBA HBLK HDA' HAR HPV HST HTM htd ba zx hbb hD2 hR2
            have hrw := fun W (b : Below W2.heap.size W2 W) => refRuns_any tl td S cS s X cX x W (HS.out.belowMore (HB45.out.trans ((hBW.out.trans (b.mono hBW.out.size)).mono HB45.out.size)) (HB45.out.trans ((hBW.out.trans (b.mono hBW.out.size)).mono HB45.out.size)).size) (by omega) (HX.out.belowMore (HB45.out.trans ((hBW.out.trans (b.mono hBW.out.size)).mono HB45.out.size)) (HB45.out.trans ((hBW.out.trans (b.mono hBW.out.size)).mono HB45.out.size)).size) (by omega) HDA.out ⟨by have := HDAY.out; omega, by have := HDAY.out; omega⟩
            rw [HRUNS.out] at hrw
            have HRW := Lib.hid hrw
            have dposN : 0 < an := by omega
            have sq : t0.tdiv 86400 = t0 / 86400 := Int.tdiv_eq_ediv_of_nonneg hd0
            have sw : IntKind.i64.wrap (t0 / 86400) = t0 / 86400 := IntWalk.i64_in _ (by omega)
            have sw2 : IntKind.i64.wrap (t0.tdiv 86400) = t0 / 86400 := by rw [sq]; exact sw
            have g1 : decide (t0 < 0) = false := by simp; omega
            have g2 : (td != t0 / 86400) = false := by have := HDAY.out; simp; omega
            have hB0 : Below W2.heap.size W2 W2.drew := (Below.refl _ _).drew
            clear hrw
            go_wp2_with fail
            go_cut [140] (fun s140 wx => s140 = .bool false ∧ Below W2.heap.size W2 wx)
            case first =>
              go_region_held3 (fun w' => w'.cell? ⟨gt, 0, none⟩ = some (.int .i64 tl) ∧ w'.cell? ⟨gt, 1, none⟩ = some (.int .i64 td) ∧ w'.cell? ⟨gt, 2, none⟩ = some (.slice (some ⟨td0, tdo, none⟩) an tc1) ∧ w'.cell? ⟨td0, tdo, none⟩ = some (.int .i64 t0))
                (exact ⟨(hB0.cell (p := ⟨gt, 0, none⟩) zW).trans t0c, (hB0.cell (p := ⟨gt, 1, none⟩) zW).trans t1c, (hB0.cell (p := ⟨gt, 2, none⟩) zW).trans t2c, (hB0.cell (p := ⟨td0, tdo, none⟩) zd).trans e0⟩)
                ((go_at_call 18; (with_reducible refine (HRW.out _ hB0).mono ?_); rintro e w' ⟨rfl, hb'⟩; replace hB0 := hB0.trans (hb'.mono hB0.size)))
              all_goals
                go_wp2_with fail
                go_meet
                exact ⟨rfl, hB0⟩
            case rest =>
              obtain ⟨rfl, hbc⟩ := hcut
              have HBC := Lib.hid hbc
              have t2d := (hbc.cell (p := ⟨gt, 2, none⟩) zW).trans t2c
              clear hbc hB0 g1 g2 sq sw sw2
              go_wp2_with fail
              go_loopg [16, 17, 18, 144] an (fun g s16 s17 s18 s144 wr => ∃ k : Nat, k ≤ an ∧ g = an - k ∧ s144 = .int .i64 k ∧ Below W2.heap.size W2 wr)
              case atStart => exact ⟨0, by omega, by omega, rfl, HBC.out⟩
              case round =>
                obtain ⟨k, hk, hg2, rfl, hb2⟩ := hrel
                by_cases hlt2 : k < an
                · obtain ⟨u, v, x1, x2, x3, x4, x5, x6, x7, x8⟩ := HAT.out k hlt2
                  have hE2 := fun W (b : Below W2.heap.size W2 W) => refIdx_any 1 tl k T E cE An ac.length cA ev W (HE.out.belowMore (HB5.out.trans ((hBW.out.trans (b.mono hBW.out.size)).mono HB5.out.size)) (HB5.out.trans ((hBW.out.trans (b.mono hBW.out.size)).mono HB5.out.size)).size) (by omega)
                  have hE3 := fun W (b : Below W2.heap.size W2 W) => refIdx_any 2 tl k T E cE An ac.length cA ev W (HE.out.belowMore (HB5.out.trans ((hBW.out.trans (b.mono hBW.out.size)).mono HB5.out.size)) (HB5.out.trans ((hBW.out.trans (b.mono hBW.out.size)).mono HB5.out.size)).size) (by omega)
                  rw [x1] at hE2
                  rw [x2] at hE3
                  have HE2 := Lib.hid hE2
                  have HE3 := Lib.hid hE3
                  have HW := hBW.out.trans (hb2.mono hBW.out.size)
                  have r0 := (HW.cell (p := ⟨gn, 0, none⟩) (cell_lt m0)).trans m0
                  have r1 := (HW.cell (p := ⟨gn, 1, none⟩) (cell_lt m1)).trans m1
                  have r2 := (HW.cell (p := ⟨gn, 2, none⟩) (cell_lt m2)).trans m2
                  have z5 := HW.size
                  have y0 := (hb2.cell (p := ⟨gt, 0, none⟩) zW).trans t0c
                  have y2 := (hb2.cell (p := ⟨gt, 2, none⟩) zW).trans t2c
                  have y3 := (hb2.cell (p := ⟨gt, 3, none⟩) zW).trans t3c
                  have zr := hb2.size
                  have HB2 := Lib.hid hb2
                  have HTS := Lib.hid (HT.out.belowMore (HB5.out.trans (HW.mono HB5.out.size)) (HB5.out.trans (HW.mono HB5.out.size)).size)
                  have zg1 : gn < wr.heap.size := cell_lt r0
                  have zg2 : gt < wr.heap.size := cell_lt y0
                  have hB0 : Below wr.heap.size wr wr.drew := (Below.refl _ _).drew
                  have k00 : (0 : Int) ≤ (k : Int) := by omega
                  have k01 : (k : Int) < (an : Int) := by omega
                  have HX := Lib.hid (And.intro x3 (And.intro x4 (And.intro x5 (And.intro x6 (And.intro x7 x8)))))
                  clear hE2 hE3 x1 x2 x3 x4 x5 x6 x7 x8 HW hb2
                  go_wp2_with fail
                  go_cut [17, 18] (fun s17 s18 wx => s17 = .int .i64 u ∧ s18 = .int .i64 v ∧ Below wr.heap.size wr wx)
                  case first =>
                    go_region_held3 (fun w' => w'.cell? ⟨gn, 0, none⟩ = some (.int .i64 T) ∧ w'.cell? ⟨gn, 1, none⟩ = some (.slice E ev.length cE) ∧ w'.cell? ⟨gn, 2, none⟩ = some (.slice An ac.length cA) ∧ w'.cell? ⟨gt, 0, none⟩ = some (.int .i64 tl))
                      (exact ⟨(hB0.cell (p := ⟨gn, 0, none⟩) zg1).trans r0, (hB0.cell (p := ⟨gn, 1, none⟩) zg1).trans r1, (hB0.cell (p := ⟨gn, 2, none⟩) zg1).trans r2, (hB0.cell (p := ⟨gt, 0, none⟩) zg2).trans y0⟩)
                      (first | (go_at_call 22; (with_reducible refine (HE2.out _ (HB2.out.trans (hB0.mono zr))).mono ?_); rintro e w' ⟨rfl, hb'⟩; replace hB0 := hB0.trans (hb'.mono hB0.size)) | (go_at_call 22; (with_reducible refine (HE3.out _ (HB2.out.trans (hB0.mono zr))).mono ?_); rintro e w' ⟨rfl, hb'⟩; replace hB0 := hB0.trans (hb'.mono hB0.size)))
                    all_goals
                      go_wp2_with fail
                      go_meet
                      exact ⟨rfl, rfl, hB0⟩
                  case rest =>
                    obtain ⟨rfl, rfl, hbc3⟩ := hcut
                    obtain ⟨x3, x4, x5, x6, x7, x8⟩ := HX.out
                    have HB3' := Lib.hid (HB2.out.trans (hbc3.mono zr))
                    obtain ⟨b1, o1, e1, z1', d1⟩ := it_getD (HD2.out.belowMore HB2.out HB2.out.size) k (by rw [HDN.out.1]; exact hlt2)
                    obtain ⟨b2, o2, rfl, z2', d2⟩ := it_getD (HR2.out.belowMore HB2.out HB2.out.size) k (by rw [HDN.out.2]; exact hlt2)
                    obtain ⟨b3, o3, rfl, z3', d3⟩ := it_getD HTS.out u x3
                    obtain ⟨b4, o4, e4, z4', d4⟩ := it_getD HTS.out v x4
                    injection e1 with e1
                    injection e1 with e1 e1'
                    subst e1 e1'
                    injection e4 with e4
                    injection e4 with e4 e4'
                    subst e4 e4'
                    generalize dep.getD k 0 = dk at *
                    generalize arr.getD k 0 = ak at *
                    generalize ts.getD u 0 = xu at *
                    generalize ts.getD v 0 = xv at *
                    replace d1 := (hbc3.cell (p := ⟨td0, tdo + k, none⟩) z1').trans d1
                    replace d2 := (hbc3.cell (p := ⟨b2, o2 + k, none⟩) z2').trans d2
                    replace d3 := (hbc3.cell (p := ⟨b3, o3 + u, none⟩) z3').trans d3
                    replace d4 := (hbc3.cell (p := ⟨b3, o3 + v, none⟩) z4').trans d4
                    have j0 := (hbc3.cell (p := ⟨gn, 0, none⟩) zg1).trans r0
                    have j2 := (hbc3.cell (p := ⟨gt, 2, none⟩) zg2).trans y2
                    have j3 := (hbc3.cell (p := ⟨gt, 3, none⟩) zg2).trans y3
                    have v0 : (0 : Int) ≤ (u : Int) := by omega
                    have v1 : (u : Int) < (ts.length : Int) := by omega
                    have v2 : (0 : Int) ≤ (v : Int) := by omega
                    have v3 : (v : Int) < (ts.length : Int) := by omega
                    have hmz : ¬ T = 0 := by omega
                    have hmz' : ¬ (T : Int) = 0 := by omega
                    have hmy : (T == 0) = false := by simp; omega
                    have hmx : ((T : Int) == 0) = false := by simp; omega
                    have ha0 : 0 ≤ ak := by omega
                    have sq1 : dk.tmod (T : Int) = xu := by rw [Int.tmod_eq_emod_of_nonneg x5]; exact x7
                    have sq2 : ak.tmod (T : Int) = xv := by rw [Int.tmod_eq_emod_of_nonneg ha0]; exact x8
                    have s1 := Int.emod_nonneg dk hmz'
                    have s2 := Int.emod_lt_of_pos dk (show (0 : Int) < T by omega)
                    have s3 := Int.emod_nonneg ak hmz'
                    have s4 := Int.emod_lt_of_pos ak (show (0 : Int) < T by omega)
                    have sw1 : IntKind.i64.wrap xu = xu := IntWalk.i64_in _ (by omega)
                    have sw2 : IntKind.i64.wrap xv = xv := IntWalk.i64_in _ (by omega)
                    have g3 : decide (dk < 0) = false := by simp; omega
                    have g4 : decide (ak < dk) = false := by simp; omega
                    have g5 : decide ((u : Int) < 0) = false := by simp
                    have g6 : decide ((v : Int) < 0) = false := by simp
                    have g7 : (xu != xu) = false := by simp
                    have g8 : (xv != xv) = false := by simp
                    clear x3 x4 x7 x8 hbc3 r0 r1 r2 y0 y2 y3 s1 s2 s3 s4 hB0 t0c t1c t2c t3c t2d e0 m0 m1 m2
                    go_wp2_with fail
                    go_quiet (fail)
                    go_wp2_with fail
                    go_roundg (an - (k + 1))
                    case measure => omega
                    case rel => exact ⟨k + 1, by omega, rfl, by go_num, below_drewN HB3'.out _⟩
                · have HB6 := Lib.hid (hBW.out.trans (hb2.mono hBW.out.size))
                  clear hb2
                  go_wp2_with fail
                  go_roundg (Lt.length - (i + 1))
                  case measure => omega
                  case rel => exact ⟨i + 1, by omega, rfl, by go_num, HB6.out⟩
      · have HB6 := Lib.hid (HB5.out.trans (hb.mono HB5.out.size))
        clear hb hTrs m0 m1 m2 hE5 hT5 hS5 hX5
        go_wp2_with fail
        refine (awake_any _).mono ?_
        rintro e w6 ⟨rfl, hb6⟩
        have hB6 := HB6.out.trans (hb6.mono HB6.out.size)
        have HB7 := Lib.hid (HB.out.trans (hB6.mono HB.out.size))
        clear hb6 hB6
        go_wp2_with fail
        go_ret
        exact ⟨rfl, HB7.out⟩
end Go.Proofs.Ytaongejpbgjbiaa
