/-
  The walk of Roll.
-/
import Derived.Test.YtaongejpbgjbiaaCalY
set_option linter.unusedVariables false
set_option linter.unusedSimpArgs false
namespace Go.Proofs.Ytaongejpbgjbiaa
open Go.RowKit RP
attribute [local go_sem ↓] Go.wp_at_zero Go.wp_at_succ

set_option maxRecDepth 100000 in
set_option maxHeartbeats 16000000 in
theorem roll_any (T : Nat) (E : Option Addr) (cE : Nat) (A : Option Addr) (cA : Nat) (ev : List Evt) (l : List Acy) (B' : Option Addr) (cB : Nat) (ts : List Int) (D : Nat) (S : Option Addr) (cS : Nat) (s : List Svc) (X : Option Addr) (cX : Nat) (x : List Exc) (pf : Int → PatP) (w : World)
    (he : Lst encE 3 w w.heap.size E ev) (hl : Lst encA 6 w w.heap.size A l) (ht : Lst encI 1 w w.heap.size B' ts) (hs : Lst encV 4 w w.heap.size S s) (hx : Lst encX 3 w w.heap.size X x) (hf : feasB T ev.length l ts = true) (hck : checkS (linesP ev) D s x = 0) (hp : ∀ a ∈ s, PatAt T ts ev l a.line (pf a.line))
    (hr : ∀ e ∈ ev, R64 e.2.1) (hD : D ≤ 31) (hns : s.length ≤ 16) (hnx : x.length ≤ 1000) (hok : ∀ a ∈ s, SvcOk T pf a) (hda : ∀ a ∈ s, R64 a.days) :
    Calls Try.prog 21 #[netV T E ev.length cE A l.length cA, .slice B' ts.length cB, .int .i64 D, .slice S s.length cS, .slice X x.length cX] w (RollPost T D s x pf w) := by
  have hgd := (feas_iff.1 hf).1
  have hnb := (netB_iff.1 (goodB_iff.1 hgd).1).1
  have h2 : T ≤ 7200 := by omega
  have h1 : 1 ≤ T := by omega
  have ba := belA w (.cells #[.int .i64 T, .slice E ev.length cE, .slice A l.length cA] 43)
  have hnew := heap_alloc_new w (.cells #[.int .i64 T, .slice E ev.length cE, .slice A l.length cA] 43)
  have z0 : w.heap.size < (w.alloc (.cells #[.int .i64 T, .slice E ev.length cE, .slice A l.length cA] 43)).heap.size := by simp
  have hsA := hs.belowMore ba ba.size
  have hxA := hx.belowMore ba ba.size
  have hpt := patterns_any T E cE A cA ev l B' cB ts D S cS s X cX x pf _ (he.belowMore ba ba.size) (hl.belowMore ba ba.size) (ht.belowMore ba ba.size) hsA hxA hf hck hp hr ⟨by omega, by omega⟩ hns hnx
  have HPG := Lib.hid (fun a ha => patAt_good hgd (hp a ha))
  have HOK := Lib.hid hok
  have HDA := Lib.hid hda
  have HCR := Lib.hid (cntS_range (s := s) (x := x) (pf := pf) h1 D hD s hok)
  have hcr := HCR.out s.length (Nat.le_refl _)
  rw [List.take_length] at hcr
  have HAL := Lib.hid (allT_len (s := s) (x := x) (pf := pf) h1 D s hok)
  clear hgd hnb hf hck hp hr hok hda he hl ht
  go_enter Try.func21, Try.ntmps21
  go_wp2_with fail
  generalize w.alloc (.cells #[.int .i64 T, .slice E ev.length cE, .slice A l.length cA] 43) = w0 at *
  refine hpt.mono ?_
  rintro e w1 ⟨v, L, rfl, hPats, hL, hb1⟩
  obtain ⟨PA, pc, hvf⟩ := hPats.1.form
  subst hvf
  generalize hpl : L.length = pn at *
  have hpn : pn = s.length := by rw [← hpl]; have := congrArg List.length hL; simpa using this
  have HPL := Lib.hid hpl
  have HPN := Lib.hid hpn
  have hbw1 := ba.trans (hb1.mono ba.size)
  have hk1 := (hb1.block w.heap.size z0).trans hnew
  have n0 : w1.cell? ⟨w.heap.size, 0, none⟩ = some (.int .i64 T) := by rw [cell_of_row w1 _ 0 _ _ _ hk1]; rfl
  have z1 := hb1.size
  have hct := count_any T D S cS s X cX x PA pn pc L pf w0.heap.size w1 h1 h2 hD (hsA.belowMore hb1 hb1.size) (hxA.belowMore hb1 hb1.size) hPats hL hns hnx HOK.out HDA.out
  have HPATS := Lib.hid hPats
  have HL := Lib.hid hL
  have HB1 := Lib.hid hbw1
  have HK1 := Lib.hid hk1
  have HS1 := Lib.hid (hsA.belowMore hb1 hb1.size)
  have HX1 := Lib.hid (hxA.belowMore hb1 hb1.size)
  clear hpt hnew ba hb1 hPats hL hpl hpn hbw1 hk1 hsA hxA
  go_wp2_with fail
  refine hct.mono ?_
  rintro e w2 ⟨rfl, hb2⟩
  have z2 := hb2.size
  have HB2 := Lib.hid (HB1.out.trans (hb2.mono HB1.out.size))
  have HK2 := Lib.hid ((hb2.block w.heap.size (by omega)).trans HK1.out)
  have HP2 := Lib.hid (HPATS.out.below hb2)
  have HS2 := Lib.hid (HS1.out.belowMore hb2 hb2.size)
  have HX2 := Lib.hid (HX1.out.belowMore hb2 hb2.size)
  clear hct hb2 HPATS HB1 HK1 HS1 HX1 n0
  by_cases hcn : 1024 < cntS T s x pf D s
  · have HC := Lib.hid hcn
    go_wp2_with fail
    go_ret2
    exact ⟨HB2.out, .inl ⟨HC.out, rfl⟩⟩
  · go_wp2_with fail
    go_loopg [14, 15, 16, 17, 18, 19, 20, 43] s.length (fun g s14 s15 s16 s17 s18 s19 s20 s43 wr => ∃ (k : Nat) (Lt : List TripM), k ≤ s.length ∧ g = s.length - k ∧ s43 = .int .i64 k ∧ TripsOk wr w2.heap.size s14 Lt ∧ Lt.map TripM.p = allT T s x pf D (s.take k) ∧ Below w2.heap.size w2 wr)
    case atStart => exact ⟨0, [], by omega, by omega, rfl, ⟨Own.nil _ _ _ _ _, by simp⟩, by simp [allT], Below.refl _ _⟩
    case round =>
      obtain ⟨k, Lt, hk, hg', rfl, hT, hmap, hb⟩ := hrel
      by_cases hlt : k < s.length
      · obtain ⟨b, off, rfl, hbb, a0, a1, a2, a3⟩ := (HS2.out.below hb).sv k hlt
        have hsk := HOK.out s[k] (List.getElem_mem hlt)
        have hpg := HPG.out s[k] (List.getElem_mem hlt)
        have HAS := Lib.hid (allT_snoc T s x pf D hlt)
        have HSL := Lib.hid (fun d => And.intro (svcT_len (s := s) (x := x) h1 hsk d) (svcN_range (s := s) (x := x) h1 hsk d))
        have bx := belA wr (.cells #[.int .i64 s[k].line, .int .i64 s[k].days, .int .i64 s[k].fst, .int .i64 s[k].lst] 34)
        have hnx' := heap_alloc_new wr (.cells #[.int .i64 s[k].line, .int .i64 s[k].days, .int .i64 s[k].fst, .int .i64 s[k].lst] 34)
        have zx : (wr.alloc (.cells #[.int .i64 s[k].line, .int .i64 s[k].days, .int .i64 s[k].fst, .int .i64 s[k].lst] 34)).heap.size = wr.heap.size + 1 := by simp
        have hbx := hb.trans (bx.mono hb.size)
        have hTx := hT.below bx
        have hLk : k < L.length := by have := HPL.out; have := HPN.out; omega
        have hres : L[k].p = pf s[k].line := by
          have := congrArg (fun l => l[k]?) HL.out
          simpa [hlt, hLk] using this
        obtain ⟨gl, rfl, hq1, hgl, hq2, c0, c1, c2⟩ := HP2.out.at_ k hLk
        clear hq1 hq2
        obtain ⟨DA, dc, AA, ac, e1, e2, hld, hla⟩ := (HP2.out.2 L[k] (List.getElem_mem hLk)).lst (by rw [hres]; exact hpg)
        rw [e1] at c1
        rw [e2] at c2
        rw [hres] at c0 c1 c2 hld hla
        have zb := hb.size
        have HTX := Lib.hid hTx
        have HBX := Lib.hid hbx
        have HLD := Lib.hid hld
        have HLA := Lib.hid hla
        have HPG1 := Lib.hid hpg
        have HMAP := Lib.hid hmap
        clear hres e1 e2 hld hla hTx hT hmap hb bx hbx hLk hbb
        generalize s[k] = a at *
        obtain ⟨li, dy, fs, ls⟩ := a
        obtain ⟨f0, f1, f2, r0, r1⟩ := hsk
        simp only at a0 a1 a2 a3 f0 f1 f2 r0 r1 c0 c1 c2 zx hnx' HBX HTX HPG1 HLD HLA
        have hdl := hpg.le
        simp only at hdl
        clear hpg
        have i0 : (0 : Int) ≤ (k : Int) := by omega
        have i1 : (k : Int) < (s.length : Int) := by omega
        have i2 : (k : Int) < (pn : Int) := by have := HPN.out; omega
        go_wp2_with fail
        generalize wr.alloc (.cells #[.int .i64 li, .int .i64 dy, .int .i64 fs, .int .i64 ls] 34) = w5 at *
        generalize hgr : wr.heap.size = gr at *
        have HGR := Lib.hid (show w2.heap.size ≤ gr ∧ gr < w5.heap.size from ⟨by omega, by omega⟩)
        generalize hN1 : (pf li).dep.length = dn at *
        have HN1 := Lib.hid hN1
        clear hgr a0 a1 a2 a3 zx zb hN1
        go_loopg [14, 17, 18, 19, 20, 49] D (fun g s14 s17 s18 s19 s20 s49 wr => ∃ (d : Nat) (Lt : List TripM), d ≤ D ∧ g = D - d ∧ s49 = .int .i64 d ∧ TripsOk wr w2.heap.size s14 Lt ∧ Lt.map TripM.p = allT T s x pf D (s.take k) ++ svcT T s x pf ⟨li, dy, fs, ls⟩ d ∧ wr.heap[gr]? = some (.cells #[.int .i64 li, .int .i64 dy, .int .i64 fs, .int .i64 ls] 34 (0, 0)) ∧ Below w2.heap.size w2 wr)
        case atStart => exact ⟨0, Lt, by omega, by omega, rfl, HTX.out, by rw [HMAP.out]; simp [svcT], hnx', HBX.out⟩
        case round =>
          obtain ⟨d, Lt, hd, hg2, rfl, hT, hmap, hblk, hb⟩ := hrel
          have zb := hb.size
          have hgrr : gr < wr.heap.size := (Array.getElem?_eq_some_iff.1 hblk).1
          by_cases hlt2 : d < D
          · have v0 : wr.cell? ⟨gr, 0, none⟩ = some (.int .i64 li) := by rw [cell_of_row wr _ 0 _ _ _ hblk]; rfl
            have hrw := runs_any li d (some ⟨b, off, none⟩) cS s X cX x wr (HS2.out.belowMore hb hb.size) (by omega) (HX2.out.belowMore hb hb.size) (by omega) HDA.out ⟨by omega, by omega⟩
            have HSS := Lib.hid (svcT_succ T s x pf ⟨li, dy, fs, ls⟩ d)
            have HDT := Lib.hid (show dayT T s x pf ⟨li, dy, fs, ls⟩ d = if runsB s x li d then RP.runT T pf ⟨li, dy, fs, ls⟩ d (depN T d ⟨li, dy, fs, ls⟩ (pf li).res).toNat else [] from rfl)
            have HB := Lib.hid hb
            have HT := Lib.hid hT
            have HBLK := Lib.hid hblk
            have HMP := Lib.hid hmap
            clear hb hT hblk hmap
            go_wp2_with fail
            refine hrw.mono ?_
            rintro e w3 ⟨rfl, hb3⟩
            have hB3 := HB.out.trans (hb3.mono zb)
            have HT3 := Lib.hid (HT.out.below hb3)
            have HBLK3 := Lib.hid ((hb3.block gr hgrr).trans HBLK.out)
            have z3 := hb3.size
            clear hrw hb3 v0 HT HBLK HB
            cases hrb : runsB s x li d with
            | false =>
              rw [hrb] at HDT
              have HB3 := Lib.hid hB3
              clear hrb hB3
              go_wp2_with fail
              go_roundg (D - (d + 1))
              case measure => omega
              case rel => exact ⟨d + 1, Lt, by omega, rfl, by go_num, HT3.out, by rw [HSS.out, HDT.out, HMP.out]; simp, HBLK3.out, HB3.out⟩
            | true =>
              rw [hrb] at HDT
              have hdep := fun W => departures_any T d ⟨li, dy, fs, ls⟩ (pf li).res (.slice DA dn dc) (.slice AA dn ac) W h1 h2 (by omega) (by omega) f0 f1 f2 r0 r1
              have hdr := depN_range (T := T) (day := d) (a := ⟨li, dy, fs, ls⟩) (res := (pf li).res) h1 (by omega) f0 f1 f2
              have HIN := Lib.hid (fun (i : Nat) => dep_in (T := T) (day := d) (a := ⟨li, dy, fs, ls⟩) (res := (pf li).res) (i := i) h1 f1)
              obtain ⟨N, hN⟩ := Int.eq_ofNat_of_zero_le hdr.1
              rw [hN] at HDT
              rw [Int.toNat_natCast] at HDT
              have HNN := Lib.hid hN
              rw [hN] at hdr hdep
              have HDE := Lib.hid hdep
              have hN2 : N ≤ 86401 := by omega
              have hbk := HBLK3.out
              have q0 : w3.cell? ⟨gr, 0, none⟩ = some (.int .i64 li) := by rw [cell_of_row w3 _ 0 _ _ _ hbk]; rfl
              have q1 : w3.cell? ⟨gr, 1, none⟩ = some (.int .i64 dy) := by rw [cell_of_row w3 _ 1 _ _ _ hbk]; rfl
              have q2 : w3.cell? ⟨gr, 2, none⟩ = some (.int .i64 fs) := by rw [cell_of_row w3 _ 2 _ _ _ hbk]; rfl
              have q3 : w3.cell? ⟨gr, 3, none⟩ = some (.int .i64 ls) := by rw [cell_of_row w3 _ 3 _ _ _ hbk]; rfl
              have p0 := (hB3.cell (p := ⟨gl, k * 3, none⟩) hgl).trans c0
              have p1 := (hB3.cell (p := ⟨gl, k * 3 + 1, none⟩) hgl).trans c1
              have p2 := (hB3.cell (p := ⟨gl, k * 3 + 2, none⟩) hgl).trans c2
              have hkn := (hB3.block w.heap.size (by omega)).trans HK2.out
              have n0 : w3.cell? ⟨w.heap.size, 0, none⟩ = some (.int .i64 T) := by rw [cell_of_row w3 _ 0 _ _ _ hkn]; rfl
              have zg1 : gr < w3.heap.size := by omega
              have zg2 : gl < w3.heap.size := by omega
              have zg3 : w.heap.size < w3.heap.size := by omega
              have HB3 := Lib.hid hB3
              clear hrb hdep hdr hN hbk hkn hB3
              go_upto_region 14 with fail
              have hB : Below w3.heap.size w3 w3.drew := (Below.refl _ _).drew
              go_cut [18, 19, 59] (fun s18 s19 s59 wx => ∃ f : Int, s18 = .int .i64 f ∧ s19 = .int .i64 N ∧ ((N : Int) ≠ 0 → f = depF T d ⟨li, dy, fs, ls⟩ (pf li).res) ∧ Below w3.heap.size w3 wx)
              case first =>
                go_region_held3 (fun w' => w'.cell? ⟨w.heap.size, 0, none⟩ = some (.int .i64 T) ∧ w'.cell? ⟨gr, 0, none⟩ = some (.int .i64 li) ∧ w'.cell? ⟨gr, 1, none⟩ = some (.int .i64 dy) ∧ w'.cell? ⟨gr, 2, none⟩ = some (.int .i64 fs) ∧ w'.cell? ⟨gr, 3, none⟩ = some (.int .i64 ls) ∧ w'.cell? ⟨gl, k * 3, none⟩ = some (.int .i64 (pf li).res) ∧ w'.cell? ⟨gl, k * 3 + 1, none⟩ = some (.slice DA dn dc) ∧ w'.cell? ⟨gl, k * 3 + 2, none⟩ = some (.slice AA dn ac))
                  (exact ⟨(hB.cell (p := ⟨w.heap.size, 0, none⟩) zg3).trans n0, (hB.cell (p := ⟨gr, 0, none⟩) zg1).trans q0, (hB.cell (p := ⟨gr, 1, none⟩) zg1).trans q1, (hB.cell (p := ⟨gr, 2, none⟩) zg1).trans q2, (hB.cell (p := ⟨gr, 3, none⟩) zg1).trans q3, (hB.cell (p := ⟨gl, k * 3, none⟩) zg2).trans p0, (hB.cell (p := ⟨gl, k * 3 + 1, none⟩) zg2).trans p1, (hB.cell (p := ⟨gl, k * 3 + 2, none⟩) zg2).trans p2⟩)
                  ((go_at_call 39; (with_reducible refine (HDE.out _).mono ?_); rintro e w' ⟨⟨f, rfl, hff⟩, hb'⟩; replace hB := hB.trans (hb'.mono hB.size)))
                all_goals
                  go_wp2_with fail
                  go_meet
                  exact ⟨f, rfl, rfl, hff, hB⟩
              case rest =>
                obtain ⟨f, rfl, rfl, hff, hbc⟩ := hcut
                have HFF := Lib.hid hff
                have HT4 := Lib.hid (HT3.out.below hbc)
                have HB4 := Lib.hid (HB3.out.trans (hbc.mono (by omega)))
                have HBLK4 := Lib.hid ((hbc.block gr zg1).trans HBLK3.out)
                have z4 := hbc.size
                clear hff hbc hB q0 q1 q2 q3 p0 p1 p2 n0 HT3 HB3 HBLK3
                go_wp2_with fail
                go_loopg [14, 20, 72] N (fun g s14 s20 s72 wr => ∃ (i : Nat) (Lt : List TripM), i ≤ N ∧ g = N - i ∧ s72 = .int .i64 i ∧ TripsOk wr w2.heap.size s14 Lt ∧ Lt.map TripM.p = allT T s x pf D (s.take k) ++ svcT T s x pf ⟨li, dy, fs, ls⟩ d ++ RP.runT T pf ⟨li, dy, fs, ls⟩ d i ∧ wr.heap[gr]? = some (.cells #[.int .i64 li, .int .i64 dy, .int .i64 fs, .int .i64 ls] 34 (0, 0)) ∧ Below w2.heap.size w2 wr)
                case atStart => exact ⟨0, Lt, by omega, by omega, rfl, HT4.out, by rw [HMP.out]; simp [RP.runT], HBLK4.out, HB4.out⟩
                case round =>
                  obtain ⟨i, Lt, hi, hg3, rfl, hT, hmap, hblk, hb⟩ := hrel
                  have zb4 := hb.size
                  by_cases hlt3 : i < N
                  · have hgrr4 : gr < wr.heap.size := (Array.getElem?_eq_some_iff.1 hblk).1
                    have hf := HFF.out (by omega)
                    have hin := HIN.out i (by rw [HNN.out]; omega)
                    have hin0 := HIN.out 0 (by rw [HNN.out]; omega)
                    have hRS := runT_succ T pf ⟨li, dy, fs, ls⟩ d i
                    simp only at hRS hin hin0
                    rw [← hf] at hin hin0 hRS
                    have hq0 : (0 : Int) ≤ (i : Int) * (T : Int) := Int.mul_nonneg (by omega) (by omega)
                    have hll : Lt.length ≤ 1000000000 := by
                      have e1 := congrArg List.length hmap
                      rw [List.length_map, List.length_append, List.length_append] at e1
                      have e2 := HAL.out k (by omega)
                      have e3 := HCR.out k (by omega)
                      have e4 := HSL.out d
                      have e5 : (RP.runT T pf ⟨li, dy, fs, ls⟩ d i).length = i := by simp [RP.runT]
                      omega
                    rw [show (((0 : Nat) : Int)) * (T : Int) = 0 by simp] at hin0
                    obtain ⟨q, hqe⟩ : ∃ q, (i : Int) * (T : Int) = q := ⟨_, rfl⟩
                    rw [hqe] at hin hq0 hRS
                    have hs0 : -100000000 ≤ f + q := by omega
                    have hs1 : f + q ≤ 100000000 := by omega
                    have sw1 : IntKind.i64.wrap ((i : Int) * (T : Int)) = q := by rw [hqe]; exact IntWalk.i64_in _ (by omega)
                    have sw2 : IntKind.i64.wrap (f + q) = f + q := IntWalk.i64_in _ (by omega)
                    have HRS := Lib.hid hRS
                    have HTR := Lib.hid (fun W (hW : Below wr.heap.size wr W) => (trip_any (pf li).res DA dn dc (pf li).dep AA ac (pf li).arr li d (f + q) W ((HLD.out.belowMore hb hb.size).belowMore hW hW.size) ((HLA.out.belowMore hb hb.size).belowMore hW hW.size) HN1.out (HPG1.out.len.trans HN1.out) hdl HPG1.out.dep HPG1.out.arr hs0 hs1).mono fun _ _ h => trip_sv h)
                    have q0 : wr.cell? ⟨gr, 0, none⟩ = some (.int .i64 li) := by rw [cell_of_row wr _ 0 _ _ _ hblk]; rfl
                    have p0 := (hb.cell (p := ⟨gl, k * 3, none⟩) hgl).trans c0
                    have p1 := (hb.cell (p := ⟨gl, k * 3 + 1, none⟩) hgl).trans c1
                    have p2 := (hb.cell (p := ⟨gl, k * 3 + 2, none⟩) hgl).trans c2
                    have hkn := (hb.block w.heap.size (by omega)).trans HK2.out
                    have n0 : wr.cell? ⟨w.heap.size, 0, none⟩ = some (.int .i64 T) := by rw [cell_of_row wr _ 0 _ _ _ hkn]; rfl
                    have zg2 : gl < wr.heap.size := by omega
                    have zg3 : w.heap.size < wr.heap.size := by omega
                    have zw2 : w.heap.size < w2.heap.size := by omega
                    obtain ⟨A14, c14, h14⟩ := hT.1.form
                    subst h14
                    generalize hLl : Lt.length = ll at *
                    have HLl := Lib.hid hLl
                    have H63 := Lib.hid (show Lt.length + 1 ≤ Go.maxLen by rw [hLl]; simp only [Go.maxLen]; omega)
                    have HBY := Lib.hid (show (Lt.length + 1) * 64 ≤ 140737488355328 by rw [hLl]; omega)
                    have HT := Lib.hid hT
                    have HBK := Lib.hid hblk
                    have HMM := Lib.hid hmap
                    have HB := Lib.hid hb
                    have HNE := Lib.hid (show (pf li).dep.map (f + q + ·) ≠ [] by
                      intro hz
                      have h3 := congrArg List.length hz
                      rw [List.length_map, List.length_nil] at h3
                      have := HPG1.out.pos
                      omega)
                    clear hqe hf hin hin0 hRS hkn hT hblk hmap hb hLl
                    go_upto_region 18 with fail
                    have hB : Below wr.heap.size wr wr.drew := (Below.refl _ _).drew
                    go_region_held3 (fun w' => w'.cell? ⟨w.heap.size, 0, none⟩ = some (.int .i64 T) ∧ w'.cell? ⟨gr, 0, none⟩ = some (.int .i64 li) ∧ w'.cell? ⟨gl, k * 3, none⟩ = some (.int .i64 (pf li).res) ∧ w'.cell? ⟨gl, k * 3 + 1, none⟩ = some (.slice DA dn dc) ∧ w'.cell? ⟨gl, k * 3 + 2, none⟩ = some (.slice AA dn ac))
                      (first | exact S8 | exact ⟨(hB.cell (p := ⟨w.heap.size, 0, none⟩) zg3).trans n0, (hB.cell (p := ⟨gr, 0, none⟩) hgrr4).trans q0, (hB.cell (p := ⟨gl, k * 3, none⟩) zg2).trans p0, (hB.cell (p := ⟨gl, k * 3 + 1, none⟩) zg2).trans p1, (hB.cell (p := ⟨gl, k * 3 + 2, none⟩) zg2).trans p2⟩ | exact ⟨((hB.alloc hB.size _).cell (p := ⟨w.heap.size, 0, none⟩) zg3).trans n0, ((hB.alloc hB.size _).cell (p := ⟨gr, 0, none⟩) hgrr4).trans q0, ((hB.alloc hB.size _).cell (p := ⟨gl, k * 3, none⟩) zg2).trans p0, ((hB.alloc hB.size _).cell (p := ⟨gl, k * 3 + 1, none⟩) zg2).trans p1, ((hB.alloc hB.size _).cell (p := ⟨gl, k * 3 + 2, none⟩) zg2).trans p2⟩)
                      (first
                        | (go_at_call 40; (with_reducible refine (HTR.out _ hB).mono ?_); rintro e w7 ⟨tdv, tav, rfl, htk, hb7⟩; have hT7 := HT.out.below (hB.trans (hb7.mono hB.size)); replace hB := hB.trans (hb7.mono hB.size))
                        | (refine step_append_blk (by rfl) _ _ 47 (by rfl) w2.heap.size 51 64 Try.underlying47 elemT (.slice A14 ll c14) Lt (by rfl) (hT7.1.alloc _) [⟨li, d, (pf li).dep.map (f + q + ·), (pf li).arr.map (f + q + ·), tdv, tav⟩] w7.heap.size 1 1 (by rfl) (by rfl) 51 (heap_alloc_new w7 _) H63.out HBY.out (Nat.le_trans zb4 (Nat.le_trans hB.size (belA w7 _).size)) ?_
                           intro v8 w8 ho8 hg8 hat8
                           have hk7 := (hB.block gr hgrr4).trans HBK.out
                           have hk8 := (hg8.block gr (Nat.lt_of_lt_of_le (Array.getElem?_eq_some_iff.1 hk7).1 (belA w7 _).size) (fun e => own_ne_block hT7.1 hk7 (by decide) e.symm)).trans (((belA w7 _).block gr (Array.getElem?_eq_some_iff.1 hk7).1).trans hk7)
                           have hb8 := (((hB.mono zb4).trans ((belA w7 _).mono (Nat.le_trans zb4 hB.size)))).grown hg8 (Nat.le_trans zb4 (Nat.le_trans hB.size (belA w7 _).size)) (fun q e => (World.ownsRow.lt hT7.1 q e).1)
                           have S8 := And.intro ((hb8.cell (p := ⟨w.heap.size, 0, none⟩) zw2).trans n0) (And.intro (show w8.cell? ⟨gr, 0, none⟩ = some (.int .i64 li) from (cell_of_row w8 _ 0 _ _ _ hk8).trans rfl) (And.intro ((hb8.cell (p := ⟨gl, k * 3, none⟩) hgl).trans p0) (And.intro ((hb8.cell (p := ⟨gl, k * 3 + 1, none⟩) hgl).trans p1) ((hb8.cell (p := ⟨gl, k * 3 + 2, none⟩) hgl).trans p2))))))
                    all_goals
                      have hle7 : w2.heap.size ≤ wr.heap.size := zb4
                      have HT8 := Lib.hid ((hT7.below (belA w7 _)).push ((htk.below (belA w7 _)).rebase hle7) HNE.out ho8 hg8)
                      have HM8 := Lib.hid (show (Lt ++ [(⟨li, d, (pf li).dep.map (f + q + ·), (pf li).arr.map (f + q + ·), tdv, tav⟩ : TripM)]).map TripM.p = allT T s x pf D (s.take k) ++ svcT T s x pf ⟨li, dy, fs, ls⟩ d ++ RP.runT T pf ⟨li, dy, fs, ls⟩ d (i + 1) by rw [List.map_append, HMM.out, HRS.out, List.append_assoc, List.append_assoc, List.append_assoc]; rfl)
                      have HK8 := Lib.hid hk8
                      have HB8 := Lib.hid (HB.out.trans hb8)
                      clear hk8 hb8 S8
                      clear hk7 hT7 htk ho8 hg8 hat8 hB hb7
                      go_wp2_with fail
                      go_roundg (N - (i + 1))
                      case measure => omega
                      case rel => exact ⟨i + 1, _, by omega, rfl, by go_num, HT8.out, HM8.out, HK8.out, HB8.out⟩
                  · have hiN : i = N := by omega
                    have HM2 := Lib.hid (show Lt.map TripM.p = allT T s x pf D (s.take k) ++ svcT T s x pf ⟨li, dy, fs, ls⟩ (d + 1) by rw [hmap, HSS.out, HDT.out, hiN]; simp [List.append_assoc])
                    clear hiN hmap
                    go_wp2_with fail
                    go_roundg (D - (d + 1))
                    case measure => omega
                    case rel => exact ⟨d + 1, Lt, by omega, rfl, by go_num, hT, HM2.out, hblk, hb⟩
          · have hdD : d = D := by omega
            have HM2 := Lib.hid (show Lt.map TripM.p = allT T s x pf D (s.take (k + 1)) by rw [hmap, HAS.out, hdD])
            clear hdD hmap hblk
            go_wp2_with fail
            go_roundg (s.length - (k + 1))
            case measure => omega
            case rel => exact ⟨k + 1, Lt, by omega, rfl, by go_num, hT, HM2.out, hb⟩
      · have hkn : k = s.length := by omega
        have HMF := Lib.hid (show Lt.map TripM.p = allT T s x pf D s by rw [hmap, hkn, List.take_length])
        have HCN := Lib.hid (show cntS T s x pf D s ≤ 1024 by omega)
        have hLlen : Lt.length ≤ 1024 := by
          have h3 := HAL.out s.length (Nat.le_refl _)
          rw [List.take_length, ← HMF.out, List.length_map] at h3
          have := HCN.out
          omega
        clear hkn hmap
        cases Lt with
        | nil =>
          obtain ⟨A9, c9, rfl⟩ := hT.1.form
          have HT := Lib.hid hT
          have HB := Lib.hid hb
          clear hT hb
          go_wp2_with fail
          refine (sortTripNone A9 c9 _ wr).mono ?_
          rintro e w9 ⟨rfl, rfl⟩
          go_wp2_with fail
          go_ret2
          refine ⟨HB2.out.trans (HB.out.mono (by omega)), .inr ⟨HCN.out, A9, c9, [], rfl, HT.out.rebase (by omega), ?_, List.Pairwise.nil⟩⟩
          rw [← HMF.out]
          first | done | exact List.Perm.refl _
        | cons t r =>
          obtain ⟨g9, c9, hv, _, _, _, _, _⟩ := hT.1.at_ encT_len (by simp)
          subst hv
          have hso := sortTrips (t :: r) w2.heap.size g9 (t :: r).length c9 wr (by simp) hT.1 hT.2 (by omega)
          generalize (t :: r).length = n9 at *
          have HT := Lib.hid hT
          have HB := Lib.hid hb
          clear hT hb
          go_wp2_with fail
          refine hso.mono ?_
          rintro e w9 ⟨rfl, Ls, hp1, hp2, ho9, hg9⟩
          have hlen9 : n9 = Ls.length := by
            obtain ⟨A', c', hv⟩ := ho9.form
            injection hv
          have HR9 := Lib.hid (show TripsOk w9 w2.heap.size (.slice (some ⟨g9, 0, none⟩) n9 c9) Ls from ⟨ho9, fun u hu => ⟨(HT.out.2 u (hp1.mem_iff.1 hu)).1.kept HT.out.1 hg9, (HT.out.2 u (hp1.mem_iff.1 hu)).2⟩⟩)
          have HB9 := Lib.hid (HB.out.grown hg9 HB.out.size (fun q e => (World.ownsRow.lt HT.out.1 q e).1))
          have HP9 := Lib.hid (show (Ls.map TripM.p).Perm (allT T s x pf D s) by rw [← HMF.out]; exact hp1.map _)
          have HQ9 := Lib.hid hp2
          have HL9 := Lib.hid hlen9
          clear hso ho9 hg9 hp1 hp2 hlen9
          go_wp2_with fail
          go_ret2
          refine ⟨HB2.out.trans (HB9.out.mono (by omega)), .inr ⟨HCN.out, some ⟨g9, 0, none⟩, c9, Ls, by rw [← HL9.out]; rfl, by rw [← HL9.out]; exact HR9.out.rebase (by omega), HP9.out, HQ9.out.imp fun h => by first | exact h | omega⟩⟩

end Go.Proofs.Ytaongejpbgjbiaa
