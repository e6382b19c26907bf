/-
  Walk of DivertEarliest.
-/
import Derived.Test.YtlillkfelfoafaaDivEa
import Derived.Test.YtlillkfelfoafaaDivRp
set_option linter.unusedVariables false
set_option linter.unusedSimpArgs false
namespace Go.Proofs.Ytlillkfelfoafaa
open Go.RowKit Go.Shelf RP

set_option maxRecDepth 100000 in
set_option maxHeartbeats 16000000 in
theorem walkDivertEarliest (A1 : Option Addr) (c1 : Nat) (l1 : List Int) (A2 : Option Addr) (c2 : Nat) (l2 : List Int) (A3 : Option Addr) (c3 : Nat) (l3 : List Int) (most : Int) (w : World)
    (h1 : ArgI w A1 c1 l1) (h2 : ArgI w A2 c2 l2) (h3 : ArgI w A3 c3 l3) (hx : R64 most) :
    Calls Try.prog 9 #[.slice A1 l1.length c1, .slice A2 l2.length c2, .slice A3 l3.length c3, .int .i64 most] w fun e w' => e = .returned (.bool true) ∧ Below w.heap.size w w' := by
  have s0 := pickI_range most 40 (by omega)
  have hps := fun W => pick_any most 40 W (by omega) (by omega)
  generalize pickI most 40 = mi at *
  obtain ⟨mo, rfl⟩ : ∃ m : Nat, mi = m := ⟨mi.toNat, by omega⟩
  go_enter Try.func9, Try.ntmps9
  go_wp2_with fail
  refine (jobs_any A1 c1 l1 w h1).mono ?_
  rintro e w1 ⟨JA, jc, L, rfl, hown, hjo, hmj, hb1⟩
  go_wp2_with fail
  refine (closures_any A2 c2 l2 w1 (h2.below hb1)).mono ?_
  rintro e w2 ⟨v2, cl, rfl, hcl, hmc, hb2⟩
  obtain ⟨CA, cc, rfl⟩ := hcl.form
  have hb12 := hb1.trans (hb2.mono hb1.size)
  go_wp2_with fail
  refine (oneways_any A3 c3 l3 w2 (h3.below hb12)).mono ?_
  rintro e w3 ⟨v3, ow, rfl, how, hmw, hb3⟩
  obtain ⟨WA, wc, rfl⟩ := how.form
  have HM := Lib.hid (mds_of hown hjo hmj hb1 hcl hmc hb2 how hmw hb3)
  clear hown hjo hmj hb1 hcl hmc hb2 how hmw hb3 hb12 h1 h2 h3
  go_wp2_with (go_at_call 23; refine (hps _).mono ?_; rintro _ _ ⟨rfl, rfl⟩)
  refine (HM.out.plan jc cc wc mo 1048576).mono ?_
  rintro e w4 ⟨ch, pn, err, KA, kc, rfl, hpi, hko, hb4⟩
  obtain ⟨rfl, ord, hord, hch⟩ := made_plan HM.out.mj (by omega) (by omega) hpi
  have HEP := Lib.hid (show EaP (L.map JobM.p) cl ow mo ch by rw [hch]; exact eap_of HM.out.mj.ok cl ow _ hord)
  have hlen : ch.length = L.length := by rw [HEP.out.len, List.length_map]
  have hne : ((ch.length : Int) != (L.length : Int)) = false := by simp [hlen]
  have HM4 := Lib.hid (HM.out.more hb4)
  have HK4 := Lib.hid (Own.lst encK_len hko)
  have HLN := Lib.hid hlen
  have hsm := HM.out.small
  have hc3 : ch.length ≤ 3 := by omega
  clear hpi hord hch hko hb4 hlen
  obtain ⟨W, rfl⟩ : ∃ V : World, V = w4 := ⟨_, rfl⟩
  go_wp2_with fail
  clear hne
  go_loopg [54] ch.length (fun g s54 wr => ∃ i : Nat, i ≤ ch.length ∧ g = ch.length - i ∧ s54 = .int .i64 i ∧ Below W.heap.size W wr)
  case atStart => exact ⟨0, by omega, by omega, rfl, Below.refl _ _⟩
  case round =>
    obtain ⟨i, hi, hg, rfl, hb⟩ := hrel
    by_cases hlt : i < ch.length
    · have hiL : i < L.length := by have := HLN.out; omega
      obtain ⟨kb, ko, x, y, hKA, hgi, d0, d1⟩ := (HK4.out.belowMore hb hb.size).ch_at hlt
      subst hKA
      have HGI := Lib.hid hgi
      have hbx := belA wr (.cells #[.int .i64 x, .int .i64 y] 55)
      have hnx := heap_alloc_new wr (.cells #[.int .i64 x, .int .i64 y] 55)
      have HB5 := Lib.hid (hb.trans (hbx.mono hb.size))
      have i0 : (0 : Int) ≤ (i : Int) := by omega
      have i1 : (i : Int) < (ch.length : Int) := by omega
      have i2 : (i : Int) < (L.length : Int) := by omega
      clear hgi
      go_upto_region 9 with fail
      clear d0 d1 hbx hb
      generalize wr.alloc (.cells #[.int .i64 x, .int .i64 y] 55) = w6 at *
      generalize wr.heap.size = gd at *
      have c0 : w6.cell? ⟨gd, 0, none⟩ = some (.int .i64 x) := by rw [cell_of_row w6 _ 0 _ _ _ hnx]; rfl
      have c1 : w6.cell? ⟨gd, 1, none⟩ = some (.int .i64 y) := by rw [cell_of_row w6 _ 1 _ _ _ hnx]; rfl
      clear hnx
      go_wp2_with fail
      go_loopg [18] (mo + 1) (fun g s18 wr => ∃ d : Nat, d ≤ mo + 1 ∧ g = mo + 1 - d ∧ s18 = .int .i64 d ∧ Below w6.heap.size w6 wr)
      case atStart => exact ⟨0, by omega, by omega, rfl, Below.refl _ _⟩
      case round =>
        obtain ⟨d, hd, hg2, rfl, hb2⟩ := hrel
        by_cases hdm : d ≤ mo
        · have hbw := HB5.out.trans (hb2.mono HB5.out.size)
          obtain ⟨jb, jo, va, n, jvc, s, hJA, hn, hs, a0, a1⟩ := (HM4.out.jobs.belowMore hbw hbw.size).job_at hiL
          subst hJA
          have HNS := Lib.hid (And.intro hn hs)
          have hok := okJob_iff.1 ((checkJ_iff.1 HM4.out.mj.ok).2 (jobAt (L.map JobM.p) i) (getD_mem' (by rw [List.length_map]; exact hiL) _))
          have hsb : 0 ≤ s ∧ s ≤ 4194304 := by rw [hs]; exact hok.1
          have hn8 : n ≤ 8 := by rw [hn]; exact hok.2.1.2
          have HDM := Lib.hid hdm
          have hdm' : (d : Int) ≤ (mo : Int) := by omega
          have HBW := Lib.hid hbw
          obtain ⟨WD, rfl⟩ : ∃ V : World, V = wr := ⟨_, rfl⟩
          have HB2 := Lib.hid hb2
          clear hn hs hok hbw hb2 hdm
          go_wp2_with fail
          go_loopg [70] n (fun g s70 wr => ∃ k : Nat, k ≤ n ∧ g = n - k ∧ s70 = .int .i64 k ∧ Below WD.heap.size WD wr)
          case atStart => exact ⟨0, by omega, by omega, rfl, Below.refl _ _⟩
          case round =>
            obtain ⟨k, hk, hg3, rfl, hb3⟩ := hrel
            by_cases hkn : k < n
            · have hbw3 := HBW.out.trans (hb3.mono HBW.out.size)
              have hkK : k < (jobAt (L.map JobM.p) i).opts.length := by rw [← HNS.out.1]; exact hkn
              obtain ⟨jb2, jo2, ob, oo, nk, jvk, s1, uA, ucp, ust, vA, vcp, uos, hJ1, hnk, hs1, ho1, _, hin⟩ := (HM4.out.jobs.belowMore hbw3 hbw3.size).opt_in hiL hkK
              injection hJ1 with hJ1; injection hJ1 with e1 e2 _
              subst e1 e2
              obtain rfl : nk = n := by rw [hnk, HNS.out.1]
              obtain rfl : s1 = s := by rw [hs1, HNS.out.2]
              obtain ⟨_, b0, b1, b2, b3, hol⟩ := hin
              have hva := (hb3.cell (p := ⟨jb, jo + i * 2 + 1, none⟩) (cell_lt a1)).trans a1
              rw [b1] at hva
              injection hva with hva
              injection hva with hva _ hvc
              subst hva hvc
              have HO1 := Lib.hid ho1
              have hbx := belA wr (.cells #[.slice uA ust.length ucp, .slice vA uos.length vcp] 28)
              have hnx := heap_alloc_new wr (.cells #[.slice uA ust.length ucp, .slice vA uos.length vcp] 28)
              have hB7 := hb3.trans (hbx.mono hb3.size)
              have HB7 := Lib.hid hB7
              have HOL := Lib.hid (hol.belowMore hbx hbx.size)
              have c0' := ((HB2.out.trans (hB7.mono HB2.out.size)).cell (p := ⟨gd, 0, none⟩) (cell_lt c0)).trans c0
              have c1' := ((HB2.out.trans (hB7.mono HB2.out.size)).cell (p := ⟨gd, 1, none⟩) (cell_lt c1)).trans c1
              have b0' := (hbx.cell (p := ⟨jb, jo + i * 2, none⟩) (cell_lt b0)).trans b0
              have HKN := Lib.hid hkn
              have HKK := Lib.hid hkK
              have k0 : (0 : Int) ≤ (k : Int) := by omega
              have k1 : (k : Int) < (nk : Int) := by omega
              have hdm2 := HDM.out
              have sw : IntKind.i64.wrap (s1 + d) = s1 + d := IntWalk.i64_in _ (by omega)
              obtain ⟨sd, hsd⟩ : ∃ z, z = s1 + (d : Int) := ⟨_, rfl⟩
              have HSD := Lib.hid hsd
              clear hnk hs1 ho1 hol hkn hkK hbw3 hdm2
              go_upto_region 16 with fail
              rw [← hsd]
              clear hsd sw b0 b1 b2 b3 hbx hB7 hb3
              generalize wr.alloc (.cells #[.slice uA ust.length ucp, .slice vA uos.length vcp] 28) = w7 at *
              generalize wr.heap.size = gO at *
              have m0 : w7.cell? ⟨gO, 0, none⟩ = some (.slice uA ust.length ucp) := by rw [cell_of_row w7 _ 0 _ _ _ hnx]; rfl
              have m1 : w7.cell? ⟨gO, 1, none⟩ = some (.slice vA uos.length vcp) := by rw [cell_of_row w7 _ 1 _ _ _ hnx]; rfl
              clear hnx
              have HB47 := Lib.hid (HBW.out.trans (HB7.out.mono HBW.out.size))
              have HAD := Lib.hid (fun V (b : Below w7.heap.size w7 V) => refAdmits_any CA cc cl WA wc ow uA ucp ust vA vcp uos sd V ((HM4.out.cls.belowMore HB47.out HB47.out.size).belowMore b b.size) (by omega) ((HM4.out.ows.belowMore HB47.out HB47.out.size).belowMore b b.size) (by omega) (HOL.out.belowMore b b.size).st (HOL.out.belowMore b b.size).oc HOL.out.sm HOL.out.om)
              obtain ⟨ad, had⟩ : ∃ z, z = admitsB cl ow ⟨ust, uos⟩ sd := ⟨_, rfl⟩
              have HADM := Lib.hid had
              rw [← had] at HAD
              clear had
              obtain ⟨cb, hcb⟩ : ∃ z : Bool, z = ((decide (0 ≤ x) && (decide (y < sd) || (decide (sd = y) && decide (x ≤ (k : Int))))) || !ad) := ⟨_, rfl⟩
              have HCB := Lib.hid hcb
              clear hcb
              go_cut [110] (fun s110 wx => s110 = .bool cb ∧ Below w7.heap.size w7 wx)
              case first =>
               as_aux_lemma =>
                by_cases x0 : x < 0
                · go_wp2_with (go_at_call 17; (with_reducible refine (HAD.out _ (Below.refl _ _)).mono ?_); rintro e w' ⟨rfl, hb'⟩)
                  go_meet
                  exact ⟨by rw [HCB.out, decide_eq_false (show ¬ 0 ≤ x by omega)]; simp, hb'⟩
                · by_cases x1 : y < sd
                  · go_wp2_with fail
                    go_meet
                    exact ⟨by rw [HCB.out, decide_eq_true (show 0 ≤ x by omega), decide_eq_true x1]; simp, Below.refl _ _⟩
                  · by_cases x2 : sd = y
                    · have x2' : (sd == y) = true := by simpa using x2
                      have X2 := Lib.hid x2
                      clear x2
                      by_cases x3 : x ≤ (k : Int)
                      · go_wp2_with fail
                        go_meet
                        exact ⟨by rw [HCB.out, decide_eq_true (show 0 ≤ x by omega), decide_eq_true X2.out, decide_eq_true x3]; simp, Below.refl _ _⟩
                      · go_wp2_with (go_at_call 17; (with_reducible refine (HAD.out _ (Below.refl _ _)).mono ?_); rintro e w' ⟨rfl, hb'⟩)
                        go_meet
                        exact ⟨by rw [HCB.out, decide_eq_false (show ¬ y < sd by omega), decide_eq_false (show ¬ x ≤ (k : Int) by omega)]; simp, hb'⟩
                    · have x2' : (sd == y) = false := by simpa using x2
                      go_wp2_with (go_at_call 17; (with_reducible refine (HAD.out _ (Below.refl _ _)).mono ?_); rintro e w' ⟨rfl, hb'⟩)
                      go_meet
                      exact ⟨by rw [HCB.out, decide_eq_false (show ¬ y < sd by omega), decide_eq_false (show ¬ sd = y by omega)]; simp, hb'⟩
              case rest =>
                obtain ⟨rfl, hbc⟩ := hcut
                obtain ⟨w8, rfl⟩ : ∃ V : World, V = wc := ⟨_, rfl⟩
                have HBC := Lib.hid hbc
                have HB8 := Lib.hid (HB7.out.trans (hbc.mono HB7.out.size))
                cases hcv : cb with
                | true =>
                  clear hcv hbc
                  go_wp2_with fail
                  go_roundg (nk - (k + 1))
                  case measure => have := HKN.out; omega
                  case rel => exact ⟨k + 1, by have := HKN.out; omega, rfl, by go_num, HB8.out⟩
                | false =>
                  have hadt : ad = true := by
                    have h := HCB.out
                    rw [hcv] at h
                    cases ad with
                    | true => rfl
                    | false => simp at h
                  have hnc : (decide (0 ≤ x) && (decide (y < sd) || (decide (sd = y) && decide (x ≤ (k : Int))))) = false := by
                    have h := HCB.out
                    rw [hcv] at h
                    exact (Bool.or_eq_false_iff.1 h.symm).1
                  have HEV := Lib.hid (show (List.range ch.length).any (blkB (L.map JobM.p) ch ⟨ust, uos⟩ sd i) = true by
                    have h := HEP.out.early i (by rw [List.length_map]; exact hiL) d HDM.out k HKK.out
                    rw [HO1.out, ← HNS.out.2, ← HSD.out, HGI.out] at h
                    refine h ?_ (by rw [← HADM.out]; exact hadt)
                    by_cases x0 : x < 0
                    · exact .inl x0
                    · rw [decide_eq_true (show 0 ≤ x by omega), Bool.true_and, Bool.or_eq_false_iff, decide_eq_false_iff_not] at hnc
                      by_cases x2 : sd = y
                      · rw [decide_eq_true x2, Bool.true_and, decide_eq_false_iff_not] at hnc
                        exact .inr (.inr ⟨x2, by simp only; omega⟩)
                      · exact .inr (.inl (by simp only; omega)))
                  have c0 := (hbc.cell (p := ⟨gd, 0, none⟩) (cell_lt c0')).trans c0'
                  have m0c := (hbc.cell (p := ⟨gO, 0, none⟩) (cell_lt m0)).trans m0
                  have m1c := (hbc.cell (p := ⟨gO, 1, none⟩) (cell_lt m1)).trans m1
                  have b0c := (hbc.cell (p := ⟨jb, jo + i * 2, none⟩) (cell_lt b0')).trans b0'
                  have HOC := Lib.hid (HOL.out.belowMore hbc hbc.size)
                  have HB48 := Lib.hid (HB47.out.trans (hbc.mono HB47.out.size))
                  clear hcv hnc hadt hbc m0 m1 c0' c1' b0' HAD HOL
                  go_wp2_with fail
                  go_loopg [22, 113] ch.length (fun g s22 s113 wr => ∃ q : Nat, q ≤ ch.length ∧ g = ch.length - q ∧ s113 = .int .i64 q ∧ s22 = .bool ((List.range q).any (blkB (L.map JobM.p) ch ⟨ust, uos⟩ sd i)) ∧ Below w8.heap.size w8 wr)
                  case atStart => exact ⟨0, by omega, by omega, rfl, rfl, Below.refl _ _⟩
                  case round =>
                    obtain ⟨q, hq, hg4, rfl, rfl, hb4⟩ := hrel
                    by_cases hql : q < ch.length
                    · have hqL : q < L.length := by have := HLN.out; omega
                      have hbq := HB48.out.trans (hb4.mono HB48.out.size)
                      obtain ⟨kb', ko', bx, by_, hKA, hgq, f0, f1⟩ := (HK4.out.belowMore hbq hbq.size).ch_at hql
                      injection hKA with hKA; injection hKA with hK1 hK2 _
                      subst hK1 hK2
                      have HGQ := Lib.hid hgq
                      have hjq := HM4.out.jobs.belowMore hbq hbq.size
                      obtain ⟨jb3, jo3, va3, n3, jvc3, s3, hJ3, hn3, hs3, z0, z1⟩ := hjq.job_at hqL
                      injection hJ3 with hJ3; injection hJ3 with e1 e2 _
                      subst e1 e2
                      have HNQ := Lib.hid (And.intro hn3 hs3)
                      have hrq := HEP.out.rng q (by rw [List.length_map]; exact hqL)
                      rw [hgq] at hrq
                      have HRQ := Lib.hid hrq
                      have hbx := belA wr (.cells #[.int .i64 bx, .int .i64 by_] 55)
                      have hnx := heap_alloc_new wr (.cells #[.int .i64 bx, .int .i64 by_] 55)
                      have HJQ := Lib.hid (hjq.belowMore hbx hbx.size)
                      have hb9 := hb4.trans (hbx.mono hb4.size)
                      have HB9 := Lib.hid hb9
                      have c0q := (hb9.cell (p := ⟨gd, 0, none⟩) (cell_lt c0)).trans c0
                      have m0q := (hb9.cell (p := ⟨gO, 0, none⟩) (cell_lt m0c)).trans m0c
                      have m1q := (hb9.cell (p := ⟨gO, 1, none⟩) (cell_lt m1c)).trans m1c
                      have b0q := (hb9.cell (p := ⟨jb, jo + i * 2, none⟩) (cell_lt b0c)).trans b0c
                      have z0q := (hbx.cell (p := ⟨jb, jo + q * 2, none⟩) (cell_lt z0)).trans z0
                      have z1q := (hbx.cell (p := ⟨jb, jo + q * 2 + 1, none⟩) (cell_lt z1)).trans z1
                      have HOQ := Lib.hid (HOC.out.belowMore hb9 hb9.size)
                      have q0i : (0 : Int) ≤ (q : Int) := by omega
                      have q1i : (q : Int) < (ch.length : Int) := by omega
                      have q2i : (q : Int) < (L.length : Int) := by omega
                      obtain ⟨acc, hacc⟩ : ∃ z, z = (List.range q).any (blkB (L.map JobM.p) ch ⟨ust, uos⟩ sd i) := ⟨_, rfl⟩
                      have HACC := Lib.hid hacc
                      rw [← hacc]
                      clear hacc hgq hjq hn3 hs3 hrq z0 z1 hb4 hbq
                      go_upto_region 21 with fail
                      clear f0 f1 hbx hb9
                      generalize wr.alloc (.cells #[.int .i64 bx, .int .i64 by_] 55) = w9 at *
                      generalize wr.heap.size = g9 at *
                      have v8 : w9.cell? ⟨g9, 0, none⟩ = some (.int .i64 bx) := by rw [cell_of_row w9 _ 0 _ _ _ hnx]; rfl
                      have v9 : w9.cell? ⟨g9, 1, none⟩ = some (.int .i64 by_) := by rw [cell_of_row w9 _ 1 _ _ _ hnx]; rfl
                      clear hnx
                      obtain ⟨fs, hfs⟩ : ∃ z, z = fstB (L.map JobM.p) q i := ⟨_, rfl⟩
                      have HFS := Lib.hid (show fs = (decide (s3 < s1) || (decide (s3 = s1) && decide (q < i))) by rw [hfs]; unfold fstB; rw [← HNQ.out.2, ← HNS.out.2])
                      have HFQ := Lib.hid hfs
                      clear hfs
                      go_cut [25] (fun s25 wx => s25 = .bool fs ∧ ∃ zq, wx = w9.drewN zq)
                      case first =>
                       as_aux_lemma =>
                        by_cases x1 : s3 < s1
                        · have hd1 : decide (s3 < s1) = true := decide_eq_true x1
                          have HX := Lib.hid (show fs = true by rw [HFS.out, hd1]; rfl)
                          clear x1
                          go_quiet (fail)
                          go_wp2_with fail
                          go_meet
                          exact ⟨by rw [HX.out], _, rfl⟩
                        · have hd1 : decide (s3 < s1) = false := decide_eq_false x1
                          by_cases x2 : s3 = s1
                          · have hd2 : (s3 == s1) = true := by simpa using x2
                            have X2 := Lib.hid x2
                            clear x1 x2
                            by_cases x3 : q < i
                            · have hd3 : decide (q < i) = true := decide_eq_true x3
                              have HX := Lib.hid (show fs = true by rw [HFS.out, decide_eq_true X2.out, hd3]; simp)
                              clear x3
                              go_quiet (fail)
                              go_wp2_with fail
                              go_meet
                              exact ⟨by rw [HX.out], _, rfl⟩
                            · have hd3 : decide (q < i) = false := decide_eq_false x3
                              have HX := Lib.hid (show fs = false by rw [HFS.out, hd1, decide_eq_true X2.out, hd3]; rfl)
                              clear x3
                              go_quiet (fail)
                              go_wp2_with fail
                              go_meet
                              exact ⟨by rw [HX.out], _, rfl⟩
                          · have hd2 : (s3 == s1) = false := by simpa using x2
                            have HX := Lib.hid (show fs = false by rw [HFS.out, hd1, decide_eq_false x2]; rfl)
                            clear x1 x2
                            go_quiet (fail)
                            go_wp2_with fail
                            go_meet
                            exact ⟨by rw [HX.out], _, rfl⟩
                      case rest =>
                        obtain ⟨rfl, zq, hwc⟩ := hcut
                        have hbz : Below w9.heap.size w9 (w9.drewN zq) := below_drewN (Below.refl _ _) zq
                        rw [← hwc] at hbz
                        obtain ⟨wA, rfl⟩ : ∃ V : World, V = wc := ⟨_, rfl⟩
                        have HBZ := Lib.hid (HB9.out.trans (hbz.mono HB9.out.size))
                        have v8a := (hbz.cell (p := ⟨g9, 0, none⟩) (cell_lt v8)).trans v8
                        have v9a := (hbz.cell (p := ⟨g9, 1, none⟩) (cell_lt v9)).trans v9
                        have m0a := (hbz.cell (p := ⟨gO, 0, none⟩) (cell_lt m0q)).trans m0q
                        have m1a := (hbz.cell (p := ⟨gO, 1, none⟩) (cell_lt m1q)).trans m1q
                        have z1a := (hbz.cell (p := ⟨jb, jo + q * 2 + 1, none⟩) (cell_lt z1q)).trans z1q
                        have HJA := Lib.hid (HJQ.out.belowMore hbz hbz.size)
                        have HOA := Lib.hid (HOQ.out.belowMore hbz hbz.size)
                        have HNXT := Lib.hid (show (List.range (q + 1)).any (blkB (L.map JobM.p) ch ⟨ust, uos⟩ sd i) = (acc || blkB (L.map JobM.p) ch ⟨ust, uos⟩ sd i q) by rw [anyR_snoc, HACC.out])
                        have hB0 : Below wA.heap.size wA wA.drew := (Below.refl _ _).drew
                        clear hwc hbz v8 v9 m0q m1q z0q z1q b0q c0q HJQ HOQ
                        as_aux_lemma =>
                          go_upto_region 22 with fail
                          cases hac : acc with
                          | true =>
                            have HV := Lib.hid (show (List.range (q + 1)).any (blkB (L.map JobM.p) ch ⟨ust, uos⟩ sd i) = true by rw [HNXT.out, hac]; rfl)
                            clear hac
                            go_quiet (fail)
                            go_wp2_with fail
                            go_roundg (ch.length - (q + 1))
                            case measure => omega
                            case rel => exact ⟨q + 1, by omega, rfl, by go_num, by rw [HV.out], below_drewN HBZ.out _⟩
                          | false =>
                            have HNX2 := Lib.hid (show (List.range (q + 1)).any (blkB (L.map JobM.p) ch ⟨ust, uos⟩ sd i) = blkB (L.map JobM.p) ch ⟨ust, uos⟩ sd i q by rw [HNXT.out, hac]; rfl)
                            clear hac
                            cases hfv : fs with
                            | false =>
                              have HX := Lib.hid (show blkB (L.map JobM.p) ch ⟨ust, uos⟩ sd i q = false by unfold blkB; rw [← HFQ.out, hfv]; rfl)
                              clear hfv
                              go_quiet (fail)
                              go_wp2_with fail
                              go_roundg (ch.length - (q + 1))
                              case measure => omega
                              case rel => exact ⟨q + 1, by omega, rfl, by go_num, by rw [HNX2.out, HX.out], below_drewN HBZ.out _⟩
                            | true =>
                              by_cases x1 : bx < 0
                              · have HX := Lib.hid (show blkB (L.map JobM.p) ch ⟨ust, uos⟩ sd i q = false by unfold blkB; rw [HGQ.out, decide_eq_false (show ¬ 0 ≤ ((bx, by_) : Cho).1 by simp only; omega)]; simp)
                                have hd1 : decide ((0 : Int) ≤ bx) = false := decide_eq_false (by omega)
                                clear hfv x1
                                go_quiet (fail)
                                go_wp2_with fail
                                go_roundg (ch.length - (q + 1))
                                case measure => omega
                                case rel => exact ⟨q + 1, by omega, rfl, by go_num, by rw [HNX2.out, HX.out], below_drewN HBZ.out _⟩
                              · obtain ⟨kd, hkd, hkl⟩ := HRQ.out.resolve_left x1
                                simp only at hkd
                                subst hkd
                                obtain ⟨jb4, jo4, pb, po, nk4, jvk4, s4, xA, xcp, xst, yA, ycp, yos, hJ4, hnk4, _, ho4, _, hin4⟩ := HJA.out.opt_in hqL hkl
                                injection hJ4 with hJ4; injection hJ4 with e1 e2 _
                                subst e1 e2
                                obtain ⟨hkn4, _, p1, p2, p3, hol4⟩ := hin4
                                have HX := Lib.hid (show blkB (L.map JobM.p) ch ⟨ust, uos⟩ sd i q = meetB ⟨xst, yos⟩ by_ ⟨ust, uos⟩ sd by
                                  unfold blkB
                                  rw [← HFQ.out, hfv, HGQ.out]
                                  simp only [Int.toNat_natCast]
                                  rw [ho4, decide_eq_true (show (0 : Int) ≤ (kd : Int) by omega), decide_eq_true (show (kd : Int) < ((jobAt (L.map JobM.p) q).opts.length : Int) by omega)]
                                  rfl)
                                have l0 : (0 : Int) ≤ (kd : Int) := by omega
                                have l1 : (kd : Int) < (nk4 : Int) := by omega
                                have hdl : decide (kd < nk4) = true := decide_eq_true hkn4
                                have HMT := Lib.hid (fun V (b : Below wA.heap.size wA V) => refMeets_any xA xcp xst yA ycp yos by_ uA ucp ust vA vcp uos sd V (hol4.st.belowMore b b.size) (hol4.oc.belowMore b b.size) hol4.sm hol4.om ((HOA.out.belowMore b b.size).st) ((HOA.out.belowMore b b.size).oc) HOA.out.sm HOA.out.om)
                                clear hfv x1 hkl hnk4 ho4 hol4 z1a
                                refine wp_region_held_drew (S := fun w' => Below wA.heap.size wA w' ∧ w'.cell? ⟨g9, 0, none⟩ = some (.int .i64 kd) ∧ w'.cell? ⟨g9, 1, none⟩ = some (.int .i64 by_) ∧ w'.cell? ⟨jb, jo + q * 2 + 1, none⟩ = some (.slice (some ⟨pb, po, none⟩) nk4 jvk4) ∧ w'.cell? ⟨pb, po + kd * 2, none⟩ = some (.slice xA xst.length xcp) ∧ w'.cell? ⟨pb, po + kd * 2 + 1, none⟩ = some (.slice yA yos.length ycp) ∧ w'.cell? ⟨gO, 0, none⟩ = some (.slice uA ust.length ucp) ∧ w'.cell? ⟨gO, 1, none⟩ = some (.slice vA uos.length vcp)) (by kernel_rfl) ⟨hB0, v8a, v9a, p1, p2, p3, m0a, m1a⟩ (fun h0 => ?_)
                                refine wpAnyH_takeL (i := 0) (v := ?_) rfl (by kernel_rfl) (by kernel_rfl) (by kernel_rfl) (fun _ _ _ h => h) (Or.inl ⟨by rfl, ?_⟩) h0 ?_
                                rotate_left
                                · intro u hSu
                                  obtain ⟨_, q0, q1, q2, q3, q4, q5, q6⟩ := hSu
                                  go_simp
                                  try rfl
                                simp only [Act.put, List.setIfInBounds_toArray, List.set_cons_zero, List.set_cons_succ]
                                refine wpAnyH_takeL (i := 1) (v := ?_) rfl (by kernel_rfl) (by kernel_rfl) (by kernel_rfl) (fun _ _ _ h => h) (Or.inl ⟨by rfl, ?_⟩) h0 ?_
                                rotate_left
                                · intro u hSu
                                  obtain ⟨_, q0, q1, q2, q3, q4, q5, q6⟩ := hSu
                                  go_simp
                                  try rfl
                                simp only [Act.put, List.setIfInBounds_toArray, List.set_cons_zero, List.set_cons_succ]
                                refine wpAnyH_takeL (i := 2) (v := ?_) rfl (by kernel_rfl) (by kernel_rfl) (by kernel_rfl) (fun _ _ _ h => h) (Or.inl ⟨by rfl, ?_⟩) h0 ?_
                                rotate_left
                                · intro u hSu
                                  obtain ⟨_, q0, q1, q2, q3, q4, q5, q6⟩ := hSu
                                  go_simp
                                  try rfl
                                simp only [Act.put, List.setIfInBounds_toArray, List.set_cons_zero, List.set_cons_succ]
                                refine wpAnyH_takeL (i := 3) (v := ?_) rfl (by kernel_rfl) (by kernel_rfl) (by kernel_rfl) (fun _ _ _ h => h) (Or.inl ⟨by rfl, ?_⟩) h0 ?_
                                rotate_left
                                · intro u hSu
                                  obtain ⟨_, q0, q1, q2, q3, q4, q5, q6⟩ := hSu
                                  go_simp
                                  try rfl
                                simp only [Act.put, List.setIfInBounds_toArray, List.set_cons_zero, List.set_cons_succ]
                                refine wpAnyH_takeL (i := 4) (v := ?_) rfl (by kernel_rfl) (by kernel_rfl) (by kernel_rfl) (fun _ _ _ h => h) (Or.inl ⟨by rfl, ?_⟩) h0 ?_
                                rotate_left
                                · intro u hSu
                                  obtain ⟨_, q0, q1, q2, q3, q4, q5, q6⟩ := hSu
                                  go_simp
                                  try rfl
                                simp only [Act.put, List.setIfInBounds_toArray, List.set_cons_zero, List.set_cons_succ]
                                refine wpAnyH_takeL (i := 5) (v := ?_) rfl (by kernel_rfl) (by kernel_rfl) (by kernel_rfl) (fun _ _ _ h => h) (Or.inl ⟨by rfl, ?_⟩) h0 ?_
                                rotate_left
                                · intro u hSu
                                  obtain ⟨_, q0, q1, q2, q3, q4, q5, q6⟩ := hSu
                                  go_simp
                                  try rfl
                                simp only [Act.put, List.setIfInBounds_toArray, List.set_cons_zero, List.set_cons_succ]
                                refine wpAnyH_takeL (i := 6) (v := ?_) rfl (by kernel_rfl) (by kernel_rfl) (by kernel_rfl) (fun _ _ _ h => h) (Or.inl ⟨by rfl, ?_⟩) h0 ?_
                                rotate_left
                                · intro u hSu
                                  obtain ⟨_, q0, q1, q2, q3, q4, q5, q6⟩ := hSu
                                  go_simp
                                  try rfl
                                simp only [Act.put, List.setIfInBounds_toArray, List.set_cons_zero, List.set_cons_succ]
                                refine wpAnyH_takeL (i := 7) (v := ?_) rfl (by kernel_rfl) (by kernel_rfl) (by kernel_rfl) (fun _ _ _ h => h) (Or.inl ⟨by rfl, ?_⟩) h0 ?_
                                rotate_left
                                · intro u hSu
                                  obtain ⟨_, q0, q1, q2, q3, q4, q5, q6⟩ := hSu
                                  go_simp
                                  try rfl
                                simp only [Act.put, List.setIfInBounds_toArray, List.set_cons_zero, List.set_cons_succ]
                                refine wpAnyH_takeL (i := 8) (v := ?_) rfl (by kernel_rfl) (by kernel_rfl) (by kernel_rfl) (fun _ _ _ h => h) (Or.inl ⟨by rfl, ?_⟩) h0 ?_
                                rotate_left
                                · intro u hSu
                                  obtain ⟨_, q0, q1, q2, q3, q4, q5, q6⟩ := hSu
                                  go_simp
                                  try rfl
                                simp only [Act.put, List.setIfInBounds_toArray, List.set_cons_zero, List.set_cons_succ]
                                refine wpAnyH_takeL (i := 9) (v := ?_) rfl (by kernel_rfl) (by kernel_rfl) (by kernel_rfl) (fun _ _ _ h => h) (Or.inl ⟨by rfl, ?_⟩) h0 ?_
                                rotate_left
                                · intro u hSu
                                  obtain ⟨_, q0, q1, q2, q3, q4, q5, q6⟩ := hSu
                                  go_simp
                                  try rfl
                                simp only [Act.put, List.setIfInBounds_toArray, List.set_cons_zero, List.set_cons_succ]
                                refine wpAnyH_takeL (i := 10) (v := ?_) rfl (by kernel_rfl) (by kernel_rfl) (by kernel_rfl) (fun _ _ _ h => h) (Or.inl ⟨by rfl, ?_⟩) h0 ?_
                                rotate_left
                                · intro u hSu
                                  obtain ⟨_, q0, q1, q2, q3, q4, q5, q6⟩ := hSu
                                  go_simp
                                  try rfl
                                simp only [Act.put, List.setIfInBounds_toArray, List.set_cons_zero, List.set_cons_succ]
                                refine wpAnyH_takeL (i := 11) (v := ?_) rfl (by kernel_rfl) (by kernel_rfl) (by kernel_rfl) (fun _ _ _ h => h) (Or.inl ⟨by rfl, ?_⟩) h0 ?_
                                rotate_left
                                · intro u hSu
                                  obtain ⟨_, q0, q1, q2, q3, q4, q5, q6⟩ := hSu
                                  go_simp
                                  try rfl
                                simp only [Act.put, List.setIfInBounds_toArray, List.set_cons_zero, List.set_cons_succ]
                                refine wpAnyH_takeL (i := 12) (v := ?_) rfl (by kernel_rfl) (by kernel_rfl) (by kernel_rfl) (fun _ _ _ h => h) (Or.inl ⟨by rfl, ?_⟩) h0 ?_
                                rotate_left
                                · intro u hSu
                                  obtain ⟨_, q0, q1, q2, q3, q4, q5, q6⟩ := hSu
                                  go_simp
                                  try rfl
                                simp only [Act.put, List.setIfInBounds_toArray, List.set_cons_zero, List.set_cons_succ]
                                refine wpAnyH_takeL (i := 13) (v := ?_) rfl (by kernel_rfl) (by kernel_rfl) (by kernel_rfl) (fun _ _ _ h => h) (Or.inl ⟨by rfl, ?_⟩) h0 ?_
                                rotate_left
                                · intro u hSu
                                  obtain ⟨_, q0, q1, q2, q3, q4, q5, q6⟩ := hSu
                                  go_simp
                                  try rfl
                                simp only [Act.put, List.setIfInBounds_toArray, List.set_cons_zero, List.set_cons_succ]
                                refine wpAnyH_takeL (i := 14) (v := ?_) rfl (by kernel_rfl) (by kernel_rfl) (by kernel_rfl) (fun _ _ _ h => h) (Or.inl ⟨by rfl, ?_⟩) h0 ?_
                                rotate_left
                                · intro u hSu
                                  obtain ⟨_, q0, q1, q2, q3, q4, q5, q6⟩ := hSu
                                  go_simp
                                  try rfl
                                simp only [Act.put, List.setIfInBounds_toArray, List.set_cons_zero, List.set_cons_succ]
                                refine wpAnyH_takeL (i := 15) (v := ?_) rfl (by kernel_rfl) (by kernel_rfl) (by kernel_rfl) (fun _ _ _ h => h) (Or.inl ⟨by rfl, ?_⟩) h0 ?_
                                rotate_left
                                · intro u hSu
                                  obtain ⟨_, q0, q1, q2, q3, q4, q5, q6⟩ := hSu
                                  go_simp
                                  try rfl
                                simp only [Act.put, List.setIfInBounds_toArray, List.set_cons_zero, List.set_cons_succ]
                                refine wpAnyH_takeL (i := 16) (v := ?_) rfl (by kernel_rfl) (by kernel_rfl) (by kernel_rfl) (fun _ _ _ h => h) (Or.inl ⟨by rfl, ?_⟩) h0 ?_
                                rotate_left
                                · intro u hSu
                                  obtain ⟨_, q0, q1, q2, q3, q4, q5, q6⟩ := hSu
                                  go_simp
                                  try rfl
                                simp only [Act.put, List.setIfInBounds_toArray, List.set_cons_zero, List.set_cons_succ]
                                refine wpAnyH_takeL (i := 17) (v := .bool true) rfl (by kernel_rfl) (by kernel_rfl) (by kernel_rfl) (fun _ _ _ h => h) (Or.inl ⟨by rfl, ?_⟩) h0 ?_
                                · intro u hSu
                                  obtain ⟨_, q0, q1, q2, q3, q4, q5, q6⟩ := hSu
                                  go_simp
                                  try (first | rfl | (simp only [hdl]; done) | (simp; done) | (simp; omega))
                                simp only [Act.put, List.setIfInBounds_toArray, List.set_cons_zero, List.set_cons_succ]
                                refine wpAnyH_takeL (i := 18) (v := ?_) rfl (by kernel_rfl) (by kernel_rfl) (by kernel_rfl) (fun _ _ _ h => h) (Or.inl ⟨by rfl, ?_⟩) h0 ?_
                                rotate_left
                                · intro u hSu
                                  obtain ⟨_, q0, q1, q2, q3, q4, q5, q6⟩ := hSu
                                  go_simp
                                  try rfl
                                simp only [Act.put, List.setIfInBounds_toArray, List.set_cons_zero, List.set_cons_succ]
                                refine wpAnyH_takeL (i := 19) (v := ?_) rfl (by kernel_rfl) (by kernel_rfl) (by kernel_rfl) (fun _ _ _ h => h) (Or.inl ⟨by rfl, ?_⟩) h0 ?_
                                rotate_left
                                · intro u hSu
                                  obtain ⟨_, q0, q1, q2, q3, q4, q5, q6⟩ := hSu
                                  go_simp
                                  try rfl
                                simp only [Act.put, List.setIfInBounds_toArray, List.set_cons_zero, List.set_cons_succ]
                                refine wpAnyH_takeL (i := 20) (v := ?_) rfl (by kernel_rfl) (by kernel_rfl) (by kernel_rfl) (fun _ _ _ h => h) (Or.inl ⟨by rfl, ?_⟩) h0 ?_
                                rotate_left
                                · intro u hSu
                                  obtain ⟨_, q0, q1, q2, q3, q4, q5, q6⟩ := hSu
                                  go_simp
                                  try rfl
                                simp only [Act.put, List.setIfInBounds_toArray, List.set_cons_zero, List.set_cons_succ]
                                refine wpAnyH_takeL (i := 21) (v := ?_) rfl (by kernel_rfl) (by kernel_rfl) (by kernel_rfl) (fun _ _ _ h => h) (Or.inl ⟨by rfl, ?_⟩) h0 ?_
                                rotate_left
                                · intro u hSu
                                  obtain ⟨_, q0, q1, q2, q3, q4, q5, q6⟩ := hSu
                                  go_simp
                                  try rfl
                                simp only [Act.put, List.setIfInBounds_toArray, List.set_cons_zero, List.set_cons_succ]
                                refine wpAnyH_takeL (i := 22) (v := ?_) rfl (by kernel_rfl) (by kernel_rfl) (by kernel_rfl) (fun _ _ _ h => h) (Or.inl ⟨by rfl, ?_⟩) h0 ?_
                                rotate_left
                                · intro u hSu
                                  obtain ⟨_, q0, q1, q2, q3, q4, q5, q6⟩ := hSu
                                  go_simp
                                  try rfl
                                simp only [Act.put, List.setIfInBounds_toArray, List.set_cons_zero, List.set_cons_succ]
                                refine wpAnyH_takeL (i := 23) (v := ?_) rfl (by kernel_rfl) (by kernel_rfl) (by kernel_rfl) (fun _ _ _ h => h) (Or.inl ⟨by rfl, ?_⟩) h0 ?_
                                rotate_left
                                · intro u hSu
                                  obtain ⟨_, q0, q1, q2, q3, q4, q5, q6⟩ := hSu
                                  go_simp
                                  try rfl
                                simp only [Act.put, List.setIfInBounds_toArray, List.set_cons_zero, List.set_cons_succ]
                                refine wpAnyH_takeL (i := 24) (v := ?_) rfl (by kernel_rfl) (by kernel_rfl) (by kernel_rfl) (fun _ _ _ h => h) (Or.inl ⟨by rfl, ?_⟩) h0 ?_
                                rotate_left
                                · intro u hSu
                                  obtain ⟨_, q0, q1, q2, q3, q4, q5, q6⟩ := hSu
                                  go_simp
                                  try rfl
                                simp only [Act.put, List.setIfInBounds_toArray, List.set_cons_zero, List.set_cons_succ]
                                refine wpAnyH_takeL (i := 25) (v := ?_) rfl (by kernel_rfl) (by kernel_rfl) (by kernel_rfl) (fun _ _ _ h => h) (Or.inl ⟨by rfl, ?_⟩) h0 ?_
                                rotate_left
                                · intro u hSu
                                  obtain ⟨_, q0, q1, q2, q3, q4, q5, q6⟩ := hSu
                                  go_simp
                                  try rfl
                                simp only [Act.put, List.setIfInBounds_toArray, List.set_cons_zero, List.set_cons_succ]
                                refine wpAnyH_takeL (i := 26) (v := ?_) rfl (by kernel_rfl) (by kernel_rfl) (by kernel_rfl) (fun _ _ _ h => h) (Or.inl ⟨by rfl, ?_⟩) h0 ?_
                                rotate_left
                                · intro u hSu
                                  obtain ⟨_, q0, q1, q2, q3, q4, q5, q6⟩ := hSu
                                  go_simp
                                  try rfl
                                simp only [Act.put, List.setIfInBounds_toArray, List.set_cons_zero, List.set_cons_succ]
                                refine wpAnyH_takeL (i := 27) (v := ?_) rfl (by kernel_rfl) (by kernel_rfl) (by kernel_rfl) (fun _ _ _ h => h) (Or.inl ⟨by rfl, ?_⟩) h0 ?_
                                rotate_left
                                · intro u hSu
                                  obtain ⟨_, q0, q1, q2, q3, q4, q5, q6⟩ := hSu
                                  go_simp
                                  try rfl
                                simp only [Act.put, List.setIfInBounds_toArray, List.set_cons_zero, List.set_cons_succ]
                                refine wpAnyH_takeL (i := 28) (v := ?_) rfl (by kernel_rfl) (by kernel_rfl) (by kernel_rfl) (fun _ _ _ h => h) (Or.inl ⟨by rfl, ?_⟩) h0 ?_
                                rotate_left
                                · intro u hSu
                                  obtain ⟨_, q0, q1, q2, q3, q4, q5, q6⟩ := hSu
                                  go_simp
                                  try rfl
                                simp only [Act.put, List.setIfInBounds_toArray, List.set_cons_zero, List.set_cons_succ]
                                refine wpAnyH_takeL (i := 29) (v := ?_) rfl (by kernel_rfl) (by kernel_rfl) (by kernel_rfl) (fun _ _ _ h => h) (Or.inl ⟨by rfl, ?_⟩) h0 ?_
                                rotate_left
                                · intro u hSu
                                  obtain ⟨_, q0, q1, q2, q3, q4, q5, q6⟩ := hSu
                                  go_simp
                                  try rfl
                                simp only [Act.put, List.setIfInBounds_toArray, List.set_cons_zero, List.set_cons_succ]
                                refine wpAnyH_takeL (i := 30) (v := ?_) rfl (by kernel_rfl) (by kernel_rfl) (by kernel_rfl) (fun _ _ _ h => h) (Or.inl ⟨by rfl, ?_⟩) h0 ?_
                                rotate_left
                                · intro u hSu
                                  obtain ⟨_, q0, q1, q2, q3, q4, q5, q6⟩ := hSu
                                  go_simp
                                  try rfl
                                simp only [Act.put, List.setIfInBounds_toArray, List.set_cons_zero, List.set_cons_succ]
                                refine wpAnyH_takeL (i := 31) (v := ?_) rfl (by kernel_rfl) (by kernel_rfl) (by kernel_rfl) (fun _ _ _ h => h) (Or.inl ⟨by rfl, ?_⟩) h0 ?_
                                rotate_left
                                · intro u hSu
                                  obtain ⟨_, q0, q1, q2, q3, q4, q5, q6⟩ := hSu
                                  go_simp
                                  try rfl
                                simp only [Act.put, List.setIfInBounds_toArray, List.set_cons_zero, List.set_cons_succ]
                                refine wpAnyH_takeL (i := 32) (v := ?_) rfl (by kernel_rfl) (by kernel_rfl) (by kernel_rfl) (fun _ _ _ h => h) (Or.inl ⟨by rfl, ?_⟩) h0 ?_
                                rotate_left
                                · intro u hSu
                                  obtain ⟨_, q0, q1, q2, q3, q4, q5, q6⟩ := hSu
                                  go_simp
                                  try rfl
                                simp only [Act.put, List.setIfInBounds_toArray, List.set_cons_zero, List.set_cons_succ]
                                refine wpAnyH_ready (rs := [33]) (by kernel_rfl) (by simp) ?_
                                refine readyL rfl (fun K hK => ?_) AllReadyH.nil
                                go_simp
                                refine (HMT.out _ h0.1).mono ?_
                                rintro e w' ⟨rfl, hb'⟩
                                obtain ⟨hB1, q0, q1, q2, q3, q4, q5, q6⟩ := h0
                                have h1 := And.intro (hB1.trans (hb'.mono hB1.size)) (And.intro ((hb'.cell (p := ⟨g9, 0, none⟩) (cell_lt q0)).trans q0) (And.intro ((hb'.cell (p := ⟨g9, 1, none⟩) (cell_lt q1)).trans q1) (And.intro ((hb'.cell (p := ⟨jb, jo + q * 2 + 1, none⟩) (cell_lt q2)).trans q2) (And.intro ((hb'.cell (p := ⟨pb, po + kd * 2, none⟩) (cell_lt q3)).trans q3) (And.intro ((hb'.cell (p := ⟨pb, po + kd * 2 + 1, none⟩) (cell_lt q4)).trans q4) (And.intro ((hb'.cell (p := ⟨gO, 0, none⟩) (cell_lt q5)).trans q5) ((hb'.cell (p := ⟨gO, 1, none⟩) (cell_lt q6)).trans q6)))))))
                                refine hK.out _ _ h1 (fun _ => ?_)
                                clear hK K q0 q1 q2 q3 q4 q5 q6
                                have h0 := h1
                                clear h1
                                try simp only [Act.put, List.setIfInBounds_toArray, List.set_cons_zero, List.set_cons_succ]
                                refine wpAnyH_takeL (i := 34) (v := ?_) rfl (by kernel_rfl) (by kernel_rfl) (by kernel_rfl) (fun _ _ _ h => h) (Or.inl ⟨by rfl, ?_⟩) h0 ?_
                                rotate_left
                                · intro u hSu
                                  obtain ⟨_, q0, q1, q2, q3, q4, q5, q6⟩ := hSu
                                  go_simp
                                  try rfl
                                simp only [Act.put, List.setIfInBounds_toArray, List.set_cons_zero, List.set_cons_succ]
                                refine wpAnyH_takeL (i := 35) (v := ?_) rfl (by kernel_rfl) (by kernel_rfl) (by kernel_rfl) (fun _ _ _ h => h) (Or.inl ⟨by rfl, ?_⟩) h0 ?_
                                rotate_left
                                · intro u hSu
                                  obtain ⟨_, q0, q1, q2, q3, q4, q5, q6⟩ := hSu
                                  go_simp
                                  try rfl
                                simp only [Act.put, List.setIfInBounds_toArray, List.set_cons_zero, List.set_cons_succ]
                                refine wpAnyH_takeL (i := 36) (v := ?_) rfl (by kernel_rfl) (by kernel_rfl) (by kernel_rfl) (fun _ _ _ h => h) (Or.inl ⟨by rfl, ?_⟩) h0 ?_
                                rotate_left
                                · intro u hSu
                                  obtain ⟨_, q0, q1, q2, q3, q4, q5, q6⟩ := hSu
                                  go_simp
                                  try rfl
                                simp only [Act.put, List.setIfInBounds_toArray, List.set_cons_zero, List.set_cons_succ]
                                have HBF := Lib.hid (HBZ.out.trans (h0.1.mono HBZ.out.size))
                                clear h0
                                refine wpAnyH_done (by kernel_rfl) ?_ _
                                go_wp2_with fail
                                go_roundg (ch.length - (q + 1))
                                case measure => omega
                                case rel => exact ⟨q + 1, by omega, rfl, by go_num, by rw [HNX2.out, HX.out], HBF.out⟩
                    · have hqe : q = ch.length := by omega
                      have HT := Lib.hid (show (List.range q).any (blkB (L.map JobM.p) ch ⟨ust, uos⟩ sd i) = true by rw [hqe]; exact HEV.out)
                      have HB9 := Lib.hid (HB8.out.trans (hb4.mono HB8.out.size))
                      clear hb4 hqe
                      rw [HT.out]
                      go_wp2_with fail
                      go_roundg (nk - (k + 1))
                      case measure => have := HKN.out; omega
                      case rel => exact ⟨k + 1, by have := HKN.out; omega, rfl, by go_num, HB9.out⟩
            · have HB7 := Lib.hid (HB2.out.trans (hb3.mono HB2.out.size))
              clear hb3
              go_wp2_with fail
              go_roundg (mo + 1 - (d + 1))
              case measure => have := HDM.out; omega
              case rel => exact ⟨d + 1, by have := HDM.out; omega, rfl, by go_num, HB7.out⟩
        · have HB7 := Lib.hid (HB5.out.trans (hb2.mono HB5.out.size))
          have hdm' : ¬ (d : Int) ≤ (mo : Int) := by omega
          clear hb2
          go_wp2_with fail
          go_roundg (ch.length - (i + 1))
          case measure => omega
          case rel => exact ⟨i + 1, by omega, rfl, by go_num, HB7.out⟩
    · have HB6 := Lib.hid (HM4.out.bel.trans (hb.mono HM4.out.bel.size))
      clear hb
      go_wp2_with fail
      refine (awake26_any _).mono ?_
      rintro e w7 ⟨rfl, hb7⟩
      have b7 := HB6.out.trans (hb7.mono HB6.out.size)
      clear hb7
      go_wp2_with fail
      go_ret
      exact ⟨rfl, b7⟩
end Go.Proofs.Ytlillkfelfoafaa
