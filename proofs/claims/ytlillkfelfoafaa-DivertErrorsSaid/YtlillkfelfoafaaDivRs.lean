/-
  Contract of the reference's PlanJobs (at most 6 jobs).
-/
import Derived.Test.YtlillkfelfoafaaDivRq
import Derived.Test.YtlillkfelfoafaaDivRp
import Derived.Test.YtlillkfelfoafaaDivKo
import Derived.StillTailTactics
set_option linter.unusedVariables false
set_option linter.unusedSimpArgs false
namespace Go.Proofs.Ytlillkfelfoafaa
open Go.RowKit Go.Shelf RP

theorem makeCh6 (n : Nat) (h : n ≤ 6) : ∀ w : World, (Instr.makeSlice 49 (.int .i64 (n : Int)) (.int .i64 (n : Int))).run Try.prog w =
    .ok (.slice (some ⟨w.heap.size, 0, none⟩) n n) (w.alloc (.cells ((List.replicate n ((0, 0) : Cho)).flatMap encK).toArray 55)) := by
  have : n = 0 ∨ n = 1 ∨ n = 2 ∨ n = 3 ∨ n = 4 ∨ n = 5 ∨ n = 6 := by omega
  rcases this with rfl | rfl | rfl | rfl | rfl | rfl | rfl <;> intro w <;> kernel_rfl
theorem own_cellsK {w : World} {base g n c : Nat} {l : List Cho} (h : Own encK 2 55 w base (.slice (some ⟨g, 0, none⟩) n c) l) (i : Nat) (hi : i < l.length) {a b : Int} (he : l.getD i (0, 0) = (a, b)) :
    w.cell? ⟨g, i * 2, none⟩ = some (.int .i64 a) ∧ w.cell? ⟨g, i * 2 + 1, none⟩ = some (.int .i64 b) ∧ w.frozen? ⟨g, i * 2, none⟩ = false ∧ w.frozen? ⟨g, i * 2 + 1, none⟩ = false := by
  obtain ⟨g', c', hv, _, _, _, hc, hf⟩ := h.at_ encK_len (by intro h0; subst h0; simp at hi)
  injection hv with hv
  simp only [Option.some.injEq, Addr.mk.injEq, and_true] at hv
  subst hv
  rw [getD_ch hi] at he
  have h0 := hc i l[i] (List.getElem?_eq_getElem hi) 0 _ rfl
  have h1 := hc i l[i] (List.getElem?_eq_getElem hi) 1 _ rfl
  rw [he] at h0 h1
  exact ⟨h0, h1, hf _, hf _⟩
theorem own_setK2 {w : World} {base g n c : Nat} {l : List Cho} (h : Own encK 2 55 w base (.slice (some ⟨g, 0, none⟩) n c) l) (i : Nat) (hi : i < l.length) (a b : Int) :
    Own encK 2 55 ((w.setCell ⟨g, i * 2, none⟩ (.int .i64 a)).setCell ⟨g, i * 2 + 1, none⟩ (.int .i64 b)) base (.slice (some ⟨g, 0, none⟩) n c) (l.set i (a, b)) ∧ w.grownBy ((w.setCell ⟨g, i * 2, none⟩ (.int .i64 a)).setCell ⟨g, i * 2 + 1, none⟩ (.int .i64 b)) (some g) := by
  have own1 := Own.stored (enc := encK) (k := 2) (fun _ => rfl) h i 0 (.int .i64 a) (a, l[i].2) hi (by omega) rfl
  have own2 := Own.stored (enc := encK) (k := 2) (fun _ => rfl) own1.1 i 1 (.int .i64 b) (a, b) (by rw [List.length_set]; exact hi) (by omega) (by rw [List.getElem_set_self]; rfl)
  refine ⟨?_, own1.2.trans own2.2⟩
  have := own2.1
  rw [List.set_set] at this
  exact this
/-- The memory of PlanJobs: the choices' row gk, the order's row. -/
structure RpS (gz : Nat) (w wr : World) (gk n0 : Nat) (NA : Option Addr) (nc : Nat) (ord : List Nat) (ou : List Cho) : Prop where
  out : Own encK 2 55 wr gz (.slice (some ⟨gk, 0, none⟩) n0 n0) ou
  od : OwnN wr gz (.slice NA n0 nc) (natI ord)
  bel : Below gz w wr
  gz : gz ≤ wr.heap.size
section
variable {gz : Nat} {w wr wx : World} {gk n0 nc : Nat} {NA : Option Addr} {ord : List Nat} {ou : List Cho}
theorem RpS.more (h : RpS gz w wr gk n0 NA nc ord ou) (hb : Below wr.heap.size wr wx) : RpS gz w wx gk n0 NA nc ord ou :=
  ⟨h.out.below' hb, h.od.below' hb, h.bel.trans (hb.mono h.gz), Nat.le_trans h.gz hb.size⟩
theorem RpS.set (h : RpS gz w wr gk n0 NA nc ord ou) {i : Nat} (hi : i < ou.length) (a b : Int) : RpS gz w ((wr.setCell ⟨gk, i * 2, none⟩ (.int .i64 a)).setCell ⟨gk, i * 2 + 1, none⟩ (.int .i64 b)) gk n0 NA nc ord (ou.set i (a, b)) := by
  obtain ⟨h1, h2⟩ := own_setK2 h.out i hi a b
  have hg := World.ownsRow.lt h.out gk rfl
  exact ⟨h1, h.od.keptR h.out (by decide) h2, h.bel.grown h2 h.gz (fun q e => by injection e with e; omega), Nat.le_trans h.gz h2.size⟩
theorem RpS.lst (h : RpS gz w wr gk n0 NA nc ord ou) : Lst encK 2 wr wr.heap.size (some ⟨gk, 0, none⟩) ou := Own.lst encK_len h.out
end
theorem plan_errR {w w' : World} {L : List JobM} {cl : List Clo} {ow : List OWy} {M B : Int} {err : Int} {e : Ending} (he : e = .returned (.tuple #[.slice none 0 0, .int .i64 0, .int .i64 err])) (hp : PlanIs (L.map JobM.p) cl ow M B [] 0 err) (hb : Below w.heap.size w w') : PlanPost w L cl ow M B e w' :=
  ⟨[], 0, err, none, 0, he, hp, Own.nil _ _ _ _ _, hb⟩
set_option maxRecDepth 100000 in
set_option maxHeartbeats 16000000 in
theorem planJobs_any (A : Option Addr) (c : Nat) (L : List JobM) (CA : Option Addr) (cc : Nat) (cl : List Clo) (WA : Option Addr) (wc : Nat) (ow : List OWy) (M B : Int) (w : World)
    (hj : Jbs w w.heap.size A L) (hcl : Lst encO 3 w w.heap.size CA cl) (how : Lst encW 4 w w.heap.size WA ow) (hL6 : L.length ≤ 6) (hcn : cl.length ≤ 9223372036854775807) (hwn : ow.length ≤ 9223372036854775807) :
    Calls Try.prog 26 #[.slice A L.length c, .slice CA cl.length cc, .slice WA ow.length wc, .int .i64 M, .int .i64 B] w (PlanPost w L cl ow M B) := by
  have hck := rcheck_any A c L w hj
  have HJ := Lib.hid hj
  have HCL := Lib.hid hcl
  have HOW := Lib.hid how
  clear hj hcl how
  cases hcj : checkJ (L.map JobM.p) with
  | false =>
    rw [hcj] at hck
    have HCK := Lib.hid hcj
    clear hcj
    go_enter Try.func26, Try.ntmps26
    go_wp2_with (go_at_call 15; refine hck.mono ?_; rintro e w1 ⟨rfl, hb1⟩)
    go_ret3
    exact plan_errR rfl (.inl ⟨HCK.out, rfl, rfl, rfl⟩) hb1
  | true =>
    rw [hcj] at hck
    have HCK := Lib.hid hcj
    clear hcj
    go_enter Try.func26, Try.ntmps26
    go_upto_region 3 with (go_at_call 15; refine hck.mono ?_; rintro e w1 ⟨rfl, hb1⟩)
    have HB1 := Lib.hid hb1
    clear hb1 hck
    by_cases q0 : M < 0
    · go_wp2_with fail
      go_ret3
      exact plan_errR rfl (.inr (.inl ⟨HCK.out, by omega, rfl, rfl, rfl⟩)) HB1.out
    · by_cases q1 : 3600 < M
      · go_wp2_with fail
        go_ret3
        exact plan_errR rfl (.inr (.inl ⟨HCK.out, by omega, rfl, rfl, rfl⟩)) HB1.out
      · by_cases q2 : B < 1
        · go_wp2_with fail
          go_ret3
          exact plan_errR rfl (.inr (.inl ⟨HCK.out, by omega, rfl, rfl, rfl⟩)) HB1.out
        · by_cases q3 : 1048576 < B
          · go_wp2_with fail
            go_ret3
            exact plan_errR rfl (.inr (.inl ⟨HCK.out, by omega, rfl, rfl, rfl⟩)) HB1.out
          · have hM : 0 ≤ M ∧ M ≤ 3600 := by omega
            have hB : 1 ≤ B ∧ B ≤ 1048576 := by omega
            have mk := makeCh6 L.length hL6
            go_upto_region 6 with fail
            have ho := Own.lit w1 55 w1.heap.size ((List.replicate L.length ((0, 0) : Cho)).flatMap encK).toArray (List.replicate L.length ((0, 0) : Cho)) L.length (by simp) encK_len (by simp) (Nat.le_refl _) (by simp [Go.maxLen]; omega)
            have ba := belA w1 (.cells ((List.replicate L.length ((0, 0) : Cho)).flatMap encK).toArray 55)
            generalize w1.alloc (.cells ((List.replicate L.length ((0, 0) : Cho)).flatMap encK).toArray 55) = w2 at *
            have hb2 := HB1.out.trans (ba.mono HB1.out.size)
            have hio := inOrder_any A c L w2 (HJ.out.belowMore hb2 hb2.size) (by omega)
            have hz1 := HB1.out.size
            clear mk ba
            generalize w1.heap.size = gq at *
            go_wp2_with fail
            refine hio.mono ?_
            rintro e w3 ⟨NA, nc, ord, rfl, hord, hod, hb3⟩
            have hz2 := hb2.size
            have HORD := Lib.hid hord
            have hou : RpS w.heap.size w w3 gq L.length NA nc ord (List.replicate L.length ((0, 0) : Cho)) := ⟨(ho.below' hb3).rebase hz1, hod.rebase hz2, hb2.trans (hb3.mono hz2), Nat.le_trans hz2 hb3.size⟩
            have hlo : ord.length = L.length := by rw [hord.len, List.length_map]
            clear hord hod hb3 hb2 hio ho
            generalize hgz : w.heap.size = gz at *
            have HGZ := Lib.hid hgz
            obtain ⟨Mn, rfl⟩ : ∃ m : Nat, M = m := ⟨M.toNat, by omega⟩
            clear hgz
            go_wp2_with fail
            go_loopg [15, 46] L.length (fun g s15 s46 wr => ∃ (n : Nat) (ou : List Cho) (u : Nat), n ≤ L.length ∧ g = L.length - n ∧ s46 = .int .i64 n ∧ s15 = .int .i64 u ∧ (u : Int) ≤ B ∧ Agr (L.map JobM.p) cl ow Mn ord n ou ∧ u = (planF (L.map JobM.p) cl ow Mn (ord.take n)).2 ∧ RpS gz w wr gq L.length NA nc ord ou)
            case atStart => exact ⟨0, _, 0, by omega, by omega, rfl, rfl, by omega, Agr.start _ (by simp), rfl, hou⟩
            case round =>
              obtain ⟨n, ou, u, hn, hg, rfl, rfl, hu, hag, hue, hrs⟩ := hrel
              have HAG := Lib.hid hag
              have HUE := Lib.hid hue
              clear hag hue hou
              by_cases hlt : n < L.length
              · have hnl : n < ord.length := by omega
                have hil : ord[n] < L.length := by have := HORD.out.mem.1 (List.getElem_mem hnl); rw [List.length_map] at this; exact this
                obtain ⟨nb, no, hNA, _, b0⟩ := (Own.lst encI_len hrs.od).it n (by rw [natI_len]; exact hnl)
                subst hNA
                rw [natI_get hnl] at b0
                have houl : ou.length = L.length := by rw [HAG.out.len, List.length_map]
                obtain ⟨x0, y0, hxy⟩ : ∃ x y, ou.getD ord[n] (0, 0) = (x, y) := ⟨_, _, rfl⟩
                obtain ⟨k0, k1, f0, f1⟩ := own_cellsK hrs.out ord[n] (by omega) hxy
                have HRS := Lib.hid (hrs.set (i := ord[n]) (by omega) (-1) 0)
                have HAG2 := Lib.hid (HAG.out.set HORD.out hnl (-1, 0))
                have HSR := Lib.hid (show SrO (L.map JobM.p) cl ow Mn ord n ord[n] 0 (ou.set ord[n] (-1, 0)) (u : Int) from .inl ⟨getD_set_eq _ (by omega), fun s hs => by omega, by have := HUE.out; omega⟩)
                have HDONE := Lib.hid (fun ou' u' h1 h2 => SrO.done (jobs := L.map JobM.p) (cl := cl) (ow := ow) (M := Mn) (ou := ou') (u := u') h1 HORD.out hnl h2)
                have HOVER := Lib.hid (fun t ht h2 B' hB' => SrO.over (jobs := L.map JobM.p) (cl := cl) (ow := ow) (M := Mn) HORD.out hnl (t := t) ht h2 (B := B') hB')
                have HSET := Lib.hid (fun ou' h c => Agr.set (jobs := L.map JobM.p) (cl := cl) (ow := ow) (M := Mn) (ou := ou') h HORD.out hnl c)
                generalize hie : ord[n] = i at *
                have i0 : (0 : Int) ≤ (i : Int) := by omega
                have i1 : (i : Int) < (L.length : Int) := by omega
                have n0 : (0 : Int) ≤ (n : Int) := by omega
                have n1 : (n : Int) < (L.length : Int) := by omega
                clear hrs hxy
                go_wp2_with fail
                generalize (wr.setCell ⟨gq, i * 2, none⟩ (.int .i64 (-1))).setCell ⟨gq, i * 2 + 1, none⟩ (.int .i64 0) = wA at *
                generalize ou.set i (-1, 0) = ouA at *
                clear k0 k1 f0 f1 b0
                go_loopg [15, 18] (Mn + 1) (fun g s15 s18 wr => ∃ (d : Nat) (ou : List Cho) (u : Nat), d ≤ Mn + 1 ∧ g = Mn + 1 - d ∧ s18 = .int .i64 d ∧ s15 = .int .i64 u ∧ (u : Int) ≤ B ∧ Agr (L.map JobM.p) cl ow Mn ord n ou ∧ SrO (L.map JobM.p) cl ow Mn ord n i (d * (jobAt (L.map JobM.p) i).opts.length) ou u ∧ RpS gz w wr gq L.length (some ⟨nb, no, none⟩) nc ord ou)
                case atStart => exact ⟨0, ouA, u, by omega, by omega, rfl, rfl, hu, HAG2.out, by rw [Nat.zero_mul]; exact HSR.out, HRS.out⟩
                case round =>
                  obtain ⟨d, ou2, u2, hd, hg2, rfl, rfl, hu2, hag, hsr, hrs⟩ := hrel
                  clear HAG2 HSR HRS
                  obtain ⟨x1, y1, hxy⟩ : ∃ x y, ou2.getD i (0, 0) = (x, y) := ⟨_, _, rfl⟩
                  have hol2 : ou2.length = L.length := by rw [hag.len, List.length_map]
                  obtain ⟨k0, k1, f0, f1⟩ := own_cellsK hrs.out i (by omega) hxy
                  have HAG2 := Lib.hid hag
                  have HRS := Lib.hid hrs
                  have hK1 := (okJob_iff.1 ((checkJ_iff.1 HCK.out).2 (jobAt (L.map JobM.p) i) (getD_mem' (by rw [List.length_map]; exact hil) _))).2.1.1
                  clear hag hrs
                  rcases hsr with ⟨e1, e2, e3⟩ | ⟨s, h0, h1, h2, h3, h4, h5⟩
                  · rw [e1] at hxy
                    injection hxy with hx1 hy1
                    subst hx1 hy1
                    have HE := Lib.hid (And.intro e1 (And.intro e2 e3))
                    clear e1 e2 e3
                    by_cases hdm : d ≤ Mn
                    · have hd1 : decide (d ≤ Mn) = true := decide_eq_true hdm
                      have HD := Lib.hid hdm
                      clear hdm
                      go_wp2_with fail
                      obtain ⟨KK, hKK⟩ : ∃ z, z = (jobAt (L.map JobM.p) i).opts.length := ⟨_, rfl⟩
                      have HKQ := Lib.hid hKK
                      clear hKK
                      go_loopg [15, 19] KK (fun g s15 s19 wr => ∃ (k : Nat) (ou : List Cho) (u : Nat), k ≤ KK ∧ g = KK - k ∧ s19 = .int .i64 k ∧ s15 = .int .i64 u ∧ (u : Int) ≤ B ∧ Agr (L.map JobM.p) cl ow Mn ord n ou ∧ SrO (L.map JobM.p) cl ow Mn ord n i (d * (jobAt (L.map JobM.p) i).opts.length + k) ou u ∧ RpS gz w wr gq L.length (some ⟨nb, no, none⟩) nc ord ou)
                      case atStart => exact ⟨0, ou2, u2, by omega, by omega, rfl, rfl, hu2, HAG2.out, .inl HE.out, HRS.out⟩
                      case round =>
                        obtain ⟨k, ou3, u3, hk, hg3, rfl, rfl, hu3, hag, hsr, hrs⟩ := hrel
                        clear HAG2 HE HRS k0 k1 f0 f1
                        obtain ⟨x1, y1, hxy⟩ : ∃ x y, ou3.getD i (0, 0) = (x, y) := ⟨_, _, rfl⟩
                        have hol3 : ou3.length = L.length := by rw [hag.len, List.length_map]
                        obtain ⟨k0, k1, f0, f1⟩ := own_cellsK hrs.out i (by omega) hxy
                        have hjw := HJ.out.belowMore hrs.bel (Nat.le_refl _)
                        obtain ⟨jb, jo, va, nK, jvc, s, hJA, hnK, hs0, a0, a1⟩ := hjw.job_at hil
                        subst hJA
                        have HAG3 := Lib.hid hag
                        have HRS3 := Lib.hid hrs
                        have HJW := Lib.hid hjw
                        have HNK := Lib.hid (And.intro hnK hs0)
                        have hkn : k < nK ∨ k = nK := by have := HKQ.out; omega
                        clear hag hrs hjw hnK hs0 hk
                        rcases hsr with ⟨e1, e2, e3⟩ | ⟨q, h0, h1, h2, h3, h4, h5⟩
                        · rw [e1] at hxy
                          injection hxy with hx1 hy1
                          subst hx1 hy1
                          have HE3 := Lib.hid (And.intro e1 (And.intro e2 e3))
                          clear e1 e2 e3
                          by_cases hkm : k < nK
                          · have hd3 : decide (k < nK) = true := decide_eq_true hkm
                            have HKF := Lib.hid (show k + 1 ≤ KK by have := HKQ.out; have := HNK.out.1; omega)
                            have hkK : k < (jobAt (L.map JobM.p) i).opts.length := by have := HNK.out.1; omega
                            have hk8 : (k : Int) < 8 := by
                              have h := (okJob_iff.1 ((checkJ_iff.1 HCK.out).2 (jobAt (L.map JobM.p) i) (getD_mem' (by rw [List.length_map]; exact hil) _))).2.1.2
                              omega
                            by_cases hov : B < (u3 : Int) + 1
                            · have ht : d * (jobAt (L.map JobM.p) i).opts.length + k < (Mn + 1) * (jobAt (L.map JobM.p) i).opts.length := by
                                have h1 : (d + 1) * (jobAt (L.map JobM.p) i).opts.length ≤ (Mn + 1) * (jobAt (L.map JobM.p) i).opts.length := Nat.mul_le_mul_right _ (by have := HD.out; omega)
                                rw [Nat.add_mul, Nat.one_mul] at h1; omega
                              have HOV := Lib.hid (HOVER.out _ ht HE3.out.2.1 B (by have := HE3.out.2.2; omega))
                              clear ht hkK
                              go_wp2_with fail
                              go_ret3
                              exact plan_errR rfl (.inr (.inr ⟨HCK.out, hM.1, hM.2, hB.1, hB.2, ord, HORD.out, .inl ⟨by rw [Int.toNat_natCast]; exact HOV.out, rfl, rfl, rfl⟩⟩)) (by rw [HGZ.out]; exact HRS3.out.bel)
                            · have HOVN := Lib.hid hov
                              obtain ⟨jb2, jo2, pb, po, nk2, jvk, s2, xA, xcp, xst, yA, ycp, yos, hJ2, hnk2, hs2, ho2, _, hin⟩ := HJW.out.opt_in hil hkK
                              injection hJ2 with hJ2; injection hJ2 with q1 q2 _
                              subst q1 q2
                              have hok := okJob_iff.1 ((checkJ_iff.1 HCK.out).2 (jobAt (L.map JobM.p) i) (getD_mem' (by rw [List.length_map]; exact hil) _))
                              have hsb : 0 ≤ s2 ∧ s2 ≤ 4194304 := by rw [hs2]; exact hok.1
                              have hdM := HD.out
                              have sw : IntKind.i64.wrap (s2 + d) = s2 + d := IntWalk.i64_in _ (by omega)
                              obtain ⟨hkn2, z0, z1, z2, z3, hol⟩ := hin
                              have HEQ := Lib.hid (And.intro ho2 (And.intro hnk2 hs2))
                              have l0 : (0 : Int) ≤ (k : Int) := by omega
                              have l1 : (k : Int) < (nk2 : Int) := by omega
                              clear a0 a1 hnk2 hs2 ho2 hkK hkn2 hok
                              go_upto_region 21 with fail
                              refine wp_region_until (S := fun w' => w'.cell? ⟨jb, jo + i * 2, none⟩ = some (.int .i64 s2) ∧ w'.cell? ⟨jb, jo + i * 2 + 1, none⟩ = some (.slice (some ⟨pb, po, none⟩) nk2 jvk) ∧ w'.cell? ⟨pb, po + k * 2, none⟩ = some (.slice xA xst.length xcp) ∧ w'.cell? ⟨pb, po + k * 2 + 1, none⟩ = some (.slice yA yos.length ycp)) 17 (by kernel_rfl) ?_
                              have h0 : wr.drew.cell? ⟨jb, jo + i * 2, none⟩ = some (.int .i64 s2) ∧ wr.drew.cell? ⟨jb, jo + i * 2 + 1, none⟩ = some (.slice (some ⟨pb, po, none⟩) nk2 jvk) ∧ wr.drew.cell? ⟨pb, po + k * 2, none⟩ = some (.slice xA xst.length xcp) ∧ wr.drew.cell? ⟨pb, po + k * 2 + 1, none⟩ = some (.slice yA yos.length ycp) := ⟨z0, z1, z2, z3⟩
                              refine until_take (i := 0) (v := ?_) rfl (by kernel_rfl) (by kernel_rfl) (by kernel_rfl) (by kernel_rfl) (fun _ _ _ h => h) (Or.inl ⟨by rfl, ?_⟩) h0 ?_
                              rotate_left
                              · intro u hSu
                                obtain ⟨y0, y1, y2, y3⟩ := hSu
                                go_simp
                                try rfl
                              simp only [Act.put, List.setIfInBounds_toArray, List.set_cons_zero, List.set_cons_succ]
                              refine until_take (i := 1) (v := ?_) rfl (by kernel_rfl) (by kernel_rfl) (by kernel_rfl) (by kernel_rfl) (fun _ _ _ h => h) (Or.inl ⟨by rfl, ?_⟩) h0 ?_
                              rotate_left
                              · intro u hSu
                                obtain ⟨y0, y1, y2, y3⟩ := hSu
                                go_simp
                                try rfl
                              simp only [Act.put, List.setIfInBounds_toArray, List.set_cons_zero, List.set_cons_succ]
                              refine until_take (i := 2) (v := ?_) rfl (by kernel_rfl) (by kernel_rfl) (by kernel_rfl) (by kernel_rfl) (fun _ _ _ h => h) (Or.inl ⟨by rfl, ?_⟩) h0 ?_
                              rotate_left
                              · intro u hSu
                                obtain ⟨y0, y1, y2, y3⟩ := hSu
                                go_simp
                                try rfl
                              simp only [Act.put, List.setIfInBounds_toArray, List.set_cons_zero, List.set_cons_succ]
                              refine until_take (i := 3) (v := ?_) rfl (by kernel_rfl) (by kernel_rfl) (by kernel_rfl) (by kernel_rfl) (fun _ _ _ h => h) (Or.inl ⟨by rfl, ?_⟩) h0 ?_
                              rotate_left
                              · intro u hSu
                                obtain ⟨y0, y1, y2, y3⟩ := hSu
                                go_simp
                                try rfl
                              simp only [Act.put, List.setIfInBounds_toArray, List.set_cons_zero, List.set_cons_succ]
                              refine until_take (i := 4) (v := ?_) rfl (by kernel_rfl) (by kernel_rfl) (by kernel_rfl) (by kernel_rfl) (fun _ _ _ h => h) (Or.inl ⟨by rfl, ?_⟩) h0 ?_
                              rotate_left
                              · intro u hSu
                                obtain ⟨y0, y1, y2, y3⟩ := hSu
                                go_simp
                                try rfl
                              simp only [Act.put, List.setIfInBounds_toArray, List.set_cons_zero, List.set_cons_succ]
                              refine until_take (i := 5) (v := ?_) rfl (by kernel_rfl) (by kernel_rfl) (by kernel_rfl) (by kernel_rfl) (fun _ _ _ h => h) (Or.inl ⟨by rfl, ?_⟩) h0 ?_
                              rotate_left
                              · intro u hSu
                                obtain ⟨y0, y1, y2, y3⟩ := hSu
                                go_simp
                                try rfl
                              simp only [Act.put, List.setIfInBounds_toArray, List.set_cons_zero, List.set_cons_succ]
                              refine until_take (i := 6) (v := ?_) rfl (by kernel_rfl) (by kernel_rfl) (by kernel_rfl) (by kernel_rfl) (fun _ _ _ h => h) (Or.inl ⟨by rfl, ?_⟩) h0 ?_
                              rotate_left
                              · intro u hSu
                                obtain ⟨y0, y1, y2, y3⟩ := hSu
                                go_simp
                                try rfl
                              simp only [Act.put, List.setIfInBounds_toArray, List.set_cons_zero, List.set_cons_succ]
                              refine until_take (i := 7) (v := ?_) rfl (by kernel_rfl) (by kernel_rfl) (by kernel_rfl) (by kernel_rfl) (fun _ _ _ h => h) (Or.inl ⟨by rfl, ?_⟩) h0 ?_
                              rotate_left
                              · intro u hSu
                                obtain ⟨y0, y1, y2, y3⟩ := hSu
                                go_simp
                                try rfl
                              simp only [Act.put, List.setIfInBounds_toArray, List.set_cons_zero, List.set_cons_succ]
                              refine until_take (i := 8) (v := ?_) rfl (by kernel_rfl) (by kernel_rfl) (by kernel_rfl) (by kernel_rfl) (fun _ _ _ h => h) (Or.inl ⟨by rfl, ?_⟩) h0 ?_
                              rotate_left
                              · intro u hSu
                                obtain ⟨y0, y1, y2, y3⟩ := hSu
                                go_simp
                                try rfl
                              simp only [Act.put, List.setIfInBounds_toArray, List.set_cons_zero, List.set_cons_succ]
                              refine until_take (i := 9) (v := ?_) rfl (by kernel_rfl) (by kernel_rfl) (by kernel_rfl) (by kernel_rfl) (fun _ _ _ h => h) (Or.inl ⟨by rfl, ?_⟩) h0 ?_
                              rotate_left
                              · intro u hSu
                                obtain ⟨y0, y1, y2, y3⟩ := hSu
                                go_simp
                                try rfl
                              simp only [Act.put, List.setIfInBounds_toArray, List.set_cons_zero, List.set_cons_succ]
                              refine until_take (i := 10) (v := ?_) rfl (by kernel_rfl) (by kernel_rfl) (by kernel_rfl) (by kernel_rfl) (fun _ _ _ h => h) (Or.inl ⟨by rfl, ?_⟩) h0 ?_
                              rotate_left
                              · intro u hSu
                                obtain ⟨y0, y1, y2, y3⟩ := hSu
                                go_simp
                                try rfl
                              simp only [Act.put, List.setIfInBounds_toArray, List.set_cons_zero, List.set_cons_succ]
                              refine until_take (i := 11) (v := ?_) rfl (by kernel_rfl) (by kernel_rfl) (by kernel_rfl) (by kernel_rfl) (fun _ _ _ h => h) (Or.inl ⟨by rfl, ?_⟩) h0 ?_
                              rotate_left
                              · intro u hSu
                                obtain ⟨y0, y1, y2, y3⟩ := hSu
                                go_simp
                                try rfl
                              simp only [Act.put, List.setIfInBounds_toArray, List.set_cons_zero, List.set_cons_succ]
                              refine until_take (i := 12) (v := ?_) rfl (by kernel_rfl) (by kernel_rfl) (by kernel_rfl) (by kernel_rfl) (fun _ _ _ h => h) (Or.inl ⟨by rfl, ?_⟩) h0 ?_
                              rotate_left
                              · intro u hSu
                                obtain ⟨y0, y1, y2, y3⟩ := hSu
                                go_simp
                                try rfl
                              simp only [Act.put, List.setIfInBounds_toArray, List.set_cons_zero, List.set_cons_succ]
                              refine until_take (i := 13) (v := ?_) rfl (by kernel_rfl) (by kernel_rfl) (by kernel_rfl) (by kernel_rfl) (fun _ _ _ h => h) (Or.inl ⟨by rfl, ?_⟩) h0 ?_
                              rotate_left
                              · intro u hSu
                                obtain ⟨y0, y1, y2, y3⟩ := hSu
                                go_simp
                                try rfl
                              simp only [Act.put, List.setIfInBounds_toArray, List.set_cons_zero, List.set_cons_succ]
                              refine until_take (i := 14) (v := ?_) rfl (by kernel_rfl) (by kernel_rfl) (by kernel_rfl) (by kernel_rfl) (fun _ _ _ h => h) (Or.inl ⟨by rfl, ?_⟩) h0 ?_
                              rotate_left
                              · intro u hSu
                                obtain ⟨y0, y1, y2, y3⟩ := hSu
                                go_simp
                                try rfl
                              simp only [Act.put, List.setIfInBounds_toArray, List.set_cons_zero, List.set_cons_succ]
                              refine until_one (i := 15) rfl (by kernel_rfl) (fun K hK => ?_)
                              go_simp
                              have bA := (belA wr (.cells #[.slice none 0 0, .slice none 0 0] 28)).drew
                              have h15 := And.intro ((bA.cell (p := ⟨jb, jo + i * 2, none⟩) (cell_lt z0)).trans z0) (And.intro ((bA.cell (p := ⟨jb, jo + i * 2 + 1, none⟩) (cell_lt z1)).trans z1) (And.intro ((bA.cell (p := ⟨pb, po + k * 2, none⟩) (cell_lt z2)).trans z2) ((bA.cell (p := ⟨pb, po + k * 2 + 1, none⟩) (cell_lt z3)).trans z3)))
                              refine hK.out _ _ (fun _ => h15) ?_
                              clear hK K
                              replace h0 := h15
                              try simp only [Act.put, List.setIfInBounds_toArray, List.set_cons_zero, List.set_cons_succ]
                              refine until_one (i := 16) rfl (by kernel_rfl) (fun K hK => ?_)
                              go_simp
                              have bB := (belA wr (.cells #[.slice xA xst.length xcp, .slice yA yos.length ycp] 28)).drew
                              have h16 := And.intro ((bB.cell (p := ⟨jb, jo + i * 2, none⟩) (cell_lt z0)).trans z0) (And.intro ((bB.cell (p := ⟨jb, jo + i * 2 + 1, none⟩) (cell_lt z1)).trans z1) (And.intro ((bB.cell (p := ⟨pb, po + k * 2, none⟩) (cell_lt z2)).trans z2) ((bB.cell (p := ⟨pb, po + k * 2 + 1, none⟩) (cell_lt z3)).trans z3)))
                              refine hK.out _ _ (fun _ => h16) ?_
                              clear hK K
                              replace h0 := h16
                              try simp only [Act.put, List.setIfInBounds_toArray, List.set_cons_zero, List.set_cons_succ]
                              refine until_one (i := 17) rfl (by kernel_rfl) (fun K hK => ?_)
                              go_simp
                              refine hK.out _ _ (fun q => absurd rfl q) ?_
                              clear hK K h0 h15 bA
                              refine until_done (by kernel_rfl) ?_ _
                              have nB : (wr.alloc (.cells #[.slice xA xst.length xcp, .slice yA yos.length ycp] 28)).drew.heap[wr.heap.size]? = some (.cells #[.slice xA xst.length xcp, .slice yA yos.length ycp] 28 (0, 0)) := heap_alloc_new wr _
                              have HRB := Lib.hid (HRS3.out.more bB)
                              have HOL := Lib.hid (hol.belowMore (bB.mono HRS3.out.gz) HRB.out.gz)
                              clear z0 z1 z2 z3 h16 bB hol k0 k1 f0 f1
                              generalize (wr.alloc (.cells #[.slice xA xst.length xcp, .slice yA yos.length ycp] 28)).drew = wB at *
                              generalize wr.heap.size = gB at *
                              have m0 : wB.cell? ⟨gB, 0, none⟩ = some (.slice xA xst.length xcp) := by rw [cell_of_row wB _ 0 _ _ _ nB]; rfl
                              have m1 : wB.cell? ⟨gB, 1, none⟩ = some (.slice yA yos.length ycp) := by rw [cell_of_row wB _ 1 _ _ _ nB]; rfl
                              have hncap := own_capN HRB.out.od
                              have nn1 : (n : Int) ≤ (nc : Int) := by omega
                              have hcnd : cndB (L.map JobM.p) cl ow Mn ord n i (d * (jobAt (L.map JobM.p) i).opts.length + k) = (admitsB cl ow ⟨xst, yos⟩ (s2 + d) && plcB (L.map JobM.p) ou3 (ord.take n) ⟨xst, yos⟩ (s2 + d)) := by
                                have hkK : k < (jobAt (L.map JobM.p) i).opts.length := by have := HNK.out.1; omega
                                have hc := HAG3.out.cnd HORD.out i (d * (jobAt (L.map JobM.p) i).opts.length + k)
                                rw [(srch_at hkK).1, (srch_at hkK).2, HEQ.out.1, ← HEQ.out.2.2] at hc
                                exact hc
                              have HCND := Lib.hid hcnd
                              have HAD := Lib.hid (fun V (b : Below wB.heap.size wB V) => refAdmits_any CA cc cl WA wc ow xA xcp xst yA ycp yos (s2 + d) V ((HCL.out.belowMore HRB.out.bel HRB.out.gz).belowMore b b.size) hcn ((HOW.out.belowMore HRB.out.bel HRB.out.gz).belowMore b b.size) hwn ((HOL.out.belowMore b b.size).st) ((HOL.out.belowMore b b.size).oc) HOL.out.sm HOL.out.om)
                              have HPL := Lib.hid (fun V (b : Below wB.heap.size wB V) => by
                                have := placed_any (some ⟨jb, jo, none⟩) c L (some ⟨gq, 0, none⟩) L.length L.length ou3 (some ⟨nb, no, none⟩) nc (ord.take n) xA xcp xst yA ycp yos (s2 + d) V ((HJ.out.belowMore HRB.out.bel HRB.out.gz).belowMore b b.size) (HRB.out.lst.belowMore b b.size) hol3 (by
                                  have h := ((Own.lst encI_len HRB.out.od).belowMore b b.size).takeN n
                                  rw [show natI (ord.take n) = (natI ord).take n by unfold natI; rw [List.map_take]]
                                  exact h) (by rw [List.length_take]; omega) ((HOL.out.belowMore b b.size).st) ((HOL.out.belowMore b b.size).oc) HOL.out.sm HOL.out.om (fun z hz => by
                                  have h := HAG3.out.rng HORD.out HCK.out z hz
                                  rw [List.length_map] at h
                                  exact h)
                                rw [show (ord.take n).length = n by rw [List.length_take]; omega] at this
                                exact this)
                              clear hcnd nB hncap
                              have hB0 : Below wB.heap.size wB wB.drew := (Below.refl _ _).drew
                              go_upto_region 22 with fail
                              go_cut [120] (fun s120 wx => s120 = .bool (cndB (L.map JobM.p) cl ow Mn ord n i (d * (jobAt (L.map JobM.p) i).opts.length + k)) ∧ Below wB.heap.size wB wx)
                              case first =>
                                cases had : admitsB cl ow ⟨xst, yos⟩ (s2 + d) with
                                | false =>
                                  rw [had] at HAD HCND
                                  refine wp_region_held_drew (S := fun w' => Below wB.heap.size wB w' ∧ w'.cell? ⟨gB, 0, none⟩ = some (.slice xA xst.length xcp) ∧ w'.cell? ⟨gB, 1, none⟩ = some (.slice yA yos.length ycp)) (by kernel_rfl) ⟨hB0, m0, m1⟩ (fun h0 => ?_)
                                  refine wpAnyH_takeL (i := 0) (v := ?_) rfl (by kernel_rfl) (by kernel_rfl) (by kernel_rfl) (fun _ _ _ h => h) (Or.inl ⟨by rfl, ?_⟩) h0 ?_
                                  rotate_left
                                  · intro u hSu
                                    obtain ⟨q0, q1, q2⟩ := hSu
                                    go_simp
                                    try rfl
                                  simp only [Act.put, List.setIfInBounds_toArray, List.set_cons_zero, List.set_cons_succ]
                                  refine wpAnyH_takeL (i := 1) (v := ?_) rfl (by kernel_rfl) (by kernel_rfl) (by kernel_rfl) (fun _ _ _ h => h) (Or.inl ⟨by rfl, ?_⟩) h0 ?_
                                  rotate_left
                                  · intro u hSu
                                    obtain ⟨q0, q1, q2⟩ := hSu
                                    go_simp
                                    try rfl
                                  simp only [Act.put, List.setIfInBounds_toArray, List.set_cons_zero, List.set_cons_succ]
                                  refine wpAnyH_takeL (i := 2) (v := ?_) rfl (by kernel_rfl) (by kernel_rfl) (by kernel_rfl) (fun _ _ _ h => h) (Or.inl ⟨by rfl, ?_⟩) h0 ?_
                                  rotate_left
                                  · intro u hSu
                                    obtain ⟨q0, q1, q2⟩ := hSu
                                    go_simp
                                    try rfl
                                  simp only [Act.put, List.setIfInBounds_toArray, List.set_cons_zero, List.set_cons_succ]
                                  refine wpAnyH_takeL (i := 3) (v := ?_) rfl (by kernel_rfl) (by kernel_rfl) (by kernel_rfl) (fun _ _ _ h => h) (Or.inl ⟨by rfl, ?_⟩) h0 ?_
                                  rotate_left
                                  · intro u hSu
                                    obtain ⟨q0, q1, q2⟩ := hSu
                                    go_simp
                                    try rfl
                                  simp only [Act.put, List.setIfInBounds_toArray, List.set_cons_zero, List.set_cons_succ]
                                  refine wpAnyH_ready (rs := [4]) (by kernel_rfl) (by simp) ?_
                                  refine readyL rfl (fun K hK => ?_) AllReadyH.nil
                                  go_simp
                                  refine (HAD.out _ h0.1).mono ?_
                                  rintro e w' ⟨rfl, hb'⟩
                                  refine hK.out _ _ ⟨h0.1.trans (hb'.mono h0.1.size), (hb'.cell (p := ⟨gB, 0, none⟩) (cell_lt h0.2.1)).trans h0.2.1, (hb'.cell (p := ⟨gB, 1, none⟩) (cell_lt h0.2.2)).trans h0.2.2⟩ (fun h1 => ?_)
                                  clear hK K h0
                                  have h0 := h1
                                  clear h1
                                  try simp only [Act.put, List.setIfInBounds_toArray, List.set_cons_zero, List.set_cons_succ]
                                  refine wpAnyH_takeL (i := 5) (v := ?_) rfl (by kernel_rfl) (by kernel_rfl) (by kernel_rfl) (fun _ _ _ h => h) (Or.inl ⟨by rfl, ?_⟩) h0 ?_
                                  rotate_left
                                  · intro u hSu
                                    obtain ⟨q0, q1, q2⟩ := hSu
                                    go_simp
                                    try rfl
                                  simp only [Act.put, List.setIfInBounds_toArray, List.set_cons_zero, List.set_cons_succ]
                                  refine wpAnyH_takeL (i := 6) (v := undef) rfl (by kernel_rfl) (by kernel_rfl) (by kernel_rfl) (fun _ _ _ h => h) (Or.inr ⟨by rfl, rfl⟩) h0 ?_
                                  simp only [Act.put, List.setIfInBounds_toArray, List.set_cons_zero, List.set_cons_succ]
                                  refine wpAnyH_takeL (i := 7) (v := undef) rfl (by kernel_rfl) (by kernel_rfl) (by kernel_rfl) (fun _ _ _ h => h) (Or.inr ⟨by rfl, rfl⟩) h0 ?_
                                  simp only [Act.put, List.setIfInBounds_toArray, List.set_cons_zero, List.set_cons_succ]
                                  refine wpAnyH_takeL (i := 8) (v := undef) rfl (by kernel_rfl) (by kernel_rfl) (by kernel_rfl) (fun _ _ _ h => h) (Or.inr ⟨by rfl, rfl⟩) h0 ?_
                                  simp only [Act.put, List.setIfInBounds_toArray, List.set_cons_zero, List.set_cons_succ]
                                  refine wpAnyH_takeL (i := 9) (v := undef) rfl (by kernel_rfl) (by kernel_rfl) (by kernel_rfl) (fun _ _ _ h => h) (Or.inr ⟨by rfl, rfl⟩) h0 ?_
                                  simp only [Act.put, List.setIfInBounds_toArray, List.set_cons_zero, List.set_cons_succ]
                                  refine wpAnyH_takeL (i := 10) (v := undef) rfl (by kernel_rfl) (by kernel_rfl) (by kernel_rfl) (fun _ _ _ h => h) (Or.inr ⟨by rfl, rfl⟩) h0 ?_
                                  simp only [Act.put, List.setIfInBounds_toArray, List.set_cons_zero, List.set_cons_succ]
                                  refine wpAnyH_takeL (i := 11) (v := undef) rfl (by kernel_rfl) (by kernel_rfl) (by kernel_rfl) (fun _ _ _ h => h) (Or.inr ⟨by rfl, rfl⟩) h0 ?_
                                  simp only [Act.put, List.setIfInBounds_toArray, List.set_cons_zero, List.set_cons_succ]
                                  refine wpAnyH_takeL (i := 12) (v := undef) rfl (by kernel_rfl) (by kernel_rfl) (by kernel_rfl) (fun _ _ _ h => h) (Or.inr ⟨by rfl, rfl⟩) h0 ?_
                                  simp only [Act.put, List.setIfInBounds_toArray, List.set_cons_zero, List.set_cons_succ]
                                  refine wpAnyH_takeL (i := 13) (v := undef) rfl (by kernel_rfl) (by kernel_rfl) (by kernel_rfl) (fun _ _ _ h => h) (Or.inr ⟨by rfl, rfl⟩) h0 ?_
                                  simp only [Act.put, List.setIfInBounds_toArray, List.set_cons_zero, List.set_cons_succ]
                                  refine wpAnyH_takeL (i := 14) (v := ?_) rfl (by kernel_rfl) (by kernel_rfl) (by kernel_rfl) (fun _ _ _ h => h) (Or.inl ⟨by rfl, ?_⟩) h0 ?_
                                  rotate_left
                                  · intro u hSu
                                    obtain ⟨q0, q1, q2⟩ := hSu
                                    go_simp
                                    try rfl
                                  simp only [Act.put, List.setIfInBounds_toArray, List.set_cons_zero, List.set_cons_succ]
                                  refine wpAnyH_done (by kernel_rfl) ?_ _
                                  go_wp2_with fail
                                  go_meet
                                  exact ⟨by rw [HCND.out]; rfl, h0.1⟩
                                | true =>
                                  rw [had] at HAD HCND
                                  generalize plcB (L.map JobM.p) ou3 (ord.take n) ⟨xst, yos⟩ (s2 + d) = pb0 at *
                                  refine wp_region_held_drew (S := fun w' => Below wB.heap.size wB w' ∧ w'.cell? ⟨gB, 0, none⟩ = some (.slice xA xst.length xcp) ∧ w'.cell? ⟨gB, 1, none⟩ = some (.slice yA yos.length ycp)) (by kernel_rfl) ⟨hB0, m0, m1⟩ (fun h0 => ?_)
                                  refine wpAnyH_takeL (i := 0) (v := ?_) rfl (by kernel_rfl) (by kernel_rfl) (by kernel_rfl) (fun _ _ _ h => h) (Or.inl ⟨by rfl, ?_⟩) h0 ?_
                                  rotate_left
                                  · intro u hSu
                                    obtain ⟨q0, q1, q2⟩ := hSu
                                    go_simp
                                    try rfl
                                  simp only [Act.put, List.setIfInBounds_toArray, List.set_cons_zero, List.set_cons_succ]
                                  refine wpAnyH_takeL (i := 1) (v := ?_) rfl (by kernel_rfl) (by kernel_rfl) (by kernel_rfl) (fun _ _ _ h => h) (Or.inl ⟨by rfl, ?_⟩) h0 ?_
                                  rotate_left
                                  · intro u hSu
                                    obtain ⟨q0, q1, q2⟩ := hSu
                                    go_simp
                                    try rfl
                                  simp only [Act.put, List.setIfInBounds_toArray, List.set_cons_zero, List.set_cons_succ]
                                  refine wpAnyH_takeL (i := 2) (v := ?_) rfl (by kernel_rfl) (by kernel_rfl) (by kernel_rfl) (fun _ _ _ h => h) (Or.inl ⟨by rfl, ?_⟩) h0 ?_
                                  rotate_left
                                  · intro u hSu
                                    obtain ⟨q0, q1, q2⟩ := hSu
                                    go_simp
                                    try rfl
                                  simp only [Act.put, List.setIfInBounds_toArray, List.set_cons_zero, List.set_cons_succ]
                                  refine wpAnyH_takeL (i := 3) (v := ?_) rfl (by kernel_rfl) (by kernel_rfl) (by kernel_rfl) (fun _ _ _ h => h) (Or.inl ⟨by rfl, ?_⟩) h0 ?_
                                  rotate_left
                                  · intro u hSu
                                    obtain ⟨q0, q1, q2⟩ := hSu
                                    go_simp
                                    try rfl
                                  simp only [Act.put, List.setIfInBounds_toArray, List.set_cons_zero, List.set_cons_succ]
                                  refine wpAnyH_ready (rs := [4]) (by kernel_rfl) (by simp) ?_
                                  refine readyL rfl (fun K hK => ?_) AllReadyH.nil
                                  go_simp
                                  refine (HAD.out _ h0.1).mono ?_
                                  rintro e w' ⟨rfl, hb'⟩
                                  refine hK.out _ _ ⟨h0.1.trans (hb'.mono h0.1.size), (hb'.cell (p := ⟨gB, 0, none⟩) (cell_lt h0.2.1)).trans h0.2.1, (hb'.cell (p := ⟨gB, 1, none⟩) (cell_lt h0.2.2)).trans h0.2.2⟩ (fun h1 => ?_)
                                  clear hK K h0
                                  have h0 := h1
                                  clear h1
                                  try simp only [Act.put, List.setIfInBounds_toArray, List.set_cons_zero, List.set_cons_succ]
                                  refine wpAnyH_takeL (i := 5) (v := ?_) rfl (by kernel_rfl) (by kernel_rfl) (by kernel_rfl) (fun _ _ _ h => h) (Or.inl ⟨by rfl, ?_⟩) h0 ?_
                                  rotate_left
                                  · intro u hSu
                                    obtain ⟨q0, q1, q2⟩ := hSu
                                    go_simp
                                    try rfl
                                  simp only [Act.put, List.setIfInBounds_toArray, List.set_cons_zero, List.set_cons_succ]
                                  refine wpAnyH_takeL (i := 6) (v := ?_) rfl (by kernel_rfl) (by kernel_rfl) (by kernel_rfl) (fun _ _ _ h => h) (Or.inl ⟨by rfl, ?_⟩) h0 ?_
                                  rotate_left
                                  · intro u hSu
                                    obtain ⟨q0, q1, q2⟩ := hSu
                                    go_simp
                                    try rfl
                                  simp only [Act.put, List.setIfInBounds_toArray, List.set_cons_zero, List.set_cons_succ]
                                  refine wpAnyH_takeL (i := 7) (v := ?_) rfl (by kernel_rfl) (by kernel_rfl) (by kernel_rfl) (fun _ _ _ h => h) (Or.inl ⟨by rfl, ?_⟩) h0 ?_
                                  rotate_left
                                  · intro u hSu
                                    obtain ⟨q0, q1, q2⟩ := hSu
                                    go_simp
                                    try rfl
                                  simp only [Act.put, List.setIfInBounds_toArray, List.set_cons_zero, List.set_cons_succ]
                                  refine wpAnyH_takeL (i := 8) (v := ?_) rfl (by kernel_rfl) (by kernel_rfl) (by kernel_rfl) (fun _ _ _ h => h) (Or.inl ⟨by rfl, ?_⟩) h0 ?_
                                  rotate_left
                                  · intro u hSu
                                    obtain ⟨q0, q1, q2⟩ := hSu
                                    go_simp
                                    try rfl
                                  simp only [Act.put, List.setIfInBounds_toArray, List.set_cons_zero, List.set_cons_succ]
                                  refine wpAnyH_takeL (i := 9) (v := ?_) rfl (by kernel_rfl) (by kernel_rfl) (by kernel_rfl) (fun _ _ _ h => h) (Or.inl ⟨by rfl, ?_⟩) h0 ?_
                                  rotate_left
                                  · intro u hSu
                                    obtain ⟨q0, q1, q2⟩ := hSu
                                    go_simp
                                    try rfl
                                  simp only [Act.put, List.setIfInBounds_toArray, List.set_cons_zero, List.set_cons_succ]
                                  refine wpAnyH_takeL (i := 10) (v := ?_) rfl (by kernel_rfl) (by kernel_rfl) (by kernel_rfl) (fun _ _ _ h => h) (Or.inl ⟨by rfl, ?_⟩) h0 ?_
                                  rotate_left
                                  · intro u hSu
                                    obtain ⟨q0, q1, q2⟩ := hSu
                                    go_simp
                                    try rfl
                                  simp only [Act.put, List.setIfInBounds_toArray, List.set_cons_zero, List.set_cons_succ]
                                  refine wpAnyH_takeL (i := 11) (v := ?_) rfl (by kernel_rfl) (by kernel_rfl) (by kernel_rfl) (fun _ _ _ h => h) (Or.inl ⟨by rfl, ?_⟩) h0 ?_
                                  rotate_left
                                  · intro u hSu
                                    obtain ⟨q0, q1, q2⟩ := hSu
                                    go_simp
                                    try rfl
                                  simp only [Act.put, List.setIfInBounds_toArray, List.set_cons_zero, List.set_cons_succ]
                                  refine wpAnyH_takeL (i := 12) (v := ?_) rfl (by kernel_rfl) (by kernel_rfl) (by kernel_rfl) (fun _ _ _ h => h) (Or.inl ⟨by rfl, ?_⟩) h0 ?_
                                  rotate_left
                                  · intro u hSu
                                    obtain ⟨q0, q1, q2⟩ := hSu
                                    go_simp
                                    try rfl
                                  simp only [Act.put, List.setIfInBounds_toArray, List.set_cons_zero, List.set_cons_succ]
                                  refine wpAnyH_ready (rs := [13]) (by kernel_rfl) (by simp) ?_
                                  refine readyL rfl (fun K hK => ?_) AllReadyH.nil
                                  go_simp
                                  refine (HPL.out _ h0.1).mono ?_
                                  rintro e w'' ⟨rfl, hb''⟩
                                  refine hK.out _ _ ⟨h0.1.trans (hb''.mono h0.1.size), (hb''.cell (p := ⟨gB, 0, none⟩) (cell_lt h0.2.1)).trans h0.2.1, (hb''.cell (p := ⟨gB, 1, none⟩) (cell_lt h0.2.2)).trans h0.2.2⟩ (fun h1 => ?_)
                                  clear hK K h0
                                  have h0 := h1
                                  clear h1
                                  try simp only [Act.put, List.setIfInBounds_toArray, List.set_cons_zero, List.set_cons_succ]
                                  refine wpAnyH_takeL (i := 14) (v := ?_) rfl (by kernel_rfl) (by kernel_rfl) (by kernel_rfl) (fun _ _ _ h => h) (Or.inl ⟨by rfl, ?_⟩) h0 ?_
                                  rotate_left
                                  · intro u hSu
                                    obtain ⟨q0, q1, q2⟩ := hSu
                                    go_simp
                                    try rfl
                                  simp only [Act.put, List.setIfInBounds_toArray, List.set_cons_zero, List.set_cons_succ]
                                  refine wpAnyH_done (by kernel_rfl) ?_ _
                                  go_wp2_with fail
                                  go_meet
                                  exact ⟨by rw [HCND.out]; simp, h0.1⟩
                              case rest =>
                                obtain ⟨rfl, hbc⟩ := hcut
                                obtain ⟨wC, rfl⟩ : ∃ W : World, W = wc := ⟨_, rfl⟩
                                have hrc := HRB.out.more hbc
                                have HRC := Lib.hid hrc
                                obtain ⟨k0, k1, f0, f1⟩ := own_cellsK hrc.out i (by omega) HE3.out.1
                                have hkK : k < (jobAt (L.map JobM.p) i).opts.length := by have := HNK.out.1; omega
                                have ht : d * (jobAt (L.map JobM.p) i).opts.length + k < (Mn + 1) * (jobAt (L.map JobM.p) i).opts.length := by
                                  have h1 : (d + 1) * (jobAt (L.map JobM.p) i).opts.length ≤ (Mn + 1) * (jobAt (L.map JobM.p) i).opts.length := Nat.mul_le_mul_right _ (by omega)
                                  rw [Nat.add_mul, Nat.one_mul] at h1; omega
                                have HKK := Lib.hid hkK
                                clear hrc hbc hB0 m0 m1 HAD HPL HCND
                                cases hcv : cndB (L.map JobM.p) cl ow Mn ord n i (d * (jobAt (L.map JobM.p) i).opts.length + k) with
                                | true =>
                                  have HSR := Lib.hid (show SrO (L.map JobM.p) cl ow Mn ord n i (d * (jobAt (L.map JobM.p) i).opts.length + (k + 1)) (ou3.set i ((k : Int), s2 + (d : Int))) ((u3 + 1 : Nat) : Int) from
                                    .inr ⟨_, ht, by omega, hcv, HE3.out.2.1, by
                                      rw [getD_set_eq _ (by omega)]
                                      unfold choOf
                                      rw [(srch_at hkK).1, (srch_at hkK).2, ← HEQ.out.2.2], by have := HE3.out.2.2; omega⟩)
                                  have HAG4 := Lib.hid (HSET.out ou3 HAG3.out ((k : Int), s2 + (d : Int)))
                                  have HRC2 := Lib.hid (HRC.out.set (i := i) (by omega) (k : Int) (s2 + (d : Int)))
                                  clear hcv ht hkK
                                  go_wp2_with fail
                                  go_roundg (KK - (k + 1))
                                  case measure => have := HKF.out; omega
                                  case rel => exact ⟨k + 1, _, u3 + 1, by have := HKF.out; omega, rfl, by go_num, by go_num, by have := HOVN.out; omega, HAG4.out, HSR.out, HRC2.out⟩
                                | false =>
                                  have HSR := Lib.hid (show SrO (L.map JobM.p) cl ow Mn ord n i (d * (jobAt (L.map JobM.p) i).opts.length + (k + 1)) ou3 ((u3 + 1 : Nat) : Int) from
                                    .inl ⟨HE3.out.1, upto_snoc HE3.out.2.1 hcv, by have := HE3.out.2.2; omega⟩)
                                  clear hcv ht hkK
                                  go_wp2_with fail
                                  go_roundg (KK - (k + 1))
                                  case measure => have := HKF.out; omega
                                  case rel => exact ⟨k + 1, ou3, u3 + 1, by have := HKF.out; omega, rfl, by go_num, by go_num, by have := HOVN.out; omega, HAG3.out, HSR.out, HRC.out⟩
                          · have hd3 : decide (k < nK) = false := decide_eq_false hkm
                            have HN := Lib.hid (show SrO (L.map JobM.p) cl ow Mn ord n i ((d + 1) * (jobAt (L.map JobM.p) i).opts.length) ou3 (u3 : Int) from by
                              have h := HE3.out
                              rw [show d * (jobAt (L.map JobM.p) i).opts.length + k = (d + 1) * (jobAt (L.map JobM.p) i).opts.length by rw [Nat.add_mul, Nat.one_mul]; have := HNK.out.1; omega] at h
                              exact .inl h)
                            clear hkm hkn
                            go_wp2_with fail
                            go_roundg (Mn + 1 - (d + 1))
                            case measure => have := HD.out; omega
                            case rel => exact ⟨d + 1, ou3, u3, by have := HD.out; omega, rfl, by go_num, rfl, hu3, HAG3.out, HN.out, HRS3.out⟩
                        · have hx : 0 ≤ x1 := by
                            obtain ⟨_, q2, _, _⟩ := choOf_get (j := jobAt (L.map JobM.p) i) (t := q) hK1
                            rw [h4] at hxy
                            rw [hxy] at q2
                            exact q2
                          have HN := Lib.hid (show SrO (L.map JobM.p) cl ow Mn ord n i ((d + 1) * (jobAt (L.map JobM.p) i).opts.length) ou3 (u3 : Int) from .inr ⟨q, h0, by rw [Nat.add_mul, Nat.one_mul]; have := HNK.out.1; omega, h2, h3, h4, h5⟩)
                          have hx0 : decide (x1 < 0) = false := decide_eq_false (by omega)
                          clear h0 h1 h2 h3 h4 h5 hxy hkn
                          by_cases hkm : k < nK
                          · have hd3 : decide (k < nK) = true := decide_eq_true hkm
                            go_wp2_with fail
                            go_roundg (Mn + 1 - (d + 1))
                            case measure => have := HD.out; omega
                            case rel => exact ⟨d + 1, ou3, u3, by have := HD.out; omega, rfl, by go_num, rfl, hu3, HAG3.out, HN.out, HRS3.out⟩
                          · have hd3 : decide (k < nK) = false := decide_eq_false hkm
                            go_wp2_with fail
                            go_roundg (Mn + 1 - (d + 1))
                            case measure => have := HD.out; omega
                            case rel => exact ⟨d + 1, ou3, u3, by have := HD.out; omega, rfl, by go_num, rfl, hu3, HAG3.out, HN.out, HRS3.out⟩
                    · have hd1 : decide (d ≤ Mn) = false := decide_eq_false hdm
                      obtain rfl : d = Mn + 1 := by omega
                      have HN := Lib.hid (HDONE.out ou2 (u2 : Int) HAG2.out (.inl HE.out))
                      clear hdm
                      go_wp2_with fail
                      go_roundg (L.length - (n + 1))
                      case measure => omega
                      case rel => exact ⟨n + 1, ou2, u2, by omega, rfl, by go_num, rfl, hu2, HN.out.1, by have := HN.out.2; omega, HRS.out⟩
                  · have hx : 0 ≤ x1 := by
                      obtain ⟨_, q2, _, _⟩ := choOf_get (j := jobAt (L.map JobM.p) i) (t := s) hK1
                      rw [h4] at hxy
                      rw [hxy] at q2
                      exact q2
                    have HN := Lib.hid (HDONE.out ou2 (u2 : Int) HAG2.out (.inr ⟨s, h0, h0, h2, h3, h4, h5⟩))
                    have hx0 : decide (x1 < 0) = false := decide_eq_false (by omega)
                    clear h0 h1 h2 h3 h4 h5 hxy
                    by_cases hdm : d ≤ Mn
                    · have hd1 : decide (d ≤ Mn) = true := decide_eq_true hdm
                      go_wp2_with fail
                      go_roundg (L.length - (n + 1))
                      case measure => omega
                      case rel => exact ⟨n + 1, ou2, u2, by omega, rfl, by go_num, rfl, hu2, HN.out.1, by have := HN.out.2; omega, HRS.out⟩
                    · have hd1 : decide (d ≤ Mn) = false := decide_eq_false hdm
                      go_wp2_with fail
                      go_roundg (L.length - (n + 1))
                      case measure => omega
                      case rel => exact ⟨n + 1, ou2, u2, by omega, rfl, by go_num, rfl, hu2, HN.out.1, by have := HN.out.2; omega, HRS.out⟩
              · obtain rfl : n = L.length := by omega
                have HF := Lib.hid (Agr.full (by rw [hlo]; exact HAG.out) HORD.out)
                have HRS := Lib.hid hrs
                clear hrs
                go_wp2_with fail
                go_ret3
                have hlen : ou.length = L.length := by rw [HAG.out.len, List.length_map]
                have hpl : u = (planF (L.map JobM.p) cl ow Mn ord).2 := by have h := HUE.out; rw [List.take_of_length_le (by omega)] at h; exact h
                refine ⟨ou, u, 0, some ⟨gq, 0, none⟩, L.length, by rw [hlen]; rfl, .inr (.inr ⟨HCK.out, hM.1, hM.2, hB.1, hB.2, ord, HORD.out, .inr ⟨?_, ?_, ?_, rfl⟩⟩), by rw [HGZ.out, hlen]; exact HRS.out.out, by rw [HGZ.out]; exact HRS.out.bel⟩
                · rw [Int.toNat_natCast, ← hpl]; exact hu
                · rw [Int.toNat_natCast]; exact HF.out
                · rw [Int.toNat_natCast, hpl]
end Go.Proofs.Ytlillkfelfoafaa
