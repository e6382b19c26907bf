/-
  Contract of choose.
-/
import Derived.Test.YtlillkfelfoafaaDivR
import Derived.Test.YtlillkfelfoafaaDivH
import Derived.Test.YtlillkfelfoafaaDivP
import Derived.Test.YtlillkfelfoafaaDivW
import Derived.Scope
set_option linter.unusedVariables false
set_option linter.unusedSimpArgs false
namespace Go.Proofs.Ytlillkfelfoafaa
open Go.RowKit Go.Shelf RP

attribute [local go_sem] Oper.semAt_some

/-- The state of a plan: the planner, and the choices that are its own. -/
structure PlS (w : World) (B gp : Nat) (JA : Option Addr) (jc : Nat) (L : List JobM) (base gc gw n m : Nat) (cl : List Clo) (ow : List OWy) (KA : Option Addr) (kc : Nat) (ch : List Cho) : Prop where
  ok : PlOk w gp JA jc L base gc gw n m cl ow KA kc ch
  jobs : Jbs w B JA L
  own : Own encK 2 55 w base (.slice KA ch.length kc) ch
  le : B ≤ base ∧ gp < base
  bw : base ≤ w.heap.size
theorem PlS.set {w w' : World} {B gp jc base gc gw n m kc : Nat} {JA KA : Option Addr} {L : List JobM} {cl : List Clo} {ow : List OWy} {ch ch' : List Cho} (h : PlS w B gp JA jc L base gc gw n m cl ow KA kc ch) (hg : w.grownBy w' (Value.slice KA ch.length kc).ownBlock) (hl : ch'.length = ch.length) (ho : Own encK 2 55 w' base (.slice KA ch'.length kc) ch') : PlS w' B gp JA jc L base gc gw n m cl ow KA kc ch' := by
  have hrow : ∀ q, (Value.slice KA ch.length kc).ownBlock = some q → base ≤ q := fun q hq => (World.ownsRow.lt h.own q hq).1
  have hgp := h.le.2
  have hgc := h.ok.clo.1
  have hgw := h.ok.oww.1
  have hbw := h.bw
  have hBb := h.le.1
  have hb : Below B w w' := (Below.refl B w).grown hg (by omega) (fun q hq => Nat.le_trans hBb (hrow q hq))
  refine ⟨⟨?_, h.jobs.belowMore hb (by have := hg.size; omega), h.ok.clo.kept hg ?_ ?_, h.ok.oww.kept hg ?_ ?_, Own.lst (fun _ => rfl) ho⟩, h.jobs.belowMore hb (Nat.le_refl _), ho, h.le, Nat.le_trans hbw hg.size⟩
  · rw [hl]
    exact (hg.block gp (by omega) (fun e => by have := hrow gp e.symm; omega)).trans h.ok.blk
  · intro e; have := hrow gc e.symm; omega
  · intro q hq r hr v hv
    obtain ⟨cur, hc⟩ := own_blk h.own hq
    exact own_ne_block hv hc (by decide)
  · intro e; have := hrow gw e.symm; omega
  · intro q hq r hr v hv
    obtain ⟨cur, hc⟩ := own_blk h.own hq
    exact own_ne_block hv hc (by decide)
theorem grown_below {w w' : World} (hb : Below w.heap.size w w') (row : Option Nat) : w.grownBy w' row := ⟨hb.os, hb.tape, hb.output, hb.size, fun k hk _ => hb.block k hk⟩
theorem PlS.below {w w' : World} {B gp jc base gc gw n m kc : Nat} {JA KA : Option Addr} {L : List JobM} {cl : List Clo} {ow : List OWy} {ch : List Cho} (h : PlS w B gp JA jc L base gc gw n m cl ow KA kc ch) (hb : Below w.heap.size w w') : PlS w' B gp JA jc L base gc gw n m cl ow KA kc ch :=
  h.set (grown_below hb _) rfl (h.own.below' hb)
theorem noGoto_ret {Q : Exit → Act → World → Prop} {a : Act} {w : World} (h : Q .ret a w) : Exit.noGoto Q .ret a w := h
/-- The numbers of the resources are in range. -/
def JobsR (L : List JobM) : Prop := ∀ j ∈ L, ∀ o ∈ j.opts, ∀ x ∈ o.occs, R64 x.1
def condT (least : Nat → Int) (K t : Nat) : Bool := decide (((t / K : Nat) : Int) = least (t % K))
theorem cond_at (least : Nat → Int) {K d k : Nat} (hk : k < K) : condT least K (d * K + k) = decide ((d : Int) = least k) := by
  unfold condT; obtain ⟨h1, h2⟩ := srch_at (d := d) hk; rw [h1, h2]
theorem getD_map {α β : Type} (f : α → β) {l : List α} {i : Nat} (h : i < l.length) (d : β) : (l.map f).getD i d = f l[i] := by
  rw [List.getD_eq_getElem?_getD, List.getElem?_map, List.getElem?_eq_getElem h]; rfl
theorem ChGood.ok {L : List JobM} {ch : List Cho} (h : ChGood L ch) : ChOk (L.map JobM.p) ch := by
  intro i hi
  have hle := h.le
  have hiL : i < L.length := by omega
  have hg : ch.getD i (0, 0) = ch[i] := by rw [List.getD_eq_getElem?_getD, List.getElem?_eq_getElem hi]; rfl
  rw [hg, getD_map _ hiL]
  rcases h.at_ i hi hiL with q | ⟨k, hk, q, q2, q3, q4⟩
  · exact .inl q
  · right
    rw [q, Int.toNat_natCast]
    have : (L[i].p).opts.getD k ⟨[], []⟩ = (L[i].opts[k]).p := getD_map OptM.p hk _
    rw [this]
    exact ⟨q2, q3, by omega⟩
set_option maxRecDepth 100000 in
set_option maxHeartbeats 16000000 in
theorem choose_any (B gp : Nat) (JA : Option Addr) (jc : Nat) (L : List JobM) (base gc gw nC nW : Nat) (cl : List Clo) (ow : List OWy) (KA : Option Addr) (kc : Nat) (ch : List Cho) (w : World)
    (hp : PlS w B gp JA jc L base gc gw nC nW cl ow KA kc ch) (hj : checkJ (L.map JobM.p) = true) (hR : JobsR L) (i : Nat) (hi : i < L.length) (M : Nat) (hM : M ≤ 3600) (hch : ChGood L ch) (hlen : ch.length = L.length) (hci : ch.getD i (0, 0) = (-1, 0)) (hbytes : cl.length + ow.length ≤ 13000000000000) :
    Calls Try.prog 46 #[.pointer (some ⟨gp, 0, none⟩), .int .i64 i, .int .i64 M] w fun e w' =>
      e = .returned (.int .i64 ((foundC (jobAt (L.map JobM.p) i) M (placeN (L.map JobM.p) cl ow M ch i)).2 : Nat)) ∧ PlS w' B gp JA jc L base gc gw nC nW cl ow KA kc (ch.set i (foundC (jobAt (L.map JobM.p) i) M (placeN (L.map JobM.p) cl ow M ch i)).1) ∧ w.grownBy w' (Value.slice KA ch.length kc).ownBlock := by
  have hjp : jobAt (L.map JobM.p) i = L[i].p := getD_map _ hi _
  have hkl : L[i].p.opts.length = L[i].opts.length := by simp [JobM.p]
  have hop : ∀ k (hk : k < L[i].opts.length), optAt L[i].p k = (L[i].opts[k]).p := fun k hk => getD_map OptM.p hk _
  have hpl := fun least hl => place_of_first hj (cl := cl) (ow := ow) hM hch.ok (i := i) (by simpa using hi) least hl
  rw [hjp, hkl] at hpl
  obtain ⟨hst, hK, hvo⟩ := okJob_iff.1 ((checkJ_iff.1 hj).2 L[i].p (by rw [← hjp]; exact getD_mem' (by simpa using hi) _))
  rw [hkl] at hK
  have hL48 := (checkJ_iff.1 hj).1
  rw [List.length_map] at hL48
  have HRO := Lib.hid (hR L[i] (List.getElem_mem hi))
  have HV := Lib.hid (show ∀ k (hk : k < L[i].opts.length), validOp (L[i].opts[k]).p = true from fun k hk => hvo _ (by
    have : (L[i].opts[k]).p ∈ L[i].opts.map OptM.p := List.mem_map_of_mem (List.getElem_mem hk)
    exact this))
  have HGL := Lib.hid (show ∀ k (hk : k < L[i].opts.length), (gapsL (L.map JobM.p) cl ow ch (L[i].opts[k]).p L[i].start).length ≤ cl.length + ow.length + 48 * 144 from fun k hk => by
    have hv := HV.out k hk
    obtain ⟨_, v2, v3, _⟩ := validOp_iff.1 hv
    rw [gapsL_eq, List.length_append]
    have h1 := flatC_len cl ow (L[i].opts[k]).p L[i].start v3
    have h2 := gapsK_len (L.map JobM.p) ch (L[i].opts[k]).p L[i].start ch.length
    have h3 : ch.length * (L[i].opts[k]).p.occs.length ≤ 48 * 144 := Nat.mul_le_mul (by omega) v2
    omega)
  rw [hjp]
  obtain ⟨b, off, rfl, hbB, a0, a1⟩ := hp.jobs.lst.job i hi
  have hjl := hp.jobs.at_ L[i] (List.getElem_mem hi)
  have HS0 : Hid (ch.set i (-1, 0) = ch) := by
    show ch.set i (-1, 0) = ch
    have hil : i < ch.length := by omega
    have : ch[i] = (-1, 0) := by rw [← hci, List.getD_eq_getElem?_getD, List.getElem?_eq_getElem hil]; rfl
    rw [← this, List.set_getElem_self]
  have HPL := Lib.hid hpl
  have HOP := Lib.hid hop
  generalize L[i] = j at *
  obtain ⟨s, opts, ⟨jA, jn, jv⟩⟩ := j
  obtain rfl : jn = opts.length := hjl.jn
  simp only at a0 a1 hst hK HGL HOP HPL HV HRO
  change 0 ≤ s ∧ s ≤ 4194304 at hst
  have HJL := Lib.hid hjl
  generalize placeN (L.map JobM.p) cl ow M ch i = R at *
  obtain ⟨y0, y1, y2, y3, y4⟩ := hp.ok.cells
  have HP := Lib.hid hp
  have HCH := Lib.hid hch
  have i0 : (0 : Int) ≤ (i : Int) := by omega
  have i1 : (i : Int) < (L.length : Int) := by omega
  have i2 : (i : Int) < (ch.length : Int) := by omega
  have HLEN := Lib.hid hlen
  clear hp hch hjl hj hR hpl hop hjp hkl hvo hci hlen
  go_enter Try.func46, Try.ntmps46
  go_wp2_with fail
  refine wp_scope_straight ?_
  go_upto_region 2 with fail
  have hblk := Lib.hid (heap_alloc_new w (.cells #[.int .i64 s, .slice jA opts.length jv] 41))
  have ba := belA w (.cells #[.int .i64 s, .slice jA opts.length jv] 41)
  have hz1 : (w.alloc (.cells #[.int .i64 s, .slice jA opts.length jv] 41)).heap.size = w.heap.size + 1 := by simp
  generalize w.alloc (.cells #[.int .i64 s, .slice jA opts.length jv] 41) = w1 at *
  have HP1 := Lib.hid (HP.out.below ba)
  have HJL1 := Lib.hid (HJL.out.belowMore (ba.mono (show B ≤ w.heap.size by have := HP.out.le.1; have := HP.out.bw; omega)) (Nat.le_refl _))
  have HBA := Lib.hid ba
  clear ba a0 a1 y0 y1 y2 y3
  generalize hgz : w.heap.size = gz at *
  have HGZ := Lib.hid hgz
  clear hgz
  have c0 : w1.cell? ⟨gz, 1, none⟩ = some (.slice jA opts.length jv) := by rw [cell_of_row w1 _ 1 _ _ _ hblk.out]; rfl
  go_wp2_with fail
  clear c0
  go_loopg [8, 25] opts.length (fun g s8 s25 wr => ∃ (k : Nat) (ps : List Int) (VA : Option Addr) (vc : Nat), k ≤ opts.length ∧ g = opts.length - k ∧ s25 = .int .i64 k ∧ s8 = .slice VA ps.length vc ∧ ps.length = k ∧ OwnN wr (gz + 1) (.slice VA ps.length vc) ps ∧ (∀ x, x < k → FirstG (gapsL (L.map JobM.p) cl ow ch (optAt (JobM.p ⟨s, opts, ⟨jA, opts.length, jv⟩⟩) x) s) (ps.getD x 0)) ∧ Below w1.heap.size w1 wr)
  case atStart => exact ⟨0, [], none, 0, by omega, by omega, rfl, rfl, rfl, Own.nil _ _ _ _ _, fun x hx => by omega, Below.refl _ _⟩
  case round =>
    obtain ⟨k, ps, VA, vc, hk, hg, rfl, rfl, hpk, hop2, hf, hb⟩ := hrel
    have HF := Lib.hid hf
    have HPK := Lib.hid hpk
    clear hpk hf
    by_cases hlt : k < opts.length
    · have hz2 := hb.size
      obtain ⟨ob, oo, hA, hob, p0, p1⟩ := (HJL1.out.ol.belowMore (hb.mono (show B ≤ w1.heap.size by have := HP.out.le.1; have := HP.out.bw; have := HGZ.out; omega)) (Nat.le_refl _)).opt k hlt
      change jA = _ at hA
      subst hA
      have hO := HJL1.out.at_ opts[k] (List.getElem_mem hlt)
      have hsn := hO.sn
      have hon := hO.on
      have hvk := HV.out k hlt
      have hgl := HGL.out k hlt
      have hrk := HRO.out opts[k] (List.getElem_mem hlt)
      have HOK := Lib.hid (HOP.out k hlt)
      rw [hsn] at p0
      rw [hon] at p1
      clear hsn hon
      generalize opts[k] = op at *
      obtain ⟨ost, oos, ⟨sA, sn, scp⟩, ⟨oA, on, ocp⟩⟩ := op
      simp only at p0 p1 hrk
      change validOp ⟨ost, oos⟩ = true at hvk
      change (gapsL (L.map JobM.p) cl ow ch ⟨ost, oos⟩ s).length ≤ _ at hgl
      have b2 := hb.trans ((belA wr (.cells #[.slice sA ost.length scp, .slice oA oos.length ocp] 28)).mono hz2)
      have hB2 : B ≤ w1.heap.size := by have := HP.out.le.1; have := HP.out.bw; have := HGZ.out; omega
      have HGP := Lib.hid (gaps_any gp (some ⟨b, off, none⟩) jc L base gc gw nC nW cl ow KA kc ch sA scp ost oA ocp oos s _ (HP1.out.ok.below b2) (hO.st.belowMore (b2.mono hB2) (by have := b2.size; omega)) (hO.oc.belowMore (b2.mono hB2) (by have := b2.size; omega)) hO.sm hO.om hvk hrk hst HCH.out hL48 hbytes)
      have i3 : (0 : Int) ≤ (k : Int) := by omega
      have i4 : (k : Int) < (opts.length : Int) := by omega
      have hox := heap_alloc_new wr (.cells #[.slice sA ost.length scp, .slice oA oos.length ocp] 28)
      have HOA := Lib.hid (hop2.alloc (.cells #[.slice sA ost.length scp, .slice oA oos.length ocp] 28))
      have hgzw : w1.heap.size ≤ (wr.alloc (.cells #[.slice sA ost.length scp, .slice oA oos.length ocp] 28)).heap.size := b2.size
      have c0 : (wr.alloc (.cells #[.slice sA ost.length scp, .slice oA oos.length ocp] 28)).cell? ⟨gz, 0, none⟩ = some (.int .i64 s) := by rw [cell_of_row _ _ 0 _ _ _ ((b2.block gz (by omega)).trans hblk.out)]; rfl
      have HB2 := Lib.hid b2
      clear hO hop2 hb b2 hvk hrk
      go_upto_region 6 with fail
      generalize wr.alloc (.cells #[.slice sA ost.length scp, .slice oA oos.length ocp] 28) = w2 at *
      generalize wr.heap.size = go at *
      have d0 : w2.cell? ⟨go, 0, none⟩ = some (.slice sA ost.length scp) := by rw [cell_of_row w2 _ 0 _ _ _ hox]; rfl
      have d1 : w2.cell? ⟨go, 1, none⟩ = some (.slice oA oos.length ocp) := by rw [cell_of_row w2 _ 1 _ _ _ hox]; rfl
      clear hox p0 p1
      go_wp2_with (first
        | (go_at_call 60; refine HGP.out.mono ?_; rintro e w3 ⟨GA, gcp, rfl, hog, hb3⟩)
        | (go_at_call 59; refine (first_any _ _ _ w2.heap.size w3 hb3.size hog (by omega)).mono ?_; rintro e w4 ⟨d, rfl, hd, hb4⟩)
        | (at_builtin; refine Hld.put ?_))
      refine Hld.out ?_
      have HO4 := Lib.hid (HOA.out.below' (hb3.trans hb4))
      have HB4 := Lib.hid (HB2.out.trans ((hb3.trans hb4).mono hgzw))
      have hz4 : w1.heap.size ≤ w4.heap.size := HB4.out.size
      have HFD := Lib.hid hd
      have hps8 : ps.length ≤ 8 := by have := HPK.out; omega
      clear hog hb3 hb4 hd d0 d1 c0
      refine wpList_append_rec rfl _ _ 34 rfl (gz + 1) 3 8 Try.underlying34 elemN _ ps rfl HO4.out [d] _ rfl 1 1 rfl rfl (by simp only [Go.maxLen, List.length_cons, List.length_nil]; omega) (by simp only [List.length_cons, List.length_nil]; omega) (by omega) ?_
      intro v6 w6 ho6 hg6 hat6
      obtain ⟨V6, c6, rfl⟩ := ho6.form
      have HO6 := Lib.hid ho6
      have HB6 := Lib.hid (HB4.out.grown hg6 (by omega) (fun q e => by have := (World.ownsRow.lt HO4.out q e).1; omega))
      clear ho6 hg6 hat6
      generalize hn6 : (ps ++ [d]).length = n6 at *
      have HN6 := Lib.hid hn6
      clear hn6
      go_wp2_with fail
      go_roundg (opts.length - (k + 1))
      case measure => omega
      case rel =>
        refine ⟨k + 1, ps ++ [d], V6, c6, by omega, rfl, by go_num, by rw [HN6.out], by rw [List.length_append, HPK.out]; rfl, by rw [HN6.out]; exact HO6.out, fun x hx => ?_, HB6.out⟩
        by_cases e : x = k
        · subst e
          have e2 : (ps ++ [d]).getD x 0 = d := by
            rw [List.getD_eq_getElem?_getD, List.getElem?_append_right (by rw [HPK.out]; exact Nat.le_refl _), HPK.out, Nat.sub_self]; rfl
          rw [e2, HOK.out]; exact HFD.out
        · have e2 : (ps ++ [d]).getD x 0 = ps.getD x 0 := by
            rw [List.getD_eq_getElem?_getD, List.getElem?_append_left (by rw [HPK.out]; omega), ← List.getD_eq_getElem?_getD]
          rw [e2]; exact HF.out x (by omega)
    · have hkE : k = opts.length := by omega
      have hpl := HPL.out (fun x => ps.getD x 0) (fun x hx => HF.out x (by rw [hkE]; exact hx))
      have hpsl : ps.length = opts.length := by rw [HPK.out]; exact hkE
      have HRR := Lib.hid (show (List.range ((M + 1) * ps.length)).find? (condT (fun x => ps.getD x 0) ps.length) = R by rw [hpsl]; exact hpl)
      have hp8 : 1 ≤ ps.length ∧ ps.length ≤ 8 := by omega
      have HPSL := Lib.hid hpsl
      have HPS := Lib.hid (Own.lst encI_len hop2)
      have HBW := Lib.hid hb
      clear hpl hpsl hkE hop2 hb
      go_wp2_with fail
      refine wp_label ?_
      go_wp2_with fail
      go_loopg [11, 41] (M + 1) (fun g s11 s41 wr2 => ∃ d : Nat, d ≤ M + 1 ∧ g = M + 1 - d ∧ s41 = .int .i64 d ∧ s11 = .int .i64 ((d * ps.length : Nat)) ∧ (∀ t, t < d * ps.length → condT (fun x => ps.getD x 0) ps.length t = false) ∧ Lst encI 1 wr2 wr2.heap.size VA ps ∧ Below w1.heap.size w1 wr2)
      case atStart => exact ⟨0, by omega, by omega, rfl, by simp, fun t ht => by omega, HPS.out, HBW.out⟩
      case round =>
        obtain ⟨d, hd, hg2, rfl, rfl, hno, hps, hb⟩ := hrel
        have HNO := Lib.hid hno
        have HPS := Lib.hid hps
        have HBW := Lib.hid hb
        clear hno hps hb
        by_cases hlt2 : d < M + 1
        · have h1 : (d : Int) < (M : Int) + 1 := by omega
          have hqb : d * ps.length ≤ 28800 := Nat.mul_le_mul (show d ≤ 3600 by omega) hp8.2
          generalize hq : d * ps.length = q at *
          have HQ := Lib.hid hq
          clear hq
          go_wp2_with fail
          go_loopg [11, 46] ps.length (fun g s11 s46 wr3 => ∃ x : Nat, x ≤ ps.length ∧ g = ps.length - x ∧ s46 = .int .i64 x ∧ s11 = .int .i64 ((q + x : Nat)) ∧ (∀ t, t < q + x → condT (fun x => ps.getD x 0) ps.length t = false) ∧ Lst encI 1 wr3 wr3.heap.size VA ps ∧ Below w1.heap.size w1 wr3)
          case atStart => exact ⟨0, by omega, by omega, rfl, rfl, HNO.out, HPS.out, HBW.out⟩
          case round =>
            obtain ⟨x, hx, hg3, rfl, rfl, hno, hps, hb⟩ := hrel
            have HNO := Lib.hid hno
            have HPS := Lib.hid hps
            have HBW := Lib.hid hb
            clear hno hps hb
            by_cases hlt3 : x < ps.length
            · obtain ⟨pb, po, hV, hpb, e0⟩ := HPS.out.num x hlt3
              subst hV
              have hgd : ps.getD x 0 = ps[x] := by rw [List.getD_eq_getElem?_getD, List.getElem?_eq_getElem hlt3]; rfl
              have HCX := Lib.hid (show condT (fun x => ps.getD x 0) ps.length (q + x) = decide ((d : Int) = ps[x]) by rw [← HQ.out, cond_at _ hlt3, hgd])
              clear hgd
              generalize ps[x] = le at *
              have i5 : (0 : Int) ≤ (x : Int) := by omega
              have i6 : (x : Int) < (ps.length : Int) := by omega
              have hx8 : x ≤ 8 := by omega
              by_cases hE : (d : Int) = le
              · subst hE
                have hlt : q + x < (M + 1) * ps.length := by
                  have h2 : (d + 1) * ps.length ≤ (M + 1) * ps.length := Nat.mul_le_mul_right _ (by omega)
                  rw [Nat.add_mul, Nat.one_mul, HQ.out] at h2
                  omega
                have HR2 := Lib.hid (show some (q + x) = R by rw [← HRR.out]; exact (find_here hlt (by rw [HCX.out]; simp) HNO.out).symm)
                have HFC := Lib.hid (show foundC (JobM.p ⟨s, opts, ⟨jA, opts.length, jv⟩⟩) M R = (((x : Int), s + (d : Int)), q + x + 1) by
                  rw [← HR2.out]
                  show (choOf _ (q + x), q + x + 1) = _
                  unfold choOf
                  have h3 : (JobM.p ⟨s, opts, ⟨jA, opts.length, jv⟩⟩).opts.length = ps.length := by rw [HPSL.out]; simp [JobM.p]
                  obtain ⟨h4, h5⟩ := srch_at (d := d) hlt3
                  rw [h3, ← HQ.out, h4, h5]; rfl)
                have hpW := HP1.out.below HBW.out
                obtain ⟨gk, cc, hkq, hgb, hgl, hcap, hcells, hfr⟩ := Own.at_ (enc := encK) (k := 2) (fun _ => rfl) hpW.own (show ch ≠ [] from fun h0 => by rw [h0] at i2; simp at i2; omega)
                injection hkq with hk1 _ hk2
                subst hk1
                subst hk2
                have hil : i < ch.length := by omega
                obtain ⟨_, _, _, y3, _⟩ := hpW.ok.cells
                have k0 : wr.cell? ⟨gk, i * 2, none⟩ = some (.int .i64 ch[i].1) := hcells i ch[i] (List.getElem?_eq_getElem hil) 0 _ rfl
                have k1 : wr.cell? ⟨gk, i * 2 + 1, none⟩ = some (.int .i64 ch[i].2) := hcells i ch[i] (List.getElem?_eq_getElem hil) 1 _ rfl
                have HPW := Lib.hid hpW
                have HHC := Lib.hid (And.intro hil (And.intro hgb hgl))
                have g0 : wr.cell? ⟨gz, 0, none⟩ = some (.int .i64 s) := by rw [cell_of_row wr _ 0 _ _ _ ((HBW.out.block gz (by omega)).trans hblk.out)]; rfl
                clear hpW hcells hpb hgl
                have swd : IntKind.i64.wrap (s + (d : Int)) = s + (d : Int) := IntWalk.i64_in _ (by omega)
                go_upto_region 17 with fail
                refine wp_region_until (S := fun w' => w'.cell? ⟨gp, 3, none⟩ = some (.slice (some ⟨gk, 0, none⟩) ch.length kc) ∧ w'.cell? ⟨gz, 0, none⟩ = some (.int .i64 s)) 12 (by kernel_rfl) ?_
                have h0 := show wr.drew.cell? ⟨gp, 3, none⟩ = _ ∧ wr.drew.cell? ⟨gz, 0, none⟩ = _ from And.intro y3 g0
                clear y3 g0
                refine until_take (i := 0) (v := ?_) rfl (by kernel_rfl) (by kernel_rfl) (by kernel_rfl) (by kernel_rfl) (fun _ _ _ h => h) (Or.inl ⟨by rfl, ?_⟩) h0 ?_
                rotate_left
                · intro u hSu
                  (try dsimp only at hSu)
                  go_simp
                  try rfl
                simp only [Act.put, List.setIfInBounds_toArray, List.set_cons_zero, List.set_cons_succ]
                refine until_take (i := 1) (v := ?_) rfl (by kernel_rfl) (by kernel_rfl) (by kernel_rfl) (by kernel_rfl) (fun _ _ _ h => h) (Or.inl ⟨by rfl, ?_⟩) h0 ?_
                rotate_left
                · intro u hSu
                  (try dsimp only at hSu)
                  go_simp
                  try rfl
                simp only [Act.put, List.setIfInBounds_toArray, List.set_cons_zero, List.set_cons_succ]
                refine until_take (i := 2) (v := ?_) rfl (by kernel_rfl) (by kernel_rfl) (by kernel_rfl) (by kernel_rfl) (fun _ _ _ h => h) (Or.inl ⟨by rfl, ?_⟩) h0 ?_
                rotate_left
                · intro u hSu
                  (try dsimp only at hSu)
                  go_simp
                  try rfl
                simp only [Act.put, List.setIfInBounds_toArray, List.set_cons_zero, List.set_cons_succ]
                refine until_take (i := 3) (v := ?_) rfl (by kernel_rfl) (by kernel_rfl) (by kernel_rfl) (by kernel_rfl) (fun _ _ _ h => h) (Or.inl ⟨by rfl, ?_⟩) h0 ?_
                rotate_left
                · intro u hSu
                  (try dsimp only at hSu)
                  go_simp
                  try rfl
                simp only [Act.put, List.setIfInBounds_toArray, List.set_cons_zero, List.set_cons_succ]
                refine until_take (i := 4) (v := ?_) rfl (by kernel_rfl) (by kernel_rfl) (by kernel_rfl) (by kernel_rfl) (fun _ _ _ h => h) (Or.inl ⟨by rfl, ?_⟩) h0 ?_
                rotate_left
                · intro u hSu
                  (try dsimp only at hSu)
                  go_simp
                  try rfl
                simp only [Act.put, List.setIfInBounds_toArray, List.set_cons_zero, List.set_cons_succ]
                refine until_take (i := 5) (v := ?_) rfl (by kernel_rfl) (by kernel_rfl) (by kernel_rfl) (by kernel_rfl) (fun _ _ _ h => h) (Or.inl ⟨by rfl, ?_⟩) h0 ?_
                rotate_left
                · intro u hSu
                  (try dsimp only at hSu)
                  go_simp
                  try rfl
                simp only [Act.put, List.setIfInBounds_toArray, List.set_cons_zero, List.set_cons_succ]
                refine until_take (i := 6) (v := ?_) rfl (by kernel_rfl) (by kernel_rfl) (by kernel_rfl) (by kernel_rfl) (fun _ _ _ h => h) (Or.inl ⟨by rfl, ?_⟩) h0 ?_
                rotate_left
                · intro u hSu
                  (try dsimp only at hSu)
                  go_simp
                  try rfl
                simp only [Act.put, List.setIfInBounds_toArray, List.set_cons_zero, List.set_cons_succ]
                refine until_take (i := 7) (v := ?_) rfl (by kernel_rfl) (by kernel_rfl) (by kernel_rfl) (by kernel_rfl) (fun _ _ _ h => h) (Or.inl ⟨by rfl, ?_⟩) h0 ?_
                rotate_left
                · intro u hSu
                  (try dsimp only at hSu)
                  go_simp
                  try rfl
                simp only [Act.put, List.setIfInBounds_toArray, List.set_cons_zero, List.set_cons_succ]
                refine until_take (i := 8) (v := ?_) rfl (by kernel_rfl) (by kernel_rfl) (by kernel_rfl) (by kernel_rfl) (fun _ _ _ h => h) (Or.inl ⟨by rfl, ?_⟩) h0 ?_
                rotate_left
                · intro u hSu
                  (try dsimp only at hSu)
                  go_simp
                  try rfl
                simp only [Act.put, List.setIfInBounds_toArray, List.set_cons_zero, List.set_cons_succ]
                refine until_take (i := 9) (v := ?_) rfl (by kernel_rfl) (by kernel_rfl) (by kernel_rfl) (by kernel_rfl) (fun _ _ _ h => h) (Or.inl ⟨by rfl, ?_⟩) h0 ?_
                rotate_left
                · intro u hSu
                  (try dsimp only at hSu)
                  go_simp
                  try rfl
                simp only [Act.put, List.setIfInBounds_toArray, List.set_cons_zero, List.set_cons_succ]
                refine until_take (i := 10) (v := ?_) rfl (by kernel_rfl) (by kernel_rfl) (by kernel_rfl) (by kernel_rfl) (fun _ _ _ h => h) (Or.inl ⟨by rfl, ?_⟩) h0 ?_
                rotate_left
                · intro u hSu
                  (try dsimp only at hSu)
                  go_simp
                  try rfl
                simp only [Act.put, List.setIfInBounds_toArray, List.set_cons_zero, List.set_cons_succ]
                refine until_take (i := 11) (v := ?_) rfl (by kernel_rfl) (by kernel_rfl) (by kernel_rfl) (by kernel_rfl) (fun _ _ _ h => h) (Or.inl ⟨by rfl, ?_⟩) h0 ?_
                rotate_left
                · intro u hSu
                  (try dsimp only at hSu)
                  go_simp
                  try rfl
                simp only [Act.put, List.setIfInBounds_toArray, List.set_cons_zero, List.set_cons_succ]
                have k0' : wr.drew.cell? ⟨gk, i * 2, none⟩ = some (.int .i64 ch[i].1) := k0
                have k1' : wr.drew.cell? ⟨gk, i * 2 + 1, none⟩ = some (.int .i64 ch[i].2) := k1
                have hfr' : ∀ j, wr.drew.frozen? ⟨gk, j, none⟩ = false := hfr
                refine until_one (i := 12) rfl (by kernel_rfl) (fun K hK => ?_)
                go_simp
                refine hK.out _ _ (fun q => absurd rfl q) ?_
                clear hK K h0 k0 k1 k0' k1' hfr hfr' e0
                refine until_done (by kernel_rfl) ?_ _
                have own1 := Own.stored (enc := encK) (k := 2) (fun _ => rfl) HPW.out.own i 0 (.int .i64 x) ((x : Int), ch[i].2) HHC.out.1 (by omega) rfl
                have own2 := Own.stored (enc := encK) (k := 2) (fun _ => rfl) own1.1 i 1 (.int .i64 (s + d)) ((x : Int), s + (d : Int)) (by rw [List.length_set]; exact HHC.out.1) (by omega) (by rw [List.getElem_set_self]; rfl)
                have hgr := own1.2.trans own2.2
                have hset : (ch.set i ((x : Int), ch[i].2)).set i ((x : Int), s + (d : Int)) = ch.set i ((x : Int), s + (d : Int)) := by rw [List.set_set]
                have own3 := own2.1
                rw [hset] at own3
                have HP2 := Lib.hid (HPW.out.set (ch' := ch.set i ((x : Int), s + (d : Int))) hgr (List.length_set ..) (by rw [List.length_set]; exact own3))
                have HGR := Lib.hid hgr
                clear own1 own2 own3 hset hgr
                go_wp2_with fail
                try (with_reducible refine noGoto_ret ?_)
                go_ret
                have hBt : Below w.heap.size w wr := by rw [HGZ.out]; exact HBA.out.trans (HBW.out.mono (by omega))
                refine ⟨by rw [HFC.out]; exact congrArg (fun z : Int => Ending.returned (.int .i64 z)) (by omega), by rw [HFC.out]; exact HP2.out.below (Below.refl _ _).drew, ((grown_below hBt _).trans HGR.out).trans (grown_below (Below.refl _ _).drew _)⟩
              · have g1 : ((d : Int) == le) = false := by simpa using hE
                have HNX := Lib.hid (upto_snoc HNO.out (show condT (fun x => ps.getD x 0) ps.length (q + x) = false by rw [HCX.out]; exact decide_eq_false hE))
                clear hE
                go_wp2_with fail
                go_roundg (ps.length - (x + 1))
                case measure => omega
                case rel => exact ⟨x + 1, by omega, rfl, by go_num, by go_num, HNX.out, HPS.out, HBW.out⟩
            · have hxE : x = ps.length := by omega
              have HN2 := Lib.hid (show ∀ t, t < (d + 1) * ps.length → condT (fun x => ps.getD x 0) ps.length t = false from fun t ht => HNO.out t (by rw [Nat.add_mul, Nat.one_mul, HQ.out] at ht; omega))
              have HE2 := Lib.hid (show ((q + x : Nat) : Int) = (((d + 1) * ps.length : Nat) : Int) by rw [Nat.add_mul, Nat.one_mul, HQ.out, hxE])
              clear hxE
              go_wp2_with fail
              go_roundg (M + 1 - (d + 1))
              case measure => omega
              case rel => exact ⟨d + 1, by omega, rfl, by go_num, by rw [← HE2.out], HN2.out, HPS.out, HBW.out⟩
        · have hdE : d = M + 1 := by omega
          have HFC := Lib.hid (show foundC (JobM.p ⟨s, opts, ⟨jA, opts.length, jv⟩⟩) M R = ((-1, 0), d * ps.length) by
            have h2 : R = none := by rw [← HRR.out]; exact find_no (by rw [← hdE]; exact HNO.out)
            rw [h2, hdE]
            have h3 : (JobM.p ⟨s, opts, ⟨jA, opts.length, jv⟩⟩).opts.length = ps.length := by rw [HPSL.out]; simp [JobM.p]
            show ((-1, 0), (M + 1) * _) = _
            rw [h3])
          generalize d * ps.length = q at *
          have HPW := Lib.hid (HP1.out.below HBW.out)
          have h1 : decide ((d : Int) < (M : Int) + 1) = false := decide_eq_false (by omega)
          clear hdE hlt2 hd hg2
          go_upto_region 20 with fail
          clear h1
          go_wp2_with fail
          try (with_reducible refine noGoto_ret ?_)
          go_ret
          have hBt : Below w.heap.size w wr := by rw [HGZ.out]; exact HBA.out.trans (HBW.out.mono (by omega))
          refine ⟨by rw [HFC.out] <;> rfl, by rw [HFC.out, HS0.out]; exact HPW.out, grown_below hBt _⟩
end Go.Proofs.Ytlillkfelfoafaa
