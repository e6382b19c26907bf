/-
  Contract of gaps.
-/
import Derived.Test.YtlillkfelfoafaaDivM
import Derived.Test.YtlillkfelfoafaaOrd
import Derived.Test.YtlillkfelfoafaaAppW
set_option linter.unusedVariables false
set_option linter.unusedSimpArgs false
namespace Go.Proofs.Ytlillkfelfoafaa
open Go.RowKit Go.Shelf RP

attribute [local go_sem] Oper.semAt_some

/-- A body that does not panic. -/
def noPanic (Q : Exit → Act → World → Prop) : Exit → Act → World → Prop
  | .panic _, _, _ => False
  | e, a, w => Q e a w
theorem noPanic_le (Q : Exit → Act → World → Prop) : ∀ e a w, noPanic Q e a w → Q e a w := fun e a w h => by
  cases e <;> first | exact h | exact h.elim
/-- What the choices of a planner are. -/
structure ChGood (L : List JobM) (ch : List Cho) : Prop where
  le : ch.length ≤ L.length
  at_ : ∀ i (h : i < ch.length) (h' : i < L.length), ch[i].1 < 0 ∨ ∃ k, ∃ hk : k < L[i].opts.length, ch[i].1 = (k : Int) ∧ validOp (L[i].opts[k]).p = true ∧ 0 ≤ ch[i].2 ∧ ch[i].2 ≤ 4200000

theorem cell_setne {w : World} {B b o : Nat} {v : Value} (h : b ≠ B) : (w.setCell ⟨B, 0, none⟩ v).cell? ⟨b, o, none⟩ = w.cell? ⟨b, o, none⟩ := World.cell?_setCell_far w ⟨B, 0, none⟩ ⟨b, o, none⟩ v (Ne.symm h)
theorem with_tmps {P : Program} {c : Code} {Q : Exit → Act → World → Prop} {a : Act} {w : World} (h : ∀ T0, T0 = a.tmps → c.wp P Q a w) : c.wp P Q a w := h _ rfl
theorem gst_own {β : Type} {w : World} {gz g1 g7 n sc m oc B : Nat} {SA OA : Option Addr} {s : Int} (f : β → List Gap) (hgw : gz ≤ w.heap.size) (hB : gz ≤ B) : OwnFrom B (fun (x : β) W => GSt w gz g1 g7 SA n sc OA m oc s (f x) W) := fun x X Y row hs hg hr => by
  obtain ⟨A, c, h1, h2⟩ := hs.bl
  exact ⟨blk_own (β := Unit) B gz rfl () X Y row hs.bo hg hr, blk_own (β := Unit) B g1 rfl () X Y row hs.bs hg hr, ⟨A, c, blk_own (β := Unit) B g7 rfl () X Y row h1 hg hr, own_own (β := Unit) () X Y row h2 hg hr⟩, ownFrom_below (β := Unit) hgw hB () X Y row hs.bel hg hr⟩
/-- What the rounds of the range over common keep. -/
structure GI (w : World) (gz g1 g7 gd pa pb N : Nat) (SA : Option Addr) (n sc : Nat) (OA : Option Addr) (m oc : Nat) (OB : Option Addr) (m' oc' : Nat) (s cy kk : Int) (l1 : List Gap) (Ds : List Nat) (pre : List PR) (W : World) : Prop where
  st : GSt w gz g1 g7 SA n sc OA m oc s (l1 ++ pre.map fun p => gapM p.1.1 p.1.2 s cy) W
  mk' : Mks (g7 + 1) Ds W
  ds : ∀ D ∈ Ds, D < N
  hd : W.heap[gd]? = some (.cells #[.int .i64 kk, .int .i64 cy] 55 (0, 0))
  ha : W.heap[pa]? = some (.cells #[.slice OA m oc] 26 (0, 0))
  hb : W.heap[pb]? = some (.cells #[.slice OB m' oc'] 26 (0, 0))
  sz : N ≤ W.heap.size
theorem gi_own {w : World} {gz g1 g7 gd pa pb N : Nat} {SA : Option Addr} {n sc : Nat} {OA : Option Addr} {m oc : Nat} {OB : Option Addr} {m' oc' : Nat} {s cy kk : Int} {l1 : List Gap} {Ds : List Nat} (hgw : gz ≤ w.heap.size) (hN : gz ≤ N) : OwnFrom N (fun pre W => GI w gz g1 g7 gd pa pb N SA n sc OA m oc OB m' oc' s cy kk l1 Ds pre W) := fun x X Y row hs hg hr => by
  obtain ⟨h1, h2⟩ := mks_own (β := Unit) (N := N) () X Y row ⟨hs.mk', hs.ds⟩ hg hr
  exact ⟨gst_own (fun pre : List PR => l1 ++ pre.map fun p => gapM p.1.1 p.1.2 s cy) hgw hN x X Y row hs.st hg hr, h1, h2, blk_own (β := Unit) N gd rfl () X Y row hs.hd hg hr, blk_own (β := Unit) N pa rfl () X Y row hs.ha hg hr, blk_own (β := Unit) N pb rfl () X Y row hs.hb hg hr, Nat.le_trans hs.sz hg.size⟩
theorem map_upto {γ : Type} (a b : List Occ) (ha : ∀ o ∈ a, smallO o) (hb : ∀ o ∈ b, smallO o) (q : Occ × Occ → γ) : (upto (prAt a b ha hb) (pairsO a b).length).map (fun p => q p.1) = (pairsO a b).map q := by
  unfold upto
  rw [List.map_map]
  apply List.ext_getElem
  · simp
  · intro i h1 h2
    simp only [List.length_map, List.length_range] at h1
    simp only [List.getElem_map, List.getElem_range, Function.comp]
    show q ((pairsO a b).getD i _) = _
    rw [List.getD_eq_getElem?_getD, List.getElem?_eq_getElem h1]; rfl
theorem push_more {wq w1 w5 : World} {g7 g9 : Nat} {o : Obj} {row : Option Nat} (v : Value) (hb : Below wq.heap.size wq w1) (h9 : wq.heap[g9]? = some o) (hne : g9 ≠ g7) (hg : w1.grownBy w5 row) (hr : some g9 ≠ row) : (w5.setCell ⟨g7, 0, none⟩ v).heap[g9]? = some o ∧ wq.heap.size ≤ (w5.setCell ⟨g7, 0, none⟩ v).heap.size := by
  have hl := (Array.getElem?_eq_some_iff.1 h9).1
  refine ⟨?_, ?_⟩
  · rw [Below.heap_setCell _ _ _ _ (by show g9 ≠ g7; exact hne)]
    exact (hg.block g9 (by have := hb.size; omega) hr).trans ((hb.block g9 hl).trans h9)
  · have h1 := hb.size; have h2 := hg.size
    simp only [World.setCell, Array.size_modify]; omega
set_option maxRecDepth 100000 in
set_option maxHeartbeats 40000000 in
theorem gaps_any (gp : Nat) (JA : Option Addr) (jc : Nat) (L : List JobM) (base gc gw nC nW : Nat) (cl : List Clo) (ow : List OWy) (KA : Option Addr) (kc : Nat) (ch : List Cho) (SA : Option Addr) (sc : Nat) (st : List Ste) (OA : Option Addr) (oc : Nat) (os : List Occ) (s : Int) (w : World)
    (hp : PlOk w gp JA jc L base gc gw nC nW cl ow KA kc ch) (hs : Lst encSte 2 w w.heap.size SA st) (ho : Lst encO 3 w w.heap.size OA os) (hn : st.length ≤ 9223372036854775807) (hn' : os.length ≤ 9223372036854775807)
    (hv : validOp ⟨st, os⟩ = true) (hor : ∀ x ∈ os, R64 x.1) (hs0 : 0 ≤ s ∧ s ≤ 4194304) (hch : ChGood L ch) (hL : L.length ≤ 48) (hbytes : cl.length + ow.length ≤ 13000000000000) :
    Calls Try.prog 60 #[.pointer (some ⟨gp, 0, none⟩), .agg #[.slice SA st.length sc, .slice OA os.length oc], .int .i64 s] w fun e w' =>
      ∃ A c, e = .returned (.slice A (gapsL (L.map JobM.p) cl ow ch ⟨st, os⟩ s).length c) ∧ OwnG w' w.heap.size (.slice A (gapsL (L.map JobM.p) cl ow ch ⟨st, os⟩ s).length c) (gapsL (L.map JobM.p) cl ow ch ⟨st, os⟩ s) ∧ Below w.heap.size w w' := by
  have hro : Fence.wide.round = none := rfl
  have HPB := Lib.hid (fun V (hb : Below w.heap.size w V) => hp.below hb)
  have HLC := Lib.hid (fun r (hr : R64 r) => look_at encO_len hp.clo Try.underlying85 zeroSlC hr)
  have HLW := Lib.hid (fun r (hr : R64 r) => look_at encW_len hp.oww Try.underlying86 zeroSlW hr)
  have HV := Lib.hid hv
  have hvo := (validOp_iff.1 hv).2.2.1
  have HRG := Lib.hid (validO_lt hvo)
  have HFL := Lib.hid (fun k (hk : k < os.length) => flat_len2 cl ow ⟨st, os⟩ s hvo hk)
  have HOR := Lib.hid hor
  have HS := Lib.hid hs
  have HO := Lib.hid ho
  have hol : os.length ≤ 144 := (validOp_iff.1 hv).2.1
  have HCH := Lib.hid hch
  obtain ⟨W0, hW0⟩ : ∃ V, V = ((w.alloc (.cells #[.slice SA st.length sc, .slice OA os.length oc] 28)).alloc (.cells #[.int .i64 s] 3)).alloc (.cells #[.slice none 0 0] 104) := ⟨_, rfl⟩
  have s1 : ∀ (W : World) (o : Obj), (W.alloc o).heap.size = W.heap.size + 1 := fun W o => by simp
  have hz0 : W0.heap.size = w.heap.size + 1 + 1 + 1 := by rw [hW0, s1, s1, s1]
  have HG0 : Hid (GSt w w.heap.size (w.heap.size + 1) (w.heap.size + 1 + 1) SA st.length sc OA os.length oc s [] W0) := by
    refine ⟨?_, ?_, ⟨none, 0, ?_, Own.nil _ _ _ _ _⟩, ?_⟩
    · rw [hW0, Below.heap_alloc _ _ _ (by simp only [s1]; omega), Below.heap_alloc _ _ _ (by simp only [s1]; omega)]
      exact heap_alloc_new w _
    · rw [hW0, Below.heap_alloc _ _ _ (by simp only [s1]; omega)]
      have := heap_alloc_new (w.alloc (.cells #[.slice SA st.length sc, .slice OA os.length oc] 28)) (.cells #[.int .i64 s] 3)
      rwa [s1] at this
    · rw [hW0]
      have := heap_alloc_new ((w.alloc (.cells #[.slice SA st.length sc, .slice OA os.length oc] 28)).alloc (.cells #[.int .i64 s] 3)) (.cells #[.slice none 0 0] 104)
      rwa [s1, s1] at this
    · rw [hW0]
      exact (((Below.refl _ w).alloc (Nat.le_refl _) _).alloc (by simp only [s1]; omega) _).alloc (by simp only [s1]; omega) _
  have HW0 := Lib.hid hW0
  clear hp hv hvo hor hs ho hch hW0
  refine (callsIn_wide (n := 6)).1 ?_
  refine callsIn_of_wp_marks Try.func60 rfl trivial ?_ hro
  refine wpIn_wide.2 ?_
  refine wp_mono (Q := noPanic _) ?_ (noPanic_le _)
  simp only [Try.ntmps60, List.size_toArray, List.length_cons, List.length_nil, Nat.reduceAdd, Nat.reduceSub, Array.replicate_succ, Array.replicate_zero, List.push_toArray, List.append_toArray, List.nil_append, List.cons_append]
  go_upto_region 2 with fail
  rw [← HW0.out]
  generalize hgz : w.heap.size = gz at *
  have HGZ := Lib.hid hgz
  generalize h7 : gz + 1 + 1 = g7 at *
  generalize h1 : gz + 1 = g1 at *
  have hgs : gz < g1 ∧ g1 < g7 ∧ g7 < W0.heap.size := by omega
  have hpz : gz ≤ w.heap.size ∧ w.heap.size ≤ gz := by omega
  clear h1 h7 hgz hz0 HW0 s1
  have c0 : W0.cell? ⟨gz, 1, none⟩ = some (.slice OA os.length oc) := by rw [cell_of_row W0 _ 1 _ _ _ HG0.out.bo]; rfl
  go_wp2_with fail
  clear c0
  go_loopg [21] os.length (fun g s21 wr => ∃ k : Nat, k ≤ os.length ∧ g = os.length - k ∧ s21 = .int .i64 k ∧ GSt w gz g1 g7 SA st.length sc OA os.length oc s ((os.take k).flatMap (gapsC cl ow ⟨st, os⟩ s)) wr ∧ W0.heap.size ≤ wr.heap.size)
  case atStart => exact ⟨0, by omega, by omega, rfl, HG0.out, Nat.le_refl _⟩
  case round =>
    obtain ⟨k, hk, hg, rfl, hst, hzr⟩ := hrel
    by_cases hlt : k < os.length
    · obtain ⟨b, off, rfl, hbb, a0, a1, a2⟩ := (HO.out.below hst.bel).oc k hlt
      have HTK := Lib.hid (show (os.take (k + 1)).flatMap (gapsC cl ow ⟨st, os⟩ s) = (os.take k).flatMap (gapsC cl ow ⟨st, os⟩ s) ++ gapsC cl ow ⟨st, os⟩ s os[k] by
        rw [List.take_succ_eq_append_getElem hlt, List.flatMap_append]; simp)
      have hfl : ((os.take k).flatMap (gapsC cl ow ⟨st, os⟩ s)).length + (cl.filter fun x => decide (x.1 = os[k].1)).length + (ow.filter fun w => decide (w.1 = os[k].1)).length ≤ cl.length + ow.length := HFL.out k hlt
      have hrg := HRG.out os[k] (List.getElem_mem hlt)
      have hrr := HOR.out os[k] (List.getElem_mem hlt)
      generalize (os.take k).flatMap (gapsC cl ow ⟨st, os⟩ s) = l0 at *
      have ba := belA wr (.cells #[.int .i64 os[k].1, .int .i64 os[k].2.1, .int .i64 os[k].2.2] 46)
      have hblk := heap_alloc_new wr (.cells #[.int .i64 os[k].1, .int .i64 os[k].2.1, .int .i64 os[k].2.2] 46)
      generalize os[k] = c at *
      obtain ⟨r, f, t⟩ := c
      simp only at a0 a1 a2 ba hblk hrg hrr hfl
      have hst3 := hst.below ba (by omega)
      have HB9 := Lib.hid hblk
      have hz3 : wr.heap.size < (wr.alloc (.cells #[.int .i64 r, .int .i64 f, .int .i64 t] 46)).heap.size := by simp
      have i0 : (0 : Int) ≤ (k : Int) := by omega
      have i1 : (k : Int) < (os.length : Int) := by omega
      clear ba hblk hst
      go_upto_region 5 with fail
      generalize wr.alloc (.cells #[.int .i64 r, .int .i64 f, .int .i64 t] 46) = w3 at *
      generalize h9 : wr.heap.size = g9 at *
      have hz9 : g7 < g9 := by omega
      clear h9
      obtain ⟨CA, cc, hCA, hcm⟩ := HLC.out r hrr
      obtain ⟨WA, wc, hWA, hwm⟩ := HLW.out r hrr
      have hrun := fun n => (hCA (w3.drewN n) (below_drewN hst3.bel n)).1
      have hrun0 := (hCA w3 hst3.bel).1
      obtain ⟨y0, y1, y2, y3, y4⟩ := (HPB.out w3 hst3.bel).cells
      have o0 : w3.cell? ⟨g9, 0, none⟩ = some (.int .i64 r) := by rw [cell_of_row w3 _ 0 _ _ _ HB9.out]; rfl
      have HST3 := Lib.hid hst3
      have HCA := Lib.hid hCA
      have HWA := Lib.hid hWA
      clear hst3 hCA hWA a0 a1 a2
      go_quiet (fail)
      have hst4 := HST3.out.below (below_drewN (Below.refl w3.heap.size w3) nq) (by omega)
      have HB4 := Lib.hid (show (w3.drewN nq).heap[g9]? = some (.cells #[.int .i64 r, .int .i64 f, .int .i64 t] 46 (0, 0)) from HB9.out)
      have hz4 : g9 < (w3.drewN nq).heap.size := hz3
      generalize w3.drewN nq = w4 at *
      have HST4 := Lib.hid hst4
      generalize hcf : cl.filter (fun x => decide (x.1 = r)) = cf at *
      have HCF := Lib.hid hcf
      clear hst4 hcf hrun hrun0 y0 y1 y2 y3 y4 o0
      go_wp2_with fail
      go_loopg [33] cf.length (fun g s33 wr => ∃ i : Nat, i ≤ cf.length ∧ g = cf.length - i ∧ s33 = .int .i64 i ∧ GSt w gz g1 g7 SA st.length sc (some ⟨b, off, none⟩) os.length oc s (l0 ++ (cf.take i).map fun x => entryG (r, f, t) s x.2.1 x.2.2) wr ∧ wr.heap[g9]? = some (.cells #[.int .i64 r, .int .i64 f, .int .i64 t] 46 (0, 0)) ∧ w4.heap.size ≤ wr.heap.size)
      case atStart => exact ⟨0, by omega, by omega, rfl, by simpa using HST4.out, HB4.out, Nat.le_refl _⟩
      case round =>
        obtain ⟨i, hi, hg2, rfl, hst, h9b, hzz⟩ := hrel
        by_cases hlt2 : i < cf.length
        · obtain ⟨xb, xo, rfl, hxb, e0, e1, e2⟩ := ((HCA.out wr hst.bel).2).oc i hlt2
          have HTI := Lib.hid (show l0 ++ ((cf.take (i + 1)).map fun x => entryG (r, f, t) s x.2.1 x.2.2) = (l0 ++ (cf.take i).map fun x => entryG (r, f, t) s x.2.1 x.2.2) ++ [entryG (r, f, t) s cf[i].2.1 cf[i].2.2] by
            rw [List.take_succ_eq_append_getElem hlt2, List.map_append, ← List.append_assoc]; rfl)
          have hln : (l0 ++ (cf.take i).map fun x => entryG (r, f, t) s x.2.1 x.2.2).length ≤ cl.length + ow.length := by
            rw [List.length_append, List.length_map, List.length_take]; omega
          generalize (l0 ++ (cf.take i).map fun x => entryG (r, f, t) s x.2.1 x.2.2) = l at *
          have ba := belA wr (.cells #[.int .i64 cf[i].1, .int .i64 cf[i].2.1, .int .i64 cf[i].2.2] 82)
          have hblk := heap_alloc_new wr (.cells #[.int .i64 cf[i].1, .int .i64 cf[i].2.1, .int .i64 cf[i].2.2] 82)
          generalize cf[i] = x at *
          obtain ⟨xr, xf, xt⟩ := x
          simp only at e0 e1 e2 ba hblk HTI
          have hstq := hst.below ba (by omega)
          have HQ9 := Lib.hid ((ba.block g9 (Array.getElem?_eq_some_iff.1 h9b).1).trans h9b)
          have HQX := Lib.hid hblk
          have j0' : (0 : Int) ≤ (i : Int) := by omega
          have j1' : (i : Int) < (cf.length : Int) := by omega
          have HEN := Lib.hid (fun V => entry_any (r, f, t) s xf xt V (by simp only; omega) hs0)
          have hzx : wr.heap.size < (wr.alloc (.cells #[.int .i64 xr, .int .i64 xf, .int .i64 xt] 82)).heap.size := by simp
          clear ba hblk hst h9b
          go_upto_region 8 with fail
          generalize wr.alloc (.cells #[.int .i64 xr, .int .i64 xf, .int .i64 xt] 82) = wq at *
          generalize wr.heap.size = gx at *
          generalize entryG (r, f, t) s xf xt = eg at *
          obtain ⟨ea, eb⟩ := eg
          simp only at HEN
          have k4 : wq.drew.cell? ⟨gx, 1, none⟩ = some (.int .i64 xf) := by show wq.cell? _ = _; rw [cell_of_row wq _ 1 _ _ _ HQX.out]; rfl
          have k5 : wq.drew.cell? ⟨gx, 2, none⟩ = some (.int .i64 xt) := by show wq.cell? _ = _; rw [cell_of_row wq _ 2 _ _ _ HQX.out]; rfl
          clear e0 e1 e2
          obtain ⟨LA, lc, hk7, how⟩ := hstq.bl
          have HK7 := Lib.hid hk7
          have HOW := Lib.hid (show OwnG wq.drew (g7 + 1) (.slice LA l.length lc) l from how.drew)
          have HN1 : Hid (some g1 ≠ (Value.slice LA l.length lc).ownBlock) := fun e => own_ne_block how hstq.bs (by decide) e.symm
          have HN9 : Hid (some g9 ≠ (Value.slice LA l.length lc).ownBlock) := fun e => own_ne_block how HQ9.out (by decide) e.symm
          have HNX : Hid (some gx ≠ (Value.slice LA l.length lc).ownBlock) := fun e => own_ne_block how HQX.out (by decide) e.symm
          have HN7 : Hid (some g7 ≠ (Value.slice LA l.length lc).ownBlock) := fun e => own_ne_block how hk7 (by decide) e.symm
          have k0 : wq.drew.cell? ⟨g1, 0, none⟩ = some (.int .i64 s) := by show wq.cell? _ = _; rw [cell_of_row wq _ 0 _ _ _ hstq.bs]; rfl
          have k1 : wq.drew.cell? ⟨g9, 0, none⟩ = some (.int .i64 r) := by show wq.cell? _ = _; rw [cell_of_row wq _ 0 _ _ _ HQ9.out]; rfl
          have k2 : wq.drew.cell? ⟨g9, 1, none⟩ = some (.int .i64 f) := by show wq.cell? _ = _; rw [cell_of_row wq _ 1 _ _ _ HQ9.out]; rfl
          have k3 : wq.drew.cell? ⟨g9, 2, none⟩ = some (.int .i64 t) := by show wq.cell? _ = _; rw [cell_of_row wq _ 2 _ _ _ HQ9.out]; rfl
          have k7 : wq.drew.cell? ⟨g7, 0, none⟩ = some (.slice LA l.length lc) := by show wq.cell? _ = _; rw [cell_of_row wq _ 0 _ _ _ hk7]; rfl
          have HSTQ := Lib.hid hstq
          have z7 : g7 < wq.heap.size := (Array.getElem?_eq_some_iff.1 hk7).1
          have z9 : g9 < wq.heap.size := (Array.getElem?_eq_some_iff.1 HQ9.out).1
          clear hstq hk7 how
          refine wp_region_until (S := fun w' => w'.cell? ⟨g7, 0, none⟩ = some (.slice LA l.length lc) ∧ w'.cell? ⟨g1, 0, none⟩ = some (.int .i64 s) ∧ w'.cell? ⟨g9, 0, none⟩ = some (.int .i64 r) ∧ w'.cell? ⟨g9, 1, none⟩ = some (.int .i64 f) ∧ w'.cell? ⟨g9, 2, none⟩ = some (.int .i64 t) ∧ w'.cell? ⟨gx, 1, none⟩ = some (.int .i64 xf) ∧ w'.cell? ⟨gx, 2, none⟩ = some (.int .i64 xt)) 10 (by kernel_rfl) ?_
          have h0 := And.intro k7 (And.intro k0 (And.intro k1 (And.intro k2 (And.intro k3 (And.intro k4 k5)))))
          clear k0 k1 k2 k3 k4 k5 k7
          refine until_take (i := 0) (v := ?_) rfl (by kernel_rfl) (by kernel_rfl) (by kernel_rfl) (by kernel_rfl) (fun _ _ _ h => h) (Or.inl ⟨by rfl, ?_⟩) h0 ?_
          rotate_left
          · intro u hSu
            (try dsimp only at hSu)
            go_simp
            try rfl
          simp only [Act.put, List.setIfInBounds_toArray, List.set_cons_zero, List.set_cons_succ]
          refine until_take (i := 1) (v := ?_) rfl (by kernel_rfl) (by kernel_rfl) (by kernel_rfl) (by kernel_rfl) (fun _ _ _ h => h) (Or.inl ⟨by rfl, ?_⟩) h0 ?_
          rotate_left
          · intro u hSu
            (try dsimp only at hSu)
            go_simp
            try rfl
          simp only [Act.put, List.setIfInBounds_toArray, List.set_cons_zero, List.set_cons_succ]
          refine until_take (i := 2) (v := ?_) rfl (by kernel_rfl) (by kernel_rfl) (by kernel_rfl) (by kernel_rfl) (fun _ _ _ h => h) (Or.inl ⟨by rfl, ?_⟩) h0 ?_
          rotate_left
          · intro u hSu
            (try dsimp only at hSu)
            go_simp
            try rfl
          simp only [Act.put, List.setIfInBounds_toArray, List.set_cons_zero, List.set_cons_succ]
          refine until_take (i := 3) (v := ?_) rfl (by kernel_rfl) (by kernel_rfl) (by kernel_rfl) (by kernel_rfl) (fun _ _ _ h => h) (Or.inl ⟨by rfl, ?_⟩) h0 ?_
          rotate_left
          · intro u hSu
            (try dsimp only at hSu)
            go_simp
            try rfl
          simp only [Act.put, List.setIfInBounds_toArray, List.set_cons_zero, List.set_cons_succ]
          refine until_take (i := 4) (v := ?_) rfl (by kernel_rfl) (by kernel_rfl) (by kernel_rfl) (by kernel_rfl) (fun _ _ _ h => h) (Or.inl ⟨by rfl, ?_⟩) h0 ?_
          rotate_left
          · intro u hSu
            (try dsimp only at hSu)
            go_simp
            try rfl
          simp only [Act.put, List.setIfInBounds_toArray, List.set_cons_zero, List.set_cons_succ]
          refine until_take (i := 5) (v := ?_) rfl (by kernel_rfl) (by kernel_rfl) (by kernel_rfl) (by kernel_rfl) (fun _ _ _ h => h) (Or.inl ⟨by rfl, ?_⟩) h0 ?_
          rotate_left
          · intro u hSu
            (try dsimp only at hSu)
            go_simp
            try rfl
          simp only [Act.put, List.setIfInBounds_toArray, List.set_cons_zero, List.set_cons_succ]
          refine until_take (i := 6) (v := ?_) rfl (by kernel_rfl) (by kernel_rfl) (by kernel_rfl) (by kernel_rfl) (fun _ _ _ h => h) (Or.inl ⟨by rfl, ?_⟩) h0 ?_
          rotate_left
          · intro u hSu
            (try dsimp only at hSu)
            go_simp
            try rfl
          simp only [Act.put, List.setIfInBounds_toArray, List.set_cons_zero, List.set_cons_succ]
          refine until_one (i := 7) rfl (by kernel_rfl) (fun K hK => ?_)
          go_simp
          refine (HEN.out _).mono ?_
          rintro e w' ⟨rfl, hb'⟩
          have h1 := And.intro ((hb'.cell (p := ⟨g7, 0, none⟩) (cell_lt h0.1)).trans h0.1) (And.intro ((hb'.cell (p := ⟨g1, 0, none⟩) (cell_lt h0.2.1)).trans h0.2.1) (And.intro ((hb'.cell (p := ⟨g9, 0, none⟩) (cell_lt h0.2.2.1)).trans h0.2.2.1) (And.intro ((hb'.cell (p := ⟨g9, 1, none⟩) (cell_lt h0.2.2.2.1)).trans h0.2.2.2.1) (And.intro ((hb'.cell (p := ⟨g9, 2, none⟩) (cell_lt h0.2.2.2.2.1)).trans h0.2.2.2.2.1) (And.intro ((hb'.cell (p := ⟨gx, 1, none⟩) (cell_lt h0.2.2.2.2.2.1)).trans h0.2.2.2.2.2.1) ((hb'.cell (p := ⟨gx, 2, none⟩) (cell_lt h0.2.2.2.2.2.2)).trans h0.2.2.2.2.2.2))))))
          have zw' : wq.heap.size ≤ w'.heap.size := hb'.size
          refine hK.out _ _ (fun _ => h1) ?_
          clear hK K
          replace h0 := h1
          try simp only [Act.put, List.setIfInBounds_toArray, List.set_cons_zero, List.set_cons_succ]
          clear h1
          refine until_one (i := 8) rfl (by kernel_rfl) (fun K hK => ?_)
          go_simp
          have bX := belA w' (.cells #[.int .i64 ea, .int .i64 eb] 115)
          have h2 := And.intro ((bX.cell (p := ⟨g7, 0, none⟩) (cell_lt h0.1)).trans h0.1) (And.intro ((bX.cell (p := ⟨g1, 0, none⟩) (cell_lt h0.2.1)).trans h0.2.1) (And.intro ((bX.cell (p := ⟨g9, 0, none⟩) (cell_lt h0.2.2.1)).trans h0.2.2.1) (And.intro ((bX.cell (p := ⟨g9, 1, none⟩) (cell_lt h0.2.2.2.1)).trans h0.2.2.2.1) (And.intro ((bX.cell (p := ⟨g9, 2, none⟩) (cell_lt h0.2.2.2.2.1)).trans h0.2.2.2.2.1) (And.intro ((bX.cell (p := ⟨gx, 1, none⟩) (cell_lt h0.2.2.2.2.2.1)).trans h0.2.2.2.2.2.1) ((bX.cell (p := ⟨gx, 2, none⟩) (cell_lt h0.2.2.2.2.2.2)).trans h0.2.2.2.2.2.2))))))
          refine hK.out _ _ (fun _ => h2) ?_
          clear hK K
          replace h0 := h2
          try simp only [Act.put, List.setIfInBounds_toArray, List.set_cons_zero, List.set_cons_succ]
          clear h2 bX
          have ha := (HOW.out.below' hb').alloc (.cells #[.int .i64 ea, .int .i64 eb] 115)
          have hblk := heap_alloc_new w' (.cells #[.int .i64 ea, .int .i64 eb] 115)
          refine until_one (i := 9) rfl (by kernel_rfl) (fun K hK => ?_)
          refine step_append_blkW (by rfl) _ _ 104 (by rfl) (g7 + 1) 115 16 Try.underlying104 elemG (.slice LA l.length lc) l (by rfl) ha [(ea, eb)] w'.heap.size 1 1 (by rfl) (by rfl) 115 hblk (by simp only [Go.maxLen, List.length_cons, List.length_nil]; omega) (by simp only [List.length_cons, List.length_nil]; omega) (by simp; omega) ?_
          intro v5 w5 ho5 hg5
          obtain ⟨A5, c5, rfl⟩ := ho5.form
          generalize (l ++ [(ea, eb)]).length = LM at *
          have h3 := And.intro (hg5.cell h0.1 HN7.out) (And.intro (hg5.cell h0.2.1 HN1.out) (And.intro (hg5.cell h0.2.2.1 HN9.out) (And.intro (hg5.cell h0.2.2.2.1 HN9.out) (And.intro (hg5.cell h0.2.2.2.2.1 HN9.out) (And.intro (hg5.cell h0.2.2.2.2.2.1 HNX.out) (hg5.cell h0.2.2.2.2.2.2 HNX.out))))))
          have hk7 : w5.heap[g7]? = some (.cells #[.slice LA l.length lc] 104 (0, 0)) := (hg5.block g7 (by have := cell_lt h0.1; exact this) HN7.out).trans ((Below.heap_alloc _ _ _ (by omega)).trans ((hb'.block g7 z7).trans HK7.out))
          have jf : w5.frozen? ⟨g7, 0, none⟩ = false := (by simp [World.frozen?, hk7])
          clear hk7
          refine hK.out _ _ (fun _ => h3) ?_
          clear hK K
          replace h0 := h3
          try simp only [Act.put, List.setIfInBounds_toArray, List.set_cons_zero, List.set_cons_succ]
          have j7 := h0.1
          refine until_one (i := 10) rfl (by kernel_rfl) (fun K hK => ?_)
          go_simp
          refine hK.out _ _ (fun q => absurd rfl q) ?_
          clear hK K h0 h3 jf j7
          refine until_done (by kernel_rfl) ?_ _
          have hbb : Below wq.heap.size wq (w'.alloc (.cells #[.int .i64 ea, .int .i64 eb] 115)) := ((Below.refl _ wq).drew.trans hb').alloc zw' _
          have hpm := push_more (g7 := g7) (.slice A5 LM c5) hbb HQ9.out (by omega) hg5 HN9.out
          have hps := HSTQ.out.push hbb (by omega) HK7.out hg5 ho5
          have hz8 : w4.heap.size ≤ wq.heap.size := by omega
          go_wp2_with fail
          go_roundg (cf.length - (i + 1))
          case measure => omega
          case rel => exact ⟨i + 1, by omega, rfl, by go_num, by rw [HTI.out]; exact hps, hpm.1, Nat.le_trans hz8 hpm.2⟩
        · have HEQ := Lib.hid (show l0 ++ ((cf.take i).map fun x => entryG (r, f, t) s x.2.1 x.2.2) = l0 ++ cf.map fun x => entryG (r, f, t) s x.2.1 x.2.2 by rw [List.take_of_length_le (by omega)])
          have hl1 : (l0 ++ cf.map fun x => entryG (r, f, t) s x.2.1 x.2.2).length ≤ l0.length + cf.length := by rw [List.length_append, List.length_map]; omega
          rw [HEQ.out] at hst
          have HTK2 := Lib.hid (show (os.take (k + 1)).flatMap (gapsC cl ow ⟨st, os⟩ s) = (l0 ++ cf.map fun x => entryG (r, f, t) s x.2.1 x.2.2) ++ ((ow.filter fun w => decide (w.1 = r)).filter (oppB ⟨st, os⟩)).map fun w => entryG (r, f, t) s w.2.2.1 w.2.2.2 by
            rw [HTK.out, List.append_assoc, ← HCF.out]; rfl)
          clear HEQ
          generalize l0 ++ cf.map (fun x => entryG (r, f, t) s x.2.1 x.2.2) = l1 at *
          have hrun := fun n => (HWA.out (wr.drewN n) (below_drewN hst.bel n)).1
          have hrun0 := (HWA.out wr hst.bel).1
          obtain ⟨y0, y1, y2, y3, y4⟩ := (HPB.out wr hst.bel).cells
          have o0 : wr.cell? ⟨g9, 0, none⟩ = some (.int .i64 r) := by rw [cell_of_row wr _ 0 _ _ _ h9b]; rfl
          have HSTA := Lib.hid hst
          have HB9a := Lib.hid h9b
          clear hst h9b
          go_wp2_with fail
          go_quiet (fail)
          have hst4 := HSTA.out.below (below_drewN (Below.refl wr.heap.size wr) nq) (by omega)
          have HB5 := Lib.hid (show (wr.drewN nq).heap[g9]? = some (.cells #[.int .i64 r, .int .i64 f, .int .i64 t] 46 (0, 0)) from HB9a.out)
          have hz5 : w4.heap.size ≤ (wr.drewN nq).heap.size := hzz
          generalize wr.drewN nq = w5 at *
          have HST5 := Lib.hid hst4
          generalize hwf : ow.filter (fun x => decide (x.1 = r)) = wf at *
          have HWF := Lib.hid hwf
          clear hst4 hwf hrun hrun0 y0 y1 y2 y3 y4 o0
          go_wp2_with fail
          go_loopg [56] wf.length (fun g s56 wr => ∃ i : Nat, i ≤ wf.length ∧ g = wf.length - i ∧ s56 = .int .i64 i ∧ GSt w gz g1 g7 SA st.length sc (some ⟨b, off, none⟩) os.length oc s (l1 ++ ((wf.take i).filter (oppB ⟨st, os⟩)).map fun w => entryG (r, f, t) s w.2.2.1 w.2.2.2) wr ∧ wr.heap[g9]? = some (.cells #[.int .i64 r, .int .i64 f, .int .i64 t] 46 (0, 0)) ∧ w4.heap.size ≤ wr.heap.size)
          case atStart => exact ⟨0, by omega, by omega, rfl, by simpa using HST5.out, HB5.out, hz5⟩
          case round =>
            obtain ⟨i, hi, hg2, rfl, hst, h9b, hzz⟩ := hrel
            by_cases hlt2 : i < wf.length
            · obtain ⟨xb, xo, rfl, hxb, e0, e1, e2, e3⟩ := ((HWA.out wr hst.bel).2).owy i hlt2
              have HTI := Lib.hid (show l1 ++ (((wf.take (i + 1)).filter (oppB ⟨st, os⟩)).map fun w => entryG (r, f, t) s w.2.2.1 w.2.2.2) = (l1 ++ ((wf.take i).filter (oppB ⟨st, os⟩)).map fun w => entryG (r, f, t) s w.2.2.1 w.2.2.2) ++ (if oppB ⟨st, os⟩ wf[i] then [entryG (r, f, t) s wf[i].2.2.1 wf[i].2.2.2] else []) by
                rw [List.take_succ_eq_append_getElem hlt2, List.filter_append, List.map_append, ← List.append_assoc]
                congr 1
                rw [List.filter_cons]
                split <;> rfl)
              have hln : (l1 ++ ((wf.take i).filter (oppB ⟨st, os⟩)).map fun w => entryG (r, f, t) s w.2.2.1 w.2.2.2).length ≤ cl.length + ow.length := by
                rw [List.length_append, List.length_map]
                have h1 := List.length_filter_le (oppB ⟨st, os⟩) (wf.take i)
                rw [List.length_take] at h1; omega
              generalize (l1 ++ ((wf.take i).filter (oppB ⟨st, os⟩)).map fun w => entryG (r, f, t) s w.2.2.1 w.2.2.2) = l at *
              have ba := belA wr (.cells #[.int .i64 wf[i].1, .int .i64 wf[i].2.1, .int .i64 wf[i].2.2.1, .int .i64 wf[i].2.2.2] 70)
              have hblk := heap_alloc_new wr (.cells #[.int .i64 wf[i].1, .int .i64 wf[i].2.1, .int .i64 wf[i].2.2.1, .int .i64 wf[i].2.2.2] 70)
              generalize wf[i] = x at *
              obtain ⟨xr, xd, xf, xt⟩ := x
              simp only at e0 e1 e2 e3 ba hblk HTI
              have hstq := hst.below ba (by omega)
              have HQ9 := Lib.hid ((ba.block g9 (Array.getElem?_eq_some_iff.1 h9b).1).trans h9b)
              have HQX := Lib.hid hblk
              have j0' : (0 : Int) ≤ (i : Int) := by omega
              have j1' : (i : Int) < (wf.length : Int) := by omega
              have HEN := Lib.hid (fun V => entry_any (r, f, t) s xf xt V (by simp only; omega) hs0)
              have hzx : wr.heap.size < (wr.alloc (.cells #[.int .i64 xr, .int .i64 xd, .int .i64 xf, .int .i64 xt] 70)).heap.size := by simp
              clear ba hblk hst h9b
              go_upto_region 13 with fail
              generalize wr.alloc (.cells #[.int .i64 xr, .int .i64 xd, .int .i64 xf, .int .i64 xt] 70) = wq at *
              generalize wr.heap.size = gx at *
              have q0 : wq.cell? ⟨gz, 0, none⟩ = some (.slice SA st.length sc) := by rw [cell_of_row wq _ 0 _ _ _ hstq.bo]; rfl
              have q1 : wq.cell? ⟨gz, 1, none⟩ = some (.slice (some ⟨b, off, none⟩) os.length oc) := by rw [cell_of_row wq _ 1 _ _ _ hstq.bo]; rfl
              have q2 : wq.cell? ⟨gx, 0, none⟩ = some (.int .i64 xr) := by rw [cell_of_row wq _ 0 _ _ _ HQX.out]; rfl
              have q3 : wq.cell? ⟨gx, 1, none⟩ = some (.int .i64 xd) := by rw [cell_of_row wq _ 1 _ _ _ HQX.out]; rfl
              have q4 : wq.cell? ⟨gx, 2, none⟩ = some (.int .i64 xf) := by rw [cell_of_row wq _ 2 _ _ _ HQX.out]; rfl
              have q5 : wq.cell? ⟨gx, 3, none⟩ = some (.int .i64 xt) := by rw [cell_of_row wq _ 3 _ _ _ HQX.out]; rfl
              have HOPP := Lib.hid (opp_any SA sc st (some ⟨b, off, none⟩) os.length oc xr xd xf xt wq (HS.out.belowMore hstq.bel (by have := hstq.bel.size; omega)) hn)
              have HSTQ := Lib.hid hstq
              clear hstq e0 e1 e2 e3
              cases hop : st.any (oppS xr xd) with
              | false =>
                have HTN := Lib.hid (show oppB ⟨st, os⟩ (xr, xd, xf, xt) = false from hop)
                rw [hop] at HOPP
                rw [HTN.out, if_neg (by simp), List.append_nil] at HTI
                clear hop
                go_wp2_with (first | (go_at_call 36; (with_reducible refine HOPP.out.mono ?_); rintro e w6 ⟨rfl, hb6⟩))
                go_roundg (wf.length - (i + 1))
                case measure => omega
                case rel => exact ⟨i + 1, by omega, rfl, by go_num, by rw [HTI.out]; exact HSTQ.out.below hb6 (by have := HSTQ.out.bel.size; omega), (hb6.block g9 (Array.getElem?_eq_some_iff.1 HQ9.out).1).trans HQ9.out, by have := hb6.size; omega⟩
              | true =>
                have HTY := Lib.hid (show oppB ⟨st, os⟩ (xr, xd, xf, xt) = true from hop)
                rw [hop] at HOPP
                rw [HTY.out, if_pos rfl] at HTI
                clear hop
                go_upto_region 14 with (first | (go_at_call 36; (with_reducible refine HOPP.out.mono ?_); rintro e w6 ⟨rfl, hb6⟩))
                have hstq := HSTQ.out.below hb6 (by have := HSTQ.out.bel.size; omega)
                have zq := hb6.size
                have HQ9' := Lib.hid ((hb6.block g9 (Array.getElem?_eq_some_iff.1 HQ9.out).1).trans HQ9.out)
                have HQX' := Lib.hid ((hb6.block gx (Array.getElem?_eq_some_iff.1 HQX.out).1).trans HQX.out)
                have hzy : gx < w6.heap.size := by omega
                have hzz6 : wq.heap.size ≤ w6.heap.size := zq
                clear q0 q1 q2 q3 q4 q5 HSTQ HQ9 HQX HOPP hb6 zq
                have HQ9 := HQ9'
                have HQX := HQX'
                have hz6 : w4.heap.size ≤ w6.heap.size := by omega
                clear HQ9' HQX'
                generalize entryG (r, f, t) s xf xt = eg at *
                obtain ⟨ea, eb⟩ := eg
                simp only at HEN
                clear hzx hzz6
                obtain ⟨wq, rfl⟩ : ∃ W : World, W = w6 := ⟨_, rfl⟩
                have k4 : wq.drew.cell? ⟨gx, 2, none⟩ = some (.int .i64 xf) := by show wq.cell? _ = _; rw [cell_of_row wq _ 2 _ _ _ HQX.out]; rfl
                have k5 : wq.drew.cell? ⟨gx, 3, none⟩ = some (.int .i64 xt) := by show wq.cell? _ = _; rw [cell_of_row wq _ 3 _ _ _ HQX.out]; rfl
                obtain ⟨LA, lc, hk7, how⟩ := hstq.bl
                have HK7 := Lib.hid hk7
                have HOW := Lib.hid (show OwnG wq.drew (g7 + 1) (.slice LA l.length lc) l from how.drew)
                have HN1 : Hid (some g1 ≠ (Value.slice LA l.length lc).ownBlock) := fun e => own_ne_block how hstq.bs (by decide) e.symm
                have HN9 : Hid (some g9 ≠ (Value.slice LA l.length lc).ownBlock) := fun e => own_ne_block how HQ9.out (by decide) e.symm
                have HNX : Hid (some gx ≠ (Value.slice LA l.length lc).ownBlock) := fun e => own_ne_block how HQX.out (by decide) e.symm
                have HN7 : Hid (some g7 ≠ (Value.slice LA l.length lc).ownBlock) := fun e => own_ne_block how hk7 (by decide) e.symm
                have k0 : wq.drew.cell? ⟨g1, 0, none⟩ = some (.int .i64 s) := by show wq.cell? _ = _; rw [cell_of_row wq _ 0 _ _ _ hstq.bs]; rfl
                have k1 : wq.drew.cell? ⟨g9, 0, none⟩ = some (.int .i64 r) := by show wq.cell? _ = _; rw [cell_of_row wq _ 0 _ _ _ HQ9.out]; rfl
                have k2 : wq.drew.cell? ⟨g9, 1, none⟩ = some (.int .i64 f) := by show wq.cell? _ = _; rw [cell_of_row wq _ 1 _ _ _ HQ9.out]; rfl
                have k3 : wq.drew.cell? ⟨g9, 2, none⟩ = some (.int .i64 t) := by show wq.cell? _ = _; rw [cell_of_row wq _ 2 _ _ _ HQ9.out]; rfl
                have k7 : wq.drew.cell? ⟨g7, 0, none⟩ = some (.slice LA l.length lc) := by show wq.cell? _ = _; rw [cell_of_row wq _ 0 _ _ _ hk7]; rfl
                have HSTQ := Lib.hid hstq
                have z7 : g7 < wq.heap.size := (Array.getElem?_eq_some_iff.1 hk7).1
                have z9 : g9 < wq.heap.size := (Array.getElem?_eq_some_iff.1 HQ9.out).1
                clear hstq hk7 how
                refine wp_region_until (S := fun w' => w'.cell? ⟨g7, 0, none⟩ = some (.slice LA l.length lc) ∧ w'.cell? ⟨g1, 0, none⟩ = some (.int .i64 s) ∧ w'.cell? ⟨g9, 0, none⟩ = some (.int .i64 r) ∧ w'.cell? ⟨g9, 1, none⟩ = some (.int .i64 f) ∧ w'.cell? ⟨g9, 2, none⟩ = some (.int .i64 t) ∧ w'.cell? ⟨gx, 2, none⟩ = some (.int .i64 xf) ∧ w'.cell? ⟨gx, 3, none⟩ = some (.int .i64 xt)) 10 (by kernel_rfl) ?_
                have h0 := And.intro k7 (And.intro k0 (And.intro k1 (And.intro k2 (And.intro k3 (And.intro k4 k5)))))
                clear k0 k1 k2 k3 k4 k5 k7
                refine until_take (i := 0) (v := ?_) rfl (by kernel_rfl) (by kernel_rfl) (by kernel_rfl) (by kernel_rfl) (fun _ _ _ h => h) (Or.inl ⟨by rfl, ?_⟩) h0 ?_
                rotate_left
                · intro u hSu
                  (try dsimp only at hSu)
                  go_simp
                  try rfl
                simp only [Act.put, List.setIfInBounds_toArray, List.set_cons_zero, List.set_cons_succ]
                refine until_take (i := 1) (v := ?_) rfl (by kernel_rfl) (by kernel_rfl) (by kernel_rfl) (by kernel_rfl) (fun _ _ _ h => h) (Or.inl ⟨by rfl, ?_⟩) h0 ?_
                rotate_left
                · intro u hSu
                  (try dsimp only at hSu)
                  go_simp
                  try rfl
                simp only [Act.put, List.setIfInBounds_toArray, List.set_cons_zero, List.set_cons_succ]
                refine until_take (i := 2) (v := ?_) rfl (by kernel_rfl) (by kernel_rfl) (by kernel_rfl) (by kernel_rfl) (fun _ _ _ h => h) (Or.inl ⟨by rfl, ?_⟩) h0 ?_
                rotate_left
                · intro u hSu
                  (try dsimp only at hSu)
                  go_simp
                  try rfl
                simp only [Act.put, List.setIfInBounds_toArray, List.set_cons_zero, List.set_cons_succ]
                refine until_take (i := 3) (v := ?_) rfl (by kernel_rfl) (by kernel_rfl) (by kernel_rfl) (by kernel_rfl) (fun _ _ _ h => h) (Or.inl ⟨by rfl, ?_⟩) h0 ?_
                rotate_left
                · intro u hSu
                  (try dsimp only at hSu)
                  go_simp
                  try rfl
                simp only [Act.put, List.setIfInBounds_toArray, List.set_cons_zero, List.set_cons_succ]
                refine until_take (i := 4) (v := ?_) rfl (by kernel_rfl) (by kernel_rfl) (by kernel_rfl) (by kernel_rfl) (fun _ _ _ h => h) (Or.inl ⟨by rfl, ?_⟩) h0 ?_
                rotate_left
                · intro u hSu
                  (try dsimp only at hSu)
                  go_simp
                  try rfl
                simp only [Act.put, List.setIfInBounds_toArray, List.set_cons_zero, List.set_cons_succ]
                refine until_take (i := 5) (v := ?_) rfl (by kernel_rfl) (by kernel_rfl) (by kernel_rfl) (by kernel_rfl) (fun _ _ _ h => h) (Or.inl ⟨by rfl, ?_⟩) h0 ?_
                rotate_left
                · intro u hSu
                  (try dsimp only at hSu)
                  go_simp
                  try rfl
                simp only [Act.put, List.setIfInBounds_toArray, List.set_cons_zero, List.set_cons_succ]
                refine until_take (i := 6) (v := ?_) rfl (by kernel_rfl) (by kernel_rfl) (by kernel_rfl) (by kernel_rfl) (fun _ _ _ h => h) (Or.inl ⟨by rfl, ?_⟩) h0 ?_
                rotate_left
                · intro u hSu
                  (try dsimp only at hSu)
                  go_simp
                  try rfl
                simp only [Act.put, List.setIfInBounds_toArray, List.set_cons_zero, List.set_cons_succ]
                refine until_one (i := 7) rfl (by kernel_rfl) (fun K hK => ?_)
                go_simp
                refine (HEN.out _).mono ?_
                rintro e w' ⟨rfl, hb'⟩
                have h1 := And.intro ((hb'.cell (p := ⟨g7, 0, none⟩) (cell_lt h0.1)).trans h0.1) (And.intro ((hb'.cell (p := ⟨g1, 0, none⟩) (cell_lt h0.2.1)).trans h0.2.1) (And.intro ((hb'.cell (p := ⟨g9, 0, none⟩) (cell_lt h0.2.2.1)).trans h0.2.2.1) (And.intro ((hb'.cell (p := ⟨g9, 1, none⟩) (cell_lt h0.2.2.2.1)).trans h0.2.2.2.1) (And.intro ((hb'.cell (p := ⟨g9, 2, none⟩) (cell_lt h0.2.2.2.2.1)).trans h0.2.2.2.2.1) (And.intro ((hb'.cell (p := ⟨gx, 2, none⟩) (cell_lt h0.2.2.2.2.2.1)).trans h0.2.2.2.2.2.1) ((hb'.cell (p := ⟨gx, 3, none⟩) (cell_lt h0.2.2.2.2.2.2)).trans h0.2.2.2.2.2.2))))))
                have zw' : wq.heap.size ≤ w'.heap.size := hb'.size
                refine hK.out _ _ (fun _ => h1) ?_
                clear hK K
                replace h0 := h1
                try simp only [Act.put, List.setIfInBounds_toArray, List.set_cons_zero, List.set_cons_succ]
                clear h1
                refine until_one (i := 8) rfl (by kernel_rfl) (fun K hK => ?_)
                go_simp
                have bX := belA w' (.cells #[.int .i64 ea, .int .i64 eb] 115)
                have h2 := And.intro ((bX.cell (p := ⟨g7, 0, none⟩) (cell_lt h0.1)).trans h0.1) (And.intro ((bX.cell (p := ⟨g1, 0, none⟩) (cell_lt h0.2.1)).trans h0.2.1) (And.intro ((bX.cell (p := ⟨g9, 0, none⟩) (cell_lt h0.2.2.1)).trans h0.2.2.1) (And.intro ((bX.cell (p := ⟨g9, 1, none⟩) (cell_lt h0.2.2.2.1)).trans h0.2.2.2.1) (And.intro ((bX.cell (p := ⟨g9, 2, none⟩) (cell_lt h0.2.2.2.2.1)).trans h0.2.2.2.2.1) (And.intro ((bX.cell (p := ⟨gx, 2, none⟩) (cell_lt h0.2.2.2.2.2.1)).trans h0.2.2.2.2.2.1) ((bX.cell (p := ⟨gx, 3, none⟩) (cell_lt h0.2.2.2.2.2.2)).trans h0.2.2.2.2.2.2))))))
                refine hK.out _ _ (fun _ => h2) ?_
                clear hK K
                replace h0 := h2
                try simp only [Act.put, List.setIfInBounds_toArray, List.set_cons_zero, List.set_cons_succ]
                clear h2 bX
                have ha := (HOW.out.below' hb').alloc (.cells #[.int .i64 ea, .int .i64 eb] 115)
                have hblk := heap_alloc_new w' (.cells #[.int .i64 ea, .int .i64 eb] 115)
                refine until_one (i := 9) rfl (by kernel_rfl) (fun K hK => ?_)
                refine step_append_blkW (by rfl) _ _ 104 (by rfl) (g7 + 1) 115 16 Try.underlying104 elemG (.slice LA l.length lc) l (by rfl) ha [(ea, eb)] w'.heap.size 1 1 (by rfl) (by rfl) 115 hblk (by simp only [Go.maxLen, List.length_cons, List.length_nil]; omega) (by simp only [List.length_cons, List.length_nil]; omega) (by simp; omega) ?_
                intro v5 w5 ho5 hg5
                obtain ⟨A5, c5, rfl⟩ := ho5.form
                generalize (l ++ [(ea, eb)]).length = LM at *
                have h3 := And.intro (hg5.cell h0.1 HN7.out) (And.intro (hg5.cell h0.2.1 HN1.out) (And.intro (hg5.cell h0.2.2.1 HN9.out) (And.intro (hg5.cell h0.2.2.2.1 HN9.out) (And.intro (hg5.cell h0.2.2.2.2.1 HN9.out) (And.intro (hg5.cell h0.2.2.2.2.2.1 HNX.out) (hg5.cell h0.2.2.2.2.2.2 HNX.out))))))
                have hk7 : w5.heap[g7]? = some (.cells #[.slice LA l.length lc] 104 (0, 0)) := (hg5.block g7 (by have := cell_lt h0.1; exact this) HN7.out).trans ((Below.heap_alloc _ _ _ (by omega)).trans ((hb'.block g7 z7).trans HK7.out))
                have jf : w5.frozen? ⟨g7, 0, none⟩ = false := (by simp [World.frozen?, hk7])
                clear hk7
                refine hK.out _ _ (fun _ => h3) ?_
                clear hK K
                replace h0 := h3
                try simp only [Act.put, List.setIfInBounds_toArray, List.set_cons_zero, List.set_cons_succ]
                have j7 := h0.1
                refine until_one (i := 10) rfl (by kernel_rfl) (fun K hK => ?_)
                go_simp
                refine hK.out _ _ (fun q => absurd rfl q) ?_
                clear hK K h0 h3 jf j7
                refine until_done (by kernel_rfl) ?_ _
                have hbb : Below wq.heap.size wq (w'.alloc (.cells #[.int .i64 ea, .int .i64 eb] 115)) := ((Below.refl _ wq).drew.trans hb').alloc zw' _
                have hpm := push_more (g7 := g7) (.slice A5 LM c5) hbb HQ9.out (by omega) hg5 HN9.out
                have hps := HSTQ.out.push hbb (by omega) HK7.out hg5 ho5
                have hz8 : w4.heap.size ≤ wq.heap.size := by omega
                go_wp2_with fail
                go_roundg (wf.length - (i + 1))
                case measure => omega
                case rel => exact ⟨i + 1, by omega, rfl, by go_num, by rw [HTI.out]; exact hps, hpm.1, Nat.le_trans hz8 hpm.2⟩
            · have HEQ := Lib.hid (show (os.take (k + 1)).flatMap (gapsC cl ow ⟨st, os⟩ s) = l1 ++ ((wf.take i).filter (oppB ⟨st, os⟩)).map fun w => entryG (r, f, t) s w.2.2.1 w.2.2.2 by
                rw [HTK2.out, List.take_of_length_le (by omega)])
              have HST := Lib.hid hst
              clear hst h9b
              go_wp2_with fail
              go_roundg (os.length - (k + 1))
              case measure => omega
              case rel => exact ⟨k + 1, by omega, rfl, by go_num, by rw [HEQ.out]; exact HST.out, by omega⟩
    · have HE0 : Hid (GSt w gz g1 g7 SA st.length sc OA os.length oc s (os.flatMap (gapsC cl ow ⟨st, os⟩ s)) wr) := by
        have h := hst; rw [List.take_of_length_le (by omega)] at h; exact h
      obtain ⟨y0, y1, y2, y3, y4⟩ := (HPB.out wr hst.bel).cells
      have HC0 := Lib.hid (show (os.flatMap (gapsC cl ow ⟨st, os⟩ s)).length ≤ cl.length + ow.length from flatC_len cl ow ⟨st, os⟩ s (validOp_iff.1 HV.out).2.2.1)
      clear hst
      generalize hl0 : os.flatMap (gapsC cl ow ⟨st, os⟩ s) = l0 at *
      have HL0 := Lib.hid hl0
      clear hl0
      go_wp2_with fail
      refine wp_loop_ghost_k (fun g a W => ∃ v14 v15 v16 v17 v80 v81 v82 v83 v84 v85 v86 v87 v88 v89 v90 v91 v92 v93 v94 v95 v96 v97 v98 v99 v100 v101 v102 v103 v104 v105 v106 v107 v108 v109 v110 v111 v112 v113 v114 v115 v116 v117 v118 v119 v120 v121 v122 v123 v124 v125 v126 v127 v128 v129 v130 v131 v132 v133 v134 v135 : Value, ∃ ds : List Deferred, (∃ (k4 : Nat) (Ds : List Nat), k4 ≤ ch.length ∧ g = ch.length - k4 ∧ v80 = .int .i64 k4 ∧ ds = Ds.map mkD ∧ Mks (g7 + 1) Ds W ∧ GSt w gz g1 g7 SA st.length sc OA os.length oc s (l0 ++ gapsK (L.map JobM.p) ch ⟨st, os⟩ s k4) W) ∧ a = { tmps := #[.pointer (some ⟨gp, 0, none⟩), .agg #[.slice SA st.length sc, .slice OA os.length oc], .int .i64 s, undef, .pointer (some ⟨gz, 0, none⟩), .pointer (some ⟨g1, 0, none⟩), .slice none 0 0, .pointer (some ⟨g7, 0, none⟩), undef, u9, undef, u11, undef, u13, v14, v15, v16, v17, .pointer (some ⟨gz, 1, none⟩), .slice OA os.length oc, .int .i64 os.length, .int .i64 k, .bool false, u23, u24, u25, u26, u27, u28, u29, u30, u31, u32, u33, u34, u35, u36, u37, u38, u39, u40, u41, u42, u43, u44, u45, u46, u47, u48, u49, u50, u51, u52, u53, u54, u55, u56, u57, u58, u59, u60, u61, u62, u63, u64, u65, u66, u67, u68, u69, u70, u71, u72, u73, u74, .pointer (some ⟨gp, 0, none⟩), .pointer (some ⟨gp, 0, none⟩), .pointer (some ⟨gp, 3, none⟩), .slice KA ch.length kc, .int .i64 ch.length, v80, v81, v82, v83, v84, v85, v86, v87, v88, v89, v90, v91, v92, v93, v94, v95, v96, v97, v98, v99, v100, v101, v102, v103, v104, v105, v106, v107, v108, v109, v110, v111, v112, v113, v114, v115, v116, v117, v118, v119, v120, v121, v122, v123, v124, v125, v126, v127, v128, v129, v130, v131, v132, v133, v134, v135, undef], defers := ds }) ch.length ?atStart ?round
      case atStart =>
        (repeat apply Exists.intro)
        exact ⟨⟨0, [], by omega, by omega, rfl, rfl, Mks.nil _ _, by simpa [gapsK] using HE0.out⟩, rfl⟩
      case round =>
        intro gk _ W4 hinv
        obtain ⟨v14, hinv⟩ := hinv
        obtain ⟨v15, hinv⟩ := hinv
        obtain ⟨v16, hinv⟩ := hinv
        obtain ⟨v17, hinv⟩ := hinv
        obtain ⟨v80, hinv⟩ := hinv
        obtain ⟨v81, hinv⟩ := hinv
        obtain ⟨v82, hinv⟩ := hinv
        obtain ⟨v83, hinv⟩ := hinv
        obtain ⟨v84, hinv⟩ := hinv
        obtain ⟨v85, hinv⟩ := hinv
        obtain ⟨v86, hinv⟩ := hinv
        obtain ⟨v87, hinv⟩ := hinv
        obtain ⟨v88, hinv⟩ := hinv
        obtain ⟨v89, hinv⟩ := hinv
        obtain ⟨v90, hinv⟩ := hinv
        obtain ⟨v91, hinv⟩ := hinv
        obtain ⟨v92, hinv⟩ := hinv
        obtain ⟨v93, hinv⟩ := hinv
        obtain ⟨v94, hinv⟩ := hinv
        obtain ⟨v95, hinv⟩ := hinv
        obtain ⟨v96, hinv⟩ := hinv
        obtain ⟨v97, hinv⟩ := hinv
        obtain ⟨v98, hinv⟩ := hinv
        obtain ⟨v99, hinv⟩ := hinv
        obtain ⟨v100, hinv⟩ := hinv
        obtain ⟨v101, hinv⟩ := hinv
        obtain ⟨v102, hinv⟩ := hinv
        obtain ⟨v103, hinv⟩ := hinv
        obtain ⟨v104, hinv⟩ := hinv
        obtain ⟨v105, hinv⟩ := hinv
        obtain ⟨v106, hinv⟩ := hinv
        obtain ⟨v107, hinv⟩ := hinv
        obtain ⟨v108, hinv⟩ := hinv
        obtain ⟨v109, hinv⟩ := hinv
        obtain ⟨v110, hinv⟩ := hinv
        obtain ⟨v111, hinv⟩ := hinv
        obtain ⟨v112, hinv⟩ := hinv
        obtain ⟨v113, hinv⟩ := hinv
        obtain ⟨v114, hinv⟩ := hinv
        obtain ⟨v115, hinv⟩ := hinv
        obtain ⟨v116, hinv⟩ := hinv
        obtain ⟨v117, hinv⟩ := hinv
        obtain ⟨v118, hinv⟩ := hinv
        obtain ⟨v119, hinv⟩ := hinv
        obtain ⟨v120, hinv⟩ := hinv
        obtain ⟨v121, hinv⟩ := hinv
        obtain ⟨v122, hinv⟩ := hinv
        obtain ⟨v123, hinv⟩ := hinv
        obtain ⟨v124, hinv⟩ := hinv
        obtain ⟨v125, hinv⟩ := hinv
        obtain ⟨v126, hinv⟩ := hinv
        obtain ⟨v127, hinv⟩ := hinv
        obtain ⟨v128, hinv⟩ := hinv
        obtain ⟨v129, hinv⟩ := hinv
        obtain ⟨v130, hinv⟩ := hinv
        obtain ⟨v131, hinv⟩ := hinv
        obtain ⟨v132, hinv⟩ := hinv
        obtain ⟨v133, hinv⟩ := hinv
        obtain ⟨v134, hinv⟩ := hinv
        obtain ⟨v135, hinv⟩ := hinv
        obtain ⟨ds, hinv⟩ := hinv
        obtain ⟨hrel, ha⟩ := hinv
        subst ha
        try dsimp only
        obtain ⟨k4, Ds, hk4, hg4, rfl, rfl, hmk, hst⟩ := hrel
        intro _ _ _ _
        have HMK := Lib.hid hmk
        have hpl := HPB.out W4 hst.bel
        clear hmk
        by_cases hlt4 : k4 < ch.length
        · obtain ⟨kb, ko, rfl, hkb, d0, d1⟩ := hpl.cho.cho k4 hlt4
          have HGS := Lib.hid (gapsK_succ (L.map JobM.p) ch ⟨st, os⟩ s k4)
          have hdd : ch.getD k4 (0, 0) = ch[k4] := by rw [List.getD_eq_getElem?_getD, List.getElem?_eq_getElem hlt4]; rfl
          rw [hdd] at HGS
          have hLc := HCH.out.le
          have hat := HCH.out.at_ k4 hlt4 (by omega)
          clear hdd
          generalize ch[k4] = cd at *
          obtain ⟨co, cy⟩ := cd
          simp only at d0 d1 hat
          have hbd := belA W4 (.cells #[.int .i64 co, .int .i64 cy] 55)
          have hbk := heap_alloc_new W4 (.cells #[.int .i64 co, .int .i64 cy] 55)
          have hst5 := hst.below hbd (by have := hst.bel.size; omega)
          have HMK5 := Lib.hid (HMK.out.keeps ((KeepsOthers.alloc W4 (.cells #[.int .i64 co, .int .i64 cy] 55)).from _))
          have i0 : (0 : Int) ≤ (k4 : Int) := by omega
          have i1 : (k4 : Int) < (ch.length : Int) := by omega
          have i2 : (k4 : Int) < (L.length : Int) := by omega
          have hzz : g7 < W4.heap.size := (Array.getElem?_eq_some_iff.1 hst.bl.choose_spec.choose_spec.1).1
          have hzd : W4.heap.size < (W4.alloc (.cells #[.int .i64 co, .int .i64 cy] 55)).heap.size := by simp
          clear hpl hst
          by_cases hneg : co < 0
          · have HGE := Lib.hid (show gapsK (L.map JobM.p) ch ⟨st, os⟩ s (k4 + 1) = gapsK (L.map JobM.p) ch ⟨st, os⟩ s k4 by
              rw [HGS.out]; unfold gapsO; rw [if_pos hneg, List.append_nil])
            have HST5 := Lib.hid hst5
            clear hst5 hbd hbk hat
            go_wp2_with fail
            go_roundg (ch.length - (k4 + 1))
            case measure => omega
            case rel => exact ⟨k4 + 1, Ds, by omega, rfl, by go_num, rfl, HMK5.out, by rw [HGE.out]; exact HST5.out⟩
          · obtain ⟨kk, hkk, rfl, hvo, hy0, hy1⟩ := hat.resolve_left hneg
            have HGE := Lib.hid (show gapsK (L.map JobM.p) ch ⟨st, os⟩ s (k4 + 1) = gapsK (L.map JobM.p) ch ⟨st, os⟩ s k4 ++ (pairsO os (L[k4].opts[kk]).occs).map fun p => gapM p.1 p.2 s cy by
              rw [HGS.out]; unfold gapsO; rw [if_neg hneg]
              have e1 : ((L.map JobM.p).getD k4 ⟨0, []⟩) = L[k4].p := by rw [List.getD_eq_getElem?_getD, List.getElem?_map, List.getElem?_eq_getElem (by omega)]; rfl
              have e2 : (L[k4].p).opts.getD (kk : Int).toNat ⟨[], []⟩ = (L[k4].opts[kk]).p := by
                rw [Int.toNat_natCast, List.getD_eq_getElem?_getD]; show ((L[k4].opts.map OptM.p)[kk]?).getD _ = _
                rw [List.getElem?_map, List.getElem?_eq_getElem hkk]; rfl
              rw [e1, e2]; rfl)
            have hpl5 := HPB.out _ hst5.bel
            obtain ⟨jb, jo, rfl, hjb, a0, a1⟩ := hpl5.jobs.lst.job k4 (by omega)
            have hJ := hpl5.jobs.at_ L[k4] (List.getElem_mem _)
            obtain ⟨ob, oo, hoA, hob, p0, p1⟩ := hJ.ol.opt kk hkk
            have hO := hJ.at_ L[k4].opts[kk] (List.getElem_mem _)
            obtain ⟨x0, x1, x2, x3, x4⟩ := hpl5.cells
            have HPW := Lib.hid ((HPB.out w (Below.refl _ _)).jobs.at_ L[k4] (List.getElem_mem _) |>.at_ L[k4].opts[kk] (List.getElem_mem _))
            have hjn := hJ.jn
            have hosn := hO.on
            have hsn := hO.sn
            have hom := hO.om
            rw [hoA] at a1
            rw [hjn] at a1
            rw [hsn] at p0
            rw [hosn] at p1
            have hvk := (validOp_iff.1 hvo).2.2.1
            change validO (-1) (L[k4].opts[kk]).occs = true at hvk
            have hcl144 : (L[k4].opts[kk]).occs.length ≤ 144 := (validOp_iff.1 hvo).2.1
            have HVK := Lib.hid hvk
            clear hpl5 hJ hO hjn hosn hsn hoA hvo hvk hat
            generalize L[k4].jv.c = jvc at *
            generalize L[k4].opts[kk] = op at *
            generalize hno : L[k4].opts.length = no at *
            obtain ⟨ost, oos, ⟨sA, sn, scp⟩, ⟨oA, on, ocp⟩⟩ := op
            simp only at p0 p1 hom hcl144 HGE HPW HVK
            have HYB := Lib.hid (And.intro hy0 (And.intro hy1 (And.intro hom hcl144)))
            have j0 : (0 : Int) ≤ (kk : Int) := by omega
            have j1 : (kk : Int) < (no : Int) := by omega
            have hng : decide ((kk : Int) < 0) = false := decide_eq_false hneg
            clear hno hneg a0 x1 x2 x3 hy0 hy1 hom hcl144
            go_upto_region 21 with fail
            have HBK := Lib.hid hbk
            have HST5 := Lib.hid hst5
            have z5 := hst5.bel.size
            have d5 : (W4.alloc (.cells #[.int .i64 kk, .int .i64 cy] 55)).cell? ⟨W4.heap.size, 0, none⟩ = some (.int .i64 kk) := by rw [cell_of_row _ _ 0 _ _ _ hbk]; rfl
            clear hbk hst5 hbd x4 d0 d1
            generalize W4.alloc (.cells #[.int .i64 kk, .int .i64 cy] 55) = W5 at *
            generalize hgd : W4.heap.size = gd at *
            have HGD := Lib.hid hgd
            clear hgd
            refine wp_region_until (S := fun w' => w'.cell? ⟨gp, 0, none⟩ = some (.slice (some ⟨jb, jo, none⟩) L.length jc) ∧ w'.cell? ⟨jb, jo + k4 * 2 + 1, none⟩ = some (.slice (some ⟨ob, oo, none⟩) no jvc) ∧ w'.cell? ⟨gd, 0, none⟩ = some (.int .i64 kk) ∧ w'.cell? ⟨ob, oo + kk * 2, none⟩ = some (.slice sA ost.length scp) ∧ w'.cell? ⟨ob, oo + kk * 2 + 1, none⟩ = some (.slice oA oos.length ocp)) 13 (by kernel_rfl) ?_
            have h0 := show W5.drew.cell? ⟨gp, 0, none⟩ = _ ∧ W5.drew.cell? ⟨jb, jo + k4 * 2 + 1, none⟩ = _ ∧ W5.drew.cell? ⟨gd, 0, none⟩ = _ ∧ W5.drew.cell? ⟨ob, oo + kk * 2, none⟩ = _ ∧ W5.drew.cell? ⟨ob, oo + kk * 2 + 1, none⟩ = _ from And.intro x0 (And.intro a1 (And.intro d5 (And.intro p0 p1)))
            clear x0 a1 d5 p0 p1
            refine until_take (i := 0) (v := ?_) rfl (by kernel_rfl) (by kernel_rfl) (by kernel_rfl) (by kernel_rfl) (fun _ _ _ h => h) (Or.inl ⟨by rfl, ?_⟩) h0 ?_
            rotate_left
            · intro u hSu
              (try dsimp only at hSu)
              go_simp
              try rfl
            simp only [Act.put, List.setIfInBounds_toArray, List.set_cons_zero, List.set_cons_succ]
            refine until_take (i := 1) (v := ?_) rfl (by kernel_rfl) (by kernel_rfl) (by kernel_rfl) (by kernel_rfl) (fun _ _ _ h => h) (Or.inl ⟨by rfl, ?_⟩) h0 ?_
            rotate_left
            · intro u hSu
              (try dsimp only at hSu)
              go_simp
              try rfl
            simp only [Act.put, List.setIfInBounds_toArray, List.set_cons_zero, List.set_cons_succ]
            refine until_take (i := 2) (v := ?_) rfl (by kernel_rfl) (by kernel_rfl) (by kernel_rfl) (by kernel_rfl) (fun _ _ _ h => h) (Or.inl ⟨by rfl, ?_⟩) h0 ?_
            rotate_left
            · intro u hSu
              (try dsimp only at hSu)
              go_simp
              try rfl
            simp only [Act.put, List.setIfInBounds_toArray, List.set_cons_zero, List.set_cons_succ]
            refine until_take (i := 3) (v := ?_) rfl (by kernel_rfl) (by kernel_rfl) (by kernel_rfl) (by kernel_rfl) (fun _ _ _ h => h) (Or.inl ⟨by rfl, ?_⟩) h0 ?_
            rotate_left
            · intro u hSu
              (try dsimp only at hSu)
              go_simp
              try rfl
            simp only [Act.put, List.setIfInBounds_toArray, List.set_cons_zero, List.set_cons_succ]
            refine until_take (i := 4) (v := ?_) rfl (by kernel_rfl) (by kernel_rfl) (by kernel_rfl) (by kernel_rfl) (fun _ _ _ h => h) (Or.inl ⟨by rfl, ?_⟩) h0 ?_
            rotate_left
            · intro u hSu
              (try dsimp only at hSu)
              go_simp
              try rfl
            simp only [Act.put, List.setIfInBounds_toArray, List.set_cons_zero, List.set_cons_succ]
            refine until_take (i := 5) (v := ?_) rfl (by kernel_rfl) (by kernel_rfl) (by kernel_rfl) (by kernel_rfl) (fun _ _ _ h => h) (Or.inl ⟨by rfl, ?_⟩) h0 ?_
            rotate_left
            · intro u hSu
              (try dsimp only at hSu)
              go_simp
              try rfl
            simp only [Act.put, List.setIfInBounds_toArray, List.set_cons_zero, List.set_cons_succ]
            refine until_take (i := 6) (v := ?_) rfl (by kernel_rfl) (by kernel_rfl) (by kernel_rfl) (by kernel_rfl) (fun _ _ _ h => h) (Or.inl ⟨by rfl, ?_⟩) h0 ?_
            rotate_left
            · intro u hSu
              (try dsimp only at hSu)
              go_simp
              try rfl
            simp only [Act.put, List.setIfInBounds_toArray, List.set_cons_zero, List.set_cons_succ]
            refine until_take (i := 7) (v := ?_) rfl (by kernel_rfl) (by kernel_rfl) (by kernel_rfl) (by kernel_rfl) (fun _ _ _ h => h) (Or.inl ⟨by rfl, ?_⟩) h0 ?_
            rotate_left
            · intro u hSu
              (try dsimp only at hSu)
              go_simp
              try rfl
            simp only [Act.put, List.setIfInBounds_toArray, List.set_cons_zero, List.set_cons_succ]
            refine until_take (i := 8) (v := ?_) rfl (by kernel_rfl) (by kernel_rfl) (by kernel_rfl) (by kernel_rfl) (fun _ _ _ h => h) (Or.inl ⟨by rfl, ?_⟩) h0 ?_
            rotate_left
            · intro u hSu
              (try dsimp only at hSu)
              go_simp
              try rfl
            simp only [Act.put, List.setIfInBounds_toArray, List.set_cons_zero, List.set_cons_succ]
            refine until_take (i := 9) (v := ?_) rfl (by kernel_rfl) (by kernel_rfl) (by kernel_rfl) (by kernel_rfl) (fun _ _ _ h => h) (Or.inl ⟨by rfl, ?_⟩) h0 ?_
            rotate_left
            · intro u hSu
              (try dsimp only at hSu)
              go_simp
              try rfl
            simp only [Act.put, List.setIfInBounds_toArray, List.set_cons_zero, List.set_cons_succ]
            refine until_take (i := 10) (v := ?_) rfl (by kernel_rfl) (by kernel_rfl) (by kernel_rfl) (by kernel_rfl) (fun _ _ _ h => h) (Or.inl ⟨by rfl, ?_⟩) h0 ?_
            rotate_left
            · intro u hSu
              (try dsimp only at hSu)
              go_simp
              try rfl
            simp only [Act.put, List.setIfInBounds_toArray, List.set_cons_zero, List.set_cons_succ]
            refine until_take (i := 11) (v := ?_) rfl (by kernel_rfl) (by kernel_rfl) (by kernel_rfl) (by kernel_rfl) (fun _ _ _ h => h) (Or.inl ⟨by rfl, ?_⟩) h0 ?_
            rotate_left
            · intro u hSu
              (try dsimp only at hSu)
              go_simp
              try rfl
            simp only [Act.put, List.setIfInBounds_toArray, List.set_cons_zero, List.set_cons_succ]
            refine until_one (i := 12) rfl (by kernel_rfl) (fun K hK => ?_)
            go_simp
            have bX := belA W5.drew (.cells #[.slice none 0 0, .slice none 0 0] 28)
            have h1 := And.intro ((bX.cell (p := ⟨gp, 0, none⟩) (cell_lt h0.1)).trans h0.1) (And.intro ((bX.cell (p := ⟨jb, jo + k4 * 2 + 1, none⟩) (cell_lt h0.2.1)).trans h0.2.1) (And.intro ((bX.cell (p := ⟨gd, 0, none⟩) (cell_lt h0.2.2.1)).trans h0.2.2.1) (And.intro ((bX.cell (p := ⟨ob, oo + kk * 2, none⟩) (cell_lt h0.2.2.2.1)).trans h0.2.2.2.1) ((bX.cell (p := ⟨ob, oo + kk * 2 + 1, none⟩) (cell_lt h0.2.2.2.2)).trans h0.2.2.2.2))))
            have hk0 := heap_alloc_new W5.drew (.cells #[.slice none 0 0, .slice none 0 0] 28)
            have hf : ∀ o, (W5.drew.alloc (.cells #[.slice none 0 0, .slice none 0 0] 28)).frozen? ⟨W5.drew.heap.size, o, none⟩ = false := fun o => by unfold World.frozen?; rw [hk0]; simp
            refine hK.out _ _ (fun _ => h1) ?_
            clear hK K
            replace h0 := h1
            try simp only [Act.put, List.setIfInBounds_toArray, List.set_cons_zero, List.set_cons_succ]
            refine until_one (i := 13) rfl (by kernel_rfl) (fun K hK => ?_)
            go_simp
            refine hK.out _ _ (fun q => absurd rfl q) ?_
            clear hK K h0 h1 hf
            refine until_done (by kernel_rfl) ?_ _
            clear bX hk0
            have b6 : Below W5.heap.size W5 (W5.alloc (.cells #[.slice sA ost.length scp, .slice oA oos.length ocp] 28)).drew := (belA W5 _).drew
            have hst6 := HST5.out.below b6 (by omega)
            have hb6 : (W5.alloc (.cells #[.slice sA ost.length scp, .slice oA oos.length ocp] 28)).drew.heap[W5.heap.size]? = some (.cells #[.slice sA ost.length scp, .slice oA oos.length ocp] 28 (0, 0)) := heap_alloc_new W5 _
            have HMK6 := Lib.hid (HMK5.out.keeps (((KeepsOthers.alloc W5 (.cells #[.slice sA ost.length scp, .slice oA oos.length ocp] 28)).trans (KeepsOthers.drew _)).from _))
            have HBK6 := Lib.hid ((b6.block gd hzd).trans HBK.out)
            have z6 : W5.heap.size < (W5.alloc (.cells #[.slice sA ost.length scp, .slice oA oos.length ocp] 28)).drew.heap.size := by show _ < (W5.alloc _).heap.size; simp
            have hz57 : g7 < W5.heap.size := by have := HGD.out; omega
            clear b6 HST5 HMK5 HBK
            generalize (W5.alloc (.cells #[.slice sA ost.length scp, .slice oA oos.length ocp] 28)).drew = W6 at *
            generalize W5.heap.size = g6 at *
            have q1 : W6.cell? ⟨gz, 1, none⟩ = some (.slice OA os.length oc) := by rw [cell_of_row W6 _ 1 _ _ _ hst6.bo]; rfl
            have q2 : W6.cell? ⟨g6, 1, none⟩ = some (.slice oA oos.length ocp) := by rw [cell_of_row W6 _ 1 _ _ _ hb6]; rfl
            have HST6 := Lib.hid hst6
            clear hst6 hb6 hjb hob hkk j0 j1 hng y4 z5
            go_wp2_with (go_at_call 39; refine (common_any _ _ _ _ _ _ _).mono ?_; rintro e w3 ⟨rfl, hw3⟩)
            clear q1 q2
            have b7 : Below W6.heap.size W6 ((W6.alloc (.cells #[.slice OA os.length oc] 26)).alloc (.cells #[.slice oA oos.length ocp] 26)) := ((belA W6 _).alloc (by simp) _)
            have kpa := Boxed.new W6 26 (.slice OA os.length oc)
            have kpb := Boxed.new (W6.alloc (.cells #[.slice OA os.length oc] 26)) 26 (.slice oA oos.length ocp)
            replace kpa := kpa.alloc (.cells #[.slice oA oos.length ocp] 26)
            rw [World.size_alloc] at kpb
            have hzW : ((W6.alloc (.cells #[.slice OA os.length oc] 26)).alloc (.cells #[.slice oA oos.length ocp] 26)).heap.size = W6.heap.size + 1 + 1 := by rw [World.size_alloc, World.size_alloc]
            have hst7 := HST6.out.below b7 (by omega)
            have HMK7 := Lib.hid (HMK6.out.keeps (((KeepsOthers.alloc W6 (.cells #[.slice OA os.length oc] 26)).trans (KeepsOthers.alloc _ (.cells #[.slice oA oos.length ocp] 26))).from _))
            have hds7 : ∀ D ∈ Ds, D < W6.heap.size := fun D hD => HMK6.out.lt hD
            have HBK7 := Lib.hid ((b7.block gd (by omega)).trans HBK6.out)
            clear HST6 HMK6 HBK6 b7
            generalize (W6.alloc (.cells #[.slice OA os.length oc] 26)).alloc (.cells #[.slice oA oos.length ocp] 26) = W7 at *
            generalize hpa : W6.heap.size = pa at *
            generalize hpb : pa + 1 = pb at *
            have hlp : gz < g1 ∧ g1 < g7 ∧ g7 < gd ∧ gd < pa ∧ pa < pb ∧ pb < W7.heap.size := by have := HGD.out; omega
            clear hpa hpb hzW
            have hgz := HGZ.out
            rw [hgz] at HPW
            clear hgz
            refine with_tmps fun T0 hT0 => ?_
            try dsimp only at hT0
            have HT0 := Lib.hid hT0
            clear hT0
            have HL1 := Lib.hid (show (l0 ++ gapsK (L.map JobM.p) ch ⟨st, os⟩ s k4).length ≤ cl.length + ow.length + 47 * 144 by
              have h1 := gapsK_len (L.map JobM.p) ch ⟨st, os⟩ s k4
              have h2 := HC0.out
              have h3 : k4 * os.length ≤ 47 * 144 := Nat.mul_le_mul (by omega) hol
              rw [List.length_append]; change (gapsK _ _ _ _ _).length ≤ k4 * os.length at h1; omega)
            have HG1 := Lib.hid (show l0 ++ gapsK (L.map JobM.p) ch ⟨st, os⟩ s (k4 + 1) = (l0 ++ gapsK (L.map JobM.p) ch ⟨st, os⟩ s k4) ++ (pairsO os oos).map fun p => gapM p.1 p.2 s cy by rw [HGE.out, List.append_assoc])
            clear HGE HGS
            generalize l0 ++ gapsK (L.map JobM.p) ch ⟨st, os⟩ s k4 = l1 at *
            have hgw : gz ≤ w.heap.size := by omega
            have HST7 := Lib.hid hst7
            have HKA := Lib.hid (show W7.heap[pa]? = some (.cells #[.slice OA os.length oc] 26 (0, 0)) from kpa)
            have HKB := Lib.hid (show W7.heap[pb]? = some (.cells #[.slice oA oos.length ocp] 26 (0, 0)) from kpb)
            have HVA := Lib.hid (validOp_iff.1 HV.out).2.2.1
            have hpl2 := pairs_len os oos
            have hom := HYB.out.2.2.1
            refine (wpIn_wide (n := 6)).1 ?_
            refine wpIn_rangeFunc_ownH hro (by omega) (gf := 56) (lb := #[.pointer (some ⟨pa, 0, none⟩), .pointer (some ⟨pb, 0, none⟩)]) rfl trivial (enters_of Try.func56 (by kernel_rfl) rfl)
              (common_stops 5 (by omega) pa pb gz OA oc os oA ocp oos HVA.out HVK.out hn' hom W7 (by omega) (by omega) (by omega) kpa.cell kpb.cell (HO.out.below HST7.out.bel) (HPW.out.oc.below HST7.out.bel)) KpP.trans (kpP_b (by omega) (by omega) (by omega)) (Below.refl _ _) (fun _ => rfl)
              (fun pre W => GI w gz g1 g7 gd pa pb W7.heap.size SA st.length sc OA os.length oc oA oos.length ocp s cy kk l1 Ds pre W)
              (fun c pre W => False)
              (gi_own hgw (by omega))
              (fun c => ownFrom_pure _ (fun _ => False))
              ⟨by simpa using HST7.out, HMK7.out, fun D hD => by have := hds7 D hD; omega, HBK7.out, HKA.out, HKB.out, Nat.le_refl _⟩
              (fun p a' W => ∃ Bx, W7.heap.size ≤ Bx ∧ W.heap[Bx]? = some (.cells #[.int .i64 p.1.1.1, .int .i64 p.1.1.2.1, .int .i64 p.1.1.2.2, .int .i64 p.1.2.1, .int .i64 p.1.2.2.1, .int .i64 p.1.2.2.2] 77 (0, 0)) ∧ a' = { tmps := (T0.setIfInBounds 105 (.agg #[.int .i64 p.1.1.1, .int .i64 p.1.1.2.1, .int .i64 p.1.1.2.2, .int .i64 p.1.2.1, .int .i64 p.1.2.2.1, .int .i64 p.1.2.2.2])).setIfInBounds 17 (.pointer (some ⟨Bx, 0, none⟩)), defers := [] })
              ?hAx ?assign ?body ?done ?stop
            case hAx =>
              rintro p a' _ X Y row ⟨Bx, h1, h2, h3⟩ hg hrow
              refine ⟨Bx, h1, (hg.block Bx (Array.getElem?_eq_some_iff.1 h2).1 (fun e => ?_)).trans h2, h3⟩
              obtain ⟨_, o, ho, hc⟩ := hrow Bx e.symm
              rw [h2] at ho; cases ho; cases hc
            case assign =>
              rintro lp pre p W K hmi hK
              have HK := Lib.hid hK
              have HMI := Lib.hid hmi
              have hsz := hmi.sz
              clear hK hmi
              dsimp only [encPR]
              gi_wp2
              have hbx := belA W (.cells #[.int .i64 p.1.1.1, .int .i64 p.1.1.2.1, .int .i64 p.1.1.2.2, .int .i64 p.1.2.1, .int .i64 p.1.2.2.1, .int .i64 p.1.2.2.2] 77)
              obtain ⟨h1, h2, h3, h4, h5, h6, h7⟩ := HMI.out
              exact HK.out _ _ ((KeepsOthers.alloc _ _).from _) ⟨hbx.mono (by omega), hbx.block _ (by omega), hbx.block _ (by omega)⟩ ⟨h1.below hbx (by omega), h2.keeps ((KeepsOthers.alloc _ _).from _), h3, (hbx.block _ (by omega)).trans h4, (hbx.block _ (by omega)).trans h5, (hbx.block _ (by omega)).trans h6, by have := hbx.size; omega⟩ ⟨W.heap.size, by omega, heap_alloc_new W _, by rw [HT0.out]; rfl⟩
            case body =>
              rintro lp pre p a' W hlp ⟨r, hr⟩ ⟨hst, hmk, hdsl, hgd, hpa, hpb, hsz⟩ ⟨Bx, hBx, hxb, rfl⟩ hlt
              rw [HT0.out]
              simp only [List.setIfInBounds_toArray, List.set_cons_succ, List.set_cons_zero]
              obtain ⟨⟨⟨r1, f1, t1⟩, ⟨r2, f2, t2⟩⟩, hps⟩ := p
              have hps2 : (-65536 ≤ f1 ∧ f1 ≤ 65536 ∧ -65536 ≤ t1 ∧ t1 ≤ 65536) ∧ (-65536 ≤ f2 ∧ f2 ≤ 65536 ∧ -65536 ≤ t2 ∧ t2 ≤ 65536) := hps
              have HTI := Lib.hid (show l1 ++ (pre ++ [(⟨((r1, f1, t1), (r2, f2, t2)), hps⟩ : PR)]).map (fun p => gapM p.1.1 p.1.2 s cy) = (l1 ++ pre.map fun p => gapM p.1.1 p.1.2 s cy) ++ [(cy + f2 - t1 - s + 1, cy + t2 - f1 - s)] by
                rw [List.map_append, ← List.append_assoc]; rfl)
              have hln : (l1 ++ pre.map fun p => gapM p.1.1 p.1.2 s cy).length ≤ cl.length + ow.length + 47 * 144 + 144 := by
                rw [List.length_append, List.length_map]
                have := HL1.out
                have := HYB.out.2.2.2
                omega
              generalize (l1 ++ pre.map fun p => gapM p.1.1 p.1.2 s cy) = l2 at *
              simp only at hxb
              obtain ⟨LA, lc, hk7, how⟩ := hst.bl
              have hy0 := HYB.out.1
              have hy1 := HYB.out.2.1
              have t7 : W.cell? ⟨g7, 0, none⟩ = some (.slice LA l2.length lc) := by rw [cell_of_row W _ 0 _ _ _ hk7]; rfl
              have tS : W.cell? ⟨g1, 0, none⟩ = some (.int .i64 s) := by rw [cell_of_row W _ 0 _ _ _ hst.bs]; rfl
              have tY : W.cell? ⟨gd, 1, none⟩ = some (.int .i64 cy) := by rw [cell_of_row W _ 1 _ _ _ hgd]; rfl
              have x1 : W.cell? ⟨Bx, 1, none⟩ = some (.int .i64 f1) := by rw [cell_of_row W _ 1 _ _ _ hxb]; rfl
              have x2 : W.cell? ⟨Bx, 2, none⟩ = some (.int .i64 t1) := by rw [cell_of_row W _ 2 _ _ _ hxb]; rfl
              have x4 : W.cell? ⟨Bx, 4, none⟩ = some (.int .i64 f2) := by rw [cell_of_row W _ 4 _ _ _ hxb]; rfl
              have x5 : W.cell? ⟨Bx, 5, none⟩ = some (.int .i64 t2) := by rw [cell_of_row W _ 5 _ _ _ hxb]; rfl
              have hNgd : some gd ≠ (Value.slice LA l2.length lc).ownBlock := fun e => own_ne_block how hgd (by decide) e.symm
              have hNpa : some pa ≠ (Value.slice LA l2.length lc).ownBlock := fun e => own_ne_block how hpa (by decide) e.symm
              have hNpb : some pb ≠ (Value.slice LA l2.length lc).ownBlock := fun e => own_ne_block how hpb (by decide) e.symm
              have hN7 : some g7 ≠ (Value.slice LA l2.length lc).ownBlock := fun e => own_ne_block how hk7 (by decide) e.symm
              obtain ⟨z1, hz1⟩ : ∃ z, z = cy + f2 := ⟨_, rfl⟩
              obtain ⟨z2, hz2⟩ : ∃ z, z = z1 - t1 := ⟨_, rfl⟩
              obtain ⟨z3, hz3⟩ : ∃ z, z = z2 - s := ⟨_, rfl⟩
              obtain ⟨z4, hz4⟩ : ∃ z, z = z3 + 1 := ⟨_, rfl⟩
              obtain ⟨z5, hz5⟩ : ∃ z, z = cy + t2 := ⟨_, rfl⟩
              obtain ⟨z6, hz6⟩ : ∃ z, z = z5 - f1 := ⟨_, rfl⟩
              obtain ⟨z7, hz7⟩ : ∃ z, z = z6 - s := ⟨_, rfl⟩
              have sw1 : IntKind.i64.wrap (cy + f2) = z1 := by rw [hz1]; exact IntWalk.i64_in _ (by omega)
              have sw2 : IntKind.i64.wrap (z1 - t1) = z2 := by rw [hz2]; exact IntWalk.i64_in _ (by omega)
              have sw3 : IntKind.i64.wrap (z2 - s) = z3 := by rw [hz3]; exact IntWalk.i64_in _ (by omega)
              have sw4 : IntKind.i64.wrap (z3 + 1) = z4 := by rw [hz4]; exact IntWalk.i64_in _ (by omega)
              have sw5 : IntKind.i64.wrap (cy + t2) = z5 := by rw [hz5]; exact IntWalk.i64_in _ (by omega)
              have sw6 : IntKind.i64.wrap (z5 - f1) = z6 := by rw [hz6]; exact IntWalk.i64_in _ (by omega)
              have sw7 : IntKind.i64.wrap (z6 - s) = z7 := by rw [hz7]; exact IntWalk.i64_in _ (by omega)
              rw [show cy + f2 - t1 - s + 1 = z4 by omega, show cy + t2 - f1 - s = z7 by omega] at HTI
              have h7W : g7 < W.heap.size := (Array.getElem?_eq_some_iff.1 hk7).1
              have HK7 := Lib.hid hk7
              have HOW := Lib.hid how
              have HST := Lib.hid hst
              have HMKW := Lib.hid (And.intro hmk hdsl)
              have HGD7 := Lib.hid hgd
              have HPA7 := Lib.hid hpa
              have HPB7 := Lib.hid hpb
              have HNN := Lib.hid (And.intro hNgd (And.intro hNpa (And.intro hNpb hN7)))
              clear hk7 how hst hmk hdsl hgd hpa hpb hNgd hNpa hNpb hN7 hxb hr hps2 hy0 hy1 HT0 hz1 hz2 hz3 hz4 hz5 hz6 hz7 HGD HL1 HG1 hg4 HC0 HL0
              gi_wp2_with (gi_at_builtin; refine Hld.put ?_)
              refine Hld.out ?_
              refine wpListIn_append_recW rfl _ _ 104 rfl (g7 + 1) 115 16 Try.underlying104 elemG _ l2 rfl HOW.out [(z4, z7)] _ rfl 1 1 rfl rfl (by simp only [Go.maxLen, List.length_cons, List.length_nil]; omega) (by simp only [List.length_cons, List.length_nil]; omega) h7W ?_
              intro v5 w5 ho5 hg5
              obtain ⟨A5, c5, rfl⟩ := ho5.form
              generalize (l2 ++ [(z4, z7)]).length = LM at *
              have jf : w5.frozen? ⟨g7, 0, none⟩ = false := (by have hk := (hg5.block g7 (by simp; omega) HNN.out.2.2.2).trans ((Below.heap_alloc _ _ _ h7W).trans HK7.out); simp [World.frozen?, hk])
              have j7 := hg5.cell (al24' (x := .cells #[.int .i64 z4, .int .i64 z7] 115) t7) HNN.out.2.2.2
              gi_wp2
              have hX := belA W (.cells #[.int .i64 z4, .int .i64 z7] 115)
              have hgd' := push_more (g7 := g7) (.slice A5 LM c5) hX HGD7.out (by omega) hg5 HNN.out.1
              have hpa' := push_more (g7 := g7) (.slice A5 LM c5) hX HPA7.out (by omega) hg5 HNN.out.2.1
              have hpb' := push_more (g7 := g7) (.slice A5 LM c5) hX HPB7.out (by omega) hg5 HNN.out.2.2.1
              have hps := HST.out.push hX (by omega) HK7.out hg5 ho5
              have hko : KeepsOthers W (w5.setCell ⟨g7, 0, none⟩ (.slice A5 LM c5)) := ((KeepsOthers.alloc W _).trans (KeepsOthers.of_grownBy hg5 (fun j o e h => by
                obtain ⟨cur, hc⟩ := own_blk HOW.out e
                rw [Below.heap_alloc _ _ _ (Array.getElem?_eq_some_iff.1 hc).1, hc] at h
                injection h with h; subst h; rfl))).trans (KeepsOthers.setCell _ _ _)
              have hkb : Below gz W (w5.setCell ⟨g7, 0, none⟩ (.slice A5 LM c5)) := ((hX.mono (show gz ≤ W.heap.size by omega)).grown hg5 (by simp; omega) (fun q e => by have := (World.ownsRow.lt HOW.out q e).1; omega)).setCell (p := ⟨g7, 0, none⟩) (show gz ≤ g7 by omega) _
              exact ⟨hko.from _, ⟨hkb, hpa'.1.trans HPA7.out.symm, hpb'.1.trans HPB7.out.symm⟩, by rw [HTI.out]; exact hps, HMKW.out.1.keeps (hko.from _), HMKW.out.2, hgd'.1, hpa'.1, hpb'.1, by have := hgd'.2; omega⟩
            case done =>
              rintro D xs W hD hS ⟨hst, hmk, hdsl, hgd, hpa, hpb, hsz⟩ hK
              have HG2 := Lib.hid (show l0 ++ gapsK (L.map JobM.p) ch ⟨st, os⟩ s (k4 + 1) = l1 ++ xs.map fun p => gapM p.1.1 p.1.2 s cy by
                have hS' : xs = upto (prAt os oos (small_of HVA.out) (small_of HVK.out)) (pairsO os oos).length := hS
                rw [HG1.out, hS', map_upto os oos _ _ (fun p => gapM p.1 p.2 s cy)])
              have HSTd := Lib.hid hst
              have HMKd := Lib.hid (hmk.cons hdsl hD (by omega) hK)
              clear hst hmk hdsl hgd hpa hpb hK hS
              go_wp2_with fail
              go_roundg (ch.length - (k4 + 1))
              case measure => omega
              case rel => exact ⟨k4 + 1, D :: Ds, by omega, rfl, by go_num, rfl, HMKd.out, by rw [HG2.out]; exact HSTd.out⟩
            case stop =>
              rintro D c pre W hD hSp hix hK
              exact hix.elim
        · have hkE : k4 = ch.length := by omega
          have HST := Lib.hid hst
          obtain ⟨LA, lc, hk7, how⟩ := hst.bl
          have t7 : W4.cell? ⟨g7, 0, none⟩ = some (.slice LA (l0 ++ gapsK (L.map JobM.p) ch ⟨st, os⟩ s k4).length lc) := by rw [cell_of_row W4 _ 0 _ _ _ hk7]; rfl
          have HRES := Lib.hid (show gapsL (L.map JobM.p) cl ow ch ⟨st, os⟩ s = l0 ++ gapsK (L.map JobM.p) ch ⟨st, os⟩ s k4 by rw [hkE, gapsL_eq, HL0.out])
          have HOW := Lib.hid how
          clear hst hk7 how
          generalize l0 ++ gapsK (L.map JobM.p) ch ⟨st, os⟩ s k4 = lf at *
          go_wp2_with fail
          show LeavesInM Fence.wide 6 Try.prog Try.f60 _ _ (List.map mkD Ds) .returning W4
          have hgw : gz ≤ w.heap.size := by omega
          refine leaves_marks (I := fun (_ : Unit) W => OwnG W (g7 + 1) (.slice LA lf.length lc) lf ∧ Below gz w W) (OwnFrom.and own_own (ownFrom_below hgw (by omega))) (s := ()) (fun W' h' => ⟨_, results_tmp rfl _ _ _, LA, lc, ?_, ?_, ?_⟩) Ds W4 HMK.out ⟨HOW.out, HST.out.bel⟩
          · rw [HRES.out]; rfl
          · rw [HRES.out]; exact h'.1.rebase (by omega)
          · exact h'.2.mono (by omega)
end Go.Proofs.Ytlillkfelfoafaa
