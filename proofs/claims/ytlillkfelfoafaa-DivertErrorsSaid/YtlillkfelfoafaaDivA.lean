/-
  Options, one-way rules, choices and jobs in memory; contracts of divert's valid and of the reference's ValidOption.
  Contracts of divert's Check and of the reference's CheckJobs.
  Jobs, options, one-way rules and choices that came in.
-/
import Derived.Test.YtlillkfelfoafaaDivP
import Derived.Test.YtlillkfelfoafaaRef9A
import Derived.Lib.SmallJoins
set_option linter.unusedVariables false
set_option linter.unusedSimpArgs false
namespace Go.Proofs.Ytlillkfelfoafaa
open Go.RowKit RP

def encSte (x : Ste) : List Value := [.int .i64 x.1, .int .i64 x.2]
theorem encSte_len (x : Ste) : (encSte x).length = 2 := rfl
def encW (x : OWy) : List Value := [.int .i64 x.1, .int .i64 x.2.1, .int .i64 x.2.2.1, .int .i64 x.2.2.2]
theorem encW_len (x : OWy) : (encW x).length = 4 := rfl
def encK (x : Cho) : List Value := [.int .i64 x.1, .int .i64 x.2]
theorem encK_len (x : Cho) : (encK x).length = 2 := rfl
theorem Lst.ste {w : World} {B : Nat} {A : Option Addr} {l : List Ste} (h : Lst encSte 2 w B A l) (i : Nat) (hi : i < l.length) :
    ∃ b off, A = some ⟨b, off, none⟩ ∧ b < B ∧ w.cell? ⟨b, off + i * 2, none⟩ = some (.int .i64 l[i].1) ∧ w.cell? ⟨b, off + i * 2 + 1, none⟩ = some (.int .i64 l[i].2) := by
  obtain ⟨b, off, e, hb, hc⟩ := h (by intro h0; subst h0; simp at hi)
  exact ⟨b, off, e, hb, hc i l[i] (List.getElem?_eq_getElem hi) 0 _ rfl, hc i l[i] (List.getElem?_eq_getElem hi) 1 _ rfl⟩
theorem Lst.cho {w : World} {B : Nat} {A : Option Addr} {l : List Cho} (h : Lst encK 2 w B A l) (i : Nat) (hi : i < l.length) :
    ∃ b off, A = some ⟨b, off, none⟩ ∧ b < B ∧ w.cell? ⟨b, off + i * 2, none⟩ = some (.int .i64 l[i].1) ∧ w.cell? ⟨b, off + i * 2 + 1, none⟩ = some (.int .i64 l[i].2) := by
  obtain ⟨b, off, e, hb, hc⟩ := h (by intro h0; subst h0; simp at hi)
  exact ⟨b, off, e, hb, hc i l[i] (List.getElem?_eq_getElem hi) 0 _ rfl, hc i l[i] (List.getElem?_eq_getElem hi) 1 _ rfl⟩
theorem Lst.owy {w : World} {B : Nat} {A : Option Addr} {l : List OWy} (h : Lst encW 4 w B A l) (i : Nat) (hi : i < l.length) :
    ∃ b off, A = some ⟨b, off, none⟩ ∧ b < B ∧ w.cell? ⟨b, off + i * 4, none⟩ = some (.int .i64 l[i].1) ∧ w.cell? ⟨b, off + i * 4 + 1, none⟩ = some (.int .i64 l[i].2.1) ∧ w.cell? ⟨b, off + i * 4 + 2, none⟩ = some (.int .i64 l[i].2.2.1) ∧ w.cell? ⟨b, off + i * 4 + 3, none⟩ = some (.int .i64 l[i].2.2.2) := by
  obtain ⟨b, off, e, hb, hc⟩ := h (by intro h0; subst h0; simp at hi)
  have hg := hc i l[i] (List.getElem?_eq_getElem hi)
  exact ⟨b, off, e, hb, hg 0 _ rfl, hg 1 _ rfl, hg 2 _ rfl, hg 3 _ rfl⟩

theorem encW_one (x : OWy) : ∀ u ∈ encW x, u.oneCell' = true := by
  intro u hu
  simp only [encW, List.mem_cons, List.not_mem_nil, or_false] at hu
  rcases hu with rfl | rfl | rfl | rfl <;> rfl
theorem infoW : (Try.prog.info? 70).map (fun i => (i.zero, i.size, i.bytes)) = some (some (.agg #[.int .i64 0, .int .i64 0, .int .i64 0, .int .i64 0]), 4, 32) := by kernel_rfl
theorem elemW : ElemOk Try.prog encW 4 70 32 :=
  ⟨fun _ => rfl, by omega, encW_one, by
    obtain ⟨i, hi, h0, h1, h2⟩ := info_parts infoW
    exact ⟨i, _, hi, h0, h1, h2, rfl⟩⟩
theorem encK_one (x : Cho) : ∀ u ∈ encK x, u.oneCell' = true := by
  intro u hu
  simp only [encK, List.mem_cons, List.not_mem_nil, or_false] at hu
  rcases hu with rfl | rfl <;> rfl
theorem infoK : (Try.prog.info? 55).map (fun i => (i.zero, i.size, i.bytes)) = some (some (.agg #[.int .i64 0, .int .i64 0]), 2, 16) := by kernel_rfl
theorem elemK : ElemOk Try.prog encK 2 55 16 :=
  ⟨fun _ => rfl, by omega, encK_one, by
    obtain ⟨i, hi, h0, h1, h2⟩ := info_parts infoK
    exact ⟨i, _, hi, h0, h1, h2, rfl⟩⟩

theorem set_block' {w : World} {g o : Nat} {cs : Array Value} {t : TypeId} {fr : Nat × Nat} (v : Value) (h : w.heap[g]? = some (.cells cs t fr)) : (w.setCell ⟨g, o, none⟩ v).heap[g]? = some (.cells (cs.setIfInBounds o v) t fr) := by
  obtain ⟨hlt, hk⟩ := Array.getElem?_eq_some_iff.1 h
  show (w.heap.modify g _)[g]? = _
  rw [Array.getElem?_eq_getElem (by rw [Array.size_modify]; exact hlt), Array.getElem_modify_self, hk]
  rfl
/-- A slice value. -/
structure Sv where
  a : Option Addr
  n : Nat
  c : Nat
def Sv.v (s : Sv) : Value := .slice s.a s.n s.c
theorem Sv.one (s : Sv) : s.v.oneCell' = true := rfl
theorem own_sv {α : Type} {enc : α → List Value} {k : Nat} {e : TypeId} {w : World} {base : Nat} {v : Value} {l : List α} (h : Own enc k e w base v l) : ∃ s : Sv, v = s.v ∧ s.n = l.length := by
  obtain ⟨A, c, rfl⟩ := h.form
  exact ⟨⟨A, l.length, c⟩, rfl, rfl⟩
/-- An option in memory. -/
structure OptM where
  steps : List Ste
  occs : List Occ
  sv : Sv
  ov : Sv
def OptM.p (o : OptM) : OptP := ⟨o.steps, o.occs⟩
def OptM.v (o : OptM) : Value := .agg #[o.sv.v, o.ov.v]
def encOp (o : OptM) : List Value := [o.sv.v, o.ov.v]
theorem encOp_len (o : OptM) : (encOp o).length = 2 := rfl
/-- An option whose lists can be read. -/
structure OLst (w : World) (B : Nat) (o : OptM) : Prop where
  sn : o.sv.n = o.steps.length
  on : o.ov.n = o.occs.length
  st : Lst encSte 2 w B o.sv.a o.steps
  oc : Lst encO 3 w B o.ov.a o.occs
  sm : o.steps.length ≤ 9223372036854775807
  om : o.occs.length ≤ 9223372036854775807
theorem OLst.belowMore {w w' : World} {B B' : Nat} {o : OptM} (h : OLst w B o) (hb : Below B w w') (hB : B ≤ B') : OLst w' B' o := ⟨h.sn, h.on, h.st.belowMore hb hB, h.oc.belowMore hb hB, h.sm, h.om⟩
structure JobM where
  start : Int
  opts : List OptM
  jv : Sv
def JobM.p (j : JobM) : JobP := ⟨j.start, j.opts.map OptM.p⟩
def encJb (j : JobM) : List Value := [.int .i64 j.start, j.jv.v]
theorem encJb_len (j : JobM) : (encJb j).length = 2 := rfl
structure JLst (w : World) (B : Nat) (j : JobM) : Prop where
  jn : j.jv.n = j.opts.length
  ol : Lst encOp 2 w B j.jv.a j.opts
  at_ : ∀ o ∈ j.opts, OLst w B o
  jm : j.opts.length ≤ 9223372036854775807
theorem JLst.belowMore {w w' : World} {B B' : Nat} {j : JobM} (h : JLst w B j) (hb : Below B w w') (hB : B ≤ B') : JLst w' B' j := ⟨h.jn, h.ol.belowMore hb hB, fun o ho => (h.at_ o ho).belowMore hb hB, h.jm⟩
/-- A list of jobs that can be read. -/
structure Jbs (w : World) (B : Nat) (A : Option Addr) (L : List JobM) : Prop where
  lst : Lst encJb 2 w B A L
  at_ : ∀ j ∈ L, JLst w B j
  len : L.length ≤ 9223372036854775807
theorem Jbs.belowMore {w w' : World} {B B' : Nat} {A : Option Addr} {L : List JobM} (h : Jbs w B A L) (hb : Below B w w') (hB : B ≤ B') : Jbs w' B' A L := ⟨h.lst.belowMore hb hB, fun j hj => (h.at_ j hj).belowMore hb hB, h.len⟩
theorem Lst.opt {w : World} {B : Nat} {A : Option Addr} {l : List OptM} (h : Lst encOp 2 w B A l) (i : Nat) (hi : i < l.length) :
    ∃ b off, A = some ⟨b, off, none⟩ ∧ b < B ∧ w.cell? ⟨b, off + i * 2, none⟩ = some (.slice l[i].sv.a l[i].sv.n l[i].sv.c) ∧ w.cell? ⟨b, off + i * 2 + 1, none⟩ = some (.slice l[i].ov.a l[i].ov.n l[i].ov.c) := by
  obtain ⟨b, off, e, hb, hc⟩ := h (by intro h0; subst h0; simp at hi)
  exact ⟨b, off, e, hb, hc i l[i] (List.getElem?_eq_getElem hi) 0 _ rfl, hc i l[i] (List.getElem?_eq_getElem hi) 1 _ rfl⟩
theorem Lst.job {w : World} {B : Nat} {A : Option Addr} {l : List JobM} (h : Lst encJb 2 w B A l) (i : Nat) (hi : i < l.length) :
    ∃ b off, A = some ⟨b, off, none⟩ ∧ b < B ∧ w.cell? ⟨b, off + i * 2, none⟩ = some (.int .i64 l[i].start) ∧ w.cell? ⟨b, off + i * 2 + 1, none⟩ = some (.slice l[i].jv.a l[i].jv.n l[i].jv.c) := by
  obtain ⟨b, off, e, hb, hc⟩ := h (by intro h0; subst h0; simp at hi)
  exact ⟨b, off, e, hb, hc i l[i] (List.getElem?_eq_getElem hi) 0 _ rfl, hc i l[i] (List.getElem?_eq_getElem hi) 1 _ rfl⟩

/-- A block of an option that is only read. -/
structure BxO (w : World) (g : Nat) (SA : Option Addr) (n c : Nat) (OA : Option Addr) (m d : Nat) : Prop where
  h : w.heap[g]? = some (.cells #[.slice SA n c, .slice OA m d] 28 (0, 0))
theorem BxO.below {w w' : World} {g B n c m d : Nat} {SA OA : Option Addr} (h : BxO w g SA n c OA m d) (hb : Below B w w') (hg : g < B) : BxO w' g SA n c OA m d := ⟨(hb.block g hg).trans h.h⟩
theorem BxO.cells {w : World} {g n c m d : Nat} {SA OA : Option Addr} (h : BxO w g SA n c OA m d) : w.cell? ⟨g, 0, none⟩ = some (.slice SA n c) ∧ w.cell? ⟨g, 1, none⟩ = some (.slice OA m d) ∧ g < w.heap.size :=
  ⟨by rw [cell_of_row w _ 0 _ _ _ h.h]; rfl, by rw [cell_of_row w _ 1 _ _ _ h.h]; rfl, (Array.getElem?_eq_some_iff.1 h.h).1⟩

set_option maxRecDepth 100000 in
set_option maxHeartbeats 4000000 in
theorem dvalid_any (SA : Option Addr) (sc : Nat) (st : List Ste) (OA : Option Addr) (oc : Nat) (os : List Occ) (w : World) (hs : Lst encSte 2 w w.heap.size SA st) (ho : Lst encO 3 w w.heap.size OA os) (hn : st.length ≤ 9223372036854775807) (hn' : os.length ≤ 9223372036854775807) :
    Calls Try.prog 33 #[.agg #[.slice SA st.length sc, .slice OA os.length oc]] w fun e w' => e = .returned (.bool (validOp ⟨st, os⟩)) ∧ Below w.heap.size w w' := by
  have ba := belA w (.cells #[.slice SA st.length sc, .slice OA os.length oc] 28)
  have hnw := heap_alloc_new w (.cells #[.slice SA st.length sc, .slice OA os.length oc] 28)
  have hg0 : w.heap.size < (w.alloc (.cells #[.slice SA st.length sc, .slice OA os.length oc] 28)).heap.size := by simp
  have HS := Lib.hid (hs.belowMore ba ba.size)
  have HO := Lib.hid (ho.belowMore ba ba.size)
  have HBA := Lib.hid ba
  have HN := Lib.hid (BxO.mk hnw)
  clear hs ho ba hnw
  go_enter Try.func33, Try.ntmps33
  go_upto_region 1 with fail
  generalize w.alloc (.cells #[.slice SA st.length sc, .slice OA os.length oc] 28) = w0 at *
  generalize hgz : w.heap.size = gz at *
  have HGZ := Lib.hid hgz
  clear hgz
  obtain ⟨n0, n1, ng⟩ := HN.out.cells
  by_cases g1 : 24 < st.length
  · have HQ := Lib.hid (show validOp ⟨st, os⟩ = false by unfold validOp; rw [decide_eq_false (show ¬ st.length ≤ 24 by omega)]; rfl)
    have g1' : (24 : Int) < (st.length : Int) := by omega
    clear g1
    go_wp2_with fail
    go_ret
    exact ⟨ret_bool HQ.out.symm, by rw [HGZ.out]; exact HBA.out⟩
  · have g1' : (st.length : Int) ≤ 24 := by omega
    by_cases g2 : 144 < os.length
    · have HQ := Lib.hid (show validOp ⟨st, os⟩ = false by unfold validOp; rw [decide_eq_false (show ¬ os.length ≤ 144 by omega)]; simp)
      have g2' : (144 : Int) < (os.length : Int) := by omega
      clear g2
      go_wp2_with fail
      go_ret
      exact ⟨ret_bool HQ.out.symm, by rw [HGZ.out]; exact HBA.out⟩
    · have g2' : (os.length : Int) ≤ 144 := by omega
      have hva := hvalid_any OA oc os w0 HO.out hn'
      cases hv : validO (-1) os with
      | false =>
        rw [hv] at hva
        have HQ := Lib.hid (show validOp ⟨st, os⟩ = false by simp [validOp, hv])
        clear hv
        go_wp2_with (go_at_call 49; refine hva.mono ?_; rintro e w1 ⟨rfl, hb1⟩)
        go_ret
        exact ⟨ret_bool HQ.out.symm, by rw [HGZ.out]; exact HBA.out.trans (hb1.mono (Nat.le_of_lt hg0))⟩
      | true =>
        rw [hv] at hva
        have HV := Lib.hid hv
        have G1 := Lib.hid g1
        have G2 := Lib.hid g2
        clear hv g1 g2
        go_wp2_with (first | (go_at_call 49; refine hva.mono ?_; rintro e w1 ⟨rfl, hb1⟩; obtain ⟨m0, m1, mg⟩ := (HN.out.below hb1 hg0).cells))
        clear hva n0 n1
        go_loopg [4, 24] st.length (fun g s4 s24 wr => ∃ k : Nat, k ≤ st.length ∧ g = st.length - k ∧ s24 = .int .i64 k ∧ (st.take k).all okSt = true ∧ Below w0.heap.size w0 wr)
        case atStart => exact ⟨0, by omega, by omega, rfl, rfl, hb1⟩
        case round =>
          obtain ⟨k, hk, hg, rfl, ha, hb⟩ := hrel
          have HA := Lib.hid ha
          clear ha
          by_cases hlt : k < st.length
          · obtain ⟨b, off, rfl, hbw, c0, c1⟩ := (HS.out.belowMore hb hb.size).ste k hlt
            have HNO := Lib.hid (fun h => all_no (p := okSt) hlt h)
            have HYES := Lib.hid (fun h => all_take_snoc (p := okSt) hlt HA.out h)
            generalize st[k] = x at *
            obtain ⟨a, d⟩ := x
            have HB1 := Lib.hid (hb.alloc hb.size (.cells #[.int .i64 a, .int .i64 d] 94))
            by_cases q0 : a < 0
            · have HF := Lib.hid (HNO.out (by unfold okSt; rw [decide_eq_false (show ¬ 0 ≤ a by omega)]; rfl))
              go_wp2_with fail
              go_ret
              exact ⟨ret_bool (by have := HF.out; simp [validOp, this]), by rw [HGZ.out]; exact HBA.out.trans (HB1.out.mono (Nat.le_of_lt hg0))⟩
            · by_cases q1 : d = 0
              · subst q1
                have HY := Lib.hid (HYES.out (by unfold okSt; rw [decide_eq_true (show 0 ≤ a by omega)]; rfl))
                go_wp2_with fail
                go_roundg (st.length - (k + 1))
                case measure => omega
                case rel => exact ⟨k + 1, by omega, rfl, by go_num, HY.out, HB1.out⟩
              · by_cases q2 : d = 1
                · subst q2
                  have HY := Lib.hid (HYES.out (by unfold okSt; rw [decide_eq_true (show 0 ≤ a by omega)]; rfl))
                  go_wp2_with fail
                  go_roundg (st.length - (k + 1))
                  case measure => omega
                  case rel => exact ⟨k + 1, by omega, rfl, by go_num, HY.out, HB1.out⟩
                · have HF := Lib.hid (HNO.out (by unfold okSt; rw [decide_eq_false q1, decide_eq_false q2]; simp))
                  have e1 : (d != 0) = true := by simpa using q1
                  have e2 : (d != 1) = true := by simpa using q2
                  clear q1 q2
                  go_wp2_with fail
                  go_ret
                  exact ⟨ret_bool (by have := HF.out; simp [validOp, this]), by rw [HGZ.out]; exact HBA.out.trans (HB1.out.mono (Nat.le_of_lt hg0))⟩
          · have ha := HA.out
            rw [List.take_of_length_le (by omega)] at ha
            have HQ := Lib.hid (show validOp ⟨st, os⟩ = true from validOp_iff.2 ⟨by have := G1.out; show st.length ≤ 24; omega, by have := G2.out; show os.length ≤ 144; omega, HV.out, ha⟩)
            clear ha
            go_wp2
            go_ret
            exact ⟨ret_bool HQ.out.symm, by rw [HGZ.out]; exact HBA.out.trans (hb.mono (Nat.le_of_lt hg0))⟩
set_option maxRecDepth 100000 in
set_option maxHeartbeats 4000000 in
theorem rvalid_any (SA : Option Addr) (sc : Nat) (st : List Ste) (OA : Option Addr) (oc : Nat) (os : List Occ) (w : World) (hs : Lst encSte 2 w w.heap.size SA st) (ho : Lst encO 3 w w.heap.size OA os) (hn : st.length ≤ 9223372036854775807) (hn' : os.length ≤ 9223372036854775807) :
    Calls Try.prog 34 #[.agg #[.slice SA st.length sc, .slice OA os.length oc]] w fun e w' => e = .returned (.bool (validOp ⟨st, os⟩)) ∧ Below w.heap.size w w' := by
  have ba := belA w (.cells #[.slice SA st.length sc, .slice OA os.length oc] 28)
  have hnw := heap_alloc_new w (.cells #[.slice SA st.length sc, .slice OA os.length oc] 28)
  have hg0 : w.heap.size < (w.alloc (.cells #[.slice SA st.length sc, .slice OA os.length oc] 28)).heap.size := by simp
  have HS := Lib.hid (hs.belowMore ba ba.size)
  have HO := Lib.hid (ho.belowMore ba ba.size)
  have HBA := Lib.hid ba
  have HN := Lib.hid (BxO.mk hnw)
  clear hs ho ba hnw
  go_enter Try.func34, Try.ntmps34
  go_upto_region 1 with fail
  generalize w.alloc (.cells #[.slice SA st.length sc, .slice OA os.length oc] 28) = w0 at *
  generalize hgz : w.heap.size = gz at *
  have HGZ := Lib.hid hgz
  clear hgz
  obtain ⟨n0, n1, ng⟩ := HN.out.cells
  by_cases g1 : 24 < st.length
  · have HQ := Lib.hid (show validOp ⟨st, os⟩ = false by unfold validOp; rw [decide_eq_false (show ¬ st.length ≤ 24 by omega)]; rfl)
    have g1' : (24 : Int) < (st.length : Int) := by omega
    clear g1
    go_wp2_with fail
    go_ret
    exact ⟨ret_bool HQ.out.symm, by rw [HGZ.out]; exact HBA.out⟩
  · have g1' : (st.length : Int) ≤ 24 := by omega
    by_cases g2 : 144 < os.length
    · have HQ := Lib.hid (show validOp ⟨st, os⟩ = false by unfold validOp; rw [decide_eq_false (show ¬ os.length ≤ 144 by omega)]; simp)
      have g2' : (144 : Int) < (os.length : Int) := by omega
      clear g2
      go_wp2_with fail
      go_ret
      exact ⟨ret_bool HQ.out.symm, by rw [HGZ.out]; exact HBA.out⟩
    · have g2' : (os.length : Int) ≤ 144 := by omega
      have hva := validList_any OA oc os w0 HO.out hn'
      cases hv : validO (-1) os with
      | false =>
        rw [hv] at hva
        have HQ := Lib.hid (show validOp ⟨st, os⟩ = false by simp [validOp, hv])
        clear hv
        go_wp2_with (go_at_call 50; refine hva.mono ?_; rintro e w1 ⟨rfl, hb1⟩)
        go_ret
        exact ⟨ret_bool HQ.out.symm, by rw [HGZ.out]; exact HBA.out.trans (hb1.mono (Nat.le_of_lt hg0))⟩
      | true =>
        rw [hv] at hva
        have HV := Lib.hid hv
        have G1 := Lib.hid g1
        have G2 := Lib.hid g2
        clear hv g1 g2
        go_wp2_with (first | (go_at_call 50; refine hva.mono ?_; rintro e w1 ⟨rfl, hb1⟩; obtain ⟨m0, m1, mg⟩ := (HN.out.below hb1 hg0).cells))
        clear hva n0 n1
        go_loopg [4, 24] st.length (fun g s4 s24 wr => ∃ k : Nat, k ≤ st.length ∧ g = st.length - k ∧ s24 = .int .i64 k ∧ (st.take k).all okSt = true ∧ Below w0.heap.size w0 wr)
        case atStart => exact ⟨0, by omega, by omega, rfl, rfl, hb1⟩
        case round =>
          obtain ⟨k, hk, hg, rfl, ha, hb⟩ := hrel
          have HA := Lib.hid ha
          clear ha
          by_cases hlt : k < st.length
          · obtain ⟨b, off, rfl, hbw, c0, c1⟩ := (HS.out.belowMore hb hb.size).ste k hlt
            have HNO := Lib.hid (fun h => all_no (p := okSt) hlt h)
            have HYES := Lib.hid (fun h => all_take_snoc (p := okSt) hlt HA.out h)
            generalize st[k] = x at *
            obtain ⟨a, d⟩ := x
            have HB1 := Lib.hid (hb.alloc hb.size (.cells #[.int .i64 a, .int .i64 d] 94))
            by_cases q0 : a < 0
            · have HF := Lib.hid (HNO.out (by unfold okSt; rw [decide_eq_false (show ¬ 0 ≤ a by omega)]; rfl))
              go_wp2_with fail
              go_ret
              exact ⟨ret_bool (by have := HF.out; simp [validOp, this]), by rw [HGZ.out]; exact HBA.out.trans (HB1.out.mono (Nat.le_of_lt hg0))⟩
            · by_cases q1 : d = 0
              · subst q1
                have HY := Lib.hid (HYES.out (by unfold okSt; rw [decide_eq_true (show 0 ≤ a by omega)]; rfl))
                go_wp2_with fail
                go_roundg (st.length - (k + 1))
                case measure => omega
                case rel => exact ⟨k + 1, by omega, rfl, by go_num, HY.out, HB1.out⟩
              · by_cases q2 : d = 1
                · subst q2
                  have HY := Lib.hid (HYES.out (by unfold okSt; rw [decide_eq_true (show 0 ≤ a by omega)]; rfl))
                  go_wp2_with fail
                  go_roundg (st.length - (k + 1))
                  case measure => omega
                  case rel => exact ⟨k + 1, by omega, rfl, by go_num, HY.out, HB1.out⟩
                · have HF := Lib.hid (HNO.out (by unfold okSt; rw [decide_eq_false q1, decide_eq_false q2]; simp))
                  have e1 : (d != 0) = true := by simpa using q1
                  have e2 : (d != 1) = true := by simpa using q2
                  clear q1 q2
                  go_wp2_with fail
                  go_ret
                  exact ⟨ret_bool (by have := HF.out; simp [validOp, this]), by rw [HGZ.out]; exact HBA.out.trans (HB1.out.mono (Nat.le_of_lt hg0))⟩
          · have ha := HA.out
            rw [List.take_of_length_le (by omega)] at ha
            have HQ := Lib.hid (show validOp ⟨st, os⟩ = true from validOp_iff.2 ⟨by have := G1.out; show st.length ≤ 24; omega, by have := G2.out; show os.length ≤ 144; omega, HV.out, ha⟩)
            clear ha
            go_wp2
            go_ret
            exact ⟨ret_bool HQ.out.symm, by rw [HGZ.out]; exact HBA.out.trans (hb.mono (Nat.le_of_lt hg0))⟩
end Go.Proofs.Ytlillkfelfoafaa

namespace Go.Proofs.Ytlillkfelfoafaa
open Go.RowKit RP

theorem al24' {w : World} {b o : Nat} {v : Value} {x : Obj} (h : w.cell? ⟨b, o, none⟩ = some v) : (w.alloc x).cell? ⟨b, o, none⟩ = some v := by
  rw [World.cell?_alloc_lt _ _ _ (World.block_lt_of_cell? w ⟨b, o, none⟩ h)]; exact h
theorem all_take_snoc' {α β : Type} {p : β → Bool} {f : α → β} {l : List α} {k : Nat} (hk : k < l.length) (h : ((l.take k).map f).all p = true) (hp : p (f l[k]) = true) : ((l.take (k + 1)).map f).all p = true := by
  rw [take_snoc l k hk, List.map_append, List.all_append, h]; simp [hp]
theorem all_no' {α β : Type} {p : β → Bool} {f : α → β} {l : List α} {k : Nat} (hk : k < l.length) (hp : p (f l[k]) = false) : (l.map f).all p = false := by
  rw [List.all_eq_false]; exact ⟨f l[k], List.mem_map_of_mem (List.getElem_mem hk), by simp [hp]⟩
/-- A block of a job that is only read. -/
structure BxJ (w : World) (g : Nat) (s : Int) (A : Option Addr) (n c : Nat) : Prop where
  h : w.heap[g]? = some (.cells #[.int .i64 s, .slice A n c] 41 (0, 0))
theorem BxJ.below {w w' : World} {g B n c : Nat} {s : Int} {A : Option Addr} (h : BxJ w g s A n c) (hb : Below B w w') (hg : g < B) : BxJ w' g s A n c := ⟨(hb.block g hg).trans h.h⟩
theorem BxJ.cells {w : World} {g n c : Nat} {s : Int} {A : Option Addr} (h : BxJ w g s A n c) : w.cell? ⟨g, 0, none⟩ = some (.int .i64 s) ∧ w.cell? ⟨g, 1, none⟩ = some (.slice A n c) ∧ g < w.heap.size :=
  ⟨by rw [cell_of_row w _ 0 _ _ _ h.h]; rfl, by rw [cell_of_row w _ 1 _ _ _ h.h]; rfl, (Array.getElem?_eq_some_iff.1 h.h).1⟩

set_option maxRecDepth 100000 in
set_option maxHeartbeats 8000000 in
theorem dcheck_any (A : Option Addr) (c : Nat) (L : List JobM) (w : World) (h : Jbs w w.heap.size A L) :
    Calls Try.prog 14 #[.slice A L.length c] w fun e w' => e = .returned (.bool (checkJ (L.map JobM.p))) ∧ Below w.heap.size w w' := by
  have hln := h.len
  by_cases g1 : 48 < L.length
  · have HQ := Lib.hid (show checkJ (L.map JobM.p) = false by unfold checkJ; rw [decide_eq_false (show ¬ (L.map JobM.p).length ≤ 48 by rw [List.length_map]; omega)]; rfl)
    have g1' : (48 : Int) < (L.length : Int) := by omega
    clear g1
    go_enter Try.func14, Try.ntmps14
    go_wp2_with fail
    go_ret
    exact ⟨ret_bool HQ.out.symm, Below.refl _ _⟩
  · have g1' : (L.length : Int) ≤ 48 := by omega
    have HG1 := Lib.hid g1
    clear g1
    go_enter Try.func14, Try.ntmps14
    go_wp2_with fail
    go_loopg [4, 6, 12] L.length (fun g s4 s6 s12 wr => ∃ k : Nat, k ≤ L.length ∧ g = L.length - k ∧ s12 = .int .i64 k ∧ ((L.take k).map JobM.p).all okJob = true ∧ Below w.heap.size w wr)
    case atStart => exact ⟨0, by omega, by omega, rfl, rfl, Below.refl _ _⟩
    case round =>
      obtain ⟨k, hk, hg, rfl, ha, hb⟩ := hrel
      have HA := Lib.hid ha
      clear ha
      by_cases hlt : k < L.length
      · obtain ⟨b, off, rfl, hbw, a0, a1⟩ := (h.lst.belowMore hb hb.size).job k hlt
        have hj := (h.at_ L[k] (List.getElem_mem hlt)).belowMore hb hb.size
        have HNO := Lib.hid (fun (h : okJob L[k].p = false) => show checkJ (L.map JobM.p) = false by unfold checkJ; rw [all_no' hlt h]; simp)
        have HYES := Lib.hid (fun (h : okJob L[k].p = true) => all_take_snoc' (p := okJob) hlt HA.out h)
        generalize L[k] = j at *
        obtain ⟨st, op, ⟨ja, jn, jc⟩⟩ := j
        obtain ⟨hjn, hol, hat, hjm⟩ := hj
        have hjn' : jn = op.length := hjn
        subst hjn'
        clear hjn
        simp only at a0 a1 hol hat hjm
        have ba := belA wr (.cells #[.int .i64 st, .slice ja op.length jc] 41)
        have HBX := Lib.hid (BxJ.mk (heap_alloc_new wr (.cells #[.int .i64 st, .slice ja op.length jc] 41)))
        have hgl : wr.heap.size < (wr.alloc (.cells #[.int .i64 st, .slice ja op.length jc] 41)).heap.size := by simp
        have HO := Lib.hid (hol.belowMore ba ba.size)
        have HAT := Lib.hid (fun o ho => (hat o ho).belowMore ba ba.size)
        have HB := Lib.hid (hb.trans (ba.mono hb.size))
        have i0 : (0 : Int) ≤ (k : Int) := by omega
        have i1 : (k : Int) < (L.length : Int) := by omega
        clear ba hol hat hb
        go_upto_region 6 with fail
        generalize wr.alloc (.cells #[.int .i64 st, .slice ja op.length jc] 41) = w1 at *
        generalize wr.heap.size = gj at *
        obtain ⟨n0, n1, ng⟩ := HBX.out.cells
        by_cases q : (0 ≤ st ∧ st ≤ 4194304) ∧ (1 ≤ op.length ∧ op.length ≤ 8)
        · obtain ⟨⟨q1, q2⟩, q3, q4⟩ := q
          have q3' : (1 : Int) ≤ (op.length : Int) := by omega
          have q4' : (op.length : Int) ≤ 8 := by omega
          go_wp2_with fail
          go_loopg [6, 39] op.length (fun g s6 s39 wr => ∃ i : Nat, i ≤ op.length ∧ g = op.length - i ∧ s39 = .int .i64 i ∧ ((op.take i).map OptM.p).all validOp = true ∧ Below w1.heap.size w1 wr)
          case atStart => exact ⟨0, by omega, by omega, rfl, rfl, Below.refl _ _⟩
          case round =>
            obtain ⟨i, hi, hg2, rfl, ha2, hb2⟩ := hrel
            have HA2 := Lib.hid ha2
            clear ha2
            by_cases hlt2 : i < op.length
            · obtain ⟨b', off', rfl, hbw', c0, c1⟩ := (HO.out.belowMore hb2 hb2.size).opt i hlt2
              have ho := (HAT.out op[i] (List.getElem_mem hlt2)).belowMore hb2 hb2.size
              have HNO2 := Lib.hid (fun (h : validOp op[i].p = false) => HNO.out (by
                have := all_no' (p := validOp) hlt2 h
                simp [okJob, JobM.p, this]))
              have HYES2 := Lib.hid (fun (h : validOp op[i].p = true) => all_take_snoc' (p := validOp) hlt2 HA2.out h)
              generalize op[i] = o at *
              obtain ⟨ss, os, ⟨sa, sn, sc⟩, ⟨oa, on, oc⟩⟩ := o
              obtain ⟨e1, e2, hs1, ho1, hsm, hom⟩ := ho
              have e1' : sn = ss.length := e1
              have e2' : on = os.length := e2
              subst e1' e2'
              clear e1 e2
              simp only at c0 c1 hs1 ho1 hsm hom
              have ba := belA wr (.cells #[.slice sa ss.length sc, .slice oa os.length oc] 28)
              have HBO := Lib.hid (BxO.mk (heap_alloc_new wr (.cells #[.slice sa ss.length sc, .slice oa os.length oc] 28)))
              have hva := dvalid_any sa sc ss oa oc os _ (hs1.belowMore ba ba.size) (ho1.belowMore ba ba.size) hsm hom
              have HB2 := Lib.hid (hb2.trans (ba.mono hb2.size))
              have i0 : (0 : Int) ≤ (i : Int) := by omega
              have i1 : (i : Int) < (op.length : Int) := by omega
              clear ba hs1 ho1 hb2
              go_upto_region 11 with fail
              generalize wr.alloc (.cells #[.slice sa ss.length sc, .slice oa os.length oc] 28) = w2 at *
              generalize wr.heap.size = go at *
              obtain ⟨m0, m1, mg⟩ := HBO.out.cells
              cases hv : validOp ⟨ss, os⟩ with
              | false =>
                rw [hv] at hva
                have HV := Lib.hid hv
                clear hv
                go_wp2_with (go_at_call 33; refine hva.mono ?_; rintro e w3 ⟨rfl, hb3⟩)
                go_ret
                exact ⟨ret_bool (HNO2.out HV.out).symm, HB.out.trans ((HB2.out.trans (hb3.mono HB2.out.size)).mono HB.out.size)⟩
              | true =>
                rw [hv] at hva
                have HV := Lib.hid hv
                clear hv
                go_wp2_with (go_at_call 33; refine hva.mono ?_; rintro e w3 ⟨rfl, hb3⟩)
                go_roundg (op.length - (i + 1))
                case measure => omega
                case rel => exact ⟨i + 1, by omega, rfl, by go_num, HYES2.out HV.out, HB2.out.trans (hb3.mono HB2.out.size)⟩
            · have ha := HA2.out
              rw [List.take_of_length_le (by omega)] at ha
              have HY := Lib.hid (HYES.out (by
                simp [okJob, JobM.p, q1, q2, q3, q4]
                simpa using ha))
              clear ha
              go_wp2_with fail
              go_roundg (L.length - (k + 1))
              case measure => omega
              case rel => exact ⟨k + 1, by omega, rfl, by go_num, HY.out, HB.out.trans (hb2.mono HB.out.size)⟩
        · have HF := Lib.hid (HNO.out (by
            rw [← Bool.not_eq_true]
            intro hh
            have h1 := okJob_iff.1 hh
            have h2 : 1 ≤ (op.map OptM.p).length ∧ (op.map OptM.p).length ≤ 8 := h1.2.1
            rw [List.length_map] at h2
            exact q ⟨h1.1, h2⟩))
          have HQ := Lib.hid q
          clear q
          by_cases q1 : 0 ≤ st
          · by_cases q2 : st ≤ 4194304
            · by_cases q3 : 1 ≤ op.length
              · have q4 : (8 : Int) < (op.length : Int) := by have := HQ.out; omega
                have q3' : (1 : Int) ≤ (op.length : Int) := by omega
                go_wp2_with fail
                go_ret
                exact ⟨ret_bool HF.out.symm, HB.out⟩
              · have q3' : (op.length : Int) < 1 := by omega
                go_wp2_with fail
                go_ret
                exact ⟨ret_bool HF.out.symm, HB.out⟩
            · have q2' : (4194304 : Int) < st := by omega
              go_wp2_with fail
              go_ret
              exact ⟨ret_bool HF.out.symm, HB.out⟩
          · have q1' : st < 0 := by omega
            go_wp2_with fail
            go_ret
            exact ⟨ret_bool HF.out.symm, HB.out⟩
      · have ha := HA.out
        rw [List.take_of_length_le (by omega)] at ha
        have HY := Lib.hid (show checkJ (L.map JobM.p) = true by
          unfold checkJ; rw [ha, List.length_map]
          have := HG1.out
          simp; omega)
        clear ha
        go_wp2_with fail
        go_ret
        exact ⟨ret_bool HY.out.symm, hb⟩
set_option maxRecDepth 100000 in
set_option maxHeartbeats 8000000 in
theorem rcheck_any (A : Option Addr) (c : Nat) (L : List JobM) (w : World) (h : Jbs w w.heap.size A L) :
    Calls Try.prog 15 #[.slice A L.length c] w fun e w' => e = .returned (.bool (checkJ (L.map JobM.p))) ∧ Below w.heap.size w w' := by
  have hln := h.len
  by_cases g1 : 48 < L.length
  · have HQ := Lib.hid (show checkJ (L.map JobM.p) = false by unfold checkJ; rw [decide_eq_false (show ¬ (L.map JobM.p).length ≤ 48 by rw [List.length_map]; omega)]; rfl)
    have g1' : (48 : Int) < (L.length : Int) := by omega
    clear g1
    go_enter Try.func15, Try.ntmps15
    go_wp2_with fail
    go_ret
    exact ⟨ret_bool HQ.out.symm, Below.refl _ _⟩
  · have g1' : (L.length : Int) ≤ 48 := by omega
    have HG1 := Lib.hid g1
    clear g1
    go_enter Try.func15, Try.ntmps15
    go_wp2_with fail
    go_loopg [4, 6, 12] L.length (fun g s4 s6 s12 wr => ∃ k : Nat, k ≤ L.length ∧ g = L.length - k ∧ s12 = .int .i64 k ∧ ((L.take k).map JobM.p).all okJob = true ∧ Below w.heap.size w wr)
    case atStart => exact ⟨0, by omega, by omega, rfl, rfl, Below.refl _ _⟩
    case round =>
      obtain ⟨k, hk, hg, rfl, ha, hb⟩ := hrel
      have HA := Lib.hid ha
      clear ha
      by_cases hlt : k < L.length
      · obtain ⟨b, off, rfl, hbw, a0, a1⟩ := (h.lst.belowMore hb hb.size).job k hlt
        have hj := (h.at_ L[k] (List.getElem_mem hlt)).belowMore hb hb.size
        have HNO := Lib.hid (fun (h : okJob L[k].p = false) => show checkJ (L.map JobM.p) = false by unfold checkJ; rw [all_no' hlt h]; simp)
        have HYES := Lib.hid (fun (h : okJob L[k].p = true) => all_take_snoc' (p := okJob) hlt HA.out h)
        generalize L[k] = j at *
        obtain ⟨st, op, ⟨ja, jn, jc⟩⟩ := j
        obtain ⟨hjn, hol, hat, hjm⟩ := hj
        have hjn' : jn = op.length := hjn
        subst hjn'
        clear hjn
        simp only at a0 a1 hol hat hjm
        have ba := belA wr (.cells #[.int .i64 st, .slice ja op.length jc] 41)
        have HBX := Lib.hid (BxJ.mk (heap_alloc_new wr (.cells #[.int .i64 st, .slice ja op.length jc] 41)))
        have hgl : wr.heap.size < (wr.alloc (.cells #[.int .i64 st, .slice ja op.length jc] 41)).heap.size := by simp
        have HO := Lib.hid (hol.belowMore ba ba.size)
        have HAT := Lib.hid (fun o ho => (hat o ho).belowMore ba ba.size)
        have HB := Lib.hid (hb.trans (ba.mono hb.size))
        have i0 : (0 : Int) ≤ (k : Int) := by omega
        have i1 : (k : Int) < (L.length : Int) := by omega
        clear ba hol hat hb
        go_upto_region 6 with fail
        generalize wr.alloc (.cells #[.int .i64 st, .slice ja op.length jc] 41) = w1 at *
        generalize wr.heap.size = gj at *
        obtain ⟨n0, n1, ng⟩ := HBX.out.cells
        by_cases q : (0 ≤ st ∧ st ≤ 4194304) ∧ (1 ≤ op.length ∧ op.length ≤ 8)
        · obtain ⟨⟨q1, q2⟩, q3, q4⟩ := q
          have q3' : (1 : Int) ≤ (op.length : Int) := by omega
          have q4' : (op.length : Int) ≤ 8 := by omega
          go_wp2_with fail
          go_loopg [6, 39] op.length (fun g s6 s39 wr => ∃ i : Nat, i ≤ op.length ∧ g = op.length - i ∧ s39 = .int .i64 i ∧ ((op.take i).map OptM.p).all validOp = true ∧ Below w1.heap.size w1 wr)
          case atStart => exact ⟨0, by omega, by omega, rfl, rfl, Below.refl _ _⟩
          case round =>
            obtain ⟨i, hi, hg2, rfl, ha2, hb2⟩ := hrel
            have HA2 := Lib.hid ha2
            clear ha2
            by_cases hlt2 : i < op.length
            · obtain ⟨b', off', rfl, hbw', c0, c1⟩ := (HO.out.belowMore hb2 hb2.size).opt i hlt2
              have ho := (HAT.out op[i] (List.getElem_mem hlt2)).belowMore hb2 hb2.size
              have HNO2 := Lib.hid (fun (h : validOp op[i].p = false) => HNO.out (by
                have := all_no' (p := validOp) hlt2 h
                simp [okJob, JobM.p, this]))
              have HYES2 := Lib.hid (fun (h : validOp op[i].p = true) => all_take_snoc' (p := validOp) hlt2 HA2.out h)
              generalize op[i] = o at *
              obtain ⟨ss, os, ⟨sa, sn, sc⟩, ⟨oa, on, oc⟩⟩ := o
              obtain ⟨e1, e2, hs1, ho1, hsm, hom⟩ := ho
              have e1' : sn = ss.length := e1
              have e2' : on = os.length := e2
              subst e1' e2'
              clear e1 e2
              simp only at c0 c1 hs1 ho1 hsm hom
              have ba := belA wr (.cells #[.slice sa ss.length sc, .slice oa os.length oc] 28)
              have HBO := Lib.hid (BxO.mk (heap_alloc_new wr (.cells #[.slice sa ss.length sc, .slice oa os.length oc] 28)))
              have hva := rvalid_any sa sc ss oa oc os _ (hs1.belowMore ba ba.size) (ho1.belowMore ba ba.size) hsm hom
              have HB2 := Lib.hid (hb2.trans (ba.mono hb2.size))
              have i0 : (0 : Int) ≤ (i : Int) := by omega
              have i1 : (i : Int) < (op.length : Int) := by omega
              clear ba hs1 ho1 hb2
              go_upto_region 11 with fail
              generalize wr.alloc (.cells #[.slice sa ss.length sc, .slice oa os.length oc] 28) = w2 at *
              generalize wr.heap.size = go at *
              obtain ⟨m0, m1, mg⟩ := HBO.out.cells
              cases hv : validOp ⟨ss, os⟩ with
              | false =>
                rw [hv] at hva
                have HV := Lib.hid hv
                clear hv
                go_wp2_with (go_at_call 34; refine hva.mono ?_; rintro e w3 ⟨rfl, hb3⟩)
                go_ret
                exact ⟨ret_bool (HNO2.out HV.out).symm, HB.out.trans ((HB2.out.trans (hb3.mono HB2.out.size)).mono HB.out.size)⟩
              | true =>
                rw [hv] at hva
                have HV := Lib.hid hv
                clear hv
                go_wp2_with (go_at_call 34; refine hva.mono ?_; rintro e w3 ⟨rfl, hb3⟩)
                go_roundg (op.length - (i + 1))
                case measure => omega
                case rel => exact ⟨i + 1, by omega, rfl, by go_num, HYES2.out HV.out, HB2.out.trans (hb3.mono HB2.out.size)⟩
            · have ha := HA2.out
              rw [List.take_of_length_le (by omega)] at ha
              have HY := Lib.hid (HYES.out (by
                simp [okJob, JobM.p, q1, q2, q3, q4]
                simpa using ha))
              clear ha
              go_wp2_with fail
              go_roundg (L.length - (k + 1))
              case measure => omega
              case rel => exact ⟨k + 1, by omega, rfl, by go_num, HY.out, HB.out.trans (hb2.mono HB.out.size)⟩
        · have HF := Lib.hid (HNO.out (by
            rw [← Bool.not_eq_true]
            intro hh
            have h1 := okJob_iff.1 hh
            have h2 : 1 ≤ (op.map OptM.p).length ∧ (op.map OptM.p).length ≤ 8 := h1.2.1
            rw [List.length_map] at h2
            exact q ⟨h1.1, h2⟩))
          have HQ := Lib.hid q
          clear q
          by_cases q1 : 0 ≤ st
          · by_cases q2 : st ≤ 4194304
            · by_cases q3 : 1 ≤ op.length
              · have q4 : (8 : Int) < (op.length : Int) := by have := HQ.out; omega
                have q3' : (1 : Int) ≤ (op.length : Int) := by omega
                go_wp2_with fail
                go_ret
                exact ⟨ret_bool HF.out.symm, HB.out⟩
              · have q3' : (op.length : Int) < 1 := by omega
                go_wp2_with fail
                go_ret
                exact ⟨ret_bool HF.out.symm, HB.out⟩
            · have q2' : (4194304 : Int) < st := by omega
              go_wp2_with fail
              go_ret
              exact ⟨ret_bool HF.out.symm, HB.out⟩
          · have q1' : st < 0 := by omega
            go_wp2_with fail
            go_ret
            exact ⟨ret_bool HF.out.symm, HB.out⟩
      · have ha := HA.out
        rw [List.take_of_length_le (by omega)] at ha
        have HY := Lib.hid (show checkJ (L.map JobM.p) = true by
          unfold checkJ; rw [ha, List.length_map]
          have := HG1.out
          simp; omega)
        clear ha
        go_wp2_with fail
        go_ret
        exact ⟨ret_bool HY.out.symm, hb⟩
end Go.Proofs.Ytlillkfelfoafaa

namespace Go.Proofs.Ytlillkfelfoafaa
open Go.ChangeShapes Go.WideShapes Go.ChangeAt Go.RowKit Go.Deep Go.Joins RP

abbrev ArgSte := Arg encSte 2 fun _ : Ste => True
abbrev ArgW := Arg encW 4 fun _ : OWy => True
abbrev ArgK := Arg encK 2 fun _ : Cho => True
/-- An option whose lists came in. -/
def OpOk (W : World) (o : OptM) : Prop := (o.sv.n = o.steps.length ∧ ArgSte W o.sv.a o.sv.c o.steps) ∧ o.ov.n = o.occs.length ∧ ArgO W o.ov.a o.ov.c o.occs
abbrev ArgOp (W : World) := Arg encOp 2 (OpOk W) W
/-- A job whose options came in. -/
def JbOk (W : World) (j : JobM) : Prop := R64 j.start ∧ j.jv.n = j.opts.length ∧ ArgOp W j.jv.a j.jv.c j.opts
abbrev ArgJ (W : World) := Arg encJb 2 (JbOk W) W
theorem OpOk.olst {W : World} {o : OptM} (h : OpOk W o) : OLst W W.heap.size o :=
  ⟨h.1.1, h.2.1, h.1.2.lst, h.2.2.lst, h.1.2.len, h.2.2.len⟩
theorem JbOk.jlst {W : World} {j : JobM} (h : JbOk W j) : JLst W W.heap.size j :=
  ⟨h.2.1, h.2.2.lst, fun o ho => (h.2.2.rng o ho).olst, h.2.2.len⟩
theorem ArgJ.jbs {W : World} {A : Option Addr} {c : Nat} {L : List JobM} (h : ArgJ W A c L) : Jbs W W.heap.size A L :=
  ⟨h.lst, fun j hj => (h.rng j hj).jlst, h.len⟩
/-- What the walks want of jobs that came in: the resources' range. -/
theorem ArgJ.res {W : World} {A : Option Addr} {c : Nat} {L : List JobM} (h : ArgJ W A c L) : ∀ j ∈ L, ∀ o ∈ j.opts, ∀ z ∈ o.occs, R64 z.1 :=
  fun j hj o ho z hz => (((h.rng j hj).2.2.rng o ho).2.2.rng z hz).1

section
variable {H : Type} {enc : TypeId × Value → H} {W : World} {v : Value} {d : DataW H} {p : List MemPlace}
def fieldOp (W : World) (j : Nat) (u : Value) : Prop := if j = 0 then ∃ A c l, u = .slice A (List.length l) c ∧ ArgSte W A c l else ∃ A c l, u = .slice A (List.length l) c ∧ ArgO W A c l
def fieldJb (W : World) (j : Nat) (u : Value) : Prop := if j = 0 then ∃ z : Int, u = .int .i64 z ∧ R64 z else ∃ A c l, u = .slice A (List.length l) c ∧ ArgOp W A c l
theorem open_argSte (hsl : ∃ A len cap, v = .slice A len cap) (h : DataW.Trod enc Try.prog W 0 (fun _ => true) true 25 v d p) : ∃ A c l, v = .slice A l.length c ∧ ArgSte W A c l := by
  have := open_recs (recEnc := encSte) (rng := fun _ : Ste => True) (fun zs => (zs.getD 0 0, zs.getD 1 0)) Try.underlying25 Try.underlying94 (by kernel_rfl) (by kernel_rfl)
    (fun j f hj => by
      match j, hj with
      | 0, hj => simp at hj; subst hj; exact Try.underlying3
      | 1, hj => simp at hj; subst hj; exact Try.underlying3
      | j + 2, hj => simp at hj)
    (fun zs hz hr => by
      match zs, hz with
      | [_, _], _ => exact ⟨rfl, trivial⟩) (by simp) (.inr trivial) h hsl
  exact this
theorem open_argK (hsl : ∃ A len cap, v = .slice A len cap) (h : DataW.Trod enc Try.prog W 0 (fun _ => true) true 49 v d p) : ∃ A c l, v = .slice A l.length c ∧ ArgK W A c l := by
  have := open_recs (recEnc := encK) (rng := fun _ : Cho => True) (fun zs => (zs.getD 0 0, zs.getD 1 0)) Try.underlying49 Try.underlying55 (by kernel_rfl) (by kernel_rfl)
    (fun j f hj => by
      match j, hj with
      | 0, hj => simp at hj; subst hj; exact Try.underlying3
      | 1, hj => simp at hj; subst hj; exact Try.underlying3
      | j + 2, hj => simp at hj)
    (fun zs hz hr => by
      match zs, hz with
      | [_, _], _ => exact ⟨rfl, trivial⟩) (by simp) (.inr trivial) h hsl
  exact this
theorem open_argW (hsl : ∃ A len cap, v = .slice A len cap) (h : DataW.Trod enc Try.prog W 0 (fun _ => true) true 24 v d p) : ∃ A c l, v = .slice A l.length c ∧ ArgW W A c l := by
  have := open_recs (recEnc := encW) (rng := fun _ : OWy => True) (fun zs => (zs.getD 0 0, zs.getD 1 0, zs.getD 2 0, zs.getD 3 0)) Try.underlying24 Try.underlying70 (by kernel_rfl) (by kernel_rfl)
    (fun j f hj => by
      match j, hj with
      | 0, hj => simp at hj; subst hj; exact Try.underlying3
      | 1, hj => simp at hj; subst hj; exact Try.underlying3
      | 2, hj => simp at hj; subst hj; exact Try.underlying3
      | 3, hj => simp at hj; subst hj; exact Try.underlying3
      | j + 4, hj => simp at hj)
    (fun zs hz hr => by
      match zs, hz with
      | [_, _, _, _], _ => exact ⟨rfl, trivial⟩) (by simp) (.inr trivial) h hsl
  exact this
theorem open_cellSte {n : Nat} {u : Value} {y : DataW H × List MemPlace} (h : DataW.trod enc Try.prog W 0 (fun _ => true) true n 25 [u] = some y) : ∃ A c l, u = .slice A (List.length l) c ∧ ArgSte W A c l := by
  have hs := slice_form Try.underlying25 h
  exact open_argSte (d := y.1) (p := y.2) hs ⟨n, by
    obtain ⟨A, len, cap, rfl⟩ := hs
    exact h⟩
theorem open_cellO {n : Nat} {u : Value} {y : DataW H × List MemPlace} (h : DataW.trod enc Try.prog W 0 (fun _ => true) true n 26 [u] = some y) : ∃ A c l, u = .slice A (List.length l) c ∧ ArgO W A c l := by
  have hs := slice_form Try.underlying26 h
  exact open_argO (d := y.1) (p := y.2) hs ⟨n, by
    obtain ⟨A, len, cap, rfl⟩ := hs
    exact h⟩
theorem open_argOps (hsl : ∃ A len cap, v = .slice A len cap) (h : DataW.Trod enc Try.prog W 0 (fun _ => true) true 39 v d p) : ∃ A c l, v = .slice A l.length c ∧ ArgOp W A c l := by
  have := open_recsV (recEnc := encOp) (rng := OpOk W) ⟨[], [], ⟨none, 0, 0⟩, ⟨none, 0, 0⟩⟩ (fieldOp W) Try.underlying39 Try.underlying28 (by kernel_rfl) (by kernel_rfl)
    (fun j f hj n u y ht => by
      match j, hj with
      | 0, hj =>
        simp at hj; subst hj
        exact open_cellSte ht
      | 1, hj =>
        simp at hj; subst hj
        exact open_cellO ht
      | j + 2, hj => simp at hj)
    (fun us hz hr => by
      match us, hz with
      | [u2, u3], _ =>
        obtain ⟨A2, c2, l2, rfl, h2⟩ : ∃ A c l, u2 = .slice A (List.length l) c ∧ ArgSte W A c l := hr 0 u2 rfl
        obtain ⟨A3, c3, l3, rfl, h3⟩ : ∃ A c l, u3 = .slice A (List.length l) c ∧ ArgO W A c l := hr 1 u3 rfl
        exact ⟨⟨l2, l3, ⟨A2, _, c2⟩, ⟨A3, _, c3⟩⟩, rfl, ⟨rfl, h2⟩, ⟨rfl, h3⟩⟩) (by simp) (.inr trivial) h hsl
  exact this
theorem open_cellOps {n : Nat} {u : Value} {y : DataW H × List MemPlace} (h : DataW.trod enc Try.prog W 0 (fun _ => true) true n 39 [u] = some y) : ∃ A c l, u = .slice A (List.length l) c ∧ ArgOp W A c l := by
  have hs := slice_form Try.underlying39 h
  exact open_argOps (d := y.1) (p := y.2) hs ⟨n, by
    obtain ⟨A, len, cap, rfl⟩ := hs
    exact h⟩
theorem open_argJ (hsl : ∃ A len cap, v = .slice A len cap) (h : DataW.Trod enc Try.prog W 0 (fun _ => true) true 22 v d p) : ∃ A c l, v = .slice A l.length c ∧ ArgJ W A c l := by
  have := open_recsV (recEnc := encJb) (rng := JbOk W) ⟨0, [], ⟨none, 0, 0⟩⟩ (fieldJb W) Try.underlying22 Try.underlying41 (by kernel_rfl) (by kernel_rfl)
    (fun j f hj n u y ht => by
      match j, hj with
      | 0, hj =>
        simp at hj; subst hj
        obtain ⟨z, e0, _, wz⟩ := DataW.trod_int Try.underlying3 ht
        simp at e0
        exact ⟨z, e0, r64_of_wf wz⟩
      | 1, hj =>
        simp at hj; subst hj
        exact open_cellOps ht
      | j + 2, hj => simp at hj)
    (fun us hz hr => by
      match us, hz with
      | [u0, u2], _ =>
        obtain ⟨z0, rfl, r0⟩ : ∃ z : Int, u0 = .int .i64 z ∧ R64 z := hr 0 u0 rfl
        obtain ⟨A2, c2, l2, rfl, h2⟩ : ∃ A c l, u2 = .slice A (List.length l) c ∧ ArgOp W A c l := hr 1 u2 rfl
        exact ⟨⟨z0, l2, ⟨A2, _, c2⟩⟩, rfl, r0, rfl, h2⟩) (by simp) (.inr trivial) h hsl
  exact this
set_option maxRecDepth 100000 in
theorem open_argOpt (hv : Value.okWide Try.prog W .any 0 28 v) (h : DataW.Trod enc Try.prog W 0 (fun _ => true) true 28 v d p) :
    ∃ A c l B e m, v = .agg #[.slice A (List.length l) c, .slice B (List.length m) e] ∧ ArgSte W A c l ∧ ArgO W B e m := by
  obtain ⟨c0, c1, y0, y1, n, rfl, rfl, rfl, hy0, hy1⟩ := open_agg2 Try.underlying28 (by kernel_rfl) (by kernel_rfl) hv h
  obtain ⟨A, c, l, rfl, g⟩ := open_cellSte hy0
  obtain ⟨B, e, m, rfl, g'⟩ := open_cellO hy1
  exact ⟨A, c, l, B, e, m, rfl, g, g'⟩
end
end Go.Proofs.Ytlillkfelfoafaa
