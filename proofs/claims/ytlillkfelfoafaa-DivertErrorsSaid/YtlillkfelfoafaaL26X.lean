/-
  Walk of DivertErrors.
-/
import Derived.Test.YtlillkfelfoafaaDivEz
import Derived.Test.YtlillkfelfoafaaDivRs
set_option linter.unusedVariables false
set_option linter.unusedSimpArgs false
namespace Go.Proofs.Ytlillkfelfoafaa
open Go.ChangeShapes Go.WideShapes Go.ChangeAt Go.RowKit Go.Deep Go.Joins RP

abbrev ArgWR := Arg encW 4 fun x : OWy => R64 x.1
section
variable {H : Type} {enc : TypeId × Value → H} {W : World} {v : Value} {d : DataW H} {p : List MemPlace}
theorem open_argWR (hsl : ∃ A len cap, v = .slice A len cap) (h : DataW.Trod enc Try.prog W 0 (fun _ => true) true 24 v d p) : ∃ A c l, v = .slice A l.length c ∧ ArgWR W A c l := by
  have := open_recs (recEnc := encW) (rng := fun x : OWy => R64 x.1) (fun zs => (zs.getD 0 0, zs.getD 1 0, zs.getD 2 0, zs.getD 3 0)) Try.underlying24 Try.underlying70 (by kernel_rfl) (by kernel_rfl)
    (fun j f hj => by
      match j, hj with
      | 0, hj => simp at hj; subst hj; exact Try.underlying3
      | 1, hj => simp at hj; subst hj; exact Try.underlying3
      | 2, hj => simp at hj; subst hj; exact Try.underlying3
      | 3, hj => simp at hj; subst hj; exact Try.underlying3
      | j + 4, hj => simp at hj)
    (fun zs hz hr => by
      match zs, hz with
      | [_, _, _, _], _ => exact ⟨rfl, hr _ (by simp)⟩) (by simp) (.inr trivial) h hsl
  exact this
end
theorem ex_err {M B : Int} (h : M < 0 ∨ 3600 < M ∨ B < 1 ∨ 1048576 < B) {cl : List Clo} {ow : List OWy} {l : List Cho} {n e : Int} (hp : PlanIs exJobs cl ow M B l n e) : e = 4 := by
  rcases hp with ⟨a, _⟩ | ⟨_, _, _, _, he⟩ | ⟨_, b1, b2, b3, b4, _⟩
  · rw [exJobs_ok] at a; cases a
  · exact he
  · omega
/-- The arguments in memory. -/
structure ErS (w w' : World) (JA : Option Addr) (L : List JobM) (CA : Option Addr) (cl : List Clo) (WA : Option Addr) (ow : List OWy) : Prop where
  jobs : Jbs w' w'.heap.size JA L
  cls : Lst encO 3 w' w'.heap.size CA cl
  ows : Lst encW 4 w' w'.heap.size WA ow
  res : JobsR L
  cr : ∀ z ∈ cl, R64 z.1
  wr : ∀ z ∈ ow, R64 z.1
  cb : cl.length * 24 ≤ 140737488355328
  wb : ow.length * 32 ≤ 140737488355328
  bel : Below w.heap.size w w'
section
variable {w w1 w2 : World} {JA CA WA : Option Addr} {L : List JobM} {cl : List Clo} {ow : List OWy}
theorem ErS.more (h : ErS w w1 JA L CA cl WA ow) (hb : Below w1.heap.size w1 w2) : ErS w w2 JA L CA cl WA ow :=
  ⟨h.jobs.belowMore hb hb.size, h.cls.belowMore hb hb.size, h.ows.belowMore hb hb.size, h.res, h.cr, h.wr, h.cb, h.wb, h.bel.trans (hb.mono h.bel.size)⟩
theorem ErS.plan (h : ErS w w1 JA L CA cl WA ow) (hL : L.length ≤ 6) (jc cc wc : Nat) (M B : Int) : Calls Try.prog 25 #[.slice JA L.length jc, .slice CA cl.length cc, .slice WA ow.length wc, .int .i64 M, .int .i64 B] w1 (PlanPost w1 L cl ow M B) :=
  plan_wide JA jc L CA cc cl WA wc ow M B w1 h.jobs h.cls h.ows h.res (by omega) h.cr h.wr h.cb h.wb
theorem ErS.rplan (h : ErS w w1 JA L CA cl WA ow) (hL : L.length ≤ 6) (jc cc wc : Nat) (M B : Int) : Calls Try.prog 26 #[.slice JA L.length jc, .slice CA cl.length cc, .slice WA ow.length wc, .int .i64 M, .int .i64 B] w1 (PlanPost w1 L cl ow M B) := by
  have := h.cb
  have := h.wb
  exact planJobs_any JA jc L CA cc cl WA wc ow M B w1 h.jobs h.cls h.ows hL (by omega) (by omega)
end
set_option maxRecDepth 100000 in
set_option maxHeartbeats 8000000 in
theorem walkDivertErrors (A1 : Option Addr) (c1 : Nat) (L : List JobM) (A2 : Option Addr) (c2 : Nat) (cl : List Clo) (A3 : Option Addr) (c3 : Nat) (ow : List OWy) (most budget : Int) (w : World)
    (h1 : ArgJ w A1 c1 L) (h2 : ArgO w A2 c2 cl) (h3 : ArgWR w A3 c3 ow) (hx : R64 most) (hy : R64 budget) (hcb : cl.length * 24 ≤ 140737488355328) (hwb : ow.length * 32 ≤ 140737488355328) :
    Calls Try.prog 7 #[.slice A1 L.length c1, .slice A2 cl.length c2, .slice A3 ow.length c3, .int .i64 most, .int .i64 budget] w fun e w' => e = .returned (.bool true) ∧ Below w.heap.size w w' := by
  have HE := Lib.hid (ErS.mk (w := w) (w' := w) h1.jbs h2.lst h3.lst h1.res (fun z hz => (h2.rng z hz).1) h3.rng hcb hwb (Below.refl _ _))
  clear h1 h2 h3 hcb hwb
  by_cases hL : 6 < L.length
  · have hL' : (6 : Int) < (L.length : Int) := by omega
    go_enter Try.func7, Try.ntmps7
    go_wp2_with fail
    refine (awake26_any _).mono ?_
    rintro e w1 ⟨rfl, hb1⟩
    go_wp2_with fail
    go_ret
    exact ⟨rfl, hb1⟩
  · have hL6 : L.length ≤ 6 := by omega
    have hL' : (L.length : Int) ≤ 6 := by omega
    clear hL
    go_enter Try.func7, Try.ntmps7
    go_wp2_with fail
    refine (HE.out.plan hL6 c1 c2 c3 _ budget).mono ?_
    rintro e w1 ⟨ch, pn, err, KA, kc, rfl, hpi, hko, hb1⟩
    have HE1 := Lib.hid (HE.out.more hb1)
    have HK1 := Lib.hid (Own.lst encK_len hko)
    have HP1 := Lib.hid hpi
    clear hpi hko hb1
    go_wp2_with fail
    refine (HE1.out.rplan hL6 c1 c2 c3 _ budget).mono ?_
    rintro e w2 ⟨ch', pn', err', KB, kd, rfl, hpi, hko, hb2⟩
    obtain ⟨rfl, rfl, rfl⟩ := hpi.unique HP1.out
    have HE2 := Lib.hid (HE1.out.more hb2)
    have HKA := Lib.hid (HK1.out.belowMore hb2 hb2.size)
    have HKB := Lib.hid (Own.lst encK_len hko)
    have hml : ch'.length ≤ 9223372036854775807 := by have := hko.maxLen; unfold maxLen at this; omega
    clear hpi hko hb2
    go_wp2_with fail
    refine (example_any w2).mono ?_
    rintro e w3 ⟨LE, EA, ec, hle, rfl, hjb, hres, h19, hb3⟩
    have HE3 := Lib.hid (HE2.out.more hb3)
    have HPL := Lib.hid (plan_wide EA ec LE A2 c2 cl A3 c3 ow 3601 1 w3 hjb HE3.out.cls HE3.out.ows hres h19 HE3.out.cr HE3.out.wr HE3.out.cb HE3.out.wb)
    have HLE := Lib.hid hle
    have HB3 := Lib.hid hb3
    clear hjb hres h19 hb3 hle
    go_wp2_with fail
    refine HPL.out.mono ?_
    rintro e w4 ⟨l3, n3, e3, KC, k3, rfl, hp3, _, hb4⟩
    rw [HLE.out] at hp3
    obtain rfl := ex_err (.inr (.inl (by omega))) hp3
    have HE4 := Lib.hid (HE3.out.more hb4)
    have HB4 := Lib.hid (HB3.out.trans (hb4.mono HB3.out.size))
    clear hp3 hb4 HPL HLE
    go_wp2_with fail
    refine (example_any w4).mono ?_
    rintro e w5 ⟨LE', EA', ec', hle, rfl, hjb, hres, h19, hb5⟩
    have HE5 := Lib.hid (HE4.out.more hb5)
    have HPL := Lib.hid (plan_wide EA' ec' LE' A2 c2 cl A3 c3 ow 0 1048577 w5 hjb HE5.out.cls HE5.out.ows hres h19 HE5.out.cr HE5.out.wr HE5.out.cb HE5.out.wb)
    have HLE := Lib.hid hle
    have HB5 := Lib.hid (HB4.out.trans (hb5.mono HB4.out.size))
    clear hjb hres h19 hb5 hle
    go_wp2_with fail
    refine HPL.out.mono ?_
    rintro e w6 ⟨l4, n4, e4, KD, k4, rfl, hp4, _, hb6⟩
    rw [HLE.out] at hp4
    obtain rfl := ex_err (.inr (.inr (.inr (by omega)))) hp4
    have HE6 := Lib.hid (HE5.out.more hb6)
    have HB6 := Lib.hid (HB5.out.trans (hb6.mono HB5.out.size))
    clear hp4 hb6 HPL HLE
    go_wp2_with fail
    refine (awake26_any w6).mono ?_
    rintro e w7 ⟨rfl, hb7⟩
    have hb27 := HB6.out.trans (hb7.mono HB6.out.size)
    have hsm : Calls Try.prog 27 #[.slice KA ch'.length kc, .slice KB ch'.length kd] w7 fun e w' => e = .returned (.bool true) ∧ Below w7.heap.size w7 w' := (sameK_any KA KB kc kd ch' ch' w7 (HKA.out.belowMore hb27 hb27.size) (HKB.out.belowMore hb27 hb27.size) hml hml).mono fun _ _ ⟨h1, h2⟩ => ⟨by rw [h1, decide_eq_true rfl], h2⟩
    have HB7 := Lib.hid (HE6.out.bel.trans (hb7.mono HE6.out.bel.size))
    clear hb7 hb27
    go_wp2_with fail
    refine hsm.mono ?_
    rintro e w8 ⟨rfl, hb8⟩
    have HB8 := Lib.hid (HB7.out.trans (hb8.mono HB7.out.size))
    clear hb8 hsm
    go_wp2_with fail
    go_ret
    exact ⟨ret_bool (by simp), HB8.out⟩
end Go.Proofs.Ytlillkfelfoafaa
