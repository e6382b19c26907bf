/-
  What the laws on plans of made jobs share.
-/
import Derived.Test.YtlillkfelfoafaaDivOp
import Derived.Test.YtlillkfelfoafaaDivEz
import Derived.Test.YtlillkfelfoafaaDivRs
set_option linter.unusedVariables false
set_option linter.unusedSimpArgs false
namespace Go.Proofs.Ytlillkfelfoafaa
open Go.RowKit Go.Shelf RP

theorem madeC_r64 {l : List Clo} (h : MadeC l) : ∀ z ∈ l, R64 z.1 ∧ R64 z.2.1 ∧ R64 z.2.2 := fun z hz => by
  have := h.2 z hz
  unfold R64
  omega
theorem madeW_r64 {l : List OWy} (h : MadeW l) : ∀ z ∈ l, R64 z.1 := fun z hz => by
  have := h.2 z hz
  unfold R64
  omega
/-- Made jobs, closures and rules in memory. -/
structure MdS (w w' : World) (JA : Option Addr) (L : List JobM) (CA : Option Addr) (cl : List Clo) (WA : Option Addr) (ow : List OWy) : Prop where
  jobs : Jbs w' w'.heap.size JA L
  cls : Lst encO 3 w' w'.heap.size CA cl
  ows : Lst encW 4 w' w'.heap.size WA ow
  mj : MadeJs (L.map JobM.p)
  mc : MadeC cl
  mw : MadeW ow
  bel : Below w.heap.size w w'
section
variable {w w1 w2 : World} {JA CA WA : Option Addr} {L : List JobM} {cl : List Clo} {ow : List OWy}
theorem MdS.more (h : MdS w w1 JA L CA cl WA ow) (hb : Below w1.heap.size w1 w2) : MdS w w2 JA L CA cl WA ow :=
  ⟨h.jobs.belowMore hb hb.size, h.cls.belowMore hb hb.size, h.ows.belowMore hb hb.size, h.mj, h.mc, h.mw, h.bel.trans (hb.mono h.bel.size)⟩
theorem MdS.small (h : MdS w w1 JA L CA cl WA ow) : 1 ≤ L.length ∧ L.length ≤ 3 ∧ cl.length ≤ 5 ∧ ow.length ≤ 3 := ⟨h.mj.len3.1, h.mj.len3.2, h.mc.1, h.mw.1⟩
theorem MdS.plan (h : MdS w w1 JA L CA cl WA ow) (jc cc wc : Nat) (M B : Int) : Calls Try.prog 25 #[.slice JA L.length jc, .slice CA cl.length cc, .slice WA ow.length wc, .int .i64 M, .int .i64 B] w1 (PlanPost w1 L cl ow M B) := by
  have hs := h.small
  exact plan_any JA jc L CA cc cl WA wc ow M B w1 h.jobs h.cls h.ows h.mj.res (by omega) (fun z hz => (madeC_r64 h.mc z hz).1) (fun z hz => madeW_r64 h.mw z hz) (by omega)
theorem MdS.rplan (h : MdS w w1 JA L CA cl WA ow) (jc cc wc : Nat) (M B : Int) : Calls Try.prog 26 #[.slice JA L.length jc, .slice CA cl.length cc, .slice WA ow.length wc, .int .i64 M, .int .i64 B] w1 (PlanPost w1 L cl ow M B) := by
  have hs := h.small
  exact planJobs_any JA jc L CA cc cl WA wc ow M B w1 h.jobs h.cls h.ows (by omega) (by omega) (by omega)
end
theorem mds_of {w w1 w2 w3 : World} {JA : Option Addr} {jc : Nat} {L : List JobM} {cl : List Clo} {ow : List OWy} {CA WA : Option Addr} {n c m d : Nat} (hj : Own encJb 2 41 w1 (w.heap.size + 1) (.slice JA L.length jc) L) (he : ∀ j ∈ L, JOk w1 (w.heap.size + 1) j) (hm : MadeJs (L.map JobM.p)) (b1 : Below w.heap.size w w1)
    (hc : OwnC w2 w1.heap.size (.slice CA n c) cl) (mc : MadeC cl) (b2 : Below w1.heap.size w1 w2) (ho : Own encW 4 70 w3 w2.heap.size (.slice WA m d) ow) (mo : MadeW ow) (b3 : Below w2.heap.size w2 w3) : MdS w w3 JA L CA cl WA ow := by
  have b23 := b2.trans (b3.mono b2.size)
  have hc3 := (Own.lst encO_len hc).belowMore b3 b3.size
  exact ⟨(jbs_own hj he).belowMore b23 b23.size, hc3, Own.lst encW_len ho, hm, mc, mo, b1.trans (b23.mono b1.size)⟩
end Go.Proofs.Ytlillkfelfoafaa
