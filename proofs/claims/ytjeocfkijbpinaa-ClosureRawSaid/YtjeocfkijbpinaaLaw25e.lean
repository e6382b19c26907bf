/-
  The walk of ClosureRaw: it returns true.
-/
import Derived.Test.YtjeocfkijbpinaaSameC
set_option linter.unusedVariables false
set_option linter.unusedSimpArgs false
namespace Go.Proofs.Ytjeocfkijbpinaa
open Go.RowKit RP

set_option maxHeartbeats 4000000 in
set_option maxRecDepth 100000 in
theorem walkClosureRaw (A : Option Addr) (c : Nat) (l : List Clo) (B : Option Addr) (d : Nat) (oc : List Occ) (r at_ most : Int) (w : World) (ha : ArgO w A c l) (hb : ArgO w B d oc) (hr : R64 r) (hat : R64 at_) (hmo : R64 most)
    (ya : l.length * 24 ≤ 140737488355328) (yb : oc.length * 24 ≤ 140737488355328) :
    Calls Try.prog 9 #[.slice A l.length c, .slice B oc.length d, .int .i64 r, .int .i64 at_, .int .i64 most] w fun e w' => e = .returned (.bool true) ∧ Below w.heap.size w w' := by
  have hla := ha.lst
  have hlo := hb.lst
  have HRA := Lib.hid ha.rng
  have HRO : Hid (∀ x ∈ oc, R64 x.1) := fun x hx => (hb.rng x hx).1
  clear ha hb
  go_enter Try.func9, Try.ntmps9
  have h1 := check_any A c l w hla (by omega)
  go_wp2_with fail
  refine (h1).mono ?_
  rintro e w1 ⟨rfl, hb1⟩
  have z1 := hb1.size
  have hc1 : Below w.heap.size w w1 := Below.trans (Below.refl w.heap.size w) (hb1.mono (Below.size (Below.refl w.heap.size w)))
  replace hla := hla.belowMore hb1 z1
  replace hlo := hlo.belowMore hb1 z1
  clear h1
  have h2 := refCheck_any A c l w1 hla (by omega)
  go_wp2_with fail
  refine (h2).mono ?_
  rintro e w2 ⟨rfl, hb2⟩
  have z2 := hb2.size
  have hc2 : Below w.heap.size w w2 := Below.trans hc1 (hb2.mono (Below.size hc1))
  replace hla := hla.belowMore hb2 z2
  replace hlo := hlo.belowMore hb2 z2
  clear h2
  generalize checkC l = ck
  have hck : (ck != ck) = false := by cases ck <;> rfl
  have h3 := open_any A c l r at_ w2 hla (by omega)
  go_wp2_with fail
  refine (h3).mono ?_
  rintro e w3 ⟨rfl, hb3⟩
  have z3 := hb3.size
  have hc3 : Below w.heap.size w w3 := Below.trans hc2 (hb3.mono (Below.size hc2))
  replace hla := hla.belowMore hb3 z3
  replace hlo := hlo.belowMore hb3 z3
  clear h3
  have h4 := refOpen_any A c l r at_ w3 hla (by omega)
  go_wp2_with fail
  refine (h4).mono ?_
  rintro e w4 ⟨rfl, hb4⟩
  have z4 := hb4.size
  have hc4 : Below w.heap.size w w4 := Below.trans hc3 (hb4.mono (Below.size hc3))
  replace hla := hla.belowMore hb4 z4
  replace hlo := hlo.belowMore hb4 z4
  clear h4
  generalize coverC l r at_ = cv
  have hcv : ((!cv) != (!cv)) = false := by cases cv <;> rfl
  go_wp2_with fail
  refine (cnext_any A c l r at_ w4 hla ya HRA.out hr).mono ?_
  rintro e w5 ⟨n, rfl, hnx, hb5⟩
  have z5 := hb5.size
  have hc5 : Below w.heap.size w w5 := Below.trans hc4 (hb5.mono (Below.size hc4))
  replace hla := hla.belowMore hb5 z5
  replace hlo := hlo.belowMore hb5 z5
  have HN := Lib.hid hnx
  clear hnx
  go_wp2_with fail
  refine (refNext_any A c l r at_ w5 hla (by omega)).mono ?_
  rintro e w6 ⟨n', rfl, hnx', hb6⟩
  have z6 := hb6.size
  have hc6 : Below w.heap.size w w6 := Below.trans hc5 (hb6.mono (Below.size hc5))
  replace hla := hla.belowMore hb6 z6
  replace hlo := hlo.belowMore hb6 z6
  have hnn := HN.out.unique hnx'
  subst hnn
  have hne : (n != n) = false := by simp
  clear hnx' HN
  go_wp2_with fail
  refine (earliest_any A B c d l oc at_ (most.tmod 60) w6 hla hlo ya yb HRA.out HRO.out).mono ?_
  rintro e w7 ⟨e1, ok1, rfl, he1, hb7⟩
  have z7 := hb7.size
  have hc7 : Below w.heap.size w w7 := Below.trans hc6 (hb7.mono (Below.size hc6))
  replace hla := hla.belowMore hb7 z7
  replace hlo := hlo.belowMore hb7 z7
  have HE1 := Lib.hid he1
  clear he1
  go_wp2_with fail
  refine (refEarliest_any A B c d l oc at_ (most.tmod 60) w7 hla hlo (by omega) (by omega)).mono ?_
  rintro e w8 ⟨e2, ok2, rfl, he2, hb8⟩
  have z8 := hb8.size
  have hc8 : Below w.heap.size w w8 := Below.trans hc7 (hb8.mono (Below.size hc7))
  replace hla := hla.belowMore hb8 z8
  replace hlo := hlo.belowMore hb8 z8
  obtain ⟨q1, q2⟩ := HE1.out.unique he2
  subst q1 q2
  clear he2 HE1
  go_wp2_with fail
  refine (awake25_any w8).mono ?_
  rintro e w9 ⟨rfl, hb9⟩
  have z9 := hb9.size
  have hc9 : Below w.heap.size w w9 := Below.trans hc8 (hb9.mono (Below.size hc8))
  replace hla := hla.belowMore hb9 z9
  replace hlo := hlo.belowMore hb9 z9
  go_wp2_with fail
  refine (merge_any A c l w9 hla (by omega)).mono ?_
  rintro e w10 ⟨v1, g1, rfl, ho1, hm1, hb10⟩
  have z10 := hb10.size
  have hc10 : Below w.heap.size w w10 := Below.trans hc9 (hb10.mono (Below.size hc9))
  replace hla := hla.belowMore hb10 z10
  replace hlo := hlo.belowMore hb10 z10
  go_wp2_with fail
  refine (refMerge_any A c l w10 hla (by omega)).mono ?_
  rintro e w11 ⟨v2, g2, rfl, ho2, hm2, hb11⟩
  have z11 := hb11.size
  have hc11 : Below w.heap.size w w11 := Below.trans hc10 (hb11.mono (Below.size hc10))
  replace hla := hla.belowMore hb11 z11
  replace hlo := hlo.belowMore hb11 z11
  replace ho1 := ho1.below' hb11
  have hgg := hm1.unique hm2
  subst hgg
  clear hm1 hm2
  go_wp2_with fail
  refine (sameC_own' v1 v2 g1 g1 w11 _ _ ho1 ho2 rfl).mono ?_
  rintro e w12 ⟨rfl, hb12⟩
  have z12 := hb12.size
  have hc12 : Below w.heap.size w w12 := Below.trans hc11 (hb12.mono (Below.size hc11))
  replace hla := hla.belowMore hb12 z12
  replace hlo := hlo.belowMore hb12 z12
  clear ho1 ho2
  have h5 := enters_any A B c d l oc at_ w12 hla hlo ya (by omega) HRA.out HRO.out
  go_wp2_with fail
  refine (h5).mono ?_
  rintro e w13 ⟨rfl, hb13⟩
  have z13 := hb13.size
  have hc13 : Below w.heap.size w w13 := Below.trans hc12 (hb13.mono (Below.size hc12))
  replace hla := hla.belowMore hb13 z13
  replace hlo := hlo.belowMore hb13 z13
  clear h5
  have h6 := refEnters_any A B c d l oc at_ w13 hla hlo (by omega) (by omega)
  go_wp2_with fail
  refine (h6).mono ?_
  rintro e w14 ⟨rfl, hb14⟩
  have z14 := hb14.size
  have hc14 : Below w.heap.size w w14 := Below.trans hc13 (hb14.mono (Below.size hc13))
  replace hla := hla.belowMore hb14 z14
  replace hlo := hlo.belowMore hb14 z14
  clear h6
  generalize entersC l oc at_ = en
  have d1' : (en == en) = true := by simp
  have d2' : (e1 == e1) = true := by simp
  have d3' : (ok1 == ok1) = true := by simp
  go_wp2_with fail
  go_ret
  exact ⟨rfl, hc14⟩

end Go.Proofs.Ytjeocfkijbpinaa
