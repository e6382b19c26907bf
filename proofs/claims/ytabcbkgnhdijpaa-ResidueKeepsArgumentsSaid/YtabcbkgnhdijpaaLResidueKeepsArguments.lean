/-
  The walk of ResidueKeepsArguments: it returns true.
-/
import Derived.Test.YtabcbkgnhdijpaaLawKit
import Derived.Test.YtabcbkgnhdijpaaSpare
import Derived.Test.YtabcbkgnhdijpaaIntersect
import Derived.Test.YtabcbkgnhdijpaaComplement
import Derived.Test.YtabcbkgnhdijpaaShift
import Derived.Deep.RegionHeld3
set_option linter.unusedVariables false
set_option linter.unusedSimpArgs false
namespace Go.Proofs.Ytabcbkgnhdijpaa
open Go.RowKit RP

/-- A slice value as a record of one cell. -/
abbrev Slc := Option Addr × Nat × Nat
def encT (x : Slc) : List Value := [.slice x.1 x.2.1 x.2.2]
theorem encT_len (x : Slc) : (encT x).length = 1 := rfl
theorem infoSl : (Try.prog.info? 22).map (fun i => (i.zero, i.size, i.bytes)) = some (some (.slice none 0 0), 1, 24) := by kernel_rfl
theorem elemT : ElemOk Try.prog encT 1 22 24 :=
  ⟨fun _ => rfl, by omega, fun x u hu => by simp [encT] at hu; subst hu; rfl, by
    obtain ⟨i, hi, h0, h1, h2⟩ := info_parts infoSl
    exact ⟨i, _, hi, h0, h1, h2, rfl⟩⟩
abbrev OwnT (w : World) (base : Nat) (v : Value) (l : List Slc) : Prop := Own encT 1 22 w base v l

/-- A row of spans from block B on, that may be written. -/
def RowS (w : World) (B : Nat) (x : Slc) : Prop := x.2.1 ≤ 100000000 ∧ x.2.2 ≤ 9223372036854775807 ∧ x.2.1 ≤ x.2.2 ∧ (x.2.1 = 0 ∨ ∃ g, x.1 = some ⟨g, 0, none⟩ ∧ B ≤ g ∧ ∃ cs : Array Value, w.heap[g]? = some (.cells cs 31 (0, 0)) ∧ 2 * x.2.1 ≤ cs.size)
theorem RowS.below {w w' : World} {B : Nat} {x : Slc} (h : RowS w B x) (hb : Below w.heap.size w w') : RowS w' B x := by
  obtain ⟨h0, h1, h2, h3⟩ := h
  refine ⟨h0, h1, h2, ?_⟩
  rcases h3 with h3 | ⟨g, e, hB, cs, hg, hc⟩
  · exact .inl h3
  · exact .inr ⟨g, e, hB, cs, (hb.block g (lt_of_block hg)).trans hg, hc⟩
theorem RowS.grown {w w' : World} {B : Nat} {x : Slc} {row : Option Nat} (h : RowS w B x) (hg : w.grownBy w' row) (hr : ∀ g, row = some g → ∃ o, w.heap[g]? = some o ∧ ∀ cs : Array Value, o ≠ .cells cs 31 (0, 0)) : RowS w' B x := by
  obtain ⟨h0, h1, h2, h3⟩ := h
  refine ⟨h0, h1, h2, ?_⟩
  rcases h3 with h3 | ⟨g, e, hB, cs, hgc, hc⟩
  · exact .inl h3
  · refine .inr ⟨g, e, hB, cs, (hg.block g (lt_of_block hgc) (fun q => ?_)).trans hgc, hc⟩
    obtain ⟨o, ho, hne⟩ := hr g q.symm
    rw [hgc] at ho
    injection ho with ho
    exact hne cs ho.symm
theorem RowS.set {w : World} {B : Nat} {x : Slc} (h : RowS w B x) (b o : Nat) (u : Value) : RowS (w.setCell ⟨b, o, none⟩ u) B x := by
  obtain ⟨h0, h1, h2, h3⟩ := h
  refine ⟨h0, h1, h2, ?_⟩
  rcases h3 with h3 | ⟨g, e, hB, cs, hgc, hc⟩
  · exact .inl h3
  · by_cases hq : g = b
    · subst hq
      refine .inr ⟨g, e, hB, cs.setIfInBounds o u, ?_, by simpa using hc⟩
      simp [World.setCell, Array.getElem?_modify, hgc]
    · exact .inr ⟨g, e, hB, cs, (Below.heap_setCell _ _ _ _ hq).trans hgc, hc⟩
theorem RowS.of_own {w : World} {B : Nat} {v : Value} {l : List Sp} (h : OwnS w B v l) (hn : l.length ≤ 100000000) : ∃ A c, v = .slice A l.length c ∧ RowS w B (A, l.length, c) := by
  rcases h.2 with ⟨rfl, h0⟩ | ⟨g, cap, cur, rfl, hg, hh, hnc, hm, hs, _⟩
  · exact ⟨none, 0, by rw [h0], by simp [h0], by simp, by simp [h0], .inl h0⟩
  · exact ⟨_, cap, rfl, hn, by simp only [maxLen] at hm; simp only; omega, hnc, .inr ⟨g, rfl, hg, cur, hh, by rw [hs]; simp only; omega⟩⟩
theorem own_not_span {w : World} {B : Nat} {v : Value} {l : List Slc} (h : OwnT w B v l) : ∀ g, v.ownBlock = some g → ∃ o, w.heap[g]? = some o ∧ ∀ cs : Array Value, o ≠ .cells cs 31 (0, 0) := by
  intro g hg
  rcases h.2 with ⟨rfl, _⟩ | ⟨g', cap, cur, rfl, _, hh, _⟩
  · cases hg
  · have : g' = g := by simpa [Value.ownBlock] using hg
    subst this
    refine ⟨_, hh, fun cs q => ?_⟩
    injection q with _ q
    revert q
    decide

theorem op_len {T : Nat} {P : Nat → Bool} {b : Prop} [Decidable b] (h : T ≤ 7200) : (if b then runs P T else []).length ≤ 100000000 := by
  split
  · exact Nat.le_trans (runs_len P T) (by omega)
  · simp
theorem bad_len {T : Nat} {P : Nat → Bool} (h : T ≤ 7200) : (runs P T).length ≤ 100000000 := Nat.le_trans (runs_len P T) (by omega)


set_option maxHeartbeats 8000000 in
set_option maxRecDepth 100000 in
theorem walkResidueKeepsArguments (t : Int) (A1 : Option Addr) (c1 : Nat) (l : List Int) (A2 : Option Addr) (c2 : Nat) (m : List Int) (w : World) (ht : R64 t) (hl : ArgI w A1 c1 l) (hm : ArgI w A2 c2 m) :
    Calls Try.prog 14 #[.int .i64 t, .slice A1 l.length c1, .slice A2 m.length c2] w fun e w' => e = .returned (.bool true) ∧ Below w.heap.size w w' := by
  obtain ⟨t1, t2⟩ := ht
  have hp := perI_range t
  have hper := fun W => period_any t W t1 t2
  generalize perI t = p at *
  obtain ⟨hp1, hp2⟩ := hp
  obtain ⟨T, rfl⟩ := Int.eq_ofNat_of_zero_le (show 0 ≤ p by omega)
  go_enter Try.func14, Try.ntmps14
  go_wp2_with fail
  refine (hper _).mono ?_
  rintro e w' ⟨rfl, rfl⟩
  go_wp2_with fail
  refine (set_any T A1 c1 l w hl (by omega) (by omega)).mono ?_
  rintro e w1 ⟨va, x, rfl, hox, hvx, hb1⟩
  have z1 := hb1.size
  have hc1 : Below w.heap.size w w1 := Below.trans (Below.refl w.heap.size w) (hb1.mono (Below.size (Below.refl w.heap.size w)))
  replace hm := hm.below hb1
  go_wp2_with fail
  refine (set_any T A2 c2 m w1 hm (by omega) (by omega)).mono ?_
  rintro e w2 ⟨vb, y, rfl, hoy, hvy, hb2⟩
  have z2 := hb2.size
  have hc2 : Below w.heap.size w w2 := Below.trans hc1 (hb2.mono (Below.size hc1))
  replace hm := hm.below hb2
  replace hox := hox.below' hb2
  have lx := valid_length hvx (by omega)
  have ly := valid_length hvy (by omega)
  have HVX := Lib.hid hvx
  have HVY := Lib.hid hvy
  clear hvx hvy
  obtain ⟨Ax, cx, rfl, hx, hxc, hcx⟩ := hox.arg
  obtain ⟨Ay, cy, rfl, hy, hyc, hcy⟩ := hoy.arg
  clear hm hox hoy hper
  have hbF := below_refl_alloc w2 (.cells #[.int .i64 (-1), .int .i64 (-1)] 31)
  have hgF : w2.heap.size < (w2.alloc (.cells #[.int .i64 (-1), .int .i64 (-1)] 31)).heap.size := by simp
  have cF0 : (w2.alloc (.cells #[.int .i64 (-1), .int .i64 (-1)] 31)).cell? ⟨w2.heap.size, 0, none⟩ = some (.int .i64 (-1)) := by rw [World.cell?_alloc_at _ _ _ _ rfl]; rfl
  have cF1 : (w2.alloc (.cells #[.int .i64 (-1), .int .i64 (-1)] 31)).cell? ⟨w2.heap.size, 1, none⟩ = some (.int .i64 (-1)) := by rw [World.cell?_alloc_at _ _ _ _ rfl]; rfl
  replace hx := hx.belowMore hbF (Nat.le_of_lt hgF)
  replace hy := hy.belowMore hbF (Nat.le_of_lt hgF)
  have hcF := hc2.trans (hbF.mono z2 |>.mono (by omega))
  go_upto_region 4 with fail
  generalize w2.alloc (.cells #[.int .i64 (-1), .int .i64 (-1)] 31) = W0 at *
  generalize w2.heap.size = gF at *
  have hW : Below W0.heap.size W0 W0.drew := (Below.refl _ _).drew
  have hsx := fun W' (h : Below W0.heap.size W0 W') => spare_any Ax cx x (-1) (-1) W' (hx.belowMore h h.size) (by omega)
  have hsy := fun W' (h : Below W0.heap.size W0 W') => spare_any Ay cy y (-1) (-1) W' (hy.belowMore h h.size) (by omega)
  have HSX := Lib.hid hsx
  have HSY := Lib.hid hsy
  clear hsx hsy
  go_region_held3 (fun w' => w'.cell? ⟨gF, 0, none⟩ = some (.int .i64 (-1)) ∧ w'.cell? ⟨gF, 1, none⟩ = some (.int .i64 (-1)))
    (exact ⟨(hW.cell (p := ⟨gF, 0, none⟩) hgF).trans cF0, (hW.cell (p := ⟨gF, 1, none⟩) hgF).trans cF1⟩)
    (first
      | (go_at_call 40; ((with_reducible refine (HSX.out _ hW).mono ?_); rintro e wz ⟨ga, rfl, hsa, hbx⟩; (try replace hsb := hsb.below hbx); replace hW := hW.trans (hbx.mono hW.size)))
      | (go_at_call 40; ((with_reducible refine (HSY.out _ hW).mono ?_); rintro e wz ⟨gb, rfl, hsb, hby⟩; (try replace hsa := hsa.below hby); replace hW := hW.trans (hby.mono hW.size))))
  all_goals
    have hga := hsa.2.1
    have hgb := hsb.2.1
    have hW5 := hcF.trans (hW.mono (by omega))
    have hzW := hW.size
    have z5 := hW5.size
    go_wp2_with fail
    go_loopg [13, 14, 15] 5 (fun g s13 s14 s15 wr => ∃ (k : Nat) (ts : List Slc), k ≤ 5 ∧ g = 5 - k ∧ s14 = .int .i64 k ∧ ts.length = k ∧ OwnT wr wz.heap.size s13 ts ∧ (∀ t ∈ ts, RowS wr wz.heap.size t) ∧ Below wz.heap.size wz wr)
    case atStart => exact ⟨0, [], by omega, rfl, rfl, rfl, Own.nil _ _ _ _ _, by simp, Below.refl _ _⟩
    case round =>
      obtain ⟨k, ts, hk, hg, rfl, htl, hoa, hrows, hbw⟩ := hrel
      have hz := hbw.size
      have hsa' := hsa.keep (hbw.mono hga)
      have hsb' := hsb.keep (hbw.mono hgb)
      have hla := hsa'.lst
      have hlb := hsb'.lst
      have HROWS := Lib.hid hrows
      have HTL := Lib.hid htl
      have htl' : ts.length ≤ 5 := by omega
      clear hrows htl
      obtain rfl | rfl | rfl | rfl | rfl | rfl : k = 0 ∨ k = 1 ∨ k = 2 ∨ k = 3 ∨ k = 4 ∨ k = 5 := by omega
      · go_wp2_with fail
        refine (union_any T _ _ _ _ x y wr hla hlb (by omega) (by omega)).mono ?_
        rintro e w6 ⟨vr, rfl, hor, hbr⟩
        have hlr : (unionI T x y).length ≤ 100000000 := op_len (T := T) (by omega)
        generalize unionI T x y = R at *
        obtain ⟨Ar, cr, rfl, hrow⟩ := RowS.of_own (hor.rebase (show wz.heap.size ≤ _ by omega)) hlr
        have hz5 := hbr.size
        have hoa' := hoa.below' hbr
        have hbw6 := hbw.trans (hbr.mono hz)
        have HRB := Lib.hid hbr
        have HROW := Lib.hid hrow
        clear hoa hbr hrow hsa' hsb' hla hlb hor
        obtain ⟨A13, c13, rfl⟩ := hoa'.form
        go_wp2_with (at_builtin; refine wpList_append_rec rfl _ _ 52 rfl wz.heap.size 22 24 Try.underlying52 elemT _ ts rfl hoa' [(Ar, _, cr)] _ rfl 1 1 rfl rfl (by simp only [Go.maxLen, List.length_cons, List.length_nil]; omega) (by simp only [List.length_cons, List.length_nil]; omega) (by omega) ?_; intro v1 w7 ho7 hg7 hat7)
        go_roundg (5 - (0 + 1))
        case measure => omega
        case rel =>
          refine ⟨0 + 1, _, by omega, rfl, by simp, by rw [List.length_append, HTL.out]; rfl, ho7, fun t ht => ?_, hbw6.grown hg7 (by omega) (fun q hq => (World.ownsRow.lt hoa' q hq).1)⟩
          rcases List.mem_append.1 ht with ht | ht
          · exact ((HROWS.out t ht).below HRB.out).grown hg7 (own_not_span hoa')
          · simp at ht; subst ht
            exact HROW.out.grown hg7 (own_not_span hoa')
      · go_wp2_with fail
        refine (intersect_any T _ _ _ _ x y wr hla hlb (by omega) (by omega) (by omega) (by omega)).mono ?_
        rintro e w6 ⟨vr, rfl, hor, hbr⟩
        have hlr : (interI T x y).length ≤ 100000000 := op_len (T := T) (by omega)
        generalize interI T x y = R at *
        obtain ⟨Ar, cr, rfl, hrow⟩ := RowS.of_own (hor.rebase (show wz.heap.size ≤ _ by omega)) hlr
        have hz5 := hbr.size
        have hoa' := hoa.below' hbr
        have hbw6 := hbw.trans (hbr.mono hz)
        have HRB := Lib.hid hbr
        have HROW := Lib.hid hrow
        clear hoa hbr hrow hsa' hsb' hla hlb hor
        obtain ⟨A13, c13, rfl⟩ := hoa'.form
        go_wp2_with (at_builtin; refine wpList_append_rec rfl _ _ 52 rfl wz.heap.size 22 24 Try.underlying52 elemT _ ts rfl hoa' [(Ar, _, cr)] _ rfl 1 1 rfl rfl (by simp only [Go.maxLen, List.length_cons, List.length_nil]; omega) (by simp only [List.length_cons, List.length_nil]; omega) (by omega) ?_; intro v1 w7 ho7 hg7 hat7)
        go_roundg (5 - (1 + 1))
        case measure => omega
        case rel =>
          refine ⟨1 + 1, _, by omega, rfl, by simp, by rw [List.length_append, HTL.out]; rfl, ho7, fun t ht => ?_, hbw6.grown hg7 (by omega) (fun q hq => (World.ownsRow.lt hoa' q hq).1)⟩
          rcases List.mem_append.1 ht with ht | ht
          · exact ((HROWS.out t ht).below HRB.out).grown hg7 (own_not_span hoa')
          · simp at ht; subst ht
            exact HROW.out.grown hg7 (own_not_span hoa')
      · go_wp2_with fail
        refine (complement_any T _ _ x wr hla (by omega)).mono ?_
        rintro e w6 ⟨vr, rfl, hor, hbr⟩
        have hlr : (compI T x).length ≤ 100000000 := op_len (T := T) (by omega)
        generalize compI T x = R at *
        obtain ⟨Ar, cr, rfl, hrow⟩ := RowS.of_own (hor.rebase (show wz.heap.size ≤ _ by omega)) hlr
        have hz5 := hbr.size
        have hoa' := hoa.below' hbr
        have hbw6 := hbw.trans (hbr.mono hz)
        have HRB := Lib.hid hbr
        have HROW := Lib.hid hrow
        clear hoa hbr hrow hsa' hsb' hla hlb hor
        obtain ⟨A13, c13, rfl⟩ := hoa'.form
        go_wp2_with (at_builtin; refine wpList_append_rec rfl _ _ 52 rfl wz.heap.size 22 24 Try.underlying52 elemT _ ts rfl hoa' [(Ar, _, cr)] _ rfl 1 1 rfl rfl (by simp only [Go.maxLen, List.length_cons, List.length_nil]; omega) (by simp only [List.length_cons, List.length_nil]; omega) (by omega) ?_; intro v1 w7 ho7 hg7 hat7)
        go_roundg (5 - (2 + 1))
        case measure => omega
        case rel =>
          refine ⟨2 + 1, _, by omega, rfl, by simp, by rw [List.length_append, HTL.out]; rfl, ho7, fun t ht => ?_, hbw6.grown hg7 (by omega) (fun q hq => (World.ownsRow.lt hoa' q hq).1)⟩
          rcases List.mem_append.1 ht with ht | ht
          · exact ((HROWS.out t ht).below HRB.out).grown hg7 (own_not_span hoa')
          · simp at ht; subst ht
            exact HROW.out.grown hg7 (own_not_span hoa')
      · go_wp2_with fail
        refine (shift_any T _ _ x 0 wr hla (by omega) (by omega) (by omega)).mono ?_
        rintro e w6 ⟨vr, rfl, hor, hbr⟩
        have hlr : (shiftI T x (0 % T)).length ≤ 100000000 := op_len (T := T) (by omega)
        generalize shiftI T x (0 % T) = R at *
        obtain ⟨Ar, cr, rfl, hrow⟩ := RowS.of_own (hor.rebase (show wz.heap.size ≤ _ by omega)) hlr
        have hz5 := hbr.size
        have hoa' := hoa.below' hbr
        have hbw6 := hbw.trans (hbr.mono hz)
        have HRB := Lib.hid hbr
        have HROW := Lib.hid hrow
        clear hoa hbr hrow hsa' hsb' hla hlb hor
        obtain ⟨A13, c13, rfl⟩ := hoa'.form
        go_wp2_with (at_builtin; refine wpList_append_rec rfl _ _ 52 rfl wz.heap.size 22 24 Try.underlying52 elemT _ ts rfl hoa' [(Ar, _, cr)] _ rfl 1 1 rfl rfl (by simp only [Go.maxLen, List.length_cons, List.length_nil]; omega) (by simp only [List.length_cons, List.length_nil]; omega) (by omega) ?_; intro v1 w7 ho7 hg7 hat7)
        go_roundg (5 - (3 + 1))
        case measure => omega
        case rel =>
          refine ⟨3 + 1, _, by omega, rfl, by simp, by rw [List.length_append, HTL.out]; rfl, ho7, fun t ht => ?_, hbw6.grown hg7 (by omega) (fun q hq => (World.ownsRow.lt hoa' q hq).1)⟩
          rcases List.mem_append.1 ht with ht | ht
          · exact ((HROWS.out t ht).below HRB.out).grown hg7 (own_not_span hoa')
          · simp at ht; subst ht
            exact HROW.out.grown hg7 (own_not_span hoa')
      · go_wp2_with fail
        refine (sum_any T _ _ _ _ x y wr hla hlb (by omega) (by omega)).mono ?_
        rintro e w6 ⟨vr, rfl, hor, hbr⟩
        have hlr : (sumI T x y).length ≤ 100000000 := op_len (T := T) (by omega)
        generalize sumI T x y = R at *
        obtain ⟨Ar, cr, rfl, hrow⟩ := RowS.of_own (hor.rebase (show wz.heap.size ≤ _ by omega)) hlr
        have hz5 := hbr.size
        have hoa' := hoa.below' hbr
        have hbw6 := hbw.trans (hbr.mono hz)
        have HRB := Lib.hid hbr
        have HROW := Lib.hid hrow
        clear hoa hbr hrow hsa' hsb' hla hlb hor
        obtain ⟨A13, c13, rfl⟩ := hoa'.form
        go_wp2_with (at_builtin; refine wpList_append_rec rfl _ _ 52 rfl wz.heap.size 22 24 Try.underlying52 elemT _ ts rfl hoa' [(Ar, _, cr)] _ rfl 1 1 rfl rfl (by simp only [Go.maxLen, List.length_cons, List.length_nil]; omega) (by simp only [List.length_cons, List.length_nil]; omega) (by omega) ?_; intro v1 w7 ho7 hg7 hat7)
        go_roundg (5 - (4 + 1))
        case measure => omega
        case rel =>
          refine ⟨4 + 1, _, by omega, rfl, by simp, by rw [List.length_append, HTL.out]; rfl, ho7, fun t ht => ?_, hbw6.grown hg7 (by omega) (fun q hq => (World.ownsRow.lt hoa' q hq).1)⟩
          rcases List.mem_append.1 ht with ht | ht
          · exact ((HROWS.out t ht).below HRB.out).grown hg7 (own_not_span hoa')
          · simp at ht; subst ht
            exact HROW.out.grown hg7 (own_not_span hoa')
      · clear hla hlb hsa' hsb'
        obtain ⟨gA, cA, rfl, hgAb, hgAl, hgAc, _, _⟩ := hoa.at_ encT_len (by intro h; have := HTL.out; rw [h] at this; simp at this)
        have hlen5 : 5 ≤ ts.length := by rw [HTL.out]; omega
        obtain ⟨wo, rfl⟩ : ∃ wo : World, wo = wr := ⟨_, rfl⟩
        go_wp2_with fail
        go_loopg [16, 17, 85] ts.length (fun g' s16 s17 s85 wr => ∃ i : Nat, i ≤ ts.length ∧ g' = ts.length - i ∧ s85 = .int .i64 i ∧ OwnT wr wz.heap.size (.slice (some ⟨gA, 0, none⟩) ts.length cA) ts ∧ (∀ t ∈ ts, RowS wr wz.heap.size t) ∧ Below wz.heap.size wz wr)
        case atStart => exact ⟨0, by omega, by omega, rfl, hoa, HROWS.out, hbw⟩
        case round =>
          obtain ⟨i, hi, hg', rfl, hoi, hri, hbi⟩ := hrel
          have HRI := Lib.hid hri
          clear hri
          by_cases hlt : i < ts.length
          · have hri := HRI.out ts[i] (List.getElem_mem hlt)
            have hci : ∀ wq, OwnT wq wz.heap.size (.slice (some ⟨gA, 0, none⟩) ts.length cA) ts → wq.cell? ⟨gA, i, none⟩ = some (.slice ts[i].1 ts[i].2.1 ts[i].2.2) := fun wq hq => by
              obtain ⟨b', o', he, _, hcc⟩ := (hq.lst encT_len) (by intro h; rw [h] at hlt; simp at hlt)
              injection he with he
              injection he with he1 he2
              subst he1 he2
              have := hcc i ts[i] (List.getElem?_eq_getElem hlt) 0 _ rfl
              simpa using this
            have HMEM := Lib.hid (List.getElem_mem hlt)
            have HCI := Lib.hid hci
            clear hci
            have ci := HCI.out _ hoi
            generalize ts[i] = x0 at *
            obtain ⟨Ai, ni, ci'⟩ := x0
            obtain ⟨r1, r2, r3, rq⟩ := hri
            clear rq
            simp only at r1 r2 r3 ci HCI
            have i1 : (0 : Int) ≤ (i : Int) := by omega
            go_wp2_with fail
            clear ci
            go_loopg [17, 93] ni (fun g'' s17 s93 wr => ∃ k : Nat, k ≤ ni ∧ g'' = ni - k ∧ s93 = .int .i64 k ∧ OwnT wr wz.heap.size (.slice (some ⟨gA, 0, none⟩) ts.length cA) ts ∧ (∀ t ∈ ts, RowS wr wz.heap.size t) ∧ Below wz.heap.size wz wr)
            case atStart => exact ⟨0, by omega, by omega, rfl, hoi, HRI.out, hbi⟩
            case round =>
              obtain ⟨k, hk, hg'', rfl, hok, hrk, hbk⟩ := hrel
              have HRK := Lib.hid hrk
              clear hrk
              by_cases hltk : k < ni
              · obtain ⟨_, _, _, h3⟩ := HRK.out _ HMEM.out
                simp only at h3
                rcases h3 with h3 | ⟨g, rfl, hB, cs, hgc, hcs⟩
                · omega
                · have ck := HCI.out _ hok
                  have q0 := cell_of_row wr g (k * 2) cs 31 (0, 0) hgc
                  have q1 := cell_of_row wr g (k * 2 + 1) cs 31 (0, 0) hgc
                  rw [Array.getElem?_eq_getElem (by omega)] at q0 q1
                  generalize cs[k * 2]'(by omega) = y0 at *
                  generalize cs[k * 2 + 1]'(by omega) = y1 at *
                  have f0 := frozen_of_row wr g (k * 2) cs 31 hgc
                  have f1 := frozen_of_row wr g (k * 2 + 1) cs 31 hgc
                  have hgA : g ≠ gA := fun e => by
                    subst e
                    obtain ⟨o, ho, hne⟩ := own_not_span hok g rfl
                    rw [hgc] at ho
                    injection ho with ho
                    exact hne cs ho.symm
                  have hgA' : gA ≠ g := Ne.symm hgA
                  have k1 : (0 : Int) ≤ (k : Int) := by omega
                  have HGC := Lib.hid hgc
                  clear hgc
                  go_wp2_with fail
                  go_roundg (ni - (k + 1))
                  case measure => omega
                  case rel =>
                    refine ⟨k + 1, by omega, by omega, by go_num, ?_, fun t ht => ((HRK.out t ht).set g (k * 2) _).set g (k * 2 + 1) _, (hbk.setCell (p := ⟨g, k * 2, none⟩) hB _).setCell (p := ⟨g, k * 2 + 1, none⟩) hB _⟩
                    exact ownsRow_setCell_other (ownsRow_setCell_other hok (a := ⟨g, k * 2, none⟩) (by simp [Value.ownBlock]; omega) _) (a := ⟨g, k * 2 + 1, none⟩) (by simp [Value.ownBlock]; omega) _
              · go_wp2_with fail
                go_roundg (ts.length - (i + 1))
                case measure => omega
                case rel => exact ⟨i + 1, by omega, by omega, by go_num, hok, HRK.out, hbk⟩
          · have hz' := hbi.size
            have hsa' := hsa.keep (hbi.mono hga)
            have hsb' := hsb.keep (hbi.mono hgb)
            have hxx := (hx.belowMore hW hzW).belowMore hbi hz'
            have hyy := (hy.belowMore hW hzW).belowMore hbi hz'
            have e0 := (hbi.cell (p := ⟨gF, 0, none⟩) (by show gF < _; omega)).trans ((hW.cell (p := ⟨gF, 0, none⟩) hgF).trans cF0)
            have e1 := (hbi.cell (p := ⟨gF, 1, none⟩) (by show gF < _; omega)).trans ((hW.cell (p := ⟨gF, 1, none⟩) hgF).trans cF1)
            have hgF' : gF < wr.heap.size := by omega
            have hall := hW5.trans (hbi.mono z5)
            clear hsa hsb hx hy cF0 cF1
            clear HROWS HRI hoa hoi
            go_wp2_with fail
            refine (awake2_any _).mono ?_
            rintro e w8 ⟨rfl, hb8⟩
            have z8 := hb8.size
            have hsa8 := hsa'.below hb8
            have hsb8 := hsb'.below hb8
            have hx8 := hxx.belowMore hb8 z8
            have hy8 := hyy.belowMore hb8 z8
            replace e0 := (hb8.cell (p := ⟨gF, 0, none⟩) hgF').trans e0
            replace e1 := (hb8.cell (p := ⟨gF, 1, none⟩) hgF').trans e1
            clear hsa' hsb' hxx hyy
            go_wp2_with fail
            refine (kept_any ga _ Ax cx x (-1) (-1) w8 hsa8 hx8 (by omega)).mono ?_
            rintro e w9 ⟨rfl, hb9⟩
            have z9 := hb9.size
            have hsb9 := hsb8.below hb9
            have hy9 := hy8.belowMore hb9 z9
            replace e0 := (hb9.cell (p := ⟨gF, 0, none⟩) (by show gF < _; omega)).trans e0
            replace e1 := (hb9.cell (p := ⟨gF, 1, none⟩) (by show gF < _; omega)).trans e1
            clear hsa8 hsb8 hx8 hy8
            go_wp2_with fail
            refine (kept_any gb _ Ay cy y (-1) (-1) w9 hsb9 hy9 (by omega)).mono ?_
            rintro e w10 ⟨rfl, hb10⟩
            have za := hall.size
            go_wp2_with fail
            go_ret
            exact ⟨rfl, ((hall.trans (hb8.mono (by omega))).trans (hb9.mono (by omega))).trans (hb10.mono (by omega))⟩

end Go.Proofs.Ytabcbkgnhdijpaa
