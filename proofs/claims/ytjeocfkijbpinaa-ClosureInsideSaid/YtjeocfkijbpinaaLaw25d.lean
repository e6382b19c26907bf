/-
  The walk of ClosureInside: it returns true.
-/
import Derived.Test.YtjeocfkijbpinaaLaw25
set_option linter.unusedVariables false
set_option linter.unusedSimpArgs false
namespace Go.Proofs.Ytjeocfkijbpinaa
open Go.RowKit RP

/-- The first k occupations stretched by p. -/
def stretch (p : Int) (k : Nat) (l : List Occ) : List Occ := (l.take k).map (fun o => (o.1, o.2.1, o.2.2 + p)) ++ l.drop k
theorem stretch_zero (p : Int) (l : List Occ) : stretch p 0 l = l := by simp [stretch]
theorem stretch_len (p : Int) (k : Nat) (l : List Occ) : (stretch p k l).length = l.length := by
  unfold stretch; rw [List.length_append, List.length_map, List.length_take, List.length_drop]; omega
theorem stretch_at {p : Int} {k : Nat} {l : List Occ} (hk : k < l.length) : (stretch p k l)[k]'(by rw [stretch_len]; exact hk) = l[k] := by
  unfold stretch
  rw [List.getElem_append_right (by rw [List.length_map, List.length_take]; omega)]
  simp only [List.length_map, List.length_take, List.getElem_drop]
  congr 1
  omega
theorem stretch_set {p : Int} {k : Nat} {l : List Occ} (hk : k < l.length) : (stretch p k l).set k (l[k].1, l[k].2.1, l[k].2.2 + p) = stretch p (k + 1) l := by
  unfold stretch
  rw [List.set_append_right _ _ (by rw [List.length_map, List.length_take]; omega), List.length_map, List.length_take, Nat.min_eq_left (by omega), Nat.sub_self, List.drop_eq_getElem_cons hk, List.set_cons_zero, List.take_succ_eq_append_getElem hk, List.map_append, List.append_assoc]
  rfl
theorem stretch_all (p : Int) {k : Nat} {l : List Occ} (h : l.length ≤ k) : stretch p k l = l.map (fun o => (o.1, o.2.1, o.2.2 + p)) := by
  unfold stretch; rw [List.take_of_length_le h, List.drop_of_length_le h, List.append_nil]
theorem enters_stretched (p : Int) (l : List Clo) (occ : List Occ) (s : Int) : entersC l (occ.map fun o => (o.1, o.2.1, o.2.2 + p)) s = entersC l occ s := by
  unfold entersC; rw [List.all_map]; rfl
theorem enters_made {l : List Clo} {occ : List Occ} {s : Int} (h : MadeO 6 occ) (h0 : 0 ≤ s) (h1 : s < 60) : entersC l occ s = occ.all fun o => !coverC l o.1 (s + o.2.1) := by
  unfold entersC
  rw [smallC_iff.2 (by omega), Bool.true_and, Bool.eq_iff_iff, List.all_eq_true, List.all_eq_true]
  constructor
  · intro q o ho; have := q o ho; rw [Bool.and_eq_true] at this; exact this.2
  · intro q o ho; rw [q o ho, Bool.and_true]; have := h.2.2 o ho; exact smallC_iff.2 (by omega)

set_option maxHeartbeats 4000000 in
set_option maxRecDepth 100000 in
theorem walkClosureInside (A : Option Addr) (c : Nat) (l : List Int) (B : Option Addr) (d : Nat) (m : List Int) (at_ longer : Int) (w : World) (hl : ArgI w A c l) (hm : ArgI w B d m) (hat : R64 at_) (hlo : R64 longer) :
    Calls Try.prog 6 #[.slice A l.length c, .slice B m.length d, .int .i64 at_, .int .i64 longer] w fun e w' => e = .returned (.bool true) ∧ Below w.heap.size w w' := by
  have hp := pickI_range at_ 60 (by omega)
  have hpm := pickI_range longer 50 (by omega)
  have hpick := fun W => pick_any at_ 60 W (by omega) (by omega)
  have hpick2 := fun W => pick_any longer 50 W (by omega) (by omega)
  generalize pickI at_ 60 = x at *
  generalize pickI longer 50 = p at *
  obtain ⟨p1, p2⟩ := hp
  obtain ⟨p3, p4⟩ := hpm
  have HP := Lib.hid hpick
  have HP2 := Lib.hid hpick2
  clear hpick hpick2
  go_enter Try.func6, Try.ntmps6
  go_wp2_with fail
  refine (closures_any A c l w hl).mono ?_
  rintro e w1 ⟨vc, o, rfl, hoc, hmc, hb1⟩
  have z1 := hb1.size
  have hc1 : Below w.heap.size w w1 := Below.trans (Below.refl w.heap.size w) (hb1.mono (Below.size (Below.refl w.heap.size w)))
  replace hm := hm.below hb1
  go_wp2_with fail
  refine (occupations_any B d m w1 hm).mono ?_
  rintro e w2 ⟨vo, oc, rfl, hoo, hmo', hb2⟩
  have z2 := hb2.size
  have hc2 : Below w.heap.size w w2 := Below.trans hc1 (hb2.mono (Below.size hc1))
  replace hoc := hoc.below' hb2
  obtain ⟨A1, c1, rfl, hol, _, _⟩ := hoc.cut encO_len
  obtain ⟨B1, d1, rfl, hoL, _, _⟩ := hoo.cut encO_len
  have HMC := Lib.hid hmc
  have hlen := hmc.1
  have hlen2 := hmo'.2.1
  have HRO := Lib.hid (hmo'.rng (by omega))
  have HMO := Lib.hid hmo'
  clear hoc hmc hoo hmo' hm hl
  have hS := hc2
  have zS := Below.size hS
  clear hc1 hc2 hb1 hb2 z1 z2
  go_wp2_with fail
  refine (HP.out _).mono ?_
  rintro e w' ⟨rfl, rfl⟩
  go_wp2_with (at_builtin; refine wpList_append_lst rfl _ _ 37 rfl w2.heap.size 39 24 Try.underlying37 elemO _ [] rfl (Own.nil _ _ _ _ _) oc _ _ d1 w2.heap.size rfl rfl hoL (by simp only [Go.maxLen, List.length_nil]; omega) (by simp only [List.length_nil]; omega) (Nat.le_refl _) ?_; intro v4 w4 ho4 hg4 hat4; rw [List.nil_append] at ho4; obtain ⟨A4, c4, rfl⟩ := ho4.form)
  have hb4 : Below w2.heap.size w2 w4 := below_of_grownBy hg4 (Nat.le_refl _) (fun k hk => by cases hk)
  clear hg4 hat4
  have z4 := hb4.size
  go_loopg [13, 27] oc.length (fun g s13 s27 wr => ∃ k : Nat, k ≤ oc.length ∧ g = oc.length - k ∧ s27 = .int .i64 k ∧ OwnO wr w2.heap.size (.slice A4 oc.length c4) (stretch p k oc) ∧ Below w2.heap.size w2 wr)
  case atStart => exact ⟨0, by omega, rfl, rfl, by rw [stretch_zero]; exact ho4, hb4⟩
  case round =>
    obtain ⟨k, hk, hg, rfl, ho, hb⟩ := hrel
    have HG := Lib.hid hg
    clear hg ho4 hb4
    have hz := hb.size
    by_cases hlt : k < oc.length
    · have hne : stretch p k oc ≠ [] := fun h => by have := stretch_len p k oc; rw [h] at this; simp at this; omega
      obtain ⟨g, c', hv, hge, hgw, hcc, hcell, hfz⟩ := ho.at_ encO_len hne
      rw [stretch_len] at hv
      injection hv with hv1 _ hv2
      subst hv1 hv2
      have hsl : k < (stretch p k oc).length := by rw [stretch_len]; exact hlt
      have cu := hcell k _ (List.getElem?_eq_getElem hsl) 2 (.int .i64 (stretch p k oc)[k].2.2) rfl
      rw [stretch_at hlt] at cu
      have fu := hfz (k * 3 + 2)
      have hbd := HMO.out.2.2 oc[k] (List.getElem_mem hlt)
      have HST := Lib.hid (fun (W : World) (h : OwnO W w2.heap.size (.slice (some ⟨g, 0, none⟩) oc.length c4) (stretch p k oc)) => h.stored encO_len k 2 (.int .i64 (oc[k].2.2 + p)) (oc[k].1, oc[k].2.1, oc[k].2.2 + p) hsl (by omega) (by rw [stretch_at hlt]; rfl))
      rw [stretch_set hlt] at HST
      generalize oc[k].2.2 = t at *
      generalize oc[k].2.1 = f at *
      clear hcell hfz hne
      have i1 : (0 : Int) ≤ (k : Int) := by omega
      have i2 : (k : Int) < (oc.length : Int) := by omega
      go_upto_region 8 with fail
      refine wp_region_still_tail 10 (by kernel_rfl) (by kernel_rfl) ?_
      simp only [List.take_succ_cons, List.take_zero, List.drop_succ_cons, List.drop_zero]
      have cu' : { wr with drawn := wr.drawn + 1 }.cell? ⟨g, k * 3 + 2, none⟩ = some (.int .i64 t) := cu
      have fu' : { wr with drawn := wr.drawn + 1 }.frozen? ⟨g, k * 3 + 2, none⟩ = false := fu
      have ho' : OwnO { wr with drawn := wr.drawn + 1 } w2.heap.size (.slice (some ⟨g, 0, none⟩) oc.length c4) (stretch p k oc) := ho.drew
      have hb' : Below w2.heap.size w2 { wr with drawn := wr.drawn + 1 } := hb.drew
      clear cu fu ho hb
      generalize { wr with drawn := wr.drawn + 1 } = W3 at *
      have hwr : IntKind.i64.wrap (t + p) = t + p := IntWalk.i64_in _ (by omega)
      still_step
      still_step
      still_step
      still_step
      still_step
      still_step
      still_call ((HP2.out _).mono fun _ _ ⟨a, b⟩ => ⟨a, b.symm⟩)
      still_step
      still_step
      still_step
      refine wpStill_nil ?_
      clear hwr
      have HO6 := Lib.hid (HST.out _ ho').1
      have HB6 := Lib.hid (hb'.setCell (p := ⟨g, k * 3 + 2, none⟩) (by show w2.heap.size ≤ g; omega) (.int .i64 (t + p)))
      go_wp2_with fail
      go_roundg (oc.length - (k + 1))
      case measure => have := HG.out; omega
      case rel => exact ⟨k + 1, by omega, rfl, by go_num, HO6.out, HB6.out⟩
    · rw [stretch_all p (by omega)] at ho
      have hlm : (oc.map fun o => (o.1, o.2.1, o.2.2 + p)).length = oc.length := by simp
      have hsl := ho.lst encO_len
      have hol2 := hol.belowMore hb hz
      have hoL2 := hoL.belowMore hb hz
      have hS2 := hS.trans (hb.mono zS)
      have zS2 := Below.size hS2
      clear hS zS hol hoL ho hb hz
      generalize wr = V2 at *
      have HEN := Lib.hid (enters_made (l := o) HMO.out p1 p2)
      have HEX := Lib.hid (enters_stretched p o oc x)
      have HRS : Hid (∀ y ∈ (oc.map fun o => (o.1, o.2.1, o.2.2 + p)), R64 y.1) := fun y hy => by
        obtain ⟨z, hz, rfl⟩ := List.mem_map.1 hy
        exact HRO.out z hz
      have HLM := Lib.hid hlm
      clear hlm
      go_wp2_with fail
      go_loopg [14, 16, 43] oc.length (fun g s14 s16 s43 wr => ∃ k : Nat, k ≤ oc.length ∧ g = oc.length - k ∧ s43 = .int .i64 k ∧ s14 = .bool ((oc.take k).all fun v => !coverC o v.1 (x + v.2.1)) ∧ Below V2.heap.size V2 wr)
      case atStart => exact ⟨0, by omega, rfl, rfl, rfl, Below.refl _ _⟩
      case round =>
        obtain ⟨k, hk, hg, rfl, rfl, hb⟩ := hrel
        have HG := Lib.hid hg
        clear hg
        have hz := hb.size
        by_cases hlt : k < oc.length
        · obtain ⟨b, off, rfl, hbw, c0, c1', c2⟩ := (hoL2.below hb).oc k hlt
          have HSN := Lib.hid (show (oc.take (k + 1)).all (fun v => !coverC o v.1 (x + v.2.1)) = ((oc.take k).all (fun v => !coverC o v.1 (x + v.2.1)) && !coverC o oc[k].1 (x + oc[k].2.1)) by rw [take_snoc oc k hlt, List.all_append]; simp)
          have hbd := HMO.out.2.2 oc[k] (List.getElem_mem hlt)
          generalize oc[k] = q at *
          obtain ⟨r, f, e⟩ := q
          simp only at c0 c1' c2 hbd HSN
          generalize (oc.take k).all (fun v => !coverC o v.1 (x + v.2.1)) = op at *
          have hbW := hb.alloc hz (.cells #[.int .i64 r, .int .i64 f, .int .i64 e] 39)
          cases op with
          | true =>
            have hrf := fun W h => refOpen_any A1 c1 o r (x + f) W h (by omega)
            have HRF := Lib.hid hrf
            clear hrf
            go_wp2_with fail
            generalize wr.alloc (.cells #[.int .i64 r, .int .i64 f, .int .i64 e] 39) = W at *
            have hzW := hbW.size
            refine (HRF.out W (hol2.belowMore hbW hzW)).mono ?_
            rintro e' w6 ⟨rfl, hb6⟩
            go_wp2_with fail
            go_roundg (oc.length - (k + 1))
            case measure => have := HG.out; omega
            case rel => exact ⟨k + 1, by omega, rfl, by go_num, by rw [HSN.out]; simp, hbW.trans (hb6.mono hzW)⟩
          | false =>
            go_wp2_with fail
            go_roundg (oc.length - (k + 1))
            case measure => have := HG.out; omega
            case rel => exact ⟨k + 1, by omega, rfl, by go_num, by rw [HSN.out]; simp, hbW⟩
        · have hop : (oc.take k).all (fun v => !coverC o v.1 (x + v.2.1)) = entersC o oc x := by rw [List.take_of_length_le (by omega), HEN.out]
          rw [hop]
          clear hop
          have hla := hol2.belowMore hb hz
          have hlb := hoL2.belowMore hb hz
          have hlc := hsl.belowMore hb hz
          go_wp2_with fail
          refine (awake25_any wr).mono ?_
          rintro e w1 ⟨rfl, hb1⟩
          have z1 := hb1.size
          have hc1 : Below wr.heap.size wr w1 := Below.trans (Below.refl wr.heap.size wr) (hb1.mono (Below.size (Below.refl wr.heap.size wr)))
          replace hla := hla.belowMore hb1 z1
          replace hlb := hlb.belowMore hb1 z1
          replace hlc := hlc.belowMore hb1 z1
          have h1 := enters_any A1 B1 c1 d1 o oc x w1 hla hlb (by omega) (by omega) HMC.out.rng HRO.out
          have h2 := fun W ha hc => enters_any A1 A4 c1 c4 o (oc.map fun o => (o.1, o.2.1, o.2.2 + p)) x W ha hc (by omega) (by have := HLM.out; omega) HMC.out.rng HRS.out
          rw [HLM.out, HEX.out] at h2
          have H2 := Lib.hid h2
          clear h2
          go_wp2_with fail
          refine (h1).mono ?_
          rintro e w2 ⟨rfl, hb2⟩
          have z2 := hb2.size
          have hc2 : Below wr.heap.size wr w2 := Below.trans hc1 (hb2.mono (Below.size hc1))
          replace hla := hla.belowMore hb2 z2
          replace hlb := hlb.belowMore hb2 z2
          replace hlc := hlc.belowMore hb2 z2
          clear h1
          generalize entersC o oc x = en at *
          have den : (en == en) = true := by simp
          go_wp2_with fail
          refine (H2.out w2 hla hlc).mono ?_
          rintro e w3 ⟨rfl, hb3⟩
          have z3 := hb3.size
          have hc3 : Below wr.heap.size wr w3 := Below.trans hc2 (hb3.mono (Below.size hc2))
          replace hla := hla.belowMore hb3 z3
          replace hlb := hlb.belowMore hb3 z3
          replace hlc := hlc.belowMore hb3 z3
          go_wp2_with fail
          go_ret
          exact ⟨rfl, hS2.trans ((hb.trans (hc3.mono hz)).mono zS2)⟩

end Go.Proofs.Ytjeocfkijbpinaa
