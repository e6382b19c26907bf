/-
  The walk of HeadwayWindowsAreFew: it returns true.
-/
import Derived.Test.YtdijhhfmicafjaaLHeadwayWindows
set_option linter.unusedVariables false
set_option linter.unusedSimpArgs false
namespace Go.Proofs.Ytdijhhfmicafjaa
open Go.RowKit RP

theorem few_facts {T : Nat} {a b : List Occ} (t1 : 1 ≤ T) (t2 : T ≤ 7200) (ha : validO (-1) a = true) (hb : validO (-1) b = true) :
    (winErr T a b = 0 ∨ winErr T a b = 13) ∧ (winR T a b).length ≤ (pairsO a b).length ∧ (∀ v ∈ winR T a b, 0 ≤ v.1 ∧ v.1 ≤ v.2 ∧ v.2 - v.1 ≤ T - 2 ∧ v.2 ≤ 2 * T) ∧ (winR T a b).Pairwise fun x y => x.2 < y.2 := by
  rcases win_cases t1 t2 ha hb with ⟨_, h1, h2⟩ | ⟨_, h1, h2, h3⟩
  · rw [h1, h2]; exact ⟨.inr rfl, by simp, by simp, List.Pairwise.nil⟩
  · rw [h1, h2]
    have hv := runs_valid (forbB T (pairsO a b)) T
    refine ⟨.inl rfl, by rw [List.length_map]; exact win_few t1 h3, win_bounds hv h3, ?_⟩
    rw [List.pairwise_map]
    exact (wrap_pairwise hv).imp fun h => by simp only [win1]; omega

def foundN (b : List Occ) (r : Int) (k : Nat) : Nat := if (findO (b.take k) r).isSome then 1 else 0
theorem found_no {b : List Occ} {r : Int} {k : Nat} (hk : k < b.length) (h : b[k].1 ≠ r) : foundN b r (k + 1) = foundN b r k := by
  unfold foundN
  cases e : findO (b.take k) r with
  | none => rw [find_take_no hk e h]
  | some y =>
    have : findO (b.take (k + 1)) r = some y := by
      rw [take_snoc b k hk, findO, List.find?_append]
      rw [findO] at e
      rw [e]; rfl
    rw [this]
theorem found_yes {p : Int} {b : List Occ} (hb : validO p b = true) {r : Int} {k : Nat} (hk : k < b.length) (h : b[k].1 = r) : foundN b r k = 0 ∧ foundN b r (k + 1) = 1 := by
  have hn : findO (b.take k) r = none := by
    cases e : findO (b.take k) r with
    | none => rfl
    | some y =>
      exfalso
      obtain ⟨hy, hr⟩ := findO_some e
      have hs : validO p (b.take k ++ [b[k]]) = true := by
        rw [← take_snoc b k hk]
        have := validO_append (b.take (k + 1)) (b.drop (k + 1)) p
        rw [List.take_append_drop, hb] at this
        cases q : validO p (b.take (k + 1)) with
        | true => rfl
        | false => rw [q] at this; simp at this
      have h1 := (validO_snoc.1 hs)
      have h2 : y.1 ≤ lastR p (b.take k) := by
        have : ∀ (l : List Occ) (q : Int), validO q l = true → ∀ z ∈ l, z.1 ≤ lastR q l := by
          intro l
          induction l with
          | nil => intro _ _ z hz; simp at hz
          | cons x l ih =>
            intro q hq z hz
            obtain ⟨g1, g2⟩ := validO_cons.1 hq
            rw [lastR_cons]
            rcases List.mem_cons.1 hz with rfl | hz
            · exact lastR_le g2
            · exact ih _ g2 z hz
        exact this _ _ h1.1 y hy
      have h3 := h1.2.1
      omega
  refine ⟨by simp [foundN, hn], ?_⟩
  have : findO (b.take (k + 1)) r = some b[k] := by
    rw [take_snoc b k hk, findO, List.find?_append]
    rw [findO] at hn
    rw [hn]
    simp [h]
  simp [foundN, this]
theorem pairs_found {a b : List Occ} {k : Nat} (hk : k < a.length) : (pairsO (a.take (k + 1)) b).length = (pairsO (a.take k) b).length + foundN b a[k].1 b.length := by
  rw [pairs_snoc hk, List.length_append, foundN, List.take_length]
  cases findO b a[k].1 <;> simp

set_option maxHeartbeats 8000000 in
set_option maxRecDepth 100000 in
theorem walkHeadwayWindowsAreFew (t : Int) (A1 : Option Addr) (c1 : Nat) (l : List Int) (A2 : Option Addr) (c2 : Nat) (m : List Int) (w : World) (ht : R64 t) (hl : ArgI w A1 c1 l) (hm : ArgI w A2 c2 m) :
    Calls Try.prog 11 #[.int .i64 t, .slice A1 l.length c1, .slice A2 m.length c2] w fun e w' => e = .returned (.bool true) ∧ Below w.heap.size w w' := by
  have hp := pickI_range t 90 (by omega)
  have hpick := fun W => pick_any t 90 W (by omega) (by omega)
  generalize pickI t 90 = p at *
  obtain ⟨p1, p2⟩ := hp
  obtain ⟨T, hT⟩ : ∃ T : Nat, 1 + p = (T : Int) := ⟨(1 + p).toNat, by omega⟩
  have t1 : 1 ≤ T := by omega
  have t2 : T ≤ 90 := by omega
  go_enter Try.func11, Try.ntmps11
  go_wp2_with fail
  refine (hpick _).mono ?_
  rintro e w' ⟨rfl, rfl⟩
  clear hpick
  go_wp2_with fail
  refine (occupations_any A1 c1 l w hl).mono ?_
  rintro e w1 ⟨va, a, rfl, hoa, hma, hb1⟩
  have z1 := hb1.size
  have hc1 : Below w.heap.size w w1 := Below.trans (Below.refl w.heap.size w) (hb1.mono (Below.size (Below.refl w.heap.size w)))
  replace hm := hm.below hb1
  go_wp2_with fail
  refine (occupations_any A2 c2 m w1 hm).mono ?_
  rintro e w2 ⟨vb, b, rfl, hob, hmb, hb2⟩
  have z2 := hb2.size
  have hc2 : Below w.heap.size w w2 := Below.trans hc1 (hb2.mono (Below.size hc1))
  replace hoa := hoa.below' hb2
  obtain ⟨A', c', rfl, ha, hac, hc'⟩ := hoa.cut encO_len
  obtain ⟨B', d', rfl, hb, hbc, hd'⟩ := hob.cut encO_len
  obtain ⟨hE, hfew, hbd, hpw⟩ := few_facts (T := T) t1 (by omega) hma.1 hmb.1
  have HE := Lib.hid hE
  have HBD := Lib.hid hbd
  have HPW := Lib.hid hpw
  have HVB := Lib.hid hmb.1
  have al := hma.2.1
  have bl := hmb.2.1
  clear hma hmb hm hE hbd hpw
  clear hoa hob
  go_wp2_with fail
  clear hT
  go_wp2_with fail
  refine (windows_any T A' B' c' d' a b w2 ha hb hac hc' hbc hd').mono ?_
  rintro e w3 ⟨vw, rfl, how, hb3⟩
  have z3 := hb3.size
  have hc3 : Below w.heap.size w w3 := Below.trans hc2 (hb3.mono (Below.size hc2))
  replace ha := ha.belowMore hb3 z3
  replace hb := hb.belowMore hb3 z3
  generalize winErr T a b = E at *
  generalize winR T a b = L at *
  obtain ⟨Aw, cw, rfl⟩ := how.form
  have hwl := how.maxLen
  simp only [maxLen] at hwl
  have hwlst := how.lst encS_len
  go_wp2_with fail
  go_loopg [11, 12, 13, 31] a.length (fun g s11 s12 s13 s31 wr => ∃ i : Nat, i ≤ a.length ∧ g = a.length - i ∧ s31 = .int .i64 i ∧ s11 = .int .i64 ((pairsO (a.take i) b).length : Nat) ∧ Below w3.heap.size w3 wr)
  case atStart => exact ⟨0, by omega, by omega, rfl, rfl, Below.refl _ _⟩
  case round =>
    obtain ⟨i, hi, hg, rfl, rfl, hbw⟩ := hrel
    have hz := hbw.size
    have hpl := pairs_len (a.take i) b
    rw [List.length_take] at hpl
    by_cases hlt : i < a.length
    · obtain ⟨ab, aoff, rfl, habw, a0, a1, a2⟩ := (ha.below hbw).oc i hlt
      have HS := Lib.hid (pairs_found (b := b) hlt)
      generalize a[i].1 = r at *
      clear a1 a2
      generalize (pairsO (a.take i) b).length = N at *
      go_wp2_with fail
      obtain ⟨wo, rfl⟩ : ∃ wo : World, wo = wr := ⟨_, rfl⟩
      go_loopg [11, 13, 36] b.length (fun g' s11 s13 s36 wr => ∃ k : Nat, k ≤ b.length ∧ g' = b.length - k ∧ s36 = .int .i64 k ∧ s11 = .int .i64 ((N + foundN b r k : Nat) : Int) ∧ Below w3.heap.size wo wr)
      case atStart => exact ⟨0, by omega, by omega, rfl, by simp [foundN, findO], Below.refl _ _⟩
      case round =>
        obtain ⟨k, hk, hg', rfl, rfl, hbo⟩ := hrel
        have hbw' := hbw.trans hbo
        replace a0 := (hbo.cell (p := ⟨ab, aoff + i * 3, none⟩) (by show ab < _; omega)).trans a0
        have fn1 : foundN b r k ≤ 1 := by unfold foundN; split <;> omega
        by_cases hlt' : k < b.length
        · obtain ⟨bb, boff, rfl, hbbw, b0, b1, b2⟩ := (hb.below hbw').oc k hlt'
          clear b1 b2
          have i1 : (0 : Int) ≤ (i : Int) := by omega
          have i2 : (i : Int) < (a.length : Int) := by omega
          have k1 : (0 : Int) ≤ (k : Int) := by omega
          have k2 : (k : Int) < (b.length : Int) := by omega
          by_cases q1 : b[k].1 = r
          · have HF := Lib.hid (found_yes HVB.out hlt' q1)
            have d1 : (r == b[k].1) = true := by simp [q1]
            clear q1
            generalize b[k].1 = r' at *
            obtain ⟨X, hX⟩ : ∃ X, foundN b r k = X := ⟨_, rfl⟩
            rw [hX] at fn1 HF ⊢
            clear hX
            go_wp2_with fail
            go_quiet (fail)
            go_wp2_with fail
            go_roundg (b.length - (k + 1))
            case measure => omega
            case rel =>
              obtain ⟨f1, f2⟩ := HF.out
              exact ⟨k + 1, by omega, rfl, by go_num, by rw [f2, f1]; simp, below_drewN hbo _⟩
          · have HF := Lib.hid (found_no hlt' q1)
            have d1 : (r == b[k].1) = false := by simp; exact fun h => q1 h.symm
            clear q1
            generalize b[k].1 = r' at *
            obtain ⟨X, hX⟩ : ∃ X, foundN b r k = X := ⟨_, rfl⟩
            rw [hX] at fn1 HF ⊢
            clear hX
            go_wp2_with fail
            go_quiet (fail)
            go_wp2_with fail
            go_roundg (b.length - (k + 1))
            case measure => omega
            case rel => exact ⟨k + 1, by omega, rfl, by go_num, by rw [HF.out], below_drewN hbo _⟩
        · rw [show N + foundN b r k = (pairsO (a.take (i + 1)) b).length by rw [show k = b.length by omega]; exact HS.out.symm]
          go_wp2_with fail
          go_roundg (a.length - (i + 1))
          case measure => omega
          case rel => exact ⟨i + 1, by omega, rfl, by go_num, rfl, hbw'⟩
    · rw [List.take_of_length_le (show a.length ≤ i by omega)]
      rw [List.take_of_length_le (show a.length ≤ i by omega)] at hpl
      generalize (pairsO a b).length = N at *
      obtain ⟨wo, rfl⟩ : ∃ wo : World, wo = wr := ⟨_, rfl⟩
      go_wp2_with fail
      go_loopg [14, 56] L.length (fun g' s14 s56 wr => ∃ k : Nat, k ≤ L.length ∧ g' = L.length - k ∧ s56 = .int .i64 k ∧ Below w3.heap.size wo wr)
      case atStart => exact ⟨0, by omega, by omega, rfl, Below.refl _ _⟩
      case round =>
        obtain ⟨k, hk, hg', rfl, hbo⟩ := hrel
        have hbw' := hbw.trans hbo
        by_cases hlt' : k < L.length
        · obtain ⟨bb, boff, rfl, hbbw, hcc⟩ := (hwlst.below hbw') (by rintro rfl; simp at hlt')
          have b0 := hcc k L[k] (List.getElem?_eq_getElem hlt') 0 _ rfl
          have b1 := hcc k L[k] (List.getElem?_eq_getElem hlt') 1 _ rfl
          rw [Nat.add_zero] at b0
          obtain ⟨v1, v2, v3, v4⟩ := HBD.out L[k] (List.getElem_mem hlt')
          have k1 : (0 : Int) ≤ (k : Int) := by omega
          have k2 : (k : Int) < (L.length : Int) := by omega
          cases k with
          | zero =>
            clear hcc
            generalize L[0] = x at *
            obtain ⟨lo, hi'⟩ := x
            simp only [Nat.zero_mul, Nat.add_zero] at v1 v2 v3 v4 b0 b1
            have s1 : IntKind.i64.wrap (hi' - lo) = hi' - lo := IntWalk.i64_in _ (by omega)
            have s2 : IntKind.i64.wrap ((T : Int) - 2) = (T : Int) - 2 := IntWalk.i64_in _ (by omega)
            have d1 : decide ((T : Int) - 2 < hi' - lo) = false := by simp; omega
            have dk : decide ((0 : Int) < ((0 : Nat) : Int)) = false := by simp
            go_wp2_with fail
            go_quiet (fail)
            clear s1 s2
            go_wp2_with fail
            go_roundg (L.length - (0 + 1))
            case measure => omega
            case rel => exact ⟨0 + 1, by omega, by omega, by go_num, below_drewN hbo _⟩
          | succ K =>
            have hK : K < L.length := by omega
            have p1 := hcc K L[K] (List.getElem?_eq_getElem hK) 1 _ rfl
            have hlt3 := (List.pairwise_iff_getElem.1 HPW.out) K (K + 1) hK hlt' (by omega)
            clear hcc
            generalize L[K + 1] = x at *
            generalize L[K] = y at *
            obtain ⟨lo, hi'⟩ := x
            obtain ⟨ylo, yhi⟩ := y
            simp only at v1 v2 v3 v4 b0 b1 p1 hlt3
            have s1 : IntKind.i64.wrap (hi' - lo) = hi' - lo := IntWalk.i64_in _ (by omega)
            have s2 : IntKind.i64.wrap ((T : Int) - 2) = (T : Int) - 2 := IntWalk.i64_in _ (by omega)
            have d1 : decide ((T : Int) - 2 < hi' - lo) = false := by simp; omega
            have dk : decide ((0 : Int) < ((K + 1 : Nat) : Int)) = true := by simp
            have dk' : decide ((0 : Int) < (K : Int) + 1) = true := by simp
            have hwr : IntKind.i64.wrap ((K : Int) + 1 - 1) = (K : Int) := by rw [IntWalk.i64_in _ (by omega)]; omega
            have i3 : (0 : Int) ≤ (K : Int) := by omega
            have i4 : (K : Int) < (L.length : Int) := by omega
            have d2 : decide (hi' ≤ yhi) = false := by simp; omega
            go_wp2_with fail
            go_quiet (fail)
            clear s1 s2
            go_wp2_with fail
            go_roundg (L.length - (K + 1 + 1))
            case measure => omega
            case rel => exact ⟨K + 1 + 1, by omega, by omega, by go_num, below_drewN hbo _⟩
        · have hc0 := hc3.trans (hbw'.mono (by omega))
          have hcz := hc0.size
          rcases HE.out with rfl | rfl
          all_goals
            go_wp2_with fail
            refine (awake9_any _).mono ?_
            rintro e w5 ⟨rfl, hb5⟩
            go_wp2_with fail
            go_ret
            exact ⟨rfl, hc0.trans (hb5.mono (by omega))⟩

end Go.Proofs.Ytdijhhfmicafjaa
