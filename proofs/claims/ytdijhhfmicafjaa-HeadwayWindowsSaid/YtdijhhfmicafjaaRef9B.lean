/-
  Contracts of the reference's find, Least and Alone.
-/
import Derived.Test.YtdijhhfmicafjaaRef9A
set_option linter.unusedVariables false
set_option linter.unusedSimpArgs false
namespace Go.Proofs.Ytdijhhfmicafjaa
open Go.RowKit RP

def findV (b : List Occ) (r : Int) : Occ × Bool := match findO b r with | some y => (y, true) | none => ((0, 0, 0), false)

theorem find_take_no {b : List Occ} {k : Nat} (hk : k < b.length) {r : Int} (h : findO (b.take k) r = none) (h' : b[k].1 ≠ r) : findO (b.take (k + 1)) r = none := by
  rw [take_snoc b k hk, findO, List.find?_append]
  rw [findO] at h
  rw [h]
  simp [h']
theorem find_take_yes {b : List Occ} {k : Nat} (hk : k < b.length) {r : Int} (h : findO (b.take k) r = none) (h' : b[k].1 = r) : findO b r = some b[k] := by
  have e : findO (b.take k ++ b.drop k) r = some b[k] := by
    rw [findO, List.find?_append]
    rw [findO] at h
    rw [h, Option.none_or, List.drop_eq_getElem_cons hk, List.find?_cons_of_pos (by simp [h'])]
  rwa [List.take_append_drop] at e

set_option maxHeartbeats 1000000 in
theorem find9_any (A : Option Addr) (c : Nat) (b : List Occ) (r : Int) (w : World) (hl : Lst encO 3 w w.heap.size A b) (hn : b.length ≤ 9223372036854775807) :
    Calls Try.prog 50 #[.slice A b.length c, .int .i64 r] w fun e w' => e = .returned (.tuple #[.agg #[.int .i64 (findV b r).1.1, .int .i64 (findV b r).1.2.1, .int .i64 (findV b r).1.2.2], .bool (findV b r).2]) ∧ Below w.heap.size w w' := by
  have hb0 := below_refl_alloc w (.cells #[.int .i64 0, .int .i64 0, .int .i64 0] 41)
  have hl0 := hl.below hb0
  go_enter Try.func50, Try.ntmps50
  go_wp2_with fail
  go_loop [6] (fun s6 => ∃ k : Nat, k ≤ b.length ∧ s6 = .int .i64 k ∧ findO (b.take k) r = none) (fun i => b.length - (intOf i).toNat)
  case atStart => exact ⟨0, by omega, rfl, rfl⟩
  case round =>
    obtain ⟨k, hk, rfl, hf⟩ := hrel
    have HF := Lib.hid hf
    clear hf
    by_cases hlt : k < b.length
    · obtain ⟨bb, off, rfl, hbw, c0, c1, c2⟩ := hl0.oc k hlt
      have HNO := Lib.hid (fun h => find_take_no hlt HF.out h)
      have HYES := Lib.hid (fun h => find_take_yes hlt HF.out h)
      generalize b[k] = x at *
      obtain ⟨r', f, e⟩ := x
      simp only at c0 c1 c2
      by_cases h : r' = r
      · have d : (r' == r) = true := by simp [h]
        have HV := Lib.hid (show findV b r = ((r', f, e), true) by rw [findV, HYES.out h])
        clear h
        go_wp2_with fail
        refine bodyPost_ret (v := .tuple #[.agg #[.int .i64 r', .int .i64 f, .int .i64 e], .bool true]) (by simp [results, Try.results50, go_sem]) rfl ⟨by rw [HV.out], ?_⟩
        exact below_refl_alloc w _
      · have d : (r' == r) = false := by simp [h]
        have HV := Lib.hid (HNO.out h)
        clear h
        go_wp2_with fail
        go_round
        case rel => exact ⟨k + 1, by omega, by go_num, HV.out⟩
        case measure => simp [intOf]; omega
    · have HV := Lib.hid (show findV b r = ((0, 0, 0), false) by have := HF.out; rw [List.take_of_length_le (by omega)] at this; rw [findV, this])
      go_wp2_with fail
      refine bodyPost_ret (v := .tuple #[.agg #[.int .i64 0, .int .i64 0, .int .i64 0], .bool false]) (by simp [results, Try.results50, go_sem]) rfl ⟨by rw [HV.out], ?_⟩
      exact below_refl_alloc w _

set_option maxHeartbeats 2000000 in
theorem refAlone_any (t : Int) (A : Option Addr) (c : Nat) (l : List Occ) (w : World) (hl : Lst encO 3 w w.heap.size A l) (hn : l.length ≤ 9223372036854775807) :
    Calls Try.prog 40 #[.int .i64 t, .slice A l.length c] w fun e w' => e = .returned (.bool (aloneL t l)) ∧ Below w.heap.size w w' := by
  have hin := fun W => in9_any t 1 7200 W
  cases hr : inRange t with
  | false =>
    have hr' : (decide (1 ≤ t) && decide (t ≤ 7200)) = false := hr
    rw [hr'] at hin
    have H := Lib.hid (show aloneL t l = false by simp [aloneL, hr])
    clear hr hr'
    go_enter Try.func40, Try.ntmps40
    go_wp2_with (go_at_call 51; refine (hin _).mono ?_; rintro e w1 ⟨rfl, rfl⟩)
    go_ret
    exact ⟨ret_bool H.out.symm, Below.refl _ _⟩
  | true =>
    have hr' : (decide (1 ≤ t) && decide (t ≤ 7200)) = true := hr
    rw [hr'] at hin
    have ht : 1 ≤ t ∧ t ≤ 7200 := by simpa [inRange] using hr
    obtain ⟨ht1, ht2⟩ := ht
    have hva := validList_any A c l w hl hn
    cases hv : validO (-1) l with
    | false =>
      rw [hv] at hva
      have H := Lib.hid (show aloneL t l = false by simp [aloneL, hv])
      clear hr hr' hv
      go_enter Try.func40, Try.ntmps40
      go_wp2_with (first | (go_at_call 51; refine (hin _).mono ?_; rintro e w1 ⟨rfl, rfl⟩) | (go_at_call 39; refine hva.mono ?_; rintro e w1 ⟨rfl, hb1⟩))
      go_ret
      exact ⟨ret_bool H.out.symm, hb1⟩
    | true =>
      rw [hv] at hva
      have HR := Lib.hid hr
      have HV := Lib.hid hv
      clear hr hr' hv
      go_enter Try.func40, Try.ntmps40
      go_wp2_with (first | (go_at_call 51; refine (hin _).mono ?_; rintro e w1 ⟨rfl, rfl⟩) | (go_at_call 39; refine hva.mono ?_; rintro e w1 ⟨rfl, hb1⟩))
      clear hva hin
      go_loopg [5] l.length (fun g s5 wr => ∃ k : Nat, k ≤ l.length ∧ g = l.length - k ∧ s5 = .int .i64 k ∧ aloneB t (l.take k) = true ∧ Below w.heap.size w wr)
      case atStart => exact ⟨0, by omega, by omega, rfl, rfl, hb1⟩
      case round =>
        obtain ⟨k, hk, hg, rfl, ha, hb⟩ := hrel
        have HA := Lib.hid ha
        clear ha
        by_cases hlt : k < l.length
        · obtain ⟨b, off, rfl, hbw, c0, c1, c2⟩ := (hl.below hb).oc k hlt
          have HNO := Lib.hid (fun h => all_no (p := fun o : Occ => decide (o.2.2 - o.2.1 ≤ t)) hlt h)
          have HYES := Lib.hid (fun h => all_take_snoc (p := fun o : Occ => decide (o.2.2 - o.2.1 ≤ t)) hlt HA.out h)
          obtain ⟨v1, v2, v3, v4⟩ := validO_get HV.out hlt
          generalize l[k] = x at *
          obtain ⟨r, f, e⟩ := x
          simp only at v1 v2 v3 v4 c0 c1 c2
          have s1 : IntKind.i64.wrap (e - f) = e - f := IntWalk.i64_in _ (by omega)
          have i1 : (0 : Int) ≤ (k : Int) := by omega
          have i2 : (k : Int) < (l.length : Int) := by omega
          by_cases q : t < e - f
          · have dq : decide (t < e - f) = true := by simpa using q
            go_wp2_with fail
            go_quiet (fail)
            go_wp2_with fail
            go_ret
            refine ⟨ret_bool ?_, below_drewN hb _⟩
            have := HNO.out (by simp; omega)
            unfold aloneL aloneB
            rw [this]; simp
          · have dq : decide (t < e - f) = false := by simp; omega
            go_wp2_with fail
            go_quiet (fail)
            clear s1
            go_wp2_with fail
            go_roundg (l.length - (k + 1))
            case measure => omega
            case rel => exact ⟨k + 1, by omega, rfl, by go_num, HYES.out (by simp; omega), below_drewN hb _⟩
        · go_wp2
          go_ret
          have ha := HA.out
          rw [List.take_of_length_le (by omega)] at ha
          exact ⟨ret_bool (by simp [aloneL, HR.out, HV.out, ha]), hb⟩

theorem find_bound {p : Int} {b : List Occ} (hb : validO p b = true) (r : Int) : -65536 ≤ (findV b r).1.2.1 ∧ (findV b r).1.2.1 ≤ 65536 ∧ -65536 ≤ (findV b r).1.2.2 ∧ (findV b r).1.2.2 ≤ 65536 := by
  unfold findV
  cases h : findO b r with
  | none => simp
  | some y => have := validO_lt hb y (findO_some h).1; simp only; omega
theorem pairs_step {a b : List Occ} {k : Nat} (hk : k < a.length) : pairsO (a.take (k + 1)) b = if (findV b a[k].1).2 then pairsO (a.take k) b ++ [(a[k], (findV b a[k].1).1)] else pairsO (a.take k) b := by
  rw [pairs_snoc hk, findV]
  cases findO b a[k].1 <;> simp
theorem leastO_bound {p p' : Int} {a b : List Occ} (ha : validO p a = true) (hb : validO p' b = true) (k : Nat) : -200000 ≤ (leastO (pairsO (a.take k) b)).1 ∧ (leastO (pairsO (a.take k) b)).1 ≤ 200000 := by
  rcases least_spec (pairsO (a.take k) b) with ⟨_, h0⟩ | ⟨_, ⟨q, hq, h1⟩, _⟩
  · rw [h0]; simp
  · obtain ⟨m1, m2, _⟩ := (pairs_iff hb).1 hq
    have v1 := validO_lt ha _ (List.mem_of_mem_take m1)
    have v2 := validO_lt hb _ m2
    omega

set_option maxHeartbeats 4000000 in
theorem refLeast_any (A B : Option Addr) (c d : Nat) (a b : List Occ) (w : World) (ha : Lst encO 3 w w.heap.size A a) (hb : Lst encO 3 w w.heap.size B b) (hn : a.length ≤ 9223372036854775807) (hn' : b.length ≤ 9223372036854775807) :
    Calls Try.prog 37 #[.slice A a.length c, .slice B b.length d] w fun e w' => e = .returned (.tuple #[.int .i64 (leastL a b).1, .bool (leastL a b).2]) ∧ Below w.heap.size w w' := by
  have hva := validList_any A c a w ha hn
  cases h1 : validO (-1) a with
  | false =>
    rw [h1] at hva
    have H := Lib.hid (show leastL a b = (0, false) by simp [leastL, h1])
    clear h1
    go_enter Try.func37, Try.ntmps37
    go_wp2_with (go_at_call 39; refine hva.mono ?_; rintro e w1 ⟨rfl, hb1⟩)
    go_ret2
    exact ⟨by rw [H.out]; rfl, hb1⟩
  | true =>
    rw [h1] at hva
    have H1 := Lib.hid h1
    clear h1
    have hvb := fun W (hW : Below w.heap.size w W) => validList_any B d b W (hb.belowMore hW hW.size) hn'
    cases h2 : validO (-1) b with
    | false =>
      rw [h2] at hvb
      have H := Lib.hid (show leastL a b = (0, false) by simp [leastL, h2])
      clear h2
      go_enter Try.func37, Try.ntmps37
      go_wp2_with fail
      refine hva.mono ?_
      rintro e w1 ⟨rfl, hb1⟩
      go_wp2_with fail
      refine (hvb _ hb1).mono ?_
      rintro e w2 ⟨rfl, hb2⟩
      go_wp2_with fail
      go_ret2
      exact ⟨by rw [H.out]; rfl, hb1.trans (hb2.mono hb1.size)⟩
    | true =>
      rw [h2] at hvb
      have H2 := Lib.hid h2
      have H := Lib.hid (show leastL a b = leastO (pairsO a b) by simp [leastL, H1.out, h2])
      clear h2
      go_enter Try.func37, Try.ntmps37
      go_wp2_with fail
      refine hva.mono ?_
      rintro e w1 ⟨rfl, hb1⟩
      go_wp2_with fail
      refine (hvb _ hb1).mono ?_
      rintro e w2 ⟨rfl, hb2⟩
      have hb3 := hb1.trans (hb2.mono hb1.size)
      clear hva hvb hb1 hb2
      go_wp2_with fail
      go_loopg [6, 7, 8, 9, 10, 11] a.length (fun g s6 s7 s8 s9 s10 s11 wr => ∃ k : Nat, k ≤ a.length ∧ g = a.length - k ∧ s8 = .int .i64 k ∧ s6 = .int .i64 (leastO (pairsO (a.take k) b)).1 ∧ s7 = .bool (leastO (pairsO (a.take k) b)).2 ∧ Below w.heap.size w wr)
      case atStart => exact ⟨0, by omega, by omega, rfl, rfl, rfl, hb3⟩
      case round =>
        obtain ⟨k, hk, hg, rfl, rfl, rfl, hbw⟩ := hrel
        have hz := hbw.size
        by_cases hlt : k < a.length
        · obtain ⟨ab, aoff, rfl, habw, a0, a1, a2⟩ := (ha.below hbw).oc k hlt
          obtain ⟨v1, v2, v3, v4⟩ := validO_get H1.out hlt
          have hfb := find_bound H2.out a[k].1
          have hlb := leastO_bound H1.out H2.out k
          have HS := Lib.hid (pairs_step (b := b) hlt)
          have HL := Lib.hid (fun q => leastO_snoc (pairsO (a.take k) b) q)
          have hfd := find9_any B d b a[k].1 wr (hb.belowMore hbw hz) hn'
          generalize a[k] = x at *
          obtain ⟨r, f, e⟩ := x
          simp only at v1 v2 v3 v4 a0 a1 a2 hfb HS hfd
          generalize findV b r = y at *
          obtain ⟨⟨r', f', e'⟩, ok⟩ := y
          simp only at hfb HS hfd
          obtain ⟨s, hss⟩ : ∃ s, leastO (pairsO (a.take k) b) = s := ⟨_, rfl⟩
          rw [hss] at hlb HL ⊢
          have HSS := Lib.hid hss
          clear hss
          obtain ⟨h, any⟩ := s
          simp only at hlb HL ⊢
          obtain ⟨fb1, fb2, fb3, fb4⟩ := hfb
          obtain ⟨lb1, lb2⟩ := hlb
          have i1 : (0 : Int) ≤ (k : Int) := by omega
          have i2 : (k : Int) < (a.length : Int) := by omega
          go_wp2_with fail
          refine hfd.mono ?_
          rintro e0 w4 ⟨rfl, hb4⟩
          clear hfd
          have z4 := hb4.size
          have HB := Lib.hid ((hbw.trans (hb4.mono hz)).alloc (show w.heap.size ≤ w4.heap.size by omega) (.cells #[.int .i64 r', .int .i64 f', .int .i64 e'] 41))
          replace a0 := (hb4.cell (p := ⟨ab, aoff + k * 3, none⟩) (by show ab < _; omega)).trans a0
          replace a1 := (hb4.cell (p := ⟨ab, aoff + k * 3 + 1, none⟩) (by show ab < _; omega)).trans a1
          replace a2 := (hb4.cell (p := ⟨ab, aoff + k * 3 + 2, none⟩) (by show ab < _; omega)).trans a2
          have ne1 : ab ≠ w4.heap.size := by omega
          cases ok with
          | false =>
            go_wp2_with fail
            go_roundg (a.length - (k + 1))
            case measure => omega
            case rel => exact ⟨k + 1, by omega, rfl, by go_num, by rw [HS.out, if_neg (by simp), HSS.out], by rw [HS.out, if_neg (by simp), HSS.out], HB.out⟩
          | true =>
            have k2 : (w4.alloc (.cells #[.int .i64 r', .int .i64 f', .int .i64 e'] 41)).cell? ⟨ab, aoff + k * 3 + 2, none⟩ = some (.int .i64 e) := (World.cell?_alloc_lt _ _ _ (by show ab < _; omega)).trans a2
            have k1 : (w4.alloc (.cells #[.int .i64 r', .int .i64 f', .int .i64 e'] 41)).cell? ⟨w4.heap.size, 1, none⟩ = some (.int .i64 f') := by rw [World.cell?_alloc_at _ _ _ _ rfl]; rfl
            go_wp2_with fail
            generalize w4.alloc (.cells #[.int .i64 r', .int .i64 f', .int .i64 e'] 41) = W at *
            clear a0 a1 a2
            have s1 : IntKind.i64.wrap (e - f') = e - f' := IntWalk.i64_in _ (by omega)
            go_quiet (fail)
            clear s1
            cases any with
            | false =>
              go_wp2_with fail
              go_roundg (a.length - (k + 1))
              case measure => omega
              case rel => exact ⟨k + 1, by omega, rfl, by go_num, by rw [HS.out, if_pos (by trivial), HL.out]; simp [leastStep], by rw [HS.out, if_pos (by trivial), HL.out]; simp [leastStep], below_drewN HB.out _⟩
            | true =>
              by_cases hlt2 : h < e - f'
              · go_wp2_with fail
                go_roundg (a.length - (k + 1))
                case measure => omega
                case rel => exact ⟨k + 1, by omega, rfl, by go_num, by rw [HS.out, if_pos (by trivial), HL.out]; simp [leastStep, hlt2], by rw [HS.out, if_pos (by trivial), HL.out]; simp [leastStep, hlt2], below_drewN HB.out _⟩
              · go_wp2_with fail
                go_roundg (a.length - (k + 1))
                case measure => omega
                case rel => exact ⟨k + 1, by omega, rfl, by go_num, by rw [HS.out, if_pos (by trivial), HL.out, leastStep, if_neg (by simp; omega)], by rw [HS.out, if_pos (by trivial), HL.out, leastStep, if_neg (by simp; omega)], below_drewN HB.out _⟩
        · rw [List.take_of_length_le (show a.length ≤ k by omega)]
          go_wp2_with fail
          go_ret2
          exact ⟨by rw [H.out]; rfl, hbw⟩

end Go.Proofs.Ytdijhhfmicafjaa
