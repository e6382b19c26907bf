/-
  The walk of CalendarMade.
-/
import Derived.Test.YtaongejpbgjbiaaCalSv
import Derived.Test.YtaongejpbgjbiaaCalKR
import Derived.Test.YtaongejpbgjbiaaCalAw
import Derived.Test.YtaongejpbgjbiaaLiftX
import Derived.Test.YtaongejpbgjbiaaArith
set_option linter.unusedVariables false
set_option linter.unusedSimpArgs false
namespace RP
theorem firstE_zero {α : Type} (f : List α → α → Int) : ∀ (r pre : List α), (∀ k (h : k < r.length), f (pre ++ r.take k) r[k] = 0) → firstE f pre r = 0
  | [], _, _ => rfl
  | a :: r, pre, h => by
    have h0 := h 0 (by simp)
    simp only [List.take_zero, List.append_nil, List.getElem_cons_zero] at h0
    rw [firstE, if_neg (by rw [h0]; decide)]
    refine firstE_zero f r (pre ++ [a]) fun k hk => ?_
    have := h (k + 1) (by simp; omega)
    simpa using this
theorem MadeV.check {dn L : Nat} {o : List Svc} {y : List Exc} (h : MadeV dn L o y) (hL : L ≤ 16) (hd0 : 1 ≤ dn) (hd : dn ≤ 31) : checkS L dn o y = 0 := by
  have e1 : firstE (svcE L dn) [] o = 0 := by
    refine firstE_zero _ _ _ fun k hk => ?_
    have hs := h.svc o[k] (List.getElem_mem hk)
    have hb : svcBad L dn o[k] = false := by unfold svcBad; simp only [Int.toNat_natCast]; simp; omega
    unfold svcE
    rw [if_neg (by rw [hb]; decide), if_neg]
    simp only [List.nil_append, Bool.not_eq_true, List.any_eq_false, decide_eq_true_eq]
    intro b hb2 e
    obtain ⟨j, hj, rfl⟩ := List.mem_take_iff_getElem.1 hb2
    have := List.pairwise_iff_getElem.1 h.inc j k (by omega) hk (by omega)
    omega
  have e2 : firstE (excE L dn o) [] y = 0 := by
    refine firstE_zero _ _ _ fun k hk => ?_
    obtain ⟨s0, s1, s2, s3, a, ha, e5⟩ := h.exc y[k] (List.getElem_mem hk)
    have hb : excBad L dn y[k] = false := by unfold excBad; simp; omega
    have hany : o.any (fun b => decide (b.line = y[k].line)) = true := List.any_eq_true.2 ⟨a, ha, decide_eq_true e5⟩
    unfold excE
    rw [if_neg (by rw [hb]; decide), if_neg (by rw [hany]; decide), if_neg]
    simp only [List.nil_append, Bool.not_eq_true, List.any_eq_false, Bool.and_eq_true, decide_eq_true_eq]
    intro b hb2 e
    obtain ⟨j, hj, rfl⟩ := List.mem_take_iff_getElem.1 hb2
    have := List.pairwise_iff_getElem.1 h.incx j k (by omega) hk (by omega)
    omega
  unfold checkS
  rw [if_neg (by omega), e1, if_neg (by decide), e2]
end RP
namespace Go.Proofs.Ytaongejpbgjbiaa
open Go.RowKit RP

theorem own_cut {α : Type} {enc : α → List Value} {k : Nat} {e : TypeId} {w : World} {base : Nat} {v : Value} {l : List α} (he : ∀ x, (enc x).length = k) (h : Own enc k e w base v l) : ∃ A c, v = .slice A l.length c ∧ Lst enc k w w.heap.size A l ∧ l.length ≤ c ∧ c ≤ 9223372036854775807 := by
  rcases h.2 with ⟨rfl, h0⟩ | ⟨g, cap, cur, rfl, _, _, hn, hm, _⟩
  · have : l = [] := List.eq_nil_of_length_eq_zero h0
    subst this
    exact ⟨none, 0, rfl, Lst.nil, by simp, by omega⟩
  · exact ⟨_, _, rfl, h.lst he, hn, by simp only [Go.maxLen] at hm; omega⟩

theorem Lst.setSv {w : World} {B b off : Nat} {l : List Svc} (h : Lst encV 4 w B (some ⟨b, off, none⟩) l) (i : Nat) (hi : i < l.length) (j : Nat) (hj : j < 4) (v : Value) (a' : Svc) (he : encV a' = (encV l[i]).set j v) :
    Lst encV 4 (w.setCell ⟨b, off + i * 4 + j, none⟩ v) B (some ⟨b, off, none⟩) (l.set i a') := by
  intro _
  obtain ⟨b', off', e, hb, hc⟩ := h (by intro h0; subst h0; simp at hi)
  injection e with e
  injection e with e1 e2
  subst e1
  subst e2
  refine ⟨b, off, rfl, hb, fun i' x hx j' u hu => ?_⟩
  rw [List.getElem?_set] at hx
  by_cases q : i = i'
  · subst q
    rw [if_pos rfl, if_pos hi] at hx
    injection hx with hx
    subst hx
    rw [he, List.getElem?_set] at hu
    by_cases q2 : j = j'
    · subst q2
      rw [if_pos rfl, if_pos (by rw [encV_len]; exact hj)] at hu
      injection hu with hu
      subst hu
      have hg : (encV l[i])[j]? = some ((encV l[i])[j]'(by rw [encV_len]; exact hj)) := List.getElem?_eq_getElem _
      exact World.cell?_setCell_same' w _ v (by rw [hc i l[i] (List.getElem?_eq_getElem hi) j _ hg]; rfl)
    · rw [if_neg q2] at hu
      rw [World.cell?_setCell_other _ _ _ _ (by intro e; injection e with _ e; omega)]
      exact hc i l[i] (List.getElem?_eq_getElem hi) j' u hu
  · rw [if_neg q] at hx
    have hj' : j' < 4 := by have := (List.getElem?_eq_some_iff.1 hu).1; rwa [encV_len] at this
    rw [World.cell?_setCell_other _ _ _ _ (by intro e; injection e with _ e; omega)]
    exact hc i' x hx j' u hu

theorem both_any (N D : Int) (n m : Nat) (A : Option Addr) (c : Nat) (s : List Svc) (B : Option Addr) (d : Nat) (x : List Exc) (W : World) (h1 : n = s.length) (h2 : m = x.length) (hl : Lst encV 4 W W.heap.size A s) (hn : n ≤ 100) (hc : n ≤ c) (hc2 : c ≤ 9223372036854775807) (hx : Lst encX 3 W W.heap.size B x) (hm : m ≤ 100) (hd : m ≤ d) (hd2 : d ≤ 9223372036854775807)
    (rn : R64 N) (rd : R64 D) : ∃ q : Int,
    (Calls Try.prog 14 #[.int .i64 N, .int .i64 D, .slice A n c, .slice B m d] W fun e w' => e = .returned (.int .i64 q) ∧ Below W.heap.size W w') ∧
    (∀ W', Below W.heap.size W W' → Calls Try.prog 15 #[.int .i64 N, .int .i64 D, .slice A n c, .slice B m d] W' fun e w' => e = .returned (.int .i64 q) ∧ Below W'.heap.size W' w') := by
  subst h1
  subst h2
  exact ⟨_, check_any N D A c s B d x W hl (by omega) hx (by omega) rn rd, fun W' b => refCheck_any N D A c s B d x W' (hl.belowMore b b.size) (by omega) hc hc2 (hx.belowMore b b.size) (by omega) hd hd2 rn rd⟩


set_option maxRecDepth 100000 in
set_option maxHeartbeats 8000000 in
theorem walkCalendarMade (C : Option Addr) (cc : Nat) (l : List Int) (lines days how at_ v : Int) (w : World) (hl : ArgI w C cc l) (r1 : R64 lines) (r2 : R64 days) (r3 : R64 how) (r4 : R64 at_) (r5 : R64 v) :
    Calls Try.prog 4 #[.slice C l.length cc, .int .i64 lines, .int .i64 days, .int .i64 how, .int .i64 at_, .int .i64 v] w fun e w' => e = .returned (.bool true) ∧ Below w.heap.size w w' := by
  have q1 := fun W => pick_any lines 4 W (by omega) (by omega)
  have q2 := fun W => pick_any days 5 W (by omega) (by omega)
  have q3 := fun W => pick_any how 5 W (by omega) (by omega)
  have q4 := fun n W (h : 1 ≤ n) (h' : n ≤ 4294967296) => pick_any at_ n W h h'
  have q5 := fun u n W (h : 1 ≤ n) (h' : n ≤ 4294967296) => pick_any u n W h h'
  have p1 := pickI_range lines 4 (by omega)
  have p2 := pickI_range days 5 (by omega)
  have p3 := pickI_range how 5 (by omega)
  have aw := fun W => awake_any W
  generalize pickI lines 4 = N at *
  generalize pickI days 5 = D at *
  generalize pickI how 5 = H at *
  obtain ⟨N', hN⟩ := Int.eq_ofNat_of_zero_le (show 0 ≤ 1 + N by omega)
  obtain ⟨D', hD⟩ := Int.eq_ofNat_of_zero_le (show 0 ≤ 1 + D by omega)
  have w1 : IntKind.i64.wrap (1 + N) = (N' : Int) := by rw [IntWalk.i64_in _ (by omega)]; exact hN
  have w2 : IntKind.i64.wrap (1 + D) = (D' : Int) := by rw [IntWalk.i64_in _ (by omega)]; exact hD
  have rn : R64 (N' : Int) := ⟨by omega, by omega⟩
  have rd : R64 (D' : Int) := ⟨by omega, by omega⟩
  have n1' : 1 ≤ N' := by omega
  have n2' : N' ≤ 4 := by omega
  have d1' : 1 ≤ D' := by omega
  have d2' : D' ≤ 5 := by omega
  have hpow : (2 : Int) ^ D' ≤ 32 := by
    have h1 := Nat.pow_le_pow_right (n := 2) (by omega) d2'
    have h2 : (2 : Nat) ^ 5 = 32 := rfl
    have h3 : (2 : Int) ^ D' = ((2 ^ D' : Nat) : Int) := by simp
    omega
  have hpow0 : (0 : Int) < 2 ^ D' := Int.pow_pos (by omega)
  have sw : IntKind.i64.wrap ((2 : Int) ^ D') = 2 ^ D' := IntWalk.i64_in _ (by omega)
  have pk : ∀ (u n : Int) (W : World), 1 ≤ n → n ≤ 4294967296 → Calls Try.prog 12 #[.int .i64 u, .int .i64 n] W fun e w' => ∃ z : Int, 0 ≤ z ∧ z < n ∧ e = .returned (.int .i64 z) ∧ W = w' := fun u n W h h' => (pick_any u n W h h').mono fun e w' ⟨h1, h2⟩ => ⟨_, (pickI_range u n h).1, (pickI_range u n h).2, h1, h2⟩
  have hsv := services_any N' D' C cc l w (by omega) (by omega) (by omega) hl
  have HCK := Lib.hid (fun (o : List Svc) (y : List Exc) (h : MadeV D' N' o y) => (show checkS N' D' o y = 0 by exact h.check (by omega) (by omega) (by omega)))
  have HNN := Lib.hid (show N' ≤ 4 by omega)
  clear hN hD
  go_enter Try.func4, Try.ntmps4
  go_wp2_with fail
  refine (q1 _).mono ?_
  rintro e w' ⟨rfl, rfl⟩
  go_wp2_with fail
  refine (q2 _).mono ?_
  rintro e w' ⟨rfl, rfl⟩
  go_wp2_with fail
  refine hsv.mono ?_
  rintro e w1 ⟨va, vb, a, b, rfl, ha, hb, hmv, hb1⟩
  have hck := HCK.out a b hmv
  have han := hmv.olen
  have hbn := hmv.ylen
  have hnn := HNN.out
  have z1 := hb1.size
  have hap := own_apart hb ha (by decide)
  have hoa := ha
  have hle := fun g hg => (World.ownsRow.lt ha g hg).1
  have hob := hb
  obtain ⟨A1, n1, rfl, hal, hcA, hcA2⟩ := own_cut encV_len ha
  obtain ⟨B1, m1, rfl, hbl, hcB, hcB2⟩ := own_cut encX_len hb
  clear q1 q2 hsv hmv
  have HB1 := Lib.hid hb1
  have hck2 := check_any N' D' A1 n1 a B1 m1 b w1 hal (by omega) hbl (by omega) rn rd
  rw [hck] at hck2
  clear hck HCK hb1
  go_wp2_with fail
  refine hck2.mono ?_
  rintro e w2 ⟨rfl, b2⟩
  have hal2 := hal.belowMore b2 b2.size
  have hbl2 := hbl.belowMore b2 b2.size
  have hob2 := hob.below' b2
  have hoa2 := hoa.below' b2
  have hB2 := HB1.out.trans (b2.mono z1)
  have z2 := b2.size
  clear hck2 hal hbl b2 hob ha hoa
  by_cases h0 : 0 < a.length
  rotate_left
  · have HX := Lib.hid hbl2
    have HS := Lib.hid hal2
    have HBB := Lib.hid hB2
    go_wp2_with fail
    refine (aw _).mono ?_
    rintro e W1 ⟨rfl, hb1⟩
    obtain ⟨q, hq1, hq2⟩ := both_any N' D' a.length b.length _ _ _ _ _ _ W1 (by simp) (by simp) (HS.out.belowMore hb1 hb1.size) (by first | omega | (simp; omega)) hcA hcA2 (HX.out.belowMore hb1 hb1.size) (by first | omega | (simp; omega)) hcB hcB2 rn rd
    have B1 := Below.trans HBB.out (hb1.mono (Below.size HBB.out))
    have ee : (q == q) = true := by simp
    clear hb1
    go_wp2_with fail
    refine hq1.mono ?_
    rintro e W2 ⟨rfl, b2⟩
    have B2 := B1.trans (b2.mono B1.size)
    go_wp2_with fail
    refine (hq2 _ b2).mono ?_
    rintro e W3 ⟨rfl, b3⟩
    have B3 := B2.trans (b3.mono B2.size)
    go_wp2_with fail
    go_ret
    exact ⟨ret_bool (by simp), B3⟩
  · have p4 := pickI_range at_ a.length (by omega)
    have q4' := fun W => q4 a.length W (by omega) (by omega)
    generalize pickI at_ a.length = i0 at *
    obtain ⟨i, rfl⟩ := Int.eq_ofNat_of_zero_le p4.1
    have hi : i < a.length := by omega
    obtain ⟨g, off, rfl, hbb, a0, a1, a2, a3⟩ := hal2.sv i hi
    have hg := hle g rfl
    have hfz : ∀ j, w2.frozen? ⟨g, j, none⟩ = false := by
      obtain ⟨g', c', hv, _, _, _, _, hf⟩ := hoa2.at_ encV_len (by intro h9; subst h9; simp at hi)
      injection hv with hv
      injection hv with hv
      injection hv with h8 _
      rw [h8]
      exact hf
    have f0 := hfz (off + i * 4)
    have f1 := hfz (off + i * 4 + 1)
    have f2 := hfz (off + i * 4 + 2)
    have f3 := hfz (off + i * 4 + 3)
    clear hfz
    have hne := hap
    have HS0 := Lib.hid (fun z : Int => (show Lst encV 4 (w2.setCell ⟨g, off + i * 4, none⟩ (.int .i64 z)) _ _ _ from (hal2.setSv i hi 0 (by omega) (.int .i64 z) ⟨z, a[i].days, a[i].fst, a[i].lst⟩ rfl).more (Nat.le_of_eq (set_size w2 ⟨g, off + i * 4, none⟩ (.int .i64 z)).symm)))
    have HS1 := Lib.hid (fun z : Int => (hal2.setSv i hi 1 (by omega) (.int .i64 z) ⟨a[i].line, z, a[i].fst, a[i].lst⟩ rfl).more (Nat.le_of_eq (set_size w2 ⟨g, off + i * 4 + 1, none⟩ (.int .i64 z)).symm))
    have HS2 := Lib.hid (fun z : Int => (hal2.setSv i hi 2 (by omega) (.int .i64 z) ⟨a[i].line, a[i].days, z, a[i].lst⟩ rfl).more (Nat.le_of_eq (set_size w2 ⟨g, off + i * 4 + 2, none⟩ (.int .i64 z)).symm))
    have HS3 := Lib.hid (fun z : Int => (hal2.setSv i hi 3 (by omega) (.int .i64 z) ⟨a[i].line, a[i].days, a[i].fst, z⟩ rfl).more (Nat.le_of_eq (set_size w2 ⟨g, off + i * 4 + 3, none⟩ (.int .i64 z)).symm))
    have HX := Lib.hid (fun (o : Nat) (z : Int) => Own.lst encX_len (hob2.kept (set_grown w2 g o (.int .i64 z)) (.inr fun e => hap g e rfl)))
    have HBB := Lib.hid (fun (o : Nat) (z : Int) => hB2.setCell (p := ⟨g, o, none⟩) hg (.int .i64 z))
    obtain ⟨ai, hai⟩ : ∃ ai, a[i] = ai := ⟨_, rfl⟩
    rw [hai] at a0 a1 a2 a3
    have HOA := Lib.hid hoa2
    clear hai q4 q5 hne hle hoa2
    have HAP := Lib.hid hap
    have i0 : (0 : Int) ≤ (i : Int) := by omega
    have i1 : (i : Int) < (a.length : Int) := by omega
    go_wp2_with fail
    refine (q4' _).mono ?_
    rintro e w' ⟨rfl, rfl⟩
    go_wp2_with fail
    refine (q3 _).mono ?_
    rintro e w' ⟨rfl, rfl⟩
    rcases (show H = 0 ∨ H = 1 ∨ H = 2 ∨ H = 3 ∨ H = 4 by omega) with rfl | rfl | rfl | rfl | rfl
    · go_wp2_with fail
      refine (pk _ _ _ (by omega) (by omega)).mono ?_
      rintro e w' ⟨z, z0, z1, rfl, rfl⟩
      go_wp2_with fail
      refine (aw _).mono ?_
      rintro e W1 ⟨rfl, hb1⟩
      obtain ⟨q, hq1, hq2⟩ := both_any N' D' a.length b.length _ _ _ _ _ _ W1 (by simp) (by simp) ((HS0.out _).belowMore hb1 hb1.size) (by first | omega | (simp; omega)) hcA hcA2 ((HX.out _ _).belowMore hb1 hb1.size) (by first | omega | (simp; omega)) hcB hcB2 rn rd
      have B1 := Below.trans (HBB.out _ _) (hb1.mono (Below.size (HBB.out _ _)))
      have ee : (q == q) = true := by simp
      clear hb1
      go_wp2_with fail
      refine hq1.mono ?_
      rintro e W2 ⟨rfl, b2⟩
      have B2 := B1.trans (b2.mono B1.size)
      go_wp2_with fail
      refine (hq2 _ b2).mono ?_
      rintro e W3 ⟨rfl, b3⟩
      have B3 := B2.trans (b3.mono B2.size)
      go_wp2_with fail
      go_ret
      exact ⟨ret_bool (by simp), B3⟩
    · go_wp2_with fail
      refine (pk _ _ _ (by omega) (by omega)).mono ?_
      rintro e w' ⟨z, z0, z1, rfl, rfl⟩
      go_wp2_with fail
      refine (aw _).mono ?_
      rintro e W1 ⟨rfl, hb1⟩
      obtain ⟨q, hq1, hq2⟩ := both_any N' D' a.length b.length _ _ _ _ _ _ W1 (by simp) (by simp) ((HS1.out _).belowMore hb1 hb1.size) (by first | omega | (simp; omega)) hcA hcA2 ((HX.out _ _).belowMore hb1 hb1.size) (by first | omega | (simp; omega)) hcB hcB2 rn rd
      have B1 := Below.trans (HBB.out _ _) (hb1.mono (Below.size (HBB.out _ _)))
      have ee : (q == q) = true := by simp
      clear hb1
      go_wp2_with fail
      refine hq1.mono ?_
      rintro e W2 ⟨rfl, b2⟩
      have B2 := B1.trans (b2.mono B1.size)
      go_wp2_with fail
      refine (hq2 _ b2).mono ?_
      rintro e W3 ⟨rfl, b3⟩
      have B3 := B2.trans (b3.mono B2.size)
      go_wp2_with fail
      go_ret
      exact ⟨ret_bool (by simp), B3⟩
    · go_wp2_with fail
      refine (pk _ _ _ (by omega) (by omega)).mono ?_
      rintro e w' ⟨z, z0, z1, rfl, rfl⟩
      go_wp2_with fail
      refine (aw _).mono ?_
      rintro e W1 ⟨rfl, hb1⟩
      obtain ⟨q, hq1, hq2⟩ := both_any N' D' a.length b.length _ _ _ _ _ _ W1 (by simp) (by simp) ((HS2.out _).belowMore hb1 hb1.size) (by first | omega | (simp; omega)) hcA hcA2 ((HX.out _ _).belowMore hb1 hb1.size) (by first | omega | (simp; omega)) hcB hcB2 rn rd
      have B1 := Below.trans (HBB.out _ _) (hb1.mono (Below.size (HBB.out _ _)))
      have ee : (q == q) = true := by simp
      clear hb1
      go_wp2_with fail
      refine hq1.mono ?_
      rintro e W2 ⟨rfl, b2⟩
      have B2 := B1.trans (b2.mono B1.size)
      go_wp2_with fail
      refine (hq2 _ b2).mono ?_
      rintro e W3 ⟨rfl, b3⟩
      have B3 := B2.trans (b3.mono B2.size)
      go_wp2_with fail
      go_ret
      exact ⟨ret_bool (by simp), B3⟩
    · go_wp2_with fail
      refine (pk _ _ _ (by omega) (by omega)).mono ?_
      rintro e w' ⟨z, z0, z1, rfl, rfl⟩
      go_wp2_with fail
      refine (pk _ _ _ (by omega) (by omega)).mono ?_
      rintro e w' ⟨y, y0, y1, rfl, rfl⟩
      go_wp2_with fail
      refine (aw _).mono ?_
      rintro e W1 ⟨rfl, hb1⟩
      obtain ⟨q, hq1, hq2⟩ := both_any N' D' a.length b.length _ _ _ _ _ _ W1 (by simp) (by simp) ((HS3.out _).belowMore hb1 hb1.size) (by first | omega | (simp; omega)) hcA hcA2 ((HX.out _ _).belowMore hb1 hb1.size) (by first | omega | (simp; omega)) hcB hcB2 rn rd
      have B1 := Below.trans (HBB.out _ _) (hb1.mono (Below.size (HBB.out _ _)))
      have ee : (q == q) = true := by simp
      clear hb1
      go_wp2_with fail
      refine hq1.mono ?_
      rintro e W2 ⟨rfl, b2⟩
      have B2 := B1.trans (b2.mono B1.size)
      go_wp2_with fail
      refine (hq2 _ b2).mono ?_
      rintro e W3 ⟨rfl, b3⟩
      have B3 := B2.trans (b3.mono B2.size)
      go_wp2_with fail
      go_ret
      exact ⟨ret_bool (by simp), B3⟩
    · go_wp2_with fail
      refine (pk _ _ _ (by omega) (by omega)).mono ?_
      rintro e w' ⟨z, z0, z1, rfl, rfl⟩
      go_wp2_with fail
      refine (pk _ _ _ (by omega) (by omega)).mono ?_
      rintro e w' ⟨y, y0, y1, rfl, rfl⟩
      go_wp2_with (at_builtin; refine wpList_append_rec rfl _ _ 23 rfl w.heap.size 36 24 Try.underlying23 elemX _ b rfl hob2 [⟨z - 1, y - 1, false⟩] _ rfl 1 1 rfl rfl (by simp only [maxLen, List.length_cons, List.length_nil]; omega) (by simp only [List.length_cons, List.length_nil]; omega) (by omega) ?_; intro v1 w7 ho7 hg7 hat7)
      have hg8 : w2.grownBy w7 (Value.slice B1 b.length m1).ownBlock := hg7
      have hs5 := Own.lst encV_len (HOA.out.kept hg8 (.inr fun e => HAP.out g e.symm rfl))
      have hb5 := hB2.grown hg8 (by omega) (fun q hq => (World.ownsRow.lt hob2 q hq).1)
      obtain ⟨A5, c5, rfl, hx5, cB5, cB6⟩ := own_cut encX_len ho7
      replace hcB := cB5
      replace hcB2 := cB6
      clear ho7 hg7 hat7 hg8
      have HS5 := Lib.hid hs5
      have HX5 := Lib.hid hx5
      have HB5 := Lib.hid hb5
      have hln : (b ++ [(⟨z - 1, y - 1, false⟩ : Exc)]).length ≤ 100 := by simp; omega
      clear hs5 hx5 hb5
      generalize b ++ [(⟨z - 1, y - 1, false⟩ : Exc)] = b5 at *
      go_wp2_with fail
      refine (aw _).mono ?_
      rintro e W1 ⟨rfl, hb1⟩
      obtain ⟨q, hq1, hq2⟩ := both_any N' D' a.length b5.length _ _ _ _ _ _ W1 (by simp) (by simp) (HS5.out.belowMore hb1 hb1.size) (by first | omega | (simp; omega)) hcA hcA2 (HX5.out.belowMore hb1 hb1.size) (by first | omega | (simp; omega)) hcB hcB2 rn rd
      have B1 := Below.trans HB5.out (hb1.mono (Below.size HB5.out))
      have ee : (q == q) = true := by simp
      clear hb1
      go_wp2_with fail
      refine hq1.mono ?_
      rintro e W2 ⟨rfl, b2⟩
      have B2 := B1.trans (b2.mono B1.size)
      go_wp2_with fail
      refine (hq2 _ b2).mono ?_
      rintro e W3 ⟨rfl, b3⟩
      have B3 := B2.trans (b3.mono B2.size)
      go_wp2_with fail
      go_ret
      exact ⟨ret_bool (by simp), B3⟩
end Go.Proofs.Ytaongejpbgjbiaa
