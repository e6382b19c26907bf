/-
  Contracts of divert's Cost and of the reference's CostOf.
-/
import Derived.Test.YtlillkfelfoafaaDivA
set_option linter.unusedVariables false
set_option linter.unusedSimpArgs false
namespace Go.Proofs.Ytlillkfelfoafaa
open Go.RowKit RP

def inR (s : Int) (c : Cho) : Bool := bigB s && bigB c.2
def stepK (st : Int × Int) (s : Int) (c : Cho) : Int × Int := if c.1 < 0 then (st.1, wrap64 (st.2 + 1)) else (wrap64 (st.1 + (c.2 - s)), st.2)
def foldK (js : List Int) (l : List Cho) : Nat → Int × Int
  | 0 => (0, 0)
  | k + 1 => stepK (foldK js l k) (js.getD k 0) (l.getD k (0, 0))
def costOf (js : List Int) (l : List Cho) : Int × Int :=
  if l.length = js.length ∧ ∀ k < l.length, inR (js.getD k 0) (l.getD k (0, 0)) = true then foldK js l l.length else (0, 0)
theorem costOf_len {js : List Int} {l : List Cho} (h : l.length ≠ js.length) : costOf js l = (0, 0) := if_neg fun q => h q.1
theorem costOf_no {js : List Int} {l : List Cho} {k : Nat} (hk : k < l.length) (h : inR (js.getD k 0) (l.getD k (0, 0)) = false) : costOf js l = (0, 0) := if_neg fun q => by
  have := q.2 k hk; rw [h] at this; cases this
theorem costOf_yes {js : List Int} {l : List Cho} (h : l.length = js.length) (h2 : ∀ k < l.length, inR (js.getD k 0) (l.getD k (0, 0)) = true) : costOf js l = foldK js l l.length := if_pos ⟨h, h2⟩
theorem inR_iff {s : Int} {c : Cho} : inR s c = true ↔ (0 ≤ s ∧ s ≤ 1099511627776) ∧ 0 ≤ c.2 ∧ c.2 ≤ 1099511627776 := by
  unfold inR; rw [Bool.and_eq_true, bigB_iff, bigB_iff]
theorem getD_start {L : List JobM} {k : Nat} (h : k < L.length) : (L.map JobM.start).getD k 0 = L[k].start := by
  rw [List.getD_eq_getElem?_getD, List.getElem?_map, List.getElem?_eq_getElem h]; rfl
theorem getD_cho {l : List Cho} {k : Nat} (h : k < l.length) : l.getD k (0, 0) = l[k] := by
  rw [List.getD_eq_getElem?_getD, List.getElem?_eq_getElem h]; rfl

set_option maxRecDepth 100000 in
set_option maxHeartbeats 8000000 in
theorem cost_any (A : Option Addr) (c : Nat) (L : List JobM) (B : Option Addr) (d : Nat) (l : List Cho) (w : World) (h : Jbs w w.heap.size A L) (hl : Lst encK 2 w w.heap.size B l) (hn : l.length ≤ 9223372036854775807) :
    Calls Try.prog 31 #[.slice A L.length c, .slice B l.length d] w fun e w' => e = .returned (.tuple #[.int .i64 (costOf (L.map JobM.start) l).1, .int .i64 (costOf (L.map JobM.start) l).2]) ∧ Below w.heap.size w w' := by
  have hln := h.len
  by_cases hlen : l.length = L.length
  · have hne : ((l.length : Int) != (L.length : Int)) = false := by simp [hlen]
    have HL := Lib.hid hlen
    clear hlen
    go_enter Try.func31, Try.ntmps31
    go_wp2_with fail
    go_loopg [6, 7, 8, 9, 10, 18] l.length (fun g s6 s7 s8 s9 s10 s18 wr => ∃ k : Nat, k ≤ l.length ∧ g = l.length - k ∧ s18 = .int .i64 k ∧ s6 = .int .i64 (foldK (L.map JobM.start) l k).1 ∧ s7 = .int .i64 (foldK (L.map JobM.start) l k).2 ∧ (∀ i < k, inR ((L.map JobM.start).getD i 0) (l.getD i (0, 0)) = true) ∧ Below w.heap.size w wr)
    case atStart => exact ⟨0, by omega, by omega, rfl, rfl, rfl, fun i hi => by omega, Below.refl _ _⟩
    case round =>
      obtain ⟨k, hk, hg, rfl, rfl, rfl, ha, hb⟩ := hrel
      have HA := Lib.hid ha
      clear ha
      by_cases hlt : k < l.length
      · have hlt2 : k < L.length := by have := HL.out; omega
        obtain ⟨b', off', rfl, hbw', a0, a1⟩ := (h.lst.belowMore hb hb.size).job k hlt2
        obtain ⟨b, off, rfl, hbw, c0, c1⟩ := (hl.belowMore hb hb.size).cho k hlt
        have HNO := Lib.hid (fun (q : inR L[k].start l[k] = false) => costOf_no (js := L.map JobM.start) hlt (by rw [getD_start hlt2, getD_cho hlt]; exact q))
        have HYES := Lib.hid (fun (q : inR L[k].start l[k] = true) i (hi : i < k + 1) => show inR ((L.map JobM.start).getD i 0) (l.getD i (0, 0)) = true from by
          by_cases e : i = k
          · subst e; rw [getD_start hlt2, getD_cho hlt]; exact q
          · exact HA.out i (by omega))
        have HST := Lib.hid (show foldK (L.map JobM.start) l (k + 1) = stepK (foldK (L.map JobM.start) l k) L[k].start l[k] by rw [foldK, getD_start hlt2, getD_cho hlt])
        generalize foldK (L.map JobM.start) l k = st at *
        obtain ⟨su, ca⟩ := st
        generalize L[k].start = s at *
        generalize l[k] = x at *
        obtain ⟨o, t⟩ := x
        simp only at c0 c1
        have a0' := al24' (x := .cells #[.int .i64 o, .int .i64 t] 55) a0
        have HB := Lib.hid (hb.alloc hb.size (.cells #[.int .i64 o, .int .i64 t] 55))
        have hblk := heap_alloc_new wr (.cells #[.int .i64 o, .int .i64 t] 55)
        have HBK := Lib.hid hblk
        have i0 : (0 : Int) ≤ (k : Int) := by omega
        have i1 : (k : Int) < (l.length : Int) := by omega
        have i2 : (k : Int) < (L.length : Int) := by omega
        clear a0 a1 hb hblk
        go_upto_region 7 with fail
        generalize wr.alloc (.cells #[.int .i64 o, .int .i64 t] 55) = w1 at *
        generalize wr.heap.size = go at *
        have o0 : w1.cell? ⟨go, 0, none⟩ = some (.int .i64 o) := by rw [cell_of_row w1 _ 0 _ _ _ HBK.out]; rfl
        have o1 : w1.cell? ⟨go, 1, none⟩ = some (.int .i64 t) := by rw [cell_of_row w1 _ 1 _ _ _ HBK.out]; rfl
        by_cases q0 : s < 0
        · have HQ := Lib.hid (HNO.out (by rw [← Bool.not_eq_true, inR_iff]; simp only; omega))
          go_wp2_with fail
          go_ret2
          exact ⟨by rw [HQ.out]; rfl, HB.out⟩
        · by_cases q1 : 1099511627776 < s
          · have HQ := Lib.hid (HNO.out (by rw [← Bool.not_eq_true, inR_iff]; simp only; omega))
            go_wp2_with fail
            go_ret2
            exact ⟨by rw [HQ.out]; rfl, HB.out⟩
          · by_cases q2 : t < 0
            · have HQ := Lib.hid (HNO.out (by rw [← Bool.not_eq_true, inR_iff]; simp only; omega))
              go_wp2_with fail
              go_ret2
              exact ⟨by rw [HQ.out]; rfl, HB.out⟩
            · by_cases q3 : 1099511627776 < t
              · have HQ := Lib.hid (HNO.out (by rw [← Bool.not_eq_true, inR_iff]; simp only; omega))
                go_wp2_with fail
                go_ret2
                exact ⟨by rw [HQ.out]; rfl, HB.out⟩
              · have HY := Lib.hid (HYES.out (inR_iff.2 ⟨⟨by omega, by omega⟩, by show 0 ≤ t; omega, by show t ≤ _; omega⟩))
                have sw : IntKind.i64.wrap (t - s) = t - s := IntWalk.i64_in _ (by omega)
                by_cases q4 : o < 0
                · have HS := Lib.hid (show stepK (su, ca) s (o, t) = (su, wrap64 (ca + 1)) from if_pos q4)
                  go_wp2_with fail
                  go_roundg (l.length - (k + 1))
                  case measure => omega
                  case rel => exact ⟨k + 1, by omega, rfl, by go_num, (congrArg (fun p : Int × Int => Value.int .i64 p.1) (HST.out.trans HS.out)).symm, (congrArg (fun p : Int × Int => Value.int .i64 p.2) (HST.out.trans HS.out)).symm, HY.out, HB.out⟩
                · have HS := Lib.hid (show stepK (su, ca) s (o, t) = (wrap64 (su + (t - s)), ca) from if_neg q4)
                  go_wp2_with fail
                  go_roundg (l.length - (k + 1))
                  case measure => omega
                  case rel => exact ⟨k + 1, by omega, rfl, by go_num, (congrArg (fun p : Int × Int => Value.int .i64 p.1) (HST.out.trans HS.out)).symm, (congrArg (fun p : Int × Int => Value.int .i64 p.2) (HST.out.trans HS.out)).symm, HY.out, by first | exact HB.out | exact below_drewN HB.out _⟩
      · obtain rfl : k = l.length := by omega
        have HQ := Lib.hid (costOf_yes (js := L.map JobM.start) (l := l) (by rw [List.length_map]; exact HL.out) HA.out)
        go_wp2_with fail
        go_ret2
        exact ⟨by rw [HQ.out]; rfl, hb⟩
  · have hne : ((l.length : Int) != (L.length : Int)) = true := by rw [bne_iff_ne]; omega
    have HQ := Lib.hid (costOf_len (js := L.map JobM.start) (l := l) (by rw [List.length_map]; exact hlen))
    clear hlen
    go_enter Try.func31, Try.ntmps31
    go_wp2_with fail
    go_ret2
    exact ⟨by rw [HQ.out]; rfl, Below.refl _ _⟩
set_option maxRecDepth 100000 in
set_option maxHeartbeats 8000000 in
theorem refCost_any (A : Option Addr) (c : Nat) (L : List JobM) (B : Option Addr) (d : Nat) (l : List Cho) (w : World) (h : Jbs w w.heap.size A L) (hl : Lst encK 2 w w.heap.size B l) (hn : l.length ≤ 9223372036854775807) :
    Calls Try.prog 32 #[.slice A L.length c, .slice B l.length d] w fun e w' => e = .returned (.tuple #[.int .i64 (costOf (L.map JobM.start) l).1, .int .i64 (costOf (L.map JobM.start) l).2]) ∧ Below w.heap.size w w' := by
  have hln := h.len
  by_cases hlen : l.length = L.length
  · have hne : ((l.length : Int) != (L.length : Int)) = false := by simp [hlen]
    have HL := Lib.hid hlen
    clear hlen
    go_enter Try.func32, Try.ntmps32
    go_wp2_with fail
    go_loopg [6, 7, 8, 9, 17] l.length (fun g s6 s7 s8 s9 s17 wr => ∃ k : Nat, k ≤ l.length ∧ g = l.length - k ∧ s17 = .int .i64 k ∧ s6 = .int .i64 (foldK (L.map JobM.start) l k).1 ∧ s7 = .int .i64 (foldK (L.map JobM.start) l k).2 ∧ (∀ i < k, inR ((L.map JobM.start).getD i 0) (l.getD i (0, 0)) = true) ∧ Below w.heap.size w wr)
    case atStart => exact ⟨0, by omega, by omega, rfl, rfl, rfl, fun i hi => by omega, Below.refl _ _⟩
    case round =>
      obtain ⟨k, hk, hg, rfl, rfl, rfl, ha, hb⟩ := hrel
      have HA := Lib.hid ha
      clear ha
      by_cases hlt : k < l.length
      · have hlt2 : k < L.length := by have := HL.out; omega
        obtain ⟨b', off', rfl, hbw', a0, a1⟩ := (h.lst.belowMore hb hb.size).job k hlt2
        obtain ⟨b, off, rfl, hbw, c0, c1⟩ := (hl.belowMore hb hb.size).cho k hlt
        have HNO := Lib.hid (fun (q : inR L[k].start l[k] = false) => costOf_no (js := L.map JobM.start) hlt (by rw [getD_start hlt2, getD_cho hlt]; exact q))
        have HYES := Lib.hid (fun (q : inR L[k].start l[k] = true) i (hi : i < k + 1) => show inR ((L.map JobM.start).getD i 0) (l.getD i (0, 0)) = true from by
          by_cases e : i = k
          · subst e; rw [getD_start hlt2, getD_cho hlt]; exact q
          · exact HA.out i (by omega))
        have HST := Lib.hid (show foldK (L.map JobM.start) l (k + 1) = stepK (foldK (L.map JobM.start) l k) L[k].start l[k] by rw [foldK, getD_start hlt2, getD_cho hlt])
        generalize foldK (L.map JobM.start) l k = st at *
        obtain ⟨su, ca⟩ := st
        generalize L[k].start = s at *
        generalize l[k] = x at *
        obtain ⟨o, t⟩ := x
        simp only at c0 c1
        have a0' := al24' (x := .cells #[.int .i64 o, .int .i64 t] 55) a0
        have HB := Lib.hid (hb.alloc hb.size (.cells #[.int .i64 o, .int .i64 t] 55))
        have hblk := heap_alloc_new wr (.cells #[.int .i64 o, .int .i64 t] 55)
        have HBK := Lib.hid hblk
        have i0 : (0 : Int) ≤ (k : Int) := by omega
        have i1 : (k : Int) < (l.length : Int) := by omega
        have i2 : (k : Int) < (L.length : Int) := by omega
        clear a0 a1 hb hblk
        go_upto_region 7 with fail
        generalize wr.alloc (.cells #[.int .i64 o, .int .i64 t] 55) = w1 at *
        generalize wr.heap.size = go at *
        have o0 : w1.cell? ⟨go, 0, none⟩ = some (.int .i64 o) := by rw [cell_of_row w1 _ 0 _ _ _ HBK.out]; rfl
        have o1 : w1.cell? ⟨go, 1, none⟩ = some (.int .i64 t) := by rw [cell_of_row w1 _ 1 _ _ _ HBK.out]; rfl
        by_cases q0 : t < 0
        · have HQ := Lib.hid (HNO.out (by rw [← Bool.not_eq_true, inR_iff]; simp only; omega))
          go_wp2_with fail
          go_ret2
          exact ⟨by rw [HQ.out]; rfl, HB.out⟩
        · by_cases q1 : 1099511627776 < t
          · have HQ := Lib.hid (HNO.out (by rw [← Bool.not_eq_true, inR_iff]; simp only; omega))
            go_wp2_with fail
            go_ret2
            exact ⟨by rw [HQ.out]; rfl, HB.out⟩
          · by_cases q2 : s < 0
            · have HQ := Lib.hid (HNO.out (by rw [← Bool.not_eq_true, inR_iff]; simp only; omega))
              go_wp2_with fail
              go_ret2
              exact ⟨by rw [HQ.out]; rfl, HB.out⟩
            · by_cases q3 : 1099511627776 < s
              · have HQ := Lib.hid (HNO.out (by rw [← Bool.not_eq_true, inR_iff]; simp only; omega))
                go_wp2_with fail
                go_ret2
                exact ⟨by rw [HQ.out]; rfl, HB.out⟩
              · have HY := Lib.hid (HYES.out (inR_iff.2 ⟨⟨by omega, by omega⟩, by show 0 ≤ t; omega, by show t ≤ _; omega⟩))
                have sw : IntKind.i64.wrap (t - s) = t - s := IntWalk.i64_in _ (by omega)
                by_cases q4 : o < 0
                · have HS := Lib.hid (show stepK (su, ca) s (o, t) = (su, wrap64 (ca + 1)) from if_pos q4)
                  go_wp2_with fail
                  go_roundg (l.length - (k + 1))
                  case measure => omega
                  case rel => exact ⟨k + 1, by omega, rfl, by go_num, (congrArg (fun p : Int × Int => Value.int .i64 p.1) (HST.out.trans HS.out)).symm, (congrArg (fun p : Int × Int => Value.int .i64 p.2) (HST.out.trans HS.out)).symm, HY.out, HB.out⟩
                · have HS := Lib.hid (show stepK (su, ca) s (o, t) = (wrap64 (su + (t - s)), ca) from if_neg q4)
                  go_wp2_with fail
                  go_quiet (fail)
                  go_wp2_with fail
                  go_roundg (l.length - (k + 1))
                  case measure => omega
                  case rel => exact ⟨k + 1, by omega, rfl, by go_num, (congrArg (fun p : Int × Int => Value.int .i64 p.1) (HST.out.trans HS.out)).symm, (congrArg (fun p : Int × Int => Value.int .i64 p.2) (HST.out.trans HS.out)).symm, HY.out, by first | exact HB.out | exact below_drewN HB.out _⟩
      · obtain rfl : k = l.length := by omega
        have HQ := Lib.hid (costOf_yes (js := L.map JobM.start) (l := l) (by rw [List.length_map]; exact HL.out) HA.out)
        go_wp2_with fail
        go_ret2
        exact ⟨by rw [HQ.out]; rfl, hb⟩
  · have hne : ((l.length : Int) != (L.length : Int)) = true := by rw [bne_iff_ne]; omega
    have HQ := Lib.hid (costOf_len (js := L.map JobM.start) (l := l) (by rw [List.length_map]; exact hlen))
    clear hlen
    go_enter Try.func32, Try.ntmps32
    go_wp2_with fail
    go_ret2
    exact ⟨by rw [HQ.out]; rfl, Below.refl _ _⟩
end Go.Proofs.Ytlillkfelfoafaa
