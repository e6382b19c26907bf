/-
  Contracts of IndexFunc at the closure of Runs, of Runs, of the reference's serviceOf and Runs.
-/
import Derived.Test.YtaongejpbgjbiaaCal
set_option linter.unusedVariables false
set_option linter.unusedSimpArgs false
namespace Go.Proofs.Ytaongejpbgjbiaa
open Go.RowKit RP

set_option maxHeartbeats 2000000 in
theorem idxSvc_any (line : Int) (gl : Nat) (A : Option Addr) (c : Nat) (l : List Svc) (w : World) (hl : Lst encV 4 w w.heap.size A l) (hn : l.length ≤ 9223372036854775807) (hg : w.cell? ⟨gl, 0, none⟩ = some (.int .i64 line)) :
    Calls Try.prog 35 #[.slice A l.length c, .func (.func 36) #[] #[.pointer (some ⟨gl, 0, none⟩)]] w fun e w' => e = .returned (.int .i64 (fidx (fun a => decide (a.line = line)) l)) ∧ Below w.heap.size w w' := by
  go_enter Try.func35, Try.ntmps35
  go_wp2_with fail
  go_loopg [5, 8] l.length (fun g s5 s8 wr => ∃ k : Nat, k ≤ l.length ∧ g = l.length - k ∧ s8 = .int .i64 k ∧ (l.take k).any (fun a => decide (a.line = line)) = false ∧ Below w.heap.size w wr)
  case atStart => exact ⟨0, by omega, by omega, rfl, rfl, Below.refl _ _⟩
  case round =>
    obtain ⟨k, hk, hg', rfl, hv, hb⟩ := hrel
    have HV := Lib.hid hv
    clear hv
    have hgr := (hb.cell (p := ⟨gl, 0, none⟩) (cell_lt hg)).trans hg
    by_cases hlt : k < l.length
    · obtain ⟨b, off, rfl, hbb, a0, a1, a2, a3⟩ := (hl.below hb).sv k hlt
      have HNO := Lib.hid (fun h => any_snoc_no (p := fun a : Svc => decide (a.line = line)) hlt HV.out h)
      have HYES := Lib.hid (fun h => fidx_hit (p := fun a : Svc => decide (a.line = line)) hlt HV.out h)
      generalize l[k] = a at *
      have hcon := fun W h => runsC_any a line gl W h
      obtain ⟨q, hq⟩ : ∃ q, decide (a.line = line) = q := ⟨_, rfl⟩
      rw [hq] at hcon
      have HQ := Lib.hid hq
      have i0 : (0 : Int) ≤ (k : Int) := by omega
      have i1 : (k : Int) < (l.length : Int) := by omega
      have HB := Lib.hid hb
      clear hq hg hb
      go_wp2_with fail
      refine (hcon _ hgr).mono ?_
      rintro e w1 ⟨rfl, hb1⟩
      have HB1 := Lib.hid (HB.out.trans (hb1.mono HB.out.size))
      clear hb1
      cases q with
      | false =>
        go_wp2_with fail
        go_roundg (l.length - (k + 1))
        case measure => omega
        case rel => exact ⟨k + 1, by omega, rfl, by go_num, HNO.out HQ.out, HB1.out⟩
      | true =>
        go_wp2_with fail
        go_ret
        exact ⟨ret_int (HYES.out HQ.out).symm, HB1.out⟩
    · have HN := Lib.hid (fidx_none (p := fun a : Svc => decide (a.line = line)) (l := l) (by have := HV.out; rwa [List.take_of_length_le (by omega)] at this))
      go_wp2_with fail
      go_ret
      exact ⟨ret_int HN.out.symm, hb⟩

theorem svcOf_any (line : Int) (A : Option Addr) (c : Nat) (l : List Svc) (w : World) (hl : Lst encV 4 w w.heap.size A l) (hn : l.length ≤ 9223372036854775807) :
    Calls Try.prog 32 #[.slice A l.length c, .int .i64 line] w fun e w' => e = .returned (.int .i64 (fidx (fun a => decide (a.line = line)) l)) ∧ w = w' := by
  go_enter Try.func32, Try.ntmps32
  go_wp2_with fail
  go_loopg [5, 8] l.length (fun g s5 s8 wr => ∃ k : Nat, k ≤ l.length ∧ g = l.length - k ∧ s8 = .int .i64 k ∧ (l.take k).any (fun a => decide (a.line = line)) = false ∧ wr = w)
  case atStart => exact ⟨0, by omega, by omega, rfl, rfl, rfl⟩
  case round =>
    obtain ⟨k, hk, hg', rfl, hv, rfl⟩ := hrel
    have HV := Lib.hid hv
    clear hv
    by_cases hlt : k < l.length
    · obtain ⟨b, off, rfl, hbb, a0, a1, a2, a3⟩ := hl.sv k hlt
      have HNO := Lib.hid (fun h => any_snoc_no (p := fun a : Svc => decide (a.line = line)) hlt HV.out h)
      have HYES := Lib.hid (fun h => fidx_hit (p := fun a : Svc => decide (a.line = line)) hlt HV.out h)
      generalize l[k] = a at *
      have i0 : (0 : Int) ≤ (k : Int) := by omega
      have i1 : (k : Int) < (l.length : Int) := by omega
      by_cases hq : a.line = line
      · have d1 : (a.line == line) = true := by simp [hq]
        have HQ := Lib.hid (HYES.out (decide_eq_true hq))
        clear hq
        go_wp2_with fail
        go_ret
        exact ⟨ret_int HQ.out.symm, rfl⟩
      · have d1 : (a.line == line) = false := by simp [hq]
        have HQ := Lib.hid (HNO.out (decide_eq_false hq))
        clear hq
        go_wp2_with fail
        go_roundg (l.length - (k + 1))
        case measure => omega
        case rel => exact ⟨k + 1, by omega, rfl, by go_num, HQ.out, rfl⟩
    · have HN := Lib.hid (fidx_none (p := fun a : Svc => decide (a.line = line)) (l := l) (by have := HV.out; rwa [List.take_of_length_le (by omega)] at this))
      go_wp2_with fail
      go_ret
      exact ⟨ret_int HN.out.symm, rfl⟩

set_option maxRecDepth 100000 in
set_option maxHeartbeats 4000000 in
theorem runs_any (line day : Int) (A : Option Addr) (c : Nat) (s : List Svc) (B : Option Addr) (d : Nat) (x : List Exc) (w : World) (hl : Lst encV 4 w w.heap.size A s) (hn : s.length ≤ 9223372036854775807) (hx : Lst encX 3 w w.heap.size B x) (hm : x.length ≤ 9223372036854775807)
    (hd : ∀ a ∈ s, R64 a.days) (_ : R64 day) :
    Calls Try.prog 17 #[.slice A s.length c, .slice B x.length d, .int .i64 line, .int .i64 day] w fun e w' => e = .returned (.bool (runsB s x line day)) ∧ Below w.heap.size w w' := by
  have ba := belA w (.cells #[.int .i64 line] 3)
  have hnew := heap_alloc_new w (.cells #[.int .i64 line] 3)
  have c0 : (w.alloc (.cells #[.int .i64 line] 3)).cell? ⟨w.heap.size, 0, none⟩ = some (.int .i64 line) := by rw [cell_of_row _ _ 0 _ _ _ hnew]; rfl
  have zw : (w.alloc (.cells #[.int .i64 line] 3)).heap.size = w.heap.size + 1 := by simp
  by_cases h0 : 0 ≤ day ∧ day < 31
  · have HR := Lib.hid (show runsB s x line day = _ by unfold runsB; rw [decide_eq_true h0, Bool.true_and])
    obtain ⟨d1, d2⟩ := h0
    have hl1 := hl.belowMore ba ba.size
    have hx1 := hx.belowMore ba ba.size
    have HBA := Lib.hid ba
    clear ba hnew hl hx
    go_enter Try.func17, Try.ntmps17
    go_wp2_with fail
    generalize w.alloc (.cells #[.int .i64 line] 3) = w0 at *
    refine (idxSvc_any line w.heap.size A c s w0 hl1 hn c0).mono ?_
    rintro e w1 ⟨rfl, hb1⟩
    have hl2 := hl1.belowMore hb1 hb1.size
    have hx2 := hx1.belowMore hb1 hb1.size
    have c1 := (hb1.cell (p := ⟨w.heap.size, 0, none⟩) (show w.heap.size < w0.heap.size by omega)).trans c0
    have HB1 := Lib.hid (HBA.out.trans (hb1.mono (by omega)))
    have z1 := hb1.size
    rcases fidx_find (p := fun a : Svc => decide (a.line = line)) s with ⟨e1, e2⟩ | ⟨k, hk, e1, e2, e3, e4⟩
    · rw [e1]
      have HE := Lib.hid e2
      clear e1 e2 hb1 c0 hl1 hx1
      go_wp2_with fail
      go_ret
      exact ⟨ret_bool (by rw [HR.out, HE.out]), HB1.out⟩
    · rw [e1]
      have HE := Lib.hid e2
      have hdk := hd s[k] (List.getElem_mem hk)
      clear e1 e2 e3 e4 hb1 c0 hl1 hx1
      go_wp2_with fail
      go_loopg [11, 25] x.length (fun g s11 s25 wr => ∃ k : Nat, k ≤ x.length ∧ g = x.length - k ∧ s25 = .int .i64 k ∧ (x.take k).any (fun e => decide (e.line = line) && decide (e.day = day)) = false ∧ Below w1.heap.size w1 wr)
      case atStart => exact ⟨0, by omega, by omega, rfl, rfl, Below.refl _ _⟩
      case round =>
        obtain ⟨i, hi, hg, rfl, hv, hb⟩ := hrel
        have HV := Lib.hid hv
        have cr := (hb.cell (p := ⟨w.heap.size, 0, none⟩) (show w.heap.size < w1.heap.size by omega)).trans c1
        have HB := Lib.hid (HB1.out.trans (hb.mono (by omega)))
        have HBR := Lib.hid hb
        have lr := hl2.belowMore hb hb.size
        have zr := hb.size
        have zr2 : w.heap.size < wr.heap.size := by omega
        have zr3 : w.heap.size ≠ wr.heap.size := by omega
        clear hv
        by_cases hlt : i < x.length
        · obtain ⟨b, off, rfl, hbb, a0, a1, a2⟩ := (hx2.below hb).ex i hlt
          have HNO := Lib.hid (fun h => any_snoc_no (p := fun e : Exc => decide (e.line = line) && decide (e.day = day)) hlt HV.out h)
          have HYES := Lib.hid (fun h => fidx_hit (p := fun e : Exc => decide (e.line = line) && decide (e.day = day)) hlt HV.out h)
          have HFX := Lib.hid (fidx_find (p := fun e : Exc => decide (e.line = line) && decide (e.day = day)) x)
          have i0 : (0 : Int) ≤ (i : Int) := by omega
          have i1 : (i : Int) < (x.length : Int) := by omega
          have HXI := Lib.hid (show x[i]? = some x[i] by simp [hlt])
          have HBX := Lib.hid (HBR.out.trans ((belA wr (.cells #[.int .i64 x[i].line, .int .i64 x[i].day, .bool x[i].runs] 36)).mono zr))
          generalize x[i] = e at *
          obtain ⟨el, ed, er⟩ := e
          simp only at a0 a1 a2 HNO HYES HBX
          clear hb
          by_cases q1 : el = line
          · have e1 : (el == line) = true := by simp [q1]
            by_cases q2 : ed = day
            · have e2 : (ed == day) = true := by simp [q2]
              have HH := Lib.hid (HYES.out (by simp [q1, q2]))
              clear q1 q2
              go_wp2_with fail
              go_ret
              refine ⟨ret_bool ?_, HB1.out.trans (HBX.out.mono (by omega))⟩
              rcases HFX.out with ⟨u1, _⟩ | ⟨j, hj, u1, u2, _⟩
              · rw [HH.out] at u1; omega
              · rw [HH.out] at u1
                have : j = i := by omega
                subst this
                rw [List.getElem?_eq_getElem hj] at HXI
                have hxi := HXI.out
                injection hxi with hxi
                rw [HR.out, HE.out]
                simp only [u2, hxi]
            · have e2 : (ed == day) = false := by simp [q2]
              have HH := Lib.hid (HNO.out (by simp [q2]))
              clear q1 q2
              go_wp2_with fail
              go_roundg (x.length - (i + 1))
              case measure => omega
              case rel => exact ⟨i + 1, by omega, rfl, by go_num, HH.out, HBX.out⟩
          · have e1 : (el == line) = false := by simp [q1]
            have HH := Lib.hid (HNO.out (by simp [q1]))
            clear q1
            go_wp2_with fail
            go_roundg (x.length - (i + 1))
            case measure => omega
            case rel => exact ⟨i + 1, by omega, rfl, by go_num, HH.out, HBX.out⟩
        · obtain ⟨b, off, rfl, hbb, a0, a1, a2, a3⟩ := lr.sv k hk
          have hfx : x.find? (fun e => decide (e.line = line) && decide (e.day = day)) = none := by
            have := HV.out
            rw [List.take_of_length_le (by omega), List.any_eq_false] at this
            rw [List.find?_eq_none]
            exact this
          have HFX := Lib.hid hfx
          have i0 : (0 : Int) ≤ (k : Int) := by omega
          have i1 : (k : Int) < (s.length : Int) := by omega
          have HDY := Lib.hid (show bitB s[k].days day.toNat = bitB s[k].days day.toNat from rfl)
          obtain ⟨dy, hdy⟩ : ∃ q, s[k].days = q := ⟨_, rfl⟩
          rw [hdy] at a1
          have HD := Lib.hid hdy
          clear hdy HDY
          clear hfx hb
          go_wp2_with fail
          go_ret
          exact ⟨ret_bool (by rw [HR.out, HE.out]; simp only [HFX.out]; rw [HD.out, bit_day]), HB.out⟩
  · have HR := Lib.hid (show runsB s x line day = false by unfold runsB; rw [decide_eq_false h0, Bool.false_and])
    by_cases h1 : day < 0
    · clear h0
      go_enter Try.func17, Try.ntmps17
      go_wp2_with fail
      go_ret
      exact ⟨ret_bool (by rw [HR.out]), ba⟩
    · have h2 : 31 ≤ day := by omega
      clear h0
      go_enter Try.func17, Try.ntmps17
      go_wp2_with fail
      go_ret
      exact ⟨ret_bool (by rw [HR.out]), ba⟩

end Go.Proofs.Ytaongejpbgjbiaa
