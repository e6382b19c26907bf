/-
  Contract of the reference's Runs.
-/
import Derived.Test.YtaongejpbgjbiaaCalB
set_option linter.unusedVariables false
set_option linter.unusedSimpArgs false
namespace Go.Proofs.Ytaongejpbgjbiaa
open Go.RowKit RP

set_option maxRecDepth 100000 in
set_option maxHeartbeats 4000000 in
theorem refRuns_any (line day : Int) (A : Option Addr) (c : Nat) (s : List Svc) (B : Option Addr) (d : Nat) (x : List Exc) (w : World) (hl : Lst encV 4 w w.heap.size A s) (hn : s.length ≤ 9223372036854775807) (hx : Lst encX 3 w w.heap.size B x) (hm : x.length ≤ 9223372036854775807)
    (hd : ∀ a ∈ s, R64 a.days) (_ : R64 day) :
    Calls Try.prog 18 #[.slice A s.length c, .slice B x.length d, .int .i64 line, .int .i64 day] w fun e w' => e = .returned (.bool (runsB s x line day)) ∧ Below w.heap.size w w' := by
  by_cases h0 : 0 ≤ day ∧ day < 31
  · have HR := Lib.hid (show runsB s x line day = _ by unfold runsB; rw [decide_eq_true h0, Bool.true_and])
    obtain ⟨d1, d2⟩ := h0
    go_enter Try.func18, Try.ntmps18
    go_wp2_with fail
    refine (svcOf_any line A c s w hl hn).mono ?_
    rintro e w' ⟨rfl, rfl⟩
    rcases fidx_find (p := fun a : Svc => decide (a.line = line)) s with ⟨e1, e2⟩ | ⟨k, hk, e1, e2, e3, e4⟩
    · rw [e1]
      have HE := Lib.hid e2
      clear e1 e2
      go_wp2_with fail
      go_ret
      exact ⟨ret_bool (by rw [HR.out, HE.out]), Below.refl _ _⟩
    · rw [e1]
      have HE := Lib.hid e2
      have hdk := hd s[k] (List.getElem_mem hk)
      clear e1 e2 e3 e4
      go_wp2_with fail
      go_loopg [11, 27] x.length (fun g s11 s27 wr => ∃ k : Nat, k ≤ x.length ∧ g = x.length - k ∧ s27 = .int .i64 k ∧ (x.take k).any (fun e => decide (e.line = line) && decide (e.day = day)) = false ∧ Below w.heap.size w wr)
      case atStart => exact ⟨0, by omega, by omega, rfl, rfl, Below.refl _ _⟩
      case round =>
        obtain ⟨i, hi, hg, rfl, hv, hb⟩ := hrel
        have HV := Lib.hid hv
        have HB := Lib.hid hb
        have HBR := Lib.hid hb
        have lr := hl.belowMore hb hb.size
        have zr := hb.size
        clear hv
        by_cases hlt : i < x.length
        · obtain ⟨b, off, rfl, hbb, a0, a1, a2⟩ := (hx.below hb).ex i hlt
          have HNO := Lib.hid (fun h => any_snoc_no (p := fun e : Exc => decide (e.line = line) && decide (e.day = day)) hlt HV.out h)
          have HYES := Lib.hid (fun h => fidx_hit (p := fun e : Exc => decide (e.line = line) && decide (e.day = day)) hlt HV.out h)
          have HFX := Lib.hid (fidx_find (p := fun e : Exc => decide (e.line = line) && decide (e.day = day)) x)
          have i0 : (0 : Int) ≤ (i : Int) := by omega
          have i1 : (i : Int) < (x.length : Int) := by omega
          have HXI := Lib.hid (show x[i]? = some x[i] by simp [hlt])
          have HBX := Lib.hid (HBR.out.trans ((belA wr (.cells #[.int .i64 x[i].line, .int .i64 x[i].day, .bool x[i].runs] 36)).mono zr))
          generalize x[i] = e at *
          obtain ⟨el, ed, er⟩ := e
          simp only at a0 a1 a2 HNO HYES HBX
          clear hb
          by_cases q1 : el = line
          · have e1 : (el == line) = true := by simp [q1]
            by_cases q2 : ed = day
            · have e2 : (ed == day) = true := by simp [q2]
              have HH := Lib.hid (HYES.out (by simp [q1, q2]))
              clear q1 q2
              go_wp2_with fail
              go_ret
              refine ⟨ret_bool ?_, HBX.out⟩
              rcases HFX.out with ⟨u1, _⟩ | ⟨j, hj, u1, u2, _⟩
              · rw [HH.out] at u1; omega
              · rw [HH.out] at u1
                have : j = i := by omega
                subst this
                rw [List.getElem?_eq_getElem hj] at HXI
                have hxi := HXI.out
                injection hxi with hxi
                rw [HR.out, HE.out]
                simp only [u2, hxi]
            · have e2 : (ed == day) = false := by simp [q2]
              have HH := Lib.hid (HNO.out (by simp [q2]))
              clear q1 q2
              go_wp2_with fail
              go_roundg (x.length - (i + 1))
              case measure => omega
              case rel => exact ⟨i + 1, by omega, rfl, by go_num, HH.out, HBX.out⟩
          · have e1 : (el == line) = false := by simp [q1]
            have HH := Lib.hid (HNO.out (by simp [q1]))
            clear q1
            go_wp2_with fail
            go_roundg (x.length - (i + 1))
            case measure => omega
            case rel => exact ⟨i + 1, by omega, rfl, by go_num, HH.out, HBX.out⟩
        · obtain ⟨b, off, rfl, hbb, a0, a1, a2, a3⟩ := lr.sv k hk
          have hfx : x.find? (fun e => decide (e.line = line) && decide (e.day = day)) = none := by
            have := HV.out
            rw [List.take_of_length_le (by omega), List.any_eq_false] at this
            rw [List.find?_eq_none]
            exact this
          have HFX := Lib.hid hfx
          have i0 : (0 : Int) ≤ (k : Int) := by omega
          have i1 : (k : Int) < (s.length : Int) := by omega
          have HDY := Lib.hid (show bitB s[k].days day.toNat = bitB s[k].days day.toNat from rfl)
          obtain ⟨dy, hdy⟩ : ∃ q, s[k].days = q := ⟨_, rfl⟩
          rw [hdy] at a1
          have HD := Lib.hid hdy
          clear hdy HDY
          clear hfx hb
          go_wp2_with fail
          go_ret
          exact ⟨ret_bool (by rw [HR.out, HE.out]; simp only [HFX.out]; rw [HD.out, bit_day]), HB.out⟩
  · have HR := Lib.hid (show runsB s x line day = false by unfold runsB; rw [decide_eq_false h0, Bool.false_and])
    go_enter Try.func18, Try.ntmps18
    go_wp2_with fail
    refine (svcOf_any line A c s w hl hn).mono ?_
    rintro e w' ⟨rfl, rfl⟩
    generalize fidx (fun a : Svc => decide (a.line = line)) s = i at *
    by_cases q : i < 0
    · clear h0
      go_wp2_with fail
      go_ret
      exact ⟨ret_bool (by rw [HR.out]), Below.refl _ _⟩
    · by_cases h1 : day < 0
      · clear h0
        go_wp2_with fail
        go_ret
        exact ⟨ret_bool (by rw [HR.out]), Below.refl _ _⟩
      · have h2 : 31 ≤ day := by omega
        clear h0
        go_wp2_with fail
        go_ret
        exact ⟨ret_bool (by rw [HR.out]), Below.refl _ _⟩

end Go.Proofs.Ytaongejpbgjbiaa
