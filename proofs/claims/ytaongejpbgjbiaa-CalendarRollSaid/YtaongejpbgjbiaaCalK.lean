/-
  Contract of calendar.Check.
-/
import Derived.Test.YtaongejpbgjbiaaCalB
import Derived.Test.YtaongejpbgjbiaaMapQ
import Derived.Test.YtaongejpbgjbiaaBasics
set_option linter.unusedVariables false
set_option linter.unusedSimpArgs false
namespace RP
/-- The first error of a list, where the error of an element may depend on those before it. -/
def firstE {α : Type} (f : List α → α → Int) : List α → List α → Int
  | _, [] => 0
  | pre, a :: r => if f pre a ≠ 0 then f pre a else firstE f (pre ++ [a]) r
theorem firstE_step {α : Type} (f : List α → α → Int) {l : List α} {k : Nat} (h : k < l.length) :
    firstE f (l.take k) (l.drop k) = if f (l.take k) l[k] ≠ 0 then f (l.take k) l[k] else firstE f (l.take (k + 1)) (l.drop (k + 1)) := by
  rw [List.drop_eq_getElem_cons h, List.take_succ_eq_append_getElem h, firstE]
theorem firstE_end {α : Type} (f : List α → α → Int) {l : List α} {k : Nat} (h : l.length ≤ k) : firstE f (l.take k) (l.drop k) = 0 := by
  rw [List.drop_eq_nil_of_le h]; rfl
def svcBad (lines days : Int) (a : Svc) : Bool := decide (a.line < 0 ∨ lines ≤ a.line ∨ a.days < 0 ∨ 2 ^ days.toNat ≤ a.days ∨ a.fst < 0 ∨ a.lst < a.fst ∨ 86400 ≤ a.lst)
def svcE (lines days : Int) (pre : List Svc) (a : Svc) : Int := if svcBad lines days a then 4 else if pre.any (fun b => decide (b.line = a.line)) then 5 else 0
def excBad (lines days : Int) (a : Exc) : Bool := decide (a.line < 0 ∨ lines ≤ a.line ∨ a.day < 0 ∨ days ≤ a.day)
def excE (lines days : Int) (s : List Svc) (pre : List Exc) (a : Exc) : Int := if excBad lines days a then 4 else if !(s.any fun b => decide (b.line = a.line)) then 6 else if pre.any (fun b => decide (b.line = a.line) && decide (b.day = a.day)) then 5 else 0
/-- What Check returns. -/
def checkS (lines days : Int) (s : List Svc) (x : List Exc) : Int :=
  if lines < 0 ∨ 16 < lines ∨ days < 1 ∨ 31 < days then 4 else if firstE (svcE lines days) [] s ≠ 0 then firstE (svcE lines days) [] s else firstE (excE lines days s) [] x
end RP
namespace Go.Proofs.Ytaongejpbgjbiaa
open Go.RowKit RP

def marks (L : Nat) (s : List Svc) : List Bool := bitsOf L fun i => s.any fun b => decide (b.line = (i : Int))
theorem marks_len {L : Nat} {s : List Svc} : (marks L s).length = L := bitsOf_length _ _
theorem marks_at {L : Nat} {s : List Svc} {i : Nat} (h : i < L) : (marks L s)[i]'(by rw [marks_len]; exact h) = s.any fun b => decide (b.line = (i : Int)) := by
  simp [marks, bitsOf]
theorem marks_set {L : Nat} {s : List Svc} {a : Svc} {i : Nat} (hi : a.line = (i : Int)) : (marks L s).set i true = marks L (s ++ [a]) := by
  apply List.ext_getElem
  · simp [marks, bitsOf]
  · intro j h1 h2
    have hj : j < L := by rw [marks_len] at h2; exact h2
    rw [List.getElem_set, marks_at hj]
    by_cases e : i = j
    · subst e; rw [if_pos rfl, marks_at hj, List.any_append]; simp [hi]
    · rw [if_neg e, marks_at hj, List.any_append]; simp [hi, show ¬ ((i : Int) = (j : Int)) by omega]


def excF (x : List Exc) (li da : Int) : Bool := x.any fun b => decide (b.line = li) && decide (b.day = da)
theorem excF_snoc (x : List Exc) (a : Exc) : (fun li da => if li = a.line ∧ da = a.day then true else excF x li da) = excF (x ++ [a]) := by
  funext li da
  unfold excF
  rw [List.any_append]
  by_cases h : li = a.line ∧ da = a.day
  · rw [if_pos h]; simp [h.1, h.2]
  · rw [if_neg h]
    have : (decide (a.line = li) && decide (a.day = da)) = false := by
      rw [Bool.and_eq_false_iff, decide_eq_false_iff_not, decide_eq_false_iff_not]
      by_cases h1 : a.line = li
      · right; intro h2; exact h ⟨h1.symm, h2.symm⟩
      · left; exact h1
    simp [this]

set_option maxRecDepth 100000 in
set_option maxHeartbeats 8000000 in
theorem check_any (lines days : Int) (A : Option Addr) (c : Nat) (s : List Svc) (B : Option Addr) (d : Nat) (x : List Exc) (w : World) (hl : Lst encV 4 w w.heap.size A s) (hn : s.length ≤ 9223372036854775807) (hx : Lst encX 3 w w.heap.size B x) (hm : x.length ≤ 140737488355328)
    (_ : R64 lines) (_ : R64 days) :
    Calls Try.prog 14 #[.int .i64 lines, .int .i64 days, .slice A s.length c, .slice B x.length d] w fun e w' => e = .returned (.int .i64 (checkS lines days s x)) ∧ Below w.heap.size w w' := by
  by_cases h0 : lines < 0 ∨ 16 < lines ∨ days < 1 ∨ 31 < days
  · have HR := Lib.hid (show checkS lines days s x = 4 by unfold checkS; rw [if_pos h0])
    by_cases h1 : lines < 0
    · clear h0
      go_enter Try.func14, Try.ntmps14
      go_wp2_with fail
      go_ret
      exact ⟨ret_int HR.out.symm, Below.refl _ _⟩
    · by_cases h2 : 16 < lines
      · clear h0
        go_enter Try.func14, Try.ntmps14
        go_wp2_with fail
        go_ret
        exact ⟨ret_int HR.out.symm, Below.refl _ _⟩
      · by_cases h3 : days < 1
        · clear h0
          go_enter Try.func14, Try.ntmps14
          go_wp2_with fail
          go_ret
          exact ⟨ret_int HR.out.symm, Below.refl _ _⟩
        · have h4 : 31 < days := by omega
          clear h0
          go_enter Try.func14, Try.ntmps14
          go_wp2_with fail
          go_ret
          exact ⟨ret_int HR.out.symm, Below.refl _ _⟩
  · obtain ⟨L, rfl⟩ := Int.eq_ofNat_of_zero_le (show 0 ≤ lines by omega)
    obtain ⟨dn, rfl⟩ := Int.eq_ofNat_of_zero_le (show 0 ≤ days by omega)
    have l1 : L ≤ 16 := by omega
    have l2 : 1 ≤ dn := by omega
    have l3 : dn ≤ 31 := by omega
    have HR := Lib.hid (show checkS L dn s x = _ by unfold checkS; rw [if_neg h0])
    have mk := makeBools L (by omega)
    have hob := Own.bools w L (by omega)
    have ba := belA w (.cells (madeCells #[.bool false] L) 4)
    have zw : (w.alloc (.cells (madeCells #[.bool false] L) 4)).heap.size = w.heap.size + 1 := by simp
    have hpow : (2 : Int) ^ dn ≤ 2147483648 := by
      have h1 := Nat.pow_le_pow_right (n := 2) (by omega) l3
      have h2 : (2 : Nat) ^ 31 = 2147483648 := rfl
      have h3 : (2 : Int) ^ dn = ((2 ^ dn : Nat) : Int) := by simp
      omega
    have hpow0 : (0 : Int) < 2 ^ dn := Int.pow_pos (by omega)
    have sw : IntKind.i64.wrap ((2 : Int) ^ dn) = 2 ^ dn := IntWalk.i64_in _ (by omega)
    clear h0
    go_enter Try.func14, Try.ntmps14
    go_wp2_with fail
    generalize w.alloc (.cells (madeCells #[.bool false] L) 4) = w0 at *
    generalize hgs : w.heap.size = gs at *
    have HGS := Lib.hid hgs
    clear mk hgs
    go_loopg [11, 33] s.length (fun g s11 s33 wr => ∃ k : Nat, k ≤ s.length ∧ g = s.length - k ∧ s33 = .int .i64 k ∧ firstE (svcE L dn) [] s = firstE (svcE L dn) (s.take k) (s.drop k) ∧ Own encB 1 4 wr gs (.slice (some ⟨gs, 0, none⟩) L L) (marks L (s.take k)) ∧ Below gs w wr ∧ gs < wr.heap.size)
    case atStart => exact ⟨0, by omega, by omega, rfl, rfl, hob, ba, by omega⟩
    case round =>
      obtain ⟨k, hk, hg, rfl, hf, ho, hb, hzr⟩ := hrel
      have HF := Lib.hid hf
      clear hf hob
      by_cases hlt : k < s.length
      · obtain ⟨b, off, rfl, hbb, a0, a1, a2, a3⟩ := (hl.below hb).sv k hlt
        have hst := firstE_step (svcE L dn) hlt
        rw [← HF.out] at hst
        have HBAD := Lib.hid (show svcBad L dn s[k] = true → checkS L dn s x = 4 from fun h => by
          have e : svcE L dn (s.take k) s[k] = 4 := by unfold svcE; rw [if_pos h]
          rw [e, if_pos (by decide)] at hst
          rw [HR.out, hst]; rfl)
        have HDUP := Lib.hid (show svcBad L dn s[k] = false → (s.take k).any (fun b => decide (b.line = s[k].line)) = true → checkS L dn s x = 5 from fun h h' => by
          have e : svcE L dn (s.take k) s[k] = 5 := by unfold svcE; rw [if_neg (by rw [h]; decide), if_pos h']
          rw [e, if_pos (by decide)] at hst
          rw [HR.out, hst]; rfl)
        have HOK := Lib.hid (show svcBad L dn s[k] = false → (s.take k).any (fun b => decide (b.line = s[k].line)) = false → firstE (svcE L dn) [] s = firstE (svcE L dn) (s.take (k + 1)) (s.drop (k + 1)) from fun h h' => by
          have e : svcE L dn (s.take k) s[k] = 0 := by unfold svcE; rw [if_neg (by rw [h]; decide), if_neg (by rw [h']; decide)]
          rw [e, if_neg (by decide)] at hst
          exact hst)
        have HTK := Lib.hid (show s.take (k + 1) = s.take k ++ [s[k]] from List.take_succ_eq_append_getElem hlt)
        have HBX := Lib.hid (hb.trans ((belA wr (.cells #[.int .i64 s[k].line, .int .i64 s[k].days, .int .i64 s[k].fst, .int .i64 s[k].lst] 34)).mono (by omega)))
        have HOX := Lib.hid (ho.alloc (.cells #[.int .i64 s[k].line, .int .i64 s[k].days, .int .i64 s[k].fst, .int .i64 s[k].lst] 34))
        have i0 : (0 : Int) ≤ (k : Int) := by omega
        have i1 : (k : Int) < (s.length : Int) := by omega
        clear hst
        generalize s[k] = a at *
        obtain ⟨li, dy, fs, ls⟩ := a
        simp only at a0 a1 a2 a3 HBAD HDUP HOK HBX HOX
        clear hb
        by_cases q1 : li < 0
        · go_wp2_with fail
          go_quiet (fail)
          go_wp2_with fail
          go_ret
          exact ⟨ret_int (HBAD.out (by unfold svcBad; simp; omega)).symm, by rw [HGS.out]; exact below_drewN HBX.out _⟩
        · by_cases q2 : (L : Int) ≤ li
          · go_wp2_with fail
            go_quiet (fail)
            go_wp2_with fail
            go_ret
            exact ⟨ret_int (HBAD.out (by unfold svcBad; simp; omega)).symm, by rw [HGS.out]; exact below_drewN HBX.out _⟩
          · by_cases q3 : dy < 0
            · go_wp2_with fail
              go_quiet (fail)
              go_wp2_with fail
              go_ret
              exact ⟨ret_int (HBAD.out (by unfold svcBad; simp; omega)).symm, by rw [HGS.out]; exact below_drewN HBX.out _⟩
            · by_cases q4 : (2 : Int) ^ dn ≤ dy
              · go_wp2_with fail
                go_quiet (fail)
                go_wp2_with fail
                go_ret
                exact ⟨ret_int (HBAD.out (by unfold svcBad; simp; omega)).symm, by rw [HGS.out]; exact below_drewN HBX.out _⟩
              · by_cases q5 : fs < 0
                · go_wp2_with fail
                  go_quiet (fail)
                  go_wp2_with fail
                  go_ret
                  exact ⟨ret_int (HBAD.out (by unfold svcBad; simp; omega)).symm, by rw [HGS.out]; exact below_drewN HBX.out _⟩
                · by_cases q6 : ls < fs
                  · go_wp2_with fail
                    go_quiet (fail)
                    go_wp2_with fail
                    go_ret
                    exact ⟨ret_int (HBAD.out (by unfold svcBad; simp; omega)).symm, by rw [HGS.out]; exact below_drewN HBX.out _⟩
                  · by_cases q7 : 86400 ≤ ls
                    · go_wp2_with fail
                      go_quiet (fail)
                      go_wp2_with fail
                      go_ret
                      exact ⟨ret_int (HBAD.out (by unfold svcBad; simp; omega)).symm, by rw [HGS.out]; exact below_drewN HBX.out _⟩
                    · obtain ⟨i, rfl⟩ := Int.eq_ofNat_of_zero_le (show 0 ≤ li by omega)
                      have hgood : svcBad L dn ⟨i, dy, fs, ls⟩ = false := by unfold svcBad; simp; omega
                      have hiL : i < L := by omega
                      have HDUP' := Lib.hid (HDUP.out hgood)
                      have HOK' := Lib.hid (HOK.out hgood)
                      obtain ⟨b1, b2, b3⟩ := HOX.out.boAt i (by rw [marks_len]; exact hiL) true
                      rw [marks_at hiL] at b1
                      rw [marks_set (a := ⟨i, dy, fs, ls⟩) rfl, ← HTK.out] at b3
                      have HO3 := Lib.hid b3
                      have HB3 := Lib.hid (HBX.out.setCell (p := ⟨gs, i, none⟩) (show gs ≤ gs by omega) (.bool true))
                      have j1 : (i : Int) < (L : Int) := by omega
                      have j0 : (0 : Int) ≤ (i : Int) := by omega
                      clear b3 HDUP HOK HBAD hgood
                      cases hdup : (s.take k).any (fun b => decide (b.line = (i : Int))) with
                      | true =>
                        rw [hdup] at b1
                        have HE := Lib.hid (HDUP'.out hdup)
                        clear hdup
                        go_wp2_with fail
                        go_quiet (fail)
                        go_wp2_with fail
                        go_ret
                        exact ⟨ret_int HE.out.symm, by rw [HGS.out]; exact below_drewN HBX.out _⟩
                      | false =>
                        rw [hdup] at b1
                        have HE := Lib.hid (HOK'.out hdup)
                        clear hdup
                        go_wp2_with fail
                        go_quiet (fail)
                        go_wp2_with fail
                        go_roundg (s.length - (k + 1))
                        case measure => omega
                        case rel => exact ⟨k + 1, by omega, rfl, by go_num, HE.out, HO3.out.drewN _, below_drewN HB3.out _, by simp [World.setCell]; omega⟩
      · have hend := HF.out
        rw [firstE_end _ (by omega)] at hend
        have HCH := Lib.hid (show checkS L dn s x = firstE (excE L dn s) [] x by rw [HR.out, hend]; rfl)
        have hkn : k = s.length := by omega
        have ho2 := ho
        rw [hkn, List.take_length] at ho2
        have hmk := MapQ.made wr
        have bm := belA wr (.map #[] 0)
        have HO2 := Lib.hid (ho2.alloc (.map #[] 0))
        have HB2 := Lib.hid (hb.trans (bm.mono (by omega)))
        have hmm := @run_makeMap Try.prog
        have zq : ∀ W : World, (zeroValue 4).run Try.prog W = .ok (.bool false) W := fun W => by kernel_rfl
        have hzm : (wr.alloc (.map #[] 0)).heap.size = wr.heap.size + 1 := by simp
        clear hend hkn ho2 ho hb bm
        go_wp2_with fail
        generalize wr.alloc (.map #[] 0) = w5 at *
        generalize hgm : wr.heap.size = gm at *
        have HGM := Lib.hid (show gs < gm by omega)
        have HGM0 := Lib.hid hgm
        clear hgm hmm
        go_loopg [14, 86] x.length (fun g s14 s86 wr => ∃ j : Nat, j ≤ x.length ∧ g = x.length - j ∧ s86 = .int .i64 j ∧ firstE (excE L dn s) [] x = firstE (excE L dn s) (x.take j) (x.drop j) ∧ MapQ wr gm j (excF (x.take j)) ∧ Own encB 1 4 wr gs (.slice (some ⟨gs, 0, none⟩) L L) (marks L s) ∧ Below gs w wr)
        case atStart => exact ⟨0, by omega, by omega, rfl, rfl, hmk, HO2.out, HB2.out⟩
        case round =>
          obtain ⟨j, hj, hg', rfl, hf, hmap, ho, hb⟩ := hrel
          have HF2 := Lib.hid hf
          clear hf hmk HF
          by_cases hlt2 : j < x.length
          · obtain ⟨b, off, rfl, hbb, a0, a1, a2⟩ := (hx.below hb).ex j hlt2
            have hst := firstE_step (excE L dn s) hlt2
            rw [← HF2.out] at hst
            have HBAD := Lib.hid (show excBad L dn x[j] = true → checkS L dn s x = 4 from fun h => by
              have e : excE L dn s (x.take j) x[j] = 4 := by unfold excE; rw [if_pos h]
              rw [e, if_pos (by decide)] at hst
              rw [HCH.out, hst])
            have HNONE := Lib.hid (show excBad L dn x[j] = false → s.any (fun b => decide (b.line = x[j].line)) = false → checkS L dn s x = 6 from fun h h' => by
              have e : excE L dn s (x.take j) x[j] = 6 := by unfold excE; rw [if_neg (by rw [h]; decide), if_pos (by rw [h']; rfl)]
              rw [e, if_pos (by decide)] at hst
              rw [HCH.out, hst])
            have HDUP := Lib.hid (show excBad L dn x[j] = false → s.any (fun b => decide (b.line = x[j].line)) = true → excF (x.take j) x[j].line x[j].day = true → checkS L dn s x = 5 from fun h h' h'' => by
              have e : excE L dn s (x.take j) x[j] = 5 := by unfold excE; rw [if_neg (by rw [h]; decide), if_neg (by rw [h']; decide)]; exact if_pos h''
              rw [e, if_pos (by decide)] at hst
              rw [HCH.out, hst])
            have HOK := Lib.hid (show excBad L dn x[j] = false → s.any (fun b => decide (b.line = x[j].line)) = true → excF (x.take j) x[j].line x[j].day = false → firstE (excE L dn s) [] x = firstE (excE L dn s) (x.take (j + 1)) (x.drop (j + 1)) from fun h h' h'' => by
              have e : excE L dn s (x.take j) x[j] = 0 := by unfold excE; rw [if_neg (by rw [h]; decide), if_neg (by rw [h']; decide)]; exact if_neg (by unfold excF at h''; rw [h'']; decide)
              rw [e, if_neg (by decide)] at hst
              exact hst)
            have HTK := Lib.hid (show x.take (j + 1) = x.take j ++ [x[j]] from List.take_succ_eq_append_getElem hlt2)
            have bX := belA wr (.cells #[.int .i64 x[j].line, .int .i64 x[j].day, .bool x[j].runs] 36)
            have HBX := Lib.hid (hb.trans (bX.mono (by have := hmap.lt; have := HGM.out; omega)))
            have HOX := Lib.hid (ho.alloc (.cells #[.int .i64 x[j].line, .int .i64 x[j].day, .bool x[j].runs] 36))
            have HMX := Lib.hid (hmap.below bX)
            have i0 : (0 : Int) ≤ (j : Int) := by omega
            have i1 : (j : Int) < (x.length : Int) := by omega
            clear hst bX hmap ho hb
            generalize x[j] = e at *
            obtain ⟨li, da, ru⟩ := e
            simp only at a0 a1 a2 HBAD HNONE HDUP HOK HBX HOX HMX HTK
            by_cases q1 : li < 0
            · go_wp2_with fail
              go_ret
              exact ⟨ret_int (HBAD.out (by unfold excBad; simp; omega)).symm, by rw [HGS.out]; exact HBX.out⟩
            · by_cases q2 : (L : Int) ≤ li
              · go_wp2_with fail
                go_ret
                exact ⟨ret_int (HBAD.out (by unfold excBad; simp; omega)).symm, by rw [HGS.out]; exact HBX.out⟩
              · by_cases q3 : da < 0
                · go_wp2_with fail
                  go_ret
                  exact ⟨ret_int (HBAD.out (by unfold excBad; simp; omega)).symm, by rw [HGS.out]; exact HBX.out⟩
                · by_cases q4 : (dn : Int) ≤ da
                  · go_wp2_with fail
                    go_ret
                    exact ⟨ret_int (HBAD.out (by unfold excBad; simp; omega)).symm, by rw [HGS.out]; exact HBX.out⟩
                  · obtain ⟨i, rfl⟩ := Int.eq_ofNat_of_zero_le (show 0 ≤ li by omega)
                    have hgood : excBad L dn ⟨i, da, ru⟩ = false := by unfold excBad; simp; omega
                    have hiL : i < L := by omega
                    have HNONE' := Lib.hid (HNONE.out hgood)
                    have HDUP' := Lib.hid (HDUP.out hgood)
                    have HOK' := Lib.hid (HOK.out hgood)
                    obtain ⟨b1, _, _⟩ := HOX.out.boAt i (by rw [marks_len]; exact hiL) true
                    rw [marks_at hiL] at b1
                    have j1 : (i : Int) < (L : Int) := by omega
                    have j0 : (0 : Int) ≤ (i : Int) := by omega
                    have r1 : R64 (i : Int) := ⟨by omega, by omega⟩
                    have r2 : R64 da := ⟨by omega, by omega⟩
                    clear HNONE HDUP HOK HBAD hgood
                    cases hser : s.any (fun b => decide (b.line = (i : Int))) with
                    | false =>
                      rw [hser] at b1
                      have HE := Lib.hid (HNONE'.out hser)
                      clear hser
                      go_wp2_with fail
                      go_ret
                      exact ⟨ret_int HE.out.symm, by rw [HGS.out]; exact HBX.out⟩
                    | true =>
                      rw [hser] at b1
                      have HDUP2 := Lib.hid (HDUP'.out hser)
                      have HOK2 := Lib.hid (HOK'.out hser)
                      have hlk := HMX.out.lookup (t := 69) Try.underlying69 (zq _) r1 r2
                      obtain ⟨w7, hup, hm7, hg7⟩ := HMX.out.update (t := 69) Try.underlying69 (by simp only [Go.maxLen]; omega) r1 r2 true
                      have hF := excF_snoc (x.take j) ⟨i, da, ru⟩
                      simp only at hF
                      rw [hF, ← HTK.out] at hm7
                      have HM7 := Lib.hid hm7
                      have HO7 := Lib.hid (HOX.out.kept hg7 (.inr (by have h1 := HMX.out.lt; have h2 := HGM.out; simp [Value.ownBlock]; omega)))
                      have HB7 := Lib.hid (HBX.out.grown hg7 (by have := HMX.out.lt; have := HGM.out; omega) (fun q e => by injection e with e; omega))
                      clear hser hm7 hg7 hF HDUP' HOK' HNONE'
                      cases hdup : excF (x.take j) i da with
                      | true =>
                        rw [hdup] at hlk
                        have HE := Lib.hid (HDUP2.out hdup)
                        clear hdup hup
                        go_wp2_with fail
                        go_ret
                        exact ⟨ret_int HE.out.symm, by rw [HGS.out]; exact HBX.out⟩
                      | false =>
                        rw [hdup] at hlk
                        have HE := Lib.hid (HOK2.out hdup)
                        clear hdup
                        go_wp2_with fail
                        go_roundg (x.length - (j + 1))
                        case measure => omega
                        case rel => exact ⟨j + 1, by omega, rfl, by go_num, HE.out, HM7.out, HO7.out, HB7.out⟩
          · have hend := HF2.out
            rw [firstE_end _ (by omega)] at hend
            have HE := Lib.hid (HCH.out.trans hend)
            clear hend hmap ho
            go_wp2_with fail
            go_ret
            exact ⟨ret_int HE.out.symm, by rw [HGS.out]; exact hb⟩

end Go.Proofs.Ytaongejpbgjbiaa
