/-
  Contracts of calendar.duration and lines.
-/
import Derived.Test.YtaongejpbgjbiaaCalC
set_option linter.unusedVariables false
set_option linter.unusedSimpArgs false
namespace RP
/-- The number of lines of a network. -/
def linesP (ev : List (Int × Int × Int)) : Int := ev.foldl (fun c e => max c (min e.2.1 16 + 1)) 0
theorem linesP_snoc {ev : List (Int × Int × Int)} {k : Nat} (h : k < ev.length) : linesP (ev.take (k + 1)) = max (linesP (ev.take k)) (min ev[k].2.1 16 + 1) := by
  unfold linesP; rw [List.take_succ_eq_append_getElem h, List.foldl_append]; rfl
theorem linesP_range (ev : List (Int × Int × Int)) : 0 ≤ linesP ev ∧ linesP ev ≤ 17 := by
  have : ∀ (l : List (Int × Int × Int)) (c : Int), 0 ≤ c ∧ c ≤ 17 → 0 ≤ l.foldl (fun c e => max c (min e.2.1 16 + 1)) c ∧ l.foldl (fun c e => max c (min e.2.1 16 + 1)) c ≤ 17 := by
    intro l
    induction l with
    | nil => exact fun c h => h
    | cons x r ih => exact fun c h => ih _ (by show 0 ≤ max c (min x.2.1 16 + 1) ∧ max c (min x.2.1 16 + 1) ≤ 17; omega)
  exact this ev 0 (by omega)
end RP
namespace Go.Proofs.Ytaongejpbgjbiaa
open Go.RowKit RP
attribute [local go_sem ↓] Go.wp_at_zero Go.wp_at_succ

set_option maxHeartbeats 2000000 in
theorem lines_any (T : Int) (E : Option Addr) (cE : Nat) (A : Option Addr) (n cA : Nat) (l : List Evt) (w : World) (hl : Lst encE 3 w w.heap.size E l) (hn : l.length ≤ 9223372036854775807) (hr : ∀ e ∈ l, R64 e.2.1) :
    Calls Try.prog 49 #[netV T E l.length cE A n cA] w fun e w' => e = .returned (.int .i64 (linesP l)) ∧ Below w.heap.size w w' := by
  have ba := belA w (.cells #[.int .i64 T, .slice E l.length cE, .slice A n cA] 43)
  have hnew := heap_alloc_new w (.cells #[.int .i64 T, .slice E l.length cE, .slice A n cA] 43)
  have zw : w.heap.size < (w.alloc (.cells #[.int .i64 T, .slice E l.length cE, .slice A n cA] 43)).heap.size := by simp
  have n1 : (w.alloc (.cells #[.int .i64 T, .slice E l.length cE, .slice A n cA] 43)).cell? ⟨w.heap.size, 1, none⟩ = some (.slice E l.length cE) := by rw [cell_of_row _ _ 1 _ _ _ hnew]; rfl
  have hl0 := hl.below ba
  clear hnew
  go_enter Try.func49, Try.ntmps49
  go_wp2_with fail
  generalize w.alloc (.cells #[.int .i64 T, .slice E l.length cE, .slice A n cA] 43) = w0 at *
  go_loopg [3, 5, 9] l.length (fun g s3 s5 s9 wr => ∃ k : Nat, k ≤ l.length ∧ g = l.length - k ∧ s9 = .int .i64 k ∧ s3 = .int .i64 (linesP (l.take k)) ∧ Below w0.heap.size w0 wr)
  case atStart => exact ⟨0, by omega, by omega, rfl, rfl, Below.refl _ _⟩
  case round =>
    obtain ⟨k, hk, hg', rfl, rfl, hb⟩ := hrel
    have hlr := linesP_range (l.take k)
    by_cases hlt : k < l.length
    · obtain ⟨b, off, rfl, hbb, a0, a1, a2⟩ := (hl0.below (hb.mono (by omega))).ev k hlt
      have HSN := Lib.hid (linesP_snoc hlt)
      have hrk := hr l[k] (List.getElem_mem hlt)
      have h1 := hrk.1
      have h2 := hrk.2
      have HB := Lib.hid (hb.trans ((belA wr (.cells #[.int .i64 l[k].1, .int .i64 l[k].2.1, .int .i64 l[k].2.2] 54)).mono hb.size))
      generalize l[k] = a at *
      obtain ⟨p, q, r⟩ := a
      simp only at a0 a1 a2 h1 h2 HSN HB
      generalize linesP (l.take k) = c at *
      have i0 : (0 : Int) ≤ (k : Int) := by omega
      have i1 : (k : Int) < (l.length : Int) := by omega
      have m1 : -9223372036854775808 ≤ min q 16 := by omega
      have m2 : min q 16 ≤ 16 := by omega
      clear hb hrk
      go_wp2_with fail
      all_goals
        go_roundg (l.length - (k + 1))
        case measure => omega
        case rel => exact ⟨k + 1, by omega, rfl, by go_num, by rw [HSN.out]; exact congrArg _ (by omega), HB.out⟩
    · have HL := Lib.hid (show linesP (l.take k) = linesP l by rw [List.take_of_length_le (by omega)])
      clear hlr
      go_wp2_with fail
      go_ret
      exact ⟨ret_int HL.out, ba.trans (hb.mono (by omega))⟩

set_option maxRecDepth 100000 in
set_option maxHeartbeats 4000000 in
theorem calDur_any (T m : Nat) (E : Option Addr) (cE : Nat) (A : Option Addr) (cA : Nat) (l : List Acy) (B : Option Addr) (cB : Nat) (ts : List Int) (kind src dst : Int) (a : Acy) (w : World) (hl : Lst encA 6 w w.heap.size A l) (ht : Lst encI 1 w w.heap.size B ts) (hg : goodB T m l ts = true) (hf : l.find? (isA kind src dst) = some a) :
    Calls Try.prog 62 #[netV T E m cE A l.length cA, .slice B ts.length cB, .int .i64 kind, .int .i64 src, .int .i64 dst] w fun e w' => e = .returned (.tuple #[.int .i64 (a.lo + overI T ts a), .bool true]) ∧ Below w.heap.size w w' := by
  have ba := belA w (.cells #[.int .i64 T, .slice E m cE, .slice A l.length cA] 43)
  have hnew := heap_alloc_new w (.cells #[.int .i64 T, .slice E m cE, .slice A l.length cA] 43)
  have zw : w.heap.size < (w.alloc (.cells #[.int .i64 T, .slice E m cE, .slice A l.length cA] 43)).heap.size := by simp
  have l3 : l.length ≤ 512 := (netB_iff.1 (goodB_iff.1 hg).1).1.2.2.2
  have HG := Lib.hid hg
  have HF := Lib.hid hf
  have hla := hl.belowMore ba ba.size
  have hta := ht.belowMore ba ba.size
  have n2 : (w.alloc (.cells #[.int .i64 T, .slice E m cE, .slice A l.length cA] 43)).cell? ⟨w.heap.size, 2, none⟩ = some (.slice A l.length cA) := by rw [cell_of_row _ _ 2 _ _ _ hnew]; rfl
  clear hg hf hl ht
  go_enter Try.func62, Try.ntmps62
  go_wp2_with fail
  generalize w.alloc (.cells #[.int .i64 T, .slice E m cE, .slice A l.length cA] 43) = w0 at *
  clear n2
  go_loopg [12, 13, 17] l.length (fun g s12 s13 s17 wr => ∃ k : Nat, k ≤ l.length ∧ g = l.length - k ∧ s17 = .int .i64 k ∧ (l.take k).any (isA kind src dst) = false ∧ Below w0.heap.size w0 wr)
  case atStart => exact ⟨0, by omega, by omega, rfl, rfl, Below.refl _ _⟩
  case round =>
    obtain ⟨k, hk, hg', rfl, hv, hb⟩ := hrel
    have HV := Lib.hid hv
    have hblk := (hb.block w.heap.size zw).trans hnew
    clear hv
    by_cases hlt : k < l.length
    · obtain ⟨b, off, rfl, hbb, a0, a1, a2, a3, a4, a5⟩ := (hla.belowMore hb hb.size).ac k hlt
      have HNO := Lib.hid (fun h => any_snoc_no (p := isA kind src dst) hlt HV.out h)
      have HYES := Lib.hid (fun h => find_take (p := isA kind src dst) hlt HV.out h)
      have HAT := Lib.hid (show l[k]? = some l[k] by simp [hlt])
      have bx := belA wr (.cells #[.int .i64 l[k].kind, .int .i64 l[k].src, .int .i64 l[k].dst, .int .i64 l[k].lo, .int .i64 l[k].hi, .int .i64 l[k].wt] 60)
      have hbx := hb.trans (bx.mono hb.size)
      have HBX := Lib.hid hbx
      have hkx := (bx.block w.heap.size (by have := hb.size; omega)).trans hblk
      have q0 : (wr.alloc (.cells #[.int .i64 l[k].kind, .int .i64 l[k].src, .int .i64 l[k].dst, .int .i64 l[k].lo, .int .i64 l[k].hi, .int .i64 l[k].wt] 60)).cell? ⟨w.heap.size, 0, none⟩ = some (.int .i64 T) := by rw [cell_of_row _ _ 0 _ _ _ hkx]; rfl
      have q1 : (wr.alloc (.cells #[.int .i64 l[k].kind, .int .i64 l[k].src, .int .i64 l[k].dst, .int .i64 l[k].lo, .int .i64 l[k].hi, .int .i64 l[k].wt] 60)).cell? ⟨w.heap.size, 1, none⟩ = some (.slice E m cE) := by rw [cell_of_row _ _ 1 _ _ _ hkx]; rfl
      have q2 : (wr.alloc (.cells #[.int .i64 l[k].kind, .int .i64 l[k].src, .int .i64 l[k].dst, .int .i64 l[k].lo, .int .i64 l[k].hi, .int .i64 l[k].wt] 60)).cell? ⟨w.heap.size, 2, none⟩ = some (.slice (some ⟨b, off, none⟩) l.length cA) := by rw [cell_of_row _ _ 2 _ _ _ hkx]; rfl
      have HD := Lib.hid (netDurN_any T m E cE (some ⟨b, off, none⟩) cA l B cB ts k l[k] _ (hla.belowMore hbx hbx.size) (hta.belowMore hbx hbx.size) HG.out HAT.out)
      have i0 : (0 : Int) ≤ (k : Int) := by omega
      have i1 : (k : Int) < (l.length : Int) := by omega
      generalize l[k] = y at *
      obtain ⟨ki, sr, ds, lo, hi, wt⟩ := y
      simp only at a0 a1 a2 a3 a4 a5 q0 q1 q2 bx hbx hkx HNO HYES HD HBX
      clear hb bx hbx hkx hblk hnew hla hta
      by_cases e1 : ki = kind
      · by_cases e2 : sr = src
        · by_cases e3 : ds = dst
          · have d1 : (ki == kind) = true := by simp [e1]
            have d2 : (sr == src) = true := by simp [e2]
            have d3 : (ds == dst) = true := by simp [e3]
            have hfa := HYES.out (by simp [isA, e1, e2, e3])
            rw [HF.out] at hfa
            injection hfa with hfa
            have HFA := Lib.hid hfa
            clear e1 e2 e3 hfa
            go_wp2_with fail
            refine HD.out.mono ?_
            rintro e w2 ⟨rfl, hb2⟩
            have HB2 := Lib.hid (ba.trans ((HBX.out.trans (hb2.mono HBX.out.size)).mono (by omega)))
            clear hb2 HD
            go_wp2_with fail
            go_ret2
            exact ⟨by rw [HFA.out]; rfl, HB2.out⟩
          · have d1 : (ki == kind) = true := by simp [e1]
            have d2 : (sr == src) = true := by simp [e2]
            have d3 : (ds == dst) = false := by simp [e3]
            have HH := Lib.hid (HNO.out (by simp [isA, e3]))
            clear e1 e2 e3
            go_wp2_with fail
            go_roundg (l.length - (k + 1))
            case measure => omega
            case rel => exact ⟨k + 1, by omega, rfl, by go_num, HH.out, HBX.out⟩
        · have d1 : (ki == kind) = true := by simp [e1]
          have d2 : (sr == src) = false := by simp [e2]
          have HH := Lib.hid (HNO.out (by simp [isA, e2]))
          clear e1 e2
          go_wp2_with fail
          go_roundg (l.length - (k + 1))
          case measure => omega
          case rel => exact ⟨k + 1, by omega, rfl, by go_num, HH.out, HBX.out⟩
      · have d1 : (ki == kind) = false := by simp [e1]
        have HH := Lib.hid (HNO.out (by simp [isA, e1]))
        clear e1
        go_wp2_with fail
        go_roundg (l.length - (k + 1))
        case measure => omega
        case rel => exact ⟨k + 1, by omega, rfl, by go_num, HH.out, HBX.out⟩
    · exfalso
      have h1 := HV.out
      rw [List.take_of_length_le (by omega), List.any_eq_false] at h1
      obtain ⟨u1, u2⟩ := List.find?_eq_some_iff_append.1 HF.out
      exact h1 a (by obtain ⟨as1, bs1, h, _⟩ := u2; rw [h]; simp) u1

end Go.Proofs.Ytaongejpbgjbiaa
