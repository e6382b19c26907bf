/-
  Contract of Active (calendar and its reference).
-/
import Derived.Test.YtaongejpbgjbiaaTrs
set_option linter.unusedVariables false
set_option linter.unusedSimpArgs false
namespace RP
/-- Whether a trip is on the way. -/
def actB (dep arr : List Int) (at_ : Int) : Bool := decide (0 < dep.length) && decide (0 < arr.length) && decide (dep.getD 0 0 ≤ at_) && decide (at_ < arr.getD (arr.length - 1) 0)
/-- The numbers below k at which f holds. -/
def numsTo (f : Nat → Bool) : Nat → List Int
  | 0 => []
  | k + 1 => numsTo f k ++ (if f k then [(k : Int)] else [])
theorem numsTo_len (f : Nat → Bool) : ∀ k, (numsTo f k).length ≤ k
  | 0 => by simp [numsTo]
  | k + 1 => by
    have := numsTo_len f k
    simp only [numsTo, List.length_append]
    split <;> simp <;> omega
end RP
namespace Go.Proofs.Ytaongejpbgjbiaa
open Go.RowKit RP

def actF (L : List TripM) (at_ : Int) (i : Nat) : Bool := match L[i]? with
  | some t => actB t.dep t.arr at_
  | none => false
theorem actF_at {L : List TripM} {at_ : Int} {i : Nat} (h : i < L.length) : actF L at_ i = actB L[i].dep L[i].arr at_ := by simp [actF, h]
theorem it_getD' {w : World} {B : Nat} {A : Option Addr} {l : List Int} (h : Lst encI 1 w B A l) (i : Nat) (hi : i < l.length) :
    ∃ b off, A = some ⟨b, off, none⟩ ∧ b < B ∧ w.cell? ⟨b, off + i, none⟩ = some (.int .i64 (l.getD i 0)) := by
  obtain ⟨b, off, h1, h2, h3⟩ := h.it i hi
  exact ⟨b, off, h1, h2, by rw [h3]; simp [hi]⟩

set_option maxRecDepth 100000 in
set_option maxHeartbeats 8000000 in
theorem active_any (A : Option Addr) (c : Nat) (L : List TripM) (at_ : Int) (w : World) (h : Trs w A L) (hb : L.length * 64 ≤ 140737488355328) :
    Calls Try.prog 30 #[.slice A L.length c, .int .i64 at_] w fun e w' => ∃ A' c', e = .returned (.slice A' (numsTo (actF L at_) L.length).length c') ∧ OwnN w' w.heap.size (.slice A' (numsTo (actF L at_) L.length).length c') (numsTo (actF L at_) L.length) ∧ Below w.heap.size w w' := by
  have hlen := h.len
  go_enter Try.func30, Try.ntmps30
  go_wp2_with fail
  go_loopg [5, 6, 7, 10] L.length (fun g s5 s6 s7 s10 wr => ∃ i : Nat, i ≤ L.length ∧ g = L.length - i ∧ s10 = .int .i64 i ∧ OwnN wr w.heap.size s5 (numsTo (actF L at_) i) ∧ Below w.heap.size w wr)
  case atStart => exact ⟨0, by omega, by omega, rfl, Own.nil _ _ _ _ _, Below.refl _ _⟩
  case round =>
    obtain ⟨i, hi, hg, rfl, ho, hbw⟩ := hrel
    by_cases hlt : i < L.length
    · have HNS := Lib.hid (show numsTo (actF L at_) (i + 1) = numsTo (actF L at_) i ++ (if actF L at_ i then [(i : Int)] else []) from rfl)
      have hnl := numsTo_len (actF L at_) i
      have hA := actF_at (at_ := at_) hlt
      have hT := h.below hbw
      obtain ⟨b, off, rfl, hbb, a0, a1, a2, a3⟩ := hT.lst.tr i hlt
      have htl := hT.at_ L[i] (List.getElem_mem hlt)
      generalize L[i] = t at *
      obtain ⟨tl, td, dep, arr, ⟨ta, tn, tc1⟩, ⟨ta', tn', tc2⟩⟩ := t
      obtain ⟨dn1, an1, hd, ha, dm1, am1⟩ := htl
      simp only at dn1 an1 hd ha dm1 am1 a0 a1 a2 a3 hA
      subst dn1 an1
      have ba := belA wr (.cells #[.int .i64 tl, .int .i64 td, .slice ta dep.length tc1, .slice ta' arr.length tc2] 51)
      have hnew := heap_alloc_new wr (.cells #[.int .i64 tl, .int .i64 td, .slice ta dep.length tc1, .slice ta' arr.length tc2] 51)
      have zx : (wr.alloc (.cells #[.int .i64 tl, .int .i64 td, .slice ta dep.length tc1, .slice ta' arr.length tc2] 51)).heap.size = wr.heap.size + 1 := by simp
      have hd2 := hd.belowMore ba ba.size
      have ha2 := ha.belowMore ba ba.size
      have HO := Lib.hid (ho.below' ba)
      have HB2 := Lib.hid (hbw.trans (ba.mono hbw.size))
      have i0 : (0 : Int) ≤ (i : Int) := by omega
      have i1 : (i : Int) < (L.length : Int) := by omega
      have zb := hbw.size
      clear ho hbw hT hd ha ba
      go_upto_region 5 with fail
      generalize wr.alloc (.cells #[.int .i64 tl, .int .i64 td, .slice ta dep.length tc1, .slice ta' arr.length tc2] 51) = w1 at *
      generalize hgt : wr.heap.size = gt at *
      have t2c : w1.cell? ⟨gt, 2, none⟩ = some (.slice ta dep.length tc1) := by rw [cell_of_row w1 _ 2 _ _ _ hnew]; rfl
      have t3c : w1.cell? ⟨gt, 3, none⟩ = some (.slice ta' arr.length tc2) := by rw [cell_of_row w1 _ 3 _ _ _ hnew]; rfl
      clear hnew a0 a1 a2 a3 zx
      by_cases h1 : 0 < dep.length
      · by_cases h2 : 0 < arr.length
        · obtain ⟨db, doff, rfl, _, d0⟩ := it_getD' hd2 0 h1
          obtain ⟨ab, aoff, rfl, _, r0⟩ := it_getD' ha2 (arr.length - 1) (by omega)
          rw [Nat.add_zero] at d0
          have hq : actB dep arr at_ = (decide (dep.getD 0 0 ≤ at_) && decide (at_ < arr.getD (arr.length - 1) 0)) := by simp [actB, h1, h2]
          generalize dep.getD 0 0 = x0 at *
          generalize arr.getD (arr.length - 1) 0 = x1 at *
          clear hd2 ha2
          generalize dep.length = dn at *
          obtain ⟨an, han⟩ : ∃ an, arr.length = an + 1 := ⟨arr.length - 1, by omega⟩
          rw [han] at t3c r0 h2 am1
          have r1 : w1.cell? ⟨ab, aoff + an, none⟩ = some (.int .i64 x1) := r0
          clear r0 han
          have h1' : (0 : Int) < (dn : Int) := by omega
          have s1 : ((an + 1 : Nat) : Int) - 1 = (an : Int) := by omega
          have s2 : (0 : Int) ≤ (an : Int) := by omega
          have s3 : (an : Int) < ((an + 1 : Nat) : Int) := by omega
          by_cases h3 : x0 ≤ at_
          · by_cases h4 : at_ < x1
            · have HQ := Lib.hid (show actF L at_ i = true by rw [hA, hq]; simp [h3, h4])
              clear hA hq
              rw [HQ.out, if_pos rfl] at HNS
              go_wp2_with (at_builtin; refine Stp.put ?_)
              refine Stp.out ?_
              refine wpList_append_rec rfl _ _ 29 rfl w.heap.size 3 8 Try.underlying29 elemN _ (numsTo (actF L at_) i) rfl HO.out [(i : Int)] _ rfl 1 1 rfl rfl (by simp only [Go.maxLen, List.length_cons, List.length_nil]; omega) (by simp only [List.length_cons, List.length_nil]; omega) HB2.out.size ?_
              intro v6 w6 ho6 hg6 hat6
              have HN := Lib.hid ho6
              have HNB := Lib.hid (HB2.out.grown hg6 HB2.out.size (fun q e => (World.ownsRow.lt HO.out q e).1))
              clear ho6 hg6 hat6
              go_wp2_with fail
              go_roundg (L.length - (i + 1))
              case measure => omega
              case rel => exact ⟨i + 1, by omega, rfl, by go_num, by rw [HNS.out]; exact HN.out, HNB.out⟩
            · have HQ := Lib.hid (show actF L at_ i = false by rw [hA, hq]; simp [h4])
              clear hA hq
              go_wp2_with fail
              go_roundg (L.length - (i + 1))
              case measure => omega
              case rel => exact ⟨i + 1, by omega, rfl, by go_num, by rw [HNS.out, HQ.out]; simpa using HO.out, HB2.out⟩
          · have HQ := Lib.hid (show actF L at_ i = false by rw [hA, hq]; simp [h3])
            clear hA hq
            go_wp2_with fail
            go_roundg (L.length - (i + 1))
            case measure => omega
            case rel => exact ⟨i + 1, by omega, rfl, by go_num, by rw [HNS.out, HQ.out]; simpa using HO.out, HB2.out⟩
        · have HQ := Lib.hid (show actF L at_ i = false by rw [hA]; simp [actB, h2])
          clear hA hd2 ha2
          go_wp2_with fail
          go_roundg (L.length - (i + 1))
          case measure => omega
          case rel => exact ⟨i + 1, by omega, rfl, by go_num, by rw [HNS.out, HQ.out]; simpa using HO.out, HB2.out⟩
      · have HQ := Lib.hid (show actF L at_ i = false by rw [hA]; simp [actB, h1])
        clear hA hd2 ha2
        go_wp2_with fail
        go_roundg (L.length - (i + 1))
        case measure => omega
        case rel => exact ⟨i + 1, by omega, rfl, by go_num, by rw [HNS.out, HQ.out]; simpa using HO.out, HB2.out⟩
    · have hE : i = L.length := by omega
      rw [hE] at ho
      obtain ⟨A', c', rfl⟩ := ho.form
      have HO := Lib.hid ho
      have HB2 := Lib.hid hbw
      clear ho hbw hE
      go_wp2_with fail
      go_ret
      exact ⟨A', c', rfl, HO.out, HB2.out⟩
set_option maxRecDepth 100000 in
set_option maxHeartbeats 8000000 in
theorem refActive_any (A : Option Addr) (c : Nat) (L : List TripM) (at_ : Int) (w : World) (h : Trs w A L) (hb : L.length * 64 ≤ 140737488355328) :
    Calls Try.prog 31 #[.slice A L.length c, .int .i64 at_] w fun e w' => ∃ A' c', e = .returned (.slice A' (numsTo (actF L at_) L.length).length c') ∧ OwnN w' w.heap.size (.slice A' (numsTo (actF L at_) L.length).length c') (numsTo (actF L at_) L.length) ∧ Below w.heap.size w w' := by
  have hlen := h.len
  go_enter Try.func31, Try.ntmps31
  go_wp2_with fail
  go_loopg [5, 6, 7, 10] L.length (fun g s5 s6 s7 s10 wr => ∃ i : Nat, i ≤ L.length ∧ g = L.length - i ∧ s10 = .int .i64 i ∧ OwnN wr w.heap.size s5 (numsTo (actF L at_) i) ∧ Below w.heap.size w wr)
  case atStart => exact ⟨0, by omega, by omega, rfl, Own.nil _ _ _ _ _, Below.refl _ _⟩
  case round =>
    obtain ⟨i, hi, hg, rfl, ho, hbw⟩ := hrel
    by_cases hlt : i < L.length
    · have HNS := Lib.hid (show numsTo (actF L at_) (i + 1) = numsTo (actF L at_) i ++ (if actF L at_ i then [(i : Int)] else []) from rfl)
      have hnl := numsTo_len (actF L at_) i
      have hA := actF_at (at_ := at_) hlt
      have hT := h.below hbw
      obtain ⟨b, off, rfl, hbb, a0, a1, a2, a3⟩ := hT.lst.tr i hlt
      have htl := hT.at_ L[i] (List.getElem_mem hlt)
      generalize L[i] = t at *
      obtain ⟨tl, td, dep, arr, ⟨ta, tn, tc1⟩, ⟨ta', tn', tc2⟩⟩ := t
      obtain ⟨dn1, an1, hd, ha, dm1, am1⟩ := htl
      simp only at dn1 an1 hd ha dm1 am1 a0 a1 a2 a3 hA
      subst dn1 an1
      have ba := belA wr (.cells #[.int .i64 tl, .int .i64 td, .slice ta dep.length tc1, .slice ta' arr.length tc2] 51)
      have hnew := heap_alloc_new wr (.cells #[.int .i64 tl, .int .i64 td, .slice ta dep.length tc1, .slice ta' arr.length tc2] 51)
      have zx : (wr.alloc (.cells #[.int .i64 tl, .int .i64 td, .slice ta dep.length tc1, .slice ta' arr.length tc2] 51)).heap.size = wr.heap.size + 1 := by simp
      have hd2 := hd.belowMore ba ba.size
      have ha2 := ha.belowMore ba ba.size
      have HO := Lib.hid (ho.below' ba)
      have HB2 := Lib.hid (hbw.trans (ba.mono hbw.size))
      have i0 : (0 : Int) ≤ (i : Int) := by omega
      have i1 : (i : Int) < (L.length : Int) := by omega
      have zb := hbw.size
      clear ho hbw hT hd ha ba
      go_upto_region 5 with fail
      generalize wr.alloc (.cells #[.int .i64 tl, .int .i64 td, .slice ta dep.length tc1, .slice ta' arr.length tc2] 51) = w1 at *
      generalize hgt : wr.heap.size = gt at *
      have t2c : w1.cell? ⟨gt, 2, none⟩ = some (.slice ta dep.length tc1) := by rw [cell_of_row w1 _ 2 _ _ _ hnew]; rfl
      have t3c : w1.cell? ⟨gt, 3, none⟩ = some (.slice ta' arr.length tc2) := by rw [cell_of_row w1 _ 3 _ _ _ hnew]; rfl
      clear hnew a0 a1 a2 a3 zx
      by_cases h1 : 0 < dep.length
      · by_cases h2 : 0 < arr.length
        · obtain ⟨db, doff, rfl, _, d0⟩ := it_getD' hd2 0 h1
          obtain ⟨ab, aoff, rfl, _, r0⟩ := it_getD' ha2 (arr.length - 1) (by omega)
          rw [Nat.add_zero] at d0
          have hq : actB dep arr at_ = (decide (dep.getD 0 0 ≤ at_) && decide (at_ < arr.getD (arr.length - 1) 0)) := by simp [actB, h1, h2]
          generalize dep.getD 0 0 = x0 at *
          generalize arr.getD (arr.length - 1) 0 = x1 at *
          clear hd2 ha2
          generalize dep.length = dn at *
          obtain ⟨an, han⟩ : ∃ an, arr.length = an + 1 := ⟨arr.length - 1, by omega⟩
          rw [han] at t3c r0 h2 am1
          have r1 : w1.cell? ⟨ab, aoff + an, none⟩ = some (.int .i64 x1) := r0
          clear r0 han
          have h1' : (0 : Int) < (dn : Int) := by omega
          have s1 : ((an + 1 : Nat) : Int) - 1 = (an : Int) := by omega
          have s2 : (0 : Int) ≤ (an : Int) := by omega
          have s3 : (an : Int) < ((an + 1 : Nat) : Int) := by omega
          by_cases h3 : x0 ≤ at_
          · by_cases h4 : at_ < x1
            · have HQ := Lib.hid (show actF L at_ i = true by rw [hA, hq]; simp [h3, h4])
              clear hA hq
              rw [HQ.out, if_pos rfl] at HNS
              go_wp2_with (at_builtin; refine Stp.put ?_)
              refine Stp.out ?_
              refine wpList_append_rec rfl _ _ 29 rfl w.heap.size 3 8 Try.underlying29 elemN _ (numsTo (actF L at_) i) rfl HO.out [(i : Int)] _ rfl 1 1 rfl rfl (by simp only [Go.maxLen, List.length_cons, List.length_nil]; omega) (by simp only [List.length_cons, List.length_nil]; omega) HB2.out.size ?_
              intro v6 w6 ho6 hg6 hat6
              have HN := Lib.hid ho6
              have HNB := Lib.hid (HB2.out.grown hg6 HB2.out.size (fun q e => (World.ownsRow.lt HO.out q e).1))
              clear ho6 hg6 hat6
              go_wp2_with fail
              go_roundg (L.length - (i + 1))
              case measure => omega
              case rel => exact ⟨i + 1, by omega, rfl, by go_num, by rw [HNS.out]; exact HN.out, HNB.out⟩
            · have HQ := Lib.hid (show actF L at_ i = false by rw [hA, hq]; simp [h4])
              clear hA hq
              go_wp2_with fail
              go_roundg (L.length - (i + 1))
              case measure => omega
              case rel => exact ⟨i + 1, by omega, rfl, by go_num, by rw [HNS.out, HQ.out]; simpa using HO.out, HB2.out⟩
          · have HQ := Lib.hid (show actF L at_ i = false by rw [hA, hq]; simp [h3])
            clear hA hq
            go_wp2_with fail
            go_roundg (L.length - (i + 1))
            case measure => omega
            case rel => exact ⟨i + 1, by omega, rfl, by go_num, by rw [HNS.out, HQ.out]; simpa using HO.out, HB2.out⟩
        · have HQ := Lib.hid (show actF L at_ i = false by rw [hA]; simp [actB, h2])
          clear hA hd2 ha2
          go_wp2_with fail
          go_roundg (L.length - (i + 1))
          case measure => omega
          case rel => exact ⟨i + 1, by omega, rfl, by go_num, by rw [HNS.out, HQ.out]; simpa using HO.out, HB2.out⟩
      · have HQ := Lib.hid (show actF L at_ i = false by rw [hA]; simp [actB, h1])
        clear hA hd2 ha2
        go_wp2_with fail
        go_roundg (L.length - (i + 1))
        case measure => omega
        case rel => exact ⟨i + 1, by omega, rfl, by go_num, by rw [HNS.out, HQ.out]; simpa using HO.out, HB2.out⟩
    · have hE : i = L.length := by omega
      rw [hE] at ho
      obtain ⟨A', c', rfl⟩ := ho.form
      have HO := Lib.hid ho
      have HB2 := Lib.hid hbw
      clear ho hbw hE
      go_wp2_with fail
      go_ret
      exact ⟨A', c', rfl, HO.out, HB2.out⟩
end Go.Proofs.Ytaongejpbgjbiaa
