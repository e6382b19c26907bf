/-
  Contract of the reference's Merge.
-/
import Derived.Test.YtjeocfkijbpinaaCloG
import Derived.Test.YtjeocfkijbpinaaCloQ
import Derived.Test.YtjeocfkijbpinaaCloB
set_option linter.unusedVariables false
set_option linter.unusedSimpArgs false
namespace Go.Proofs.Ytjeocfkijbpinaa
open Go.RowKit RP

set_option maxHeartbeats 8000000 in
set_option maxRecDepth 100000 in
theorem refMerge_any (A : Option Addr) (c : Nat) (l : List Clo) (w : World) (hl : Lst encO 3 w w.heap.size A l) (hn : l.length ≤ 9223372036854775807) :
    Calls Try.prog 27 #[.slice A l.length c] w (MergePost l w) := by
  have hck := refCheck_any A c l w hl hn
  cases hcl : checkC l with
  | false =>
    rw [hcl] at hck
    have HC : Hid (mergeTo l []) := ⟨(fun h => by rw [hcl] at h; cases h), fun _ => rfl⟩
    clear hcl
    go_enter Try.func27, Try.ntmps27
    go_wp2_with (go_at_call 24; refine hck.mono ?_; rintro e w1 ⟨rfl, hb1⟩)
    go_ret
    exact ⟨_, [], rfl, Own.nil _ _ _ _ _, HC.out, hb1⟩
  | true =>
    rw [hcl] at hck
    have HCL := Lib.hid hcl
    obtain ⟨h32, hok⟩ := checkC_iff.1 hcl
    have HOK := Lib.hid hok
    clear hcl hok
    go_enter Try.func27, Try.ntmps27
    go_wp2_with (go_at_call 24; refine hck.mono ?_; rintro e w1 ⟨rfl, hb1⟩)
    clear hck
    have z1 := hb1.size
    have hl1 := hl.belowMore hb1 z1
    go_loopg [3, 4, 5, 6, 8] 144 (fun g s3 s4 s5 s6 s8 wr => ∃ (r : Nat) (out : List Clo), r ≤ 144 ∧ g = 144 - r ∧ s4 = .int .i64 r ∧ OwnC wr w1.heap.size s3 out ∧ RefInv l r 0 out ∧ Below w1.heap.size w1 wr)
    case atStart => exact ⟨0, [], by omega, rfl, rfl, Own.nil _ _ _ _ _, RefInv.start HOK.out, Below.refl _ _⟩
    case round =>
      obtain ⟨r, out, hr, hg, rfl, ho, hi, hb⟩ := hrel
      have HI := Lib.hid hi
      clear hi
      have HG := Lib.hid hg
      clear hg
      by_cases hlt : r < 144
      · have hrd : decide ((r : Int) < 144) = true := by simp; omega
        go_wp2_with fail
        generalize wr = Wa at *
        go_loopg [3, 5, 6, 8] (cntC l r 0) (fun g s3 s5 s6 s8 wr => ∃ (x : Int) (out : List Clo), g = cntC l r x ∧ s5 = .int .i64 x ∧ OwnC wr w1.heap.size s3 out ∧ RefInv l r x out ∧ Below w1.heap.size w1 wr)
        case atStart => exact ⟨0, out, rfl, rfl, ho, HI.out, hb⟩
        case round =>
          clear ho hb HI
          obtain ⟨x, out, hg, rfl, ho, hi, hb⟩ := hrel
          have HI := Lib.hid hi
          have hol : out.length ≤ 32 := by have := hi.2.2.2.2.1; omega
          clear hi
          have HG2 := Lib.hid hg
          clear hg
          go_wp2_with fail
          generalize wr = Wb at *
          have hzb := hb.size
          go_loopg [6, 8, 18] l.length (fun g s6 s8 s18 wr => ∃ (k : Nat) (f : Int), k ≤ l.length ∧ g = l.length - k ∧ s18 = .int .i64 k ∧ s6 = .int .i64 f ∧ MinF (l.take k) r x f ∧ Below Wb.heap.size Wb wr)
          case atStart => exact ⟨0, -1, by omega, rfl, rfl, rfl, by rw [List.take_zero]; exact MinF.nil _ _, Below.refl _ _⟩
          case round =>
            obtain ⟨k, f, hk, hg, rfl, rfl, hm, hb2⟩ := hrel
            have HM := Lib.hid hm
            clear hm
            have hz2 := hb2.size
            by_cases hkl : k < l.length
            · obtain ⟨bb, off, rfl, hbw, c0, c1', c2⟩ := ((hl1.belowMore hb hzb).below hb2).oc k hkl
              have h0 : 0 ≤ l[k].2.1 := by have := HOK.out l[k] (List.getElem_mem hkl); unfold okC at this; omega
              have HT := Lib.hid (fun h => HM.out.take hkl h0 h)
              have HN := Lib.hid (fun h => HM.out.pass hkl h)
              generalize l[k] = q at *
              obtain ⟨cr, cf, ct⟩ := q
              simp only at c0 c1' c2 h0 HT HN
              by_cases q1 : cr = r
              · have d1 : (cr == (r : Int)) = true := by simp [q1]
                by_cases q2 : x ≤ cf
                · by_cases q3 : f < 0
                  · have HX := Lib.hid (HT.out ⟨q1, q2, .inl q3⟩)
                    clear q1
                    go_wp2_with fail
                    go_roundg (l.length - (k + 1))
                    case measure => omega
                    case rel => exact ⟨k + 1, _, by omega, rfl, by go_num, rfl, HX.out, hb2.alloc hz2 _⟩
                  · by_cases q4 : cf < f
                    · have HX := Lib.hid (HT.out ⟨q1, q2, .inr q4⟩)
                      clear q1
                      go_wp2_with fail
                      go_roundg (l.length - (k + 1))
                      case measure => omega
                      case rel => exact ⟨k + 1, _, by omega, rfl, by go_num, rfl, HX.out, hb2.alloc hz2 _⟩
                    · have HX := Lib.hid (HN.out (fun h => by have := h.2.2; omega))
                      clear q1
                      go_wp2_with fail
                      go_roundg (l.length - (k + 1))
                      case measure => omega
                      case rel => exact ⟨k + 1, _, by omega, rfl, by go_num, rfl, HX.out, hb2.alloc hz2 _⟩
                · have HX := Lib.hid (HN.out (fun h => q2 h.2.1))
                  clear q1
                  go_wp2_with fail
                  go_roundg (l.length - (k + 1))
                  case measure => omega
                  case rel => exact ⟨k + 1, _, by omega, rfl, by go_num, rfl, HX.out, hb2.alloc hz2 _⟩
              · have HX := Lib.hid (HN.out (fun h => q1 h.1))
                have d1 : (cr == (r : Int)) = false := by simp [q1]
                clear q1
                go_wp2_with fail
                go_roundg (l.length - (k + 1))
                case measure => omega
                case rel => exact ⟨k + 1, _, by omega, rfl, by go_num, rfl, HX.out, hb2.alloc hz2 _⟩
            · have hm := HM.out
              rw [List.take_of_length_le (by omega)] at hm
              clear HM
              have ho2 := ho.below' hb2
              have hb3 := hb.trans (hb2.mono hzb)
              clear ho hb hb2
              by_cases hf : f < 0
              · have hf1 : f = -1 := by rcases hm with ⟨q, _⟩ | ⟨q, _⟩ <;> omega
                rw [hf1] at hm
                have HX := Lib.hid (HI.out.next HOK.out hm)
                clear hm hf1
                go_wp2_with fail
                go_roundg (144 - (r + 1))
                case measure => have := HG.out; omega
                case rel => exact ⟨r + 1, out, by omega, rfl, by go_num, ho2, HX.out, hb3⟩
              · have HM := Lib.hid hm
                clear hm
                have hz3 := hb3.size
                go_wp2_with fail
                refine (refNext_any A c l r f wr (hl1.belowMore hb3 hz3) hn).mono ?_
                rintro e w4 ⟨n, rfl, hnx, hb4⟩
                obtain ⟨i1, i2⟩ := HI.out.step HOK.out HM.out (by omega) hnx
                have HX := Lib.hid i1
                have HD := Lib.hid i2
                clear hnx i1 i2
                have ho4 := ho2.below' hb4
                have hb5 := hb3.trans (hb4.mono hz3)
                have hz5 := hb5.size
                clear ho2 hb4 hb3
                obtain ⟨A4, c4, rfl⟩ := ho4.form
                go_wp2_with (at_builtin; refine wpList_append_rec rfl _ _ 23 rfl w1.heap.size 27 24 Try.underlying23 elemC _ out rfl ho4 [((r : Int), f, n)] _ rfl 1 1 rfl rfl (by simp only [Go.maxLen, List.length_cons, List.length_nil]; omega) (by simp only [List.length_cons, List.length_nil]; omega) (by omega) ?_; intro v6 w6 ho6 hg6 hat6)
                have HB6 := Lib.hid (hb5.grown hg6 (by omega) (fun g hg => (World.ownsRow.lt ho4 g hg).1))
                clear hg6 hat6
                go_roundg (cntC l r n)
                case measure => rw [HG2.out]; exact HD.out
                case rel => exact ⟨n, _, rfl, rfl, ho6, HX.out, HB6.out⟩
      · obtain rfl : r = 144 := by omega
        have HM : Hid (mergeTo l out) := ⟨fun _ => ⟨RefInv.done HOK.out HI.out, by have := HI.out.2.2.2.2.1; omega⟩, (fun h => by rw [HCL.out] at h; cases h)⟩
        go_wp2_with fail
        go_ret
        exact ⟨_, _, rfl, ho.rebase z1, HM.out, hb1.trans (hb.mono z1)⟩

end Go.Proofs.Ytjeocfkijbpinaa
