/-
  The walk of CalendarActive.
-/
import Derived.Test.YtaongejpbgjbiaaActA
import Derived.Test.YtaongejpbgjbiaaTrps
import Derived.Test.YtaongejpbgjbiaaLiftT
import Derived.Test.YtaongejpbgjbiaaCalAw
import Derived.Test.YtaongejpbgjbiaaArith
set_option linter.unusedVariables false
set_option linter.unusedSimpArgs false
namespace Go.Proofs.Ytaongejpbgjbiaa
open Go.RowKit RP

theorem ArgT.trs {w : World} {A : Option Addr} {c : Nat} {L : List TripM} (h : ArgT w A c L) : Trs w A L :=
  ⟨h.lst, fun t ht => by
    obtain ⟨⟨n1, a1⟩, n2, a2⟩ := h.rng t ht
    exact ⟨n1, n2, a1.lst, a2.lst, a1.len, a2.len⟩, h.len⟩
def QB (w : World) (e : Ending) (w' : World) : Prop := e = .returned (.bool true) ∧ Below w.heap.size w w'
theorem sameI_yes {A B : Option Addr} {c d : Nat} {l m : List Int} {w : World} (hlm : l = m) (hl : Lst encI 1 w w.heap.size A l) (hm : Lst encI 1 w w.heap.size B m) (hn : l.length ≤ 9223372036854775807) :
    Calls Try.prog 29 #[.slice A l.length c, .slice B m.length d] w (QB w) := by
  subst hlm
  refine (sameI_any A B c d l l w hl hm hn hn).mono ?_
  rintro e w' ⟨rfl, q, rfl⟩
  exact ⟨by simp, below_drewN (Below.refl _ _) q⟩

set_option maxRecDepth 100000 in
set_option maxHeartbeats 8000000 in
theorem walkCalendarActive (A : Option Addr) (c : Nat) (L : List TripM) (at_ : Int) (C : Option Addr) (cc : Nat) (l : List Int) (w : World) (hL : ArgT w A c L) (ra : R64 at_) (hl : ArgI w C cc l) (hb : L.length * 64 ≤ 140737488355328) :
    Calls Try.prog 11 #[.slice A L.length c, .int .i64 at_, .slice C l.length cc] w fun e w' => e = .returned (.bool true) ∧ Below w.heap.size w w' := by
  have hT := hL.trs
  have q1 := fun W => pick_any at_ 60 W (by omega) (by omega)
  have hnl := numsTo_len (actF L at_) L.length
  have hLL := hL.len
  go_enter Try.func11, Try.ntmps11
  go_wp2_with fail
  refine (trips_any C cc l w hl).mono ?_
  rintro e w1 ⟨TA, tc, M, rfl, hM, hM5, hb1⟩
  have hT1 := hT.below hb1
  have HB1 := Lib.hid hb1
  have hnm := numsTo_len (actF M (pickI at_ 60)) M.length
  generalize pickI at_ 60 = pk at *
  clear hT hL hl hb1
  go_wp2_with fail
  refine (awake_any _).mono ?_
  rintro e w2 ⟨rfl, hb2⟩
  have hT2 := hT1.below hb2
  have hM2 := hM.below hb2
  have HB2 := Lib.hid (HB1.out.trans (hb2.mono HB1.out.size))
  clear hT1 hM hb2
  go_wp2_with fail
  refine (active_any A c L at_ w2 hT2 hb).mono ?_
  rintro e w3 ⟨A3, c3, rfl, ho3, hb3⟩
  have hT3 := hT2.below hb3
  have hM3 := hM2.below hb3
  have HB3 := Lib.hid (HB2.out.trans (hb3.mono HB2.out.size))
  have HO3 := Lib.hid ho3
  generalize hN : numsTo (actF L at_) L.length = nl at *
  have HN := Lib.hid hN
  clear hT2 hM2 hb3 hN ho3
  go_wp2_with fail
  refine (refActive_any A c L at_ w3 hT3 hb).mono ?_
  rintro e w4 ⟨A4, c4, rfl, ho4, hb4⟩
  rw [HN.out] at ho4
  rw [HN.out]
  have hM4 := hM3.below hb4
  have HB4 := Lib.hid (HB3.out.trans (hb4.mono HB3.out.size))
  have hs := sameI_yes (c := c3) (d := c4) (l := nl) (m := nl) rfl (Own.lst encI_len (HO3.out.below' hb4)) (Own.lst encI_len ho4) (by omega)
  clear hT3 hM3 hb4 ho4 HO3 HN
  go_wp2_with fail
  refine hs.mono ?_
  rintro e w5 ⟨rfl, hb5⟩
  have hM5' := hM4.below hb5
  have HB5 := Lib.hid (HB4.out.trans (hb5.mono HB4.out.size))
  clear hs hM4 hb5
  go_wp2_with fail
  refine (q1 _).mono ?_
  rintro e w' ⟨rfl, rfl⟩
  go_wp2_with fail
  refine (active_any TA tc M pk w5 hM5' (by omega)).mono ?_
  rintro e w6 ⟨A6, c6, rfl, ho6, hb6⟩
  have hM6 := hM5'.below hb6
  have HB6 := Lib.hid (HB5.out.trans (hb6.mono HB5.out.size))
  have HO6 := Lib.hid ho6
  generalize hN : numsTo (actF M pk) M.length = ml at *
  have HN := Lib.hid hN
  clear hM5' hb6 hN ho6
  go_wp2_with fail
  refine (q1 _).mono ?_
  rintro e w' ⟨rfl, rfl⟩
  go_wp2_with fail
  refine (refActive_any TA tc M pk w6 hM6 (by omega)).mono ?_
  rintro e w7 ⟨A7, c7, rfl, ho7, hb7⟩
  rw [HN.out] at ho7
  rw [HN.out]
  have HB7 := Lib.hid (HB6.out.trans (hb7.mono HB6.out.size))
  have hs := sameI_yes (c := c6) (d := c7) (l := ml) (m := ml) rfl (Own.lst encI_len (HO6.out.below' hb7)) (Own.lst encI_len ho7) (by omega)
  clear hM6 hb7 ho7 HO6 HN
  go_wp2_with fail
  refine hs.mono ?_
  rintro e w8 ⟨rfl, hb8⟩
  have HB8 := Lib.hid (HB7.out.trans (hb8.mono HB7.out.size))
  clear hs hb8
  go_wp2_with fail
  go_ret
  exact ⟨rfl, HB8.out⟩
end Go.Proofs.Ytaongejpbgjbiaa
