/-
  The walks of HeadwayRaw and HeadwayGenerated: they return true.
-/
import Derived.Test.YtdijhhfmicafjaaAgrees9
set_option linter.unusedVariables false
set_option linter.unusedSimpArgs false
namespace Go.Proofs.Ytdijhhfmicafjaa
open Go.RowKit RP

set_option maxHeartbeats 4000000 in
theorem walkHeadwayRaw (t : Int) (A : Option Addr) (c : Nat) (a : List Occ) (B : Option Addr) (d : Nat) (b : List Occ) (w : World) (ht : R64 t) (ha : ArgO w A c a) (hb : ArgO w B d b) :
    Calls Try.prog 8 #[.int .i64 t, .slice A a.length c, .slice B b.length d] w fun e w' => e = .returned (.bool true) ∧ Below w.heap.size w w' := by
  have hal := ha.lst
  have hbl := hb.lst
  have ha1 := ha.cap
  have ha2 := ha.cap63
  have kb1 := hb.cap
  have kb2 := hb.cap63
  clear ha hb
  go_enter Try.func8, Try.ntmps8
  go_wp2_with fail
  refine (awake9_any w).mono ?_
  rintro e w1 ⟨rfl, hb1⟩
  have z1 := hb1.size
  have hc1 : Below w.heap.size w w1 := Below.trans (Below.refl w.heap.size w) (hb1.mono (Below.size (Below.refl w.heap.size w)))
  replace hal := hal.belowMore hb1 z1
  replace hbl := hbl.belowMore hb1 z1
  go_wp2_with fail
  refine (agrees9_any t A B c d a b w1 hal hbl ha1 ha2 kb1 kb2).mono ?_
  rintro e w2 ⟨rfl, hb2⟩
  have z2 := hb2.size
  have hc2 : Below w.heap.size w w2 := Below.trans hc1 (hb2.mono (Below.size hc1))
  replace hal := hal.belowMore hb2 z2
  replace hbl := hbl.belowMore hb2 z2
  go_wp2_with fail
  go_ret
  exact ⟨rfl, hc2⟩

set_option maxHeartbeats 4000000 in
theorem walkHeadwayGenerated (t : Int) (A1 : Option Addr) (c1 : Nat) (l : List Int) (A2 : Option Addr) (c2 : Nat) (m : List Int) (A3 : Option Addr) (c3 : Nat) (s : List Occ) (w : World) (ht : R64 t) (hl : ArgI w A1 c1 l) (hm : ArgI w A2 c2 m) (hs : ArgO w A3 c3 s) :
    Calls Try.prog 9 #[.int .i64 t, .slice A1 l.length c1, .slice A2 m.length c2, .slice A3 s.length c3] w fun e w' => e = .returned (.bool true) ∧ Below w.heap.size w w' := by
  have hp := pickI_range t 150 (by omega)
  have hpick := fun W => pick_any t 150 W (by omega) (by omega)
  generalize pickI t 150 = p at *
  obtain ⟨p1, p2⟩ := hp
  have HP := Lib.hid hpick
  clear hpick
  go_enter Try.func9, Try.ntmps9
  go_wp2_with fail
  refine (occupations_any A1 c1 l w hl).mono ?_
  rintro e w1 ⟨va, a, rfl, hoa, hma, hb1⟩
  have z1 := hb1.size
  have hc1 : Below w.heap.size w w1 := Below.trans (Below.refl w.heap.size w) (hb1.mono (Below.size (Below.refl w.heap.size w)))
  replace hm := hm.below hb1
  replace hs := hs.below hb1
  go_wp2_with fail
  refine (occupations_any A2 c2 m w1 hm).mono ?_
  rintro e w2 ⟨vb, b, rfl, hob, hmb, hb2⟩
  have z2 := hb2.size
  have hc2 : Below w.heap.size w w2 := Below.trans hc1 (hb2.mono (Below.size hc1))
  replace hs := hs.below hb2
  replace hoa := hoa.below' hb2
  obtain ⟨A', c', rfl, ha, hac, hc'⟩ := hoa.cut encO_len
  obtain ⟨B', d', rfl, hb, hbc, hd'⟩ := hob.cut encO_len
  have hsl := hs.lst
  have hsc := hs.cap
  have hsn := hs.cap63
  clear hoa hob hma hmb hm hs
  go_wp2_with fail
  refine (awake9_any w2).mono ?_
  rintro e w3 ⟨rfl, hb3⟩
  have z3 := hb3.size
  have hc3 : Below w.heap.size w w3 := Below.trans hc2 (hb3.mono (Below.size hc2))
  replace ha := ha.belowMore hb3 z3
  replace hb := hb.belowMore hb3 z3
  replace hsl := hsl.belowMore hb3 z3
  go_wp2_with fail
  refine (HP.out _).mono ?_
  rintro e w' ⟨rfl, rfl⟩
  go_wp2_with fail
  refine (agrees9_any (1 + p) A' B' c' d' a b w3 ha hb hac hc' hbc hd').mono ?_
  rintro e w4 ⟨rfl, hb4⟩
  have z4 := hb4.size
  have hc4 : Below w.heap.size w w4 := Below.trans hc3 (hb4.mono (Below.size hc3))
  replace ha := ha.belowMore hb4 z4
  replace hb := hb.belowMore hb4 z4
  replace hsl := hsl.belowMore hb4 z4
  go_wp2_with fail
  refine (HP.out _).mono ?_
  rintro e w' ⟨rfl, rfl⟩
  go_wp2_with fail
  refine (agrees9_any (1 + p) A' A3 c' c3 a s w4 ha hsl hac hc' hsc hsn).mono ?_
  rintro e w5 ⟨rfl, hb5⟩
  have z5 := hb5.size
  have hc5 : Below w.heap.size w w5 := Below.trans hc4 (hb5.mono (Below.size hc4))
  replace ha := ha.belowMore hb5 z5
  replace hb := hb.belowMore hb5 z5
  replace hsl := hsl.belowMore hb5 z5
  go_wp2_with fail
  refine (HP.out _).mono ?_
  rintro e w' ⟨rfl, rfl⟩
  go_wp2_with fail
  refine (agrees9_any (1 + p) A3 B' c3 d' s b w5 hsl hb hsc hsn hbc hd').mono ?_
  rintro e w6 ⟨rfl, hb6⟩
  have z6 := hb6.size
  have hc6 : Below w.heap.size w w6 := Below.trans hc5 (hb6.mono (Below.size hc5))
  replace ha := ha.belowMore hb6 z6
  replace hb := hb.belowMore hb6 z6
  replace hsl := hsl.belowMore hb6 z6
  go_wp2_with fail
  go_ret
  exact ⟨rfl, hc6⟩

end Go.Proofs.Ytdijhhfmicafjaa
