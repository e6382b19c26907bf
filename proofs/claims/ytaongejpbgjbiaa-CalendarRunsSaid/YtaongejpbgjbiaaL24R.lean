/-
  The walk of CalendarRuns.
-/
import Derived.Test.YtaongejpbgjbiaaCalSv
import Derived.Test.YtaongejpbgjbiaaCalRB
import Derived.Test.YtaongejpbgjbiaaCalAw
import Derived.Test.YtaongejpbgjbiaaLiftX
import Derived.Test.YtaongejpbgjbiaaArith
set_option linter.unusedVariables false
set_option linter.unusedSimpArgs false
namespace Go.Proofs.Ytaongejpbgjbiaa
open Go.RowKit RP

theorem madeV_days {dn k : Nat} {o : List Svc} {y : List Exc} (h : MadeV dn k o y) (hd : dn ≤ 31) : ∀ a ∈ o, R64 a.days := by
  intro a ha
  obtain ⟨_, _, h0, h1, _⟩ := h.svc a ha
  have h2 := Nat.pow_le_pow_right (n := 2) (by omega) hd
  have h3 : (2 : Nat) ^ 31 = 2147483648 := rfl
  have h4 : (2 : Int) ^ dn = ((2 ^ dn : Nat) : Int) := by simp
  exact ⟨by omega, by omega⟩

set_option maxRecDepth 100000 in
set_option maxHeartbeats 8000000 in
theorem walkCalendarRuns (A : Option Addr) (c : Nat) (s : List Svc) (B : Option Addr) (d : Nat) (x : List Exc) (line day : Int) (C : Option Addr) (cc : Nat) (l : List Int) (w : World) (hs : ArgV w A c s) (hx : ArgX w B d x) (r1 : R64 line) (r2 : R64 day) (hl : ArgI w C cc l) :
    Calls Try.prog 5 #[.slice A s.length c, .slice B x.length d, .int .i64 line, .int .i64 day, .slice C l.length cc] w fun e w' => e = .returned (.bool true) ∧ Below w.heap.size w w' := by
  have hsl := hs.lst
  have hxl := hx.lst
  have hn := hs.len
  have hm := hx.len
  have hsd : ∀ a ∈ s, R64 a.days := fun a ha => (hs.rng a ha).2.1
  have q1 := fun W => pick_any line 4 W (by omega) (by omega)
  have q2 := fun W => pick_any day 40 W (by omega) (by omega)
  have p1 := pickI_range line 4 (by omega)
  have p2 := pickI_range day 40 (by omega)
  have c1 := fun W (b : Below w.heap.size w W) => runs_any line day A c s B d x W (hsl.belowMore b b.size) hn (hxl.belowMore b b.size) hm hsd r2
  have c2 := fun W (b : Below w.heap.size w W) => refRuns_any line day A c s B d x W (hsl.belowMore b b.size) hn (hxl.belowMore b b.size) hm hsd r2
  have aw := fun W => awake_any W
  go_enter Try.func5, Try.ntmps5
  go_wp2_with fail
  refine (services_any 3 5 C cc l w (by omega) (by omega) (by omega) hl).mono ?_
  rintro e w1 ⟨va, vb, a, b, rfl, ha, hb, hmv, hb1⟩
  have ha64 := madeV_days hmv (by omega)
  have han := hmv.olen
  have hbn := hmv.ylen
  obtain ⟨A1, n1, rfl⟩ := ha.form
  obtain ⟨B1, m1, rfl⟩ := hb.form
  have hal := Own.lst encV_len ha
  have hbl := Own.lst encX_len hb
  have HB1 := Lib.hid hb1
  have z1 := hb1.size
  have d1 := fun (k i : Int) (r : R64 i) W (b9 : Below w1.heap.size w1 W) => runs_any k i A1 n1 a B1 m1 b W ((hal).belowMore b9 b9.size) (by omega) ((hbl).belowMore b9 b9.size) (by omega) ha64 r
  have d2 := fun (k i : Int) (r : R64 i) W (b9 : Below w1.heap.size w1 W) => refRuns_any k i A1 n1 a B1 m1 b W ((hal).belowMore b9 b9.size) (by omega) ((hbl).belowMore b9 b9.size) (by omega) ha64 r
  have d3 := fun (k i : Int) (r : R64 i) W (b9 : Below w1.heap.size w1 W) => runs_any k i A1 n1 a B d x W ((hal).belowMore b9 b9.size) (by omega) (hxl.belowMore (hb1.trans (b9.mono z1)) (hb1.trans (b9.mono z1)).size) hm ha64 r
  have d4 := fun (k i : Int) (r : R64 i) W (b9 : Below w1.heap.size w1 W) => refRuns_any k i A1 n1 a B d x W ((hal).belowMore b9 b9.size) (by omega) (hxl.belowMore (hb1.trans (b9.mono z1)) (hb1.trans (b9.mono z1)).size) hm ha64 r
  generalize pickI line 4 = pl at *
  generalize pickI day 40 = pd at *
  have D3 := d3 pl pd ⟨by omega, by omega⟩
  have D4 := d4 pl pd ⟨by omega, by omega⟩
  generalize runsB a x pl pd = e2 at *
  generalize runsB s x line day = e1 at *
  have ee1 : (e1 == e1) = true := by simp
  have ee2 : (e2 == e2) = true := by simp
  clear ha hb hmv hb1 hs hx d3 d4 hal hbl hsl hxl
  go_wp2_with fail
  go_loopg [13, 14] 7 (fun g s13 s14 wr => ∃ i : Int, -1 ≤ i ∧ i ≤ 6 ∧ g = (6 - i).toNat ∧ s13 = .int .i64 i ∧ Below w1.heap.size w1 wr)
  case atStart => exact ⟨-1, by omega, by omega, by omega, rfl, Below.refl _ _⟩
  case round =>
    obtain ⟨i, hi0, hi1, hg, rfl, hb⟩ := hrel
    have HB := Lib.hid hb
    by_cases hlt : i < 6
    · clear hb
      go_wp2_with fail
      generalize wr = W0 at *
      go_loopg [14] 5 (fun g s14 wr => ∃ k : Int, -1 ≤ k ∧ k ≤ 4 ∧ g = (4 - k).toNat ∧ s14 = .int .i64 k ∧ Below w1.heap.size w1 wr)
      case atStart => exact ⟨-1, by omega, by omega, by omega, rfl, HB.out⟩
      case round =>
        obtain ⟨k, hk0, hk1, hg2, rfl, hb⟩ := hrel
        by_cases hlt2 : k < 4
        · have x1 := d1 k i ⟨by omega, by omega⟩
          have x2 := d2 k i ⟨by omega, by omega⟩
          generalize runsB a b k i = e3 at *
          have ee3 : (e3 != e3) = false := by simp
          go_wp2_with fail
          refine (x1 _ hb).mono ?_
          rintro e W2 ⟨rfl, b2⟩
          have B2 := hb.trans (b2.mono hb.size)
          clear b2
          go_wp2_with fail
          refine (x2 _ B2).mono ?_
          rintro e W3 ⟨rfl, b3⟩
          have B3 := B2.trans (b3.mono B2.size)
          clear b3 B2
          go_wp2_with fail
          go_roundg (4 - (k + 1)).toNat
          case measure => omega
          case rel => exact ⟨k + 1, by omega, by omega, rfl, by go_num, B3⟩
        · go_wp2_with fail
          go_roundg (6 - (i + 1)).toNat
          case measure => omega
          case rel => exact ⟨i + 1, by omega, by omega, rfl, by go_num, hb⟩
    · have B1' := HB1.out.trans (hb.mono z1)
      go_wp2_with fail
      refine (aw _).mono ?_
      rintro e W1 ⟨rfl, b1⟩
      have Bw1 := hb.trans (b1.mono hb.size)
      have Bv1 := B1'.trans (b1.mono B1'.size)
      clear b1 B1' hb
      go_wp2_with fail
      refine (c1 _ Bv1).mono ?_
      rintro e W2 ⟨rfl, b2⟩
      have Bw2 := Bw1.trans (b2.mono Bw1.size)
      have Bv2 := Bv1.trans (b2.mono Bv1.size)
      clear b2 Bw1 Bv1
      go_wp2_with fail
      refine (c2 _ Bv2).mono ?_
      rintro e W3 ⟨rfl, b3⟩
      have Bw3 := Bw2.trans (b3.mono Bw2.size)
      have Bv3 := Bv2.trans (b3.mono Bv2.size)
      clear b3 Bw2 Bv2
      go_wp2_with fail
      refine (q1 _).mono ?_
      rintro e w' ⟨rfl, rfl⟩
      go_wp2_with fail
      refine (q2 _).mono ?_
      rintro e w' ⟨rfl, rfl⟩
      go_wp2_with fail
      refine (D3 _ Bw3).mono ?_
      rintro e W4 ⟨rfl, b4⟩
      have Bw4 := Bw3.trans (b4.mono Bw3.size)
      have Bv4 := Bv3.trans (b4.mono Bv3.size)
      clear b4 Bw3 Bv3
      go_wp2_with fail
      refine (q1 _).mono ?_
      rintro e w' ⟨rfl, rfl⟩
      go_wp2_with fail
      refine (q2 _).mono ?_
      rintro e w' ⟨rfl, rfl⟩
      go_wp2_with fail
      refine (D4 _ Bw4).mono ?_
      rintro e W5 ⟨rfl, b5⟩
      have Bv5 := Bv4.trans (b5.mono Bv4.size)
      clear b5
      go_wp2_with fail
      go_ret
      exact ⟨ret_bool (by simp), Bv5⟩
end Go.Proofs.Ytaongejpbgjbiaa
