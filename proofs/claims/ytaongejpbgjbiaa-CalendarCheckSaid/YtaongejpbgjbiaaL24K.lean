/-
  The walk of CalendarCheck.
-/
import Derived.Test.YtaongejpbgjbiaaCalKR
import Derived.Test.YtaongejpbgjbiaaCalAw
import Derived.Test.YtaongejpbgjbiaaLiftX
import Derived.Test.YtaongejpbgjbiaaArith
set_option linter.unusedVariables false
set_option linter.unusedSimpArgs false
namespace Go.Proofs.Ytaongejpbgjbiaa
open Go.RowKit RP

set_option maxRecDepth 100000 in
set_option maxHeartbeats 8000000 in
theorem walkCalendarCheck (lines days : Int) (A : Option Addr) (c : Nat) (s : List Svc) (B : Option Addr) (d : Nat) (x : List Exc) (w : World) (r1 : R64 lines) (r2 : R64 days) (hs : ArgV w A c s) (hx : ArgX w B d x) (hsz : x.length * 24 ≤ 140737488355328) :
    Calls Try.prog 3 #[.int .i64 lines, .int .i64 days, .slice A s.length c, .slice B x.length d] w fun e w' => e = .returned (.bool true) ∧ Below w.heap.size w w' := by
  have hsl := hs.lst
  have hxl := hx.lst
  have hc := hs.cap
  have hc2 := hs.cap63
  have hd := hx.cap
  have hd2 := hx.cap63
  have p1 := pickI_range lines 4 (by omega)
  have p2 := pickI_range days 3 (by omega)
  have hn : s.length ≤ 9223372036854775807 := hs.len
  have hm : x.length ≤ 140737488355328 := by omega
  have rn : R64 (1 + pickI lines 4) := ⟨by omega, by omega⟩
  have rd : R64 (1 + pickI days 3) := ⟨by omega, by omega⟩
  have c1 := fun W (b : Below w.heap.size w W) => check_any lines days A c s B d x W (hsl.belowMore b b.size) hn (hxl.belowMore b b.size) hm r1 r2
  have c2 := fun W (b : Below w.heap.size w W) => refCheck_any lines days A c s B d x W (hsl.belowMore b b.size) hn hc hc2 (hxl.belowMore b b.size) (by omega) hd hd2 r1 r2
  have c3 := fun W (b : Below w.heap.size w W) => check_any (1 + pickI lines 4) (1 + pickI days 3) A c s B d x W (hsl.belowMore b b.size) hn (hxl.belowMore b b.size) hm rn rd
  have c4 := fun W (b : Below w.heap.size w W) => refCheck_any (1 + pickI lines 4) (1 + pickI days 3) A c s B d x W (hsl.belowMore b b.size) hn hc hc2 (hxl.belowMore b b.size) (by omega) hd hd2 rn rd
  have q1 := fun W => pick_any lines 4 W (by omega) (by omega)
  have q2 := fun W => pick_any days 3 W (by omega) (by omega)
  have aw := fun W => awake_any W
  have w1 : IntKind.i64.wrap (1 + pickI lines 4) = 1 + pickI lines 4 := IntWalk.i64_in _ (by omega)
  have w2 : IntKind.i64.wrap (1 + pickI days 3) = 1 + pickI days 3 := IntWalk.i64_in _ (by omega)
  generalize pickI lines 4 = a at *
  generalize pickI days 3 = b at *
  generalize checkS lines days s x = e1 at *
  generalize checkS (1 + a) (1 + b) s x = e2 at *
  clear hs hx hsl hxl
  go_enter Try.func3, Try.ntmps3
  go_wp2_with fail
  refine (q1 _).mono ?_
  rintro e w' ⟨rfl, rfl⟩
  go_wp2_with fail
  refine (q2 _).mono ?_
  rintro e w' ⟨rfl, rfl⟩
  clear q1 q2
  have ee1 : (e1 == e1) = true := by simp
  have ee2 : (e2 == e2) = true := by simp
  go_wp2_with fail
  refine (aw _).mono ?_
  rintro e W1 ⟨rfl, B1⟩
  go_wp2_with fail
  refine (c1 _ B1).mono ?_
  rintro e W2 ⟨rfl, b2⟩
  have B2 := B1.trans (b2.mono B1.size)
  clear b2 B1
  go_wp2_with fail
  refine (c2 _ B2).mono ?_
  rintro e W3 ⟨rfl, b3⟩
  have B3 := B2.trans (b3.mono B2.size)
  clear b3 B2
  go_wp2_with fail
  refine (c3 _ B3).mono ?_
  rintro e W4 ⟨rfl, b4⟩
  have B4 := B3.trans (b4.mono B3.size)
  clear b4 B3
  go_wp2_with fail
  refine (c4 _ B4).mono ?_
  rintro e W5 ⟨rfl, b5⟩
  have B5 := B4.trans (b5.mono B4.size)
  clear b5 B4
  go_wp2_with fail
  go_ret
  exact ⟨ret_bool (by simp), B5⟩
end Go.Proofs.Ytaongejpbgjbiaa
