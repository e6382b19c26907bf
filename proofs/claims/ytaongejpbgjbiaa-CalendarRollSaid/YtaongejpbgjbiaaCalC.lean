/-
  Contracts of Index, Duration, of calendar.duration and lines.
-/
import Derived.Test.YtaongejpbgjbiaaCalB
import Derived.Test.YtaongejpbgjbiaaFeaN
import Derived.Test.YtaongejpbgjbiaaClone
set_option linter.unusedVariables false
set_option linter.unusedSimpArgs false
namespace RP
theorem find_take {α : Type} {p : α → Bool} {l : List α} {k : Nat} (h : k < l.length) (h0 : (l.take k).any p = false) (h1 : p l[k] = true) : l.find? p = some l[k] := by
  rcases fidx_find (p := p) l with ⟨_, e2⟩ | ⟨j, hj, e1, e2, _, _⟩
  · rw [List.find?_eq_none] at e2
    exact absurd h1 (e2 l[k] (List.getElem_mem h))
  · rw [fidx_hit h h0 h1] at e1
    have : k = j := by omega
    subst this
    exact e2
/-- Whether an activity is of a kind and joins two events. -/
def isA (kind src dst : Int) (a : Acy) : Bool := decide (a.kind = kind) && (decide (a.src = src) && decide (a.dst = dst))
end RP
namespace Go.Proofs.Ytaongejpbgjbiaa
open Go.RowKit RP
attribute [local go_sem ↓] Go.wp_at_zero Go.wp_at_succ

theorem evtS : Try.prog.underlying 54 = some (.struct (Try.prog.fieldsOf 54)) := by kernel_rfl
theorem evtH : Try.prog.stoodInHeld 54 = false := by kernel_rfl
theorem run_eql_evt (a b c d e f : Int) (w : World) : (binOp .eql 54 (.agg #[.int .i64 a, .int .i64 b, .int .i64 c]) (.agg #[.int .i64 d, .int .i64 e, .int .i64 f])).run Try.prog w = .ok (.bool (a == d && (b == e && c == f))) w := by
  have u3 := Try.underlying3
  have a3 := Try.isAgg3
  have z3 := Try.sizeOf3
  rw [run_eql_struct, show (10000 : Nat) = 9999 + 1 from rfl, run_equalIn_agg w 9999 54 _ _ evtS evtH]
  simp only [Program.fieldsOf, Try.underlying54]
  go_simp
  by_cases h1 : a = d <;> by_cases h2 : b = e <;> by_cases h3 : c = f <;> simp [h1, h2, h3]

theorem Lst.ev {w : World} {B : Nat} {A : Option Addr} {l : List Evt} (h : Lst encE 3 w B A l) (i : Nat) (hi : i < l.length) :
    ∃ b off, A = some ⟨b, off, none⟩ ∧ b < B ∧ w.cell? ⟨b, off + i * 3, none⟩ = some (.int .i64 l[i].1) ∧ w.cell? ⟨b, off + i * 3 + 1, none⟩ = some (.int .i64 l[i].2.1) ∧ w.cell? ⟨b, off + i * 3 + 2, none⟩ = some (.int .i64 l[i].2.2) := by
  obtain ⟨b, off, e, hb, hc⟩ := h (by intro h0; subst h0; simp at hi)
  have hg := hc i l[i] (List.getElem?_eq_getElem hi)
  exact ⟨b, off, e, hb, hg 0 _ rfl, hg 1 _ rfl, hg 2 _ rfl⟩

set_option maxHeartbeats 2000000 in
theorem idxEvt_any (x y z : Int) (A : Option Addr) (c : Nat) (l : List Evt) (w : World) (hl : Lst encE 3 w w.heap.size A l) (hn : l.length ≤ 9223372036854775807) :
    Calls Try.prog 80 #[.slice A l.length c, .agg #[.int .i64 x, .int .i64 y, .int .i64 z]] w fun e w' => e = .returned (.int .i64 (fidx (fun a => decide (a = (x, y, z))) l)) ∧ Below w.heap.size w w' := by
  have ba := belA w (.cells #[.int .i64 x, .int .i64 y, .int .i64 z] 54)
  have hnew := heap_alloc_new w (.cells #[.int .i64 x, .int .i64 y, .int .i64 z] 54)
  have zw : w.heap.size < (w.alloc (.cells #[.int .i64 x, .int .i64 y, .int .i64 z] 54)).heap.size := by simp
  have hl0 := hl.below ba
  go_enter Try.func80, Try.ntmps80
  go_wp2_with fail
  generalize w.alloc (.cells #[.int .i64 x, .int .i64 y, .int .i64 z] 54) = w0 at *
  have c0 : w0.cell? ⟨w.heap.size, 0, none⟩ = some (.int .i64 x) := by rw [cell_of_row w0 _ 0 _ _ _ hnew]; rfl
  have c1 : w0.cell? ⟨w.heap.size, 1, none⟩ = some (.int .i64 y) := by rw [cell_of_row w0 _ 1 _ _ _ hnew]; rfl
  have c2 : w0.cell? ⟨w.heap.size, 2, none⟩ = some (.int .i64 z) := by rw [cell_of_row w0 _ 2 _ _ _ hnew]; rfl
  go_loopg [5, 8] l.length (fun g s5 s8 wr => ∃ k n : Nat, k ≤ l.length ∧ g = l.length - k ∧ s8 = .int .i64 k ∧ (l.take k).any (fun a => decide (a = (x, y, z))) = false ∧ wr = w0.drewN n)
  case atStart => exact ⟨0, 0, by omega, by omega, rfl, rfl, rfl⟩
  case round =>
    obtain ⟨k, n, hk, hg', rfl, hv, rfl⟩ := hrel
    have HV := Lib.hid hv
    clear hv
    by_cases hlt : k < l.length
    · obtain ⟨b, off, rfl, hbb, a0, a1, a2⟩ := hl0.ev k hlt
      have HNO := Lib.hid (fun h => any_snoc_no (p := fun a : Evt => decide (a = (x, y, z))) hlt HV.out h)
      have HYES := Lib.hid (fun h => fidx_hit (p := fun a : Evt => decide (a = (x, y, z))) hlt HV.out h)
      generalize l[k] = a at *
      obtain ⟨p, q, r⟩ := a
      simp only at a0 a1 a2
      have hq := run_eql_evt x y z p q r
      obtain ⟨an, han⟩ : ∃ an, (x == p && (y == q && z == r)) = an := ⟨_, rfl⟩
      rw [han] at hq
      have HAN := Lib.hid (show decide ((p, q, r) = (x, y, z)) = an by
        rw [← han]
        rw [Bool.eq_iff_iff]
        simp only [decide_eq_true_eq, Bool.and_eq_true, beq_iff_eq, Prod.mk.injEq]
        exact ⟨fun ⟨a, b, c⟩ => ⟨a.symm, b.symm, c.symm⟩, fun ⟨a, b, c⟩ => ⟨a.symm, b.symm, c.symm⟩⟩)
      have i0 : (0 : Int) ≤ (k : Int) := by omega
      have i1 : (k : Int) < (l.length : Int) := by omega
      clear han
      go_wp2_with fail
      go_quiet (fail)
      cases an with
      | true =>
        go_wp2_with fail
        go_ret
        exact ⟨ret_int (HYES.out HAN.out).symm, below_drewN (below_drewN ba _) _⟩
      | false =>
        go_wp2_with fail
        go_roundg (l.length - (k + 1))
        case measure => omega
        case rel => exact ⟨k + 1, _, by omega, rfl, by go_num, HNO.out HAN.out, rfl⟩
    · have HN := Lib.hid (fidx_none (p := fun a : Evt => decide (a = (x, y, z))) (l := l) (by have := HV.out; rwa [List.take_of_length_le (by omega)] at this))
      go_wp2_with fail
      go_ret
      exact ⟨ret_int HN.out.symm, below_drewN ba _⟩

set_option maxHeartbeats 2000000 in
theorem netIdx_any (x y z : Int) (T : Int) (E : Option Addr) (cE : Nat) (A : Option Addr) (n cA : Nat) (l : List Evt) (w : World) (hl : Lst encE 3 w w.heap.size E l) (hn : l.length ≤ 9223372036854775807) :
    Calls Try.prog 61 #[netV T E l.length cE A n cA, .agg #[.int .i64 x, .int .i64 y, .int .i64 z]] w fun e w' => e = .returned (.int .i64 (fidx (fun a => decide (a = (x, y, z))) l)) ∧ Below w.heap.size w w' := by
  have ba := belA w (.cells #[.int .i64 T, .slice E l.length cE, .slice A n cA] 43)
  have bb := belA (w.alloc (.cells #[.int .i64 T, .slice E l.length cE, .slice A n cA] 43)) (.cells #[.int .i64 x, .int .i64 y, .int .i64 z] 54)
  have hl2 := (hl.belowMore ba ba.size).belowMore bb bb.size
  have HB := Lib.hid (ba.trans (bb.mono ba.size))
  clear ba bb
  go_enter Try.func61, Try.ntmps61
  go_wp2_with fail
  refine (idxEvt_any x y z E cE l _ hl2 hn).mono ?_
  rintro e w1 ⟨rfl, hb⟩
  have HB2 := Lib.hid (HB.out.trans (hb.mono HB.out.size))
  clear hb
  go_wp2_with fail
  go_ret
  exact ⟨rfl, HB2.out⟩

set_option maxRecDepth 100000 in
set_option maxHeartbeats 4000000 in
theorem netDurN_any (T m : Nat) (E : Option Addr) (cE : Nat) (A : Option Addr) (cA : Nat) (l : List Acy) (B : Option Addr) (cB : Nat) (ts : List Int) (i : Nat) (a : Acy) (w : World) (hl : Lst encA 6 w w.heap.size A l) (ht : Lst encI 1 w w.heap.size B ts) (hg : goodB T m l ts = true) (hia : l[i]? = some a) :
    Calls Try.prog 81 #[netV T E m cE A l.length cA, .slice B ts.length cB, .int .i64 i] w fun e w' => e = .returned (.int .i64 (a.lo + overI T ts a)) ∧ Below w.heap.size w w' := by
  obtain ⟨hi, hai⟩ := List.getElem?_eq_some_iff.1 hia
  obtain ⟨hnet, hlen, hts⟩ := goodB_iff.1 hg
  obtain ⟨⟨h1, h2, h4, h3⟩, hok⟩ := netB_iff.1 hnet
  have ba := belA w (.cells #[.int .i64 T, .slice E m cE, .slice A l.length cA] 43)
  have hnew := heap_alloc_new w (.cells #[.int .i64 T, .slice E m cE, .slice A l.length cA] 43)
  have hgd := good_any T E m cE A cA l B cB ts _ (hl.belowMore ba ba.size) (by omega) (ht.belowMore ba ba.size) (by omega)
  rw [hg] at hgd
  have zw : w.heap.size < (w.alloc (.cells #[.int .i64 T, .slice E m cE, .slice A l.length cA] 43)).heap.size := by simp
  have hoki := hok a (hai ▸ List.getElem_mem hi)
  have HAI := Lib.hid hai
  clear hai hia
  have HL := Lib.hid hlen
  have HT := Lib.hid hts
  have hla := hl.below ba
  have hta := ht.belowMore ba ba.size
  have l3 : l.length ≤ 512 := h3
  clear hg hnet hlen hts hok
  go_enter Try.func81, Try.ntmps81
  go_wp2_with fail
  generalize w.alloc (.cells #[.int .i64 T, .slice E m cE, .slice A l.length cA] 43) = w0 at *
  refine hgd.mono ?_
  rintro e w1 ⟨rfl, hb1⟩
  have hblk := (hb1.block w.heap.size zw).trans hnew
  have n0 : w1.cell? ⟨w.heap.size, 0, none⟩ = some (.int .i64 T) := by rw [cell_of_row w1 _ 0 _ _ _ hblk]; rfl
  have n1 : w1.cell? ⟨w.heap.size, 1, none⟩ = some (.slice E m cE) := by rw [cell_of_row w1 _ 1 _ _ _ hblk]; rfl
  have n2 : w1.cell? ⟨w.heap.size, 2, none⟩ = some (.slice A l.length cA) := by rw [cell_of_row w1 _ 2 _ _ _ hblk]; rfl
  have zr : w.heap.size < w1.heap.size := by have := hb1.size; omega
  obtain ⟨b, off, rfl, hbb, a0, a1, a2, a3, a4, a5⟩ := (hla.below (hb1.mono (by omega))).ac i hi
  rw [HAI.out] at a0 a1 a2 a3 a4 a5
  have hbb1 : b < w1.heap.size := by omega
  have hlasts := fun W (hW : Below w1.heap.size w1 W) => netDur_any T m E cE (some ⟨b, off, none⟩) l.length cA B cB ts a W ((hta.belowMore hb1 hb1.size).belowMore hW hW.size) (by omega) (by omega) HT.out HL.out hoki
  have HLS := Lib.hid hlasts
  have HB1 := Lib.hid (ba.trans (hb1.mono (by omega)))
  have i0 : (0 : Int) ≤ (i : Int) := by omega
  have i1 : (i : Int) < (l.length : Int) := by omega
  clear hlasts hla hta hb1 hblk hgd ba hoki hl ht hnew
  go_upto_region 3 with fail
  have hB : Below w1.heap.size w1 w1.drew := (Below.refl _ _).drew
  go_region_held3 (fun w' => w'.cell? ⟨w.heap.size, 0, none⟩ = some (.int .i64 T) ∧ w'.cell? ⟨w.heap.size, 1, none⟩ = some (.slice E m cE) ∧ w'.cell? ⟨w.heap.size, 2, none⟩ = some (.slice (some ⟨b, off, none⟩) l.length cA) ∧ w'.cell? ⟨b, off + i * 6, none⟩ = some (.int .i64 a.kind) ∧ w'.cell? ⟨b, off + i * 6 + 1, none⟩ = some (.int .i64 a.src) ∧ w'.cell? ⟨b, off + i * 6 + 2, none⟩ = some (.int .i64 a.dst) ∧ w'.cell? ⟨b, off + i * 6 + 3, none⟩ = some (.int .i64 a.lo) ∧ w'.cell? ⟨b, off + i * 6 + 4, none⟩ = some (.int .i64 a.hi) ∧ w'.cell? ⟨b, off + i * 6 + 5, none⟩ = some (.int .i64 a.wt))
    (exact ⟨(hB.cell (p := ⟨w.heap.size, 0, none⟩) zr).trans n0, (hB.cell (p := ⟨w.heap.size, 1, none⟩) zr).trans n1, (hB.cell (p := ⟨w.heap.size, 2, none⟩) zr).trans n2, (hB.cell (p := ⟨b, off + i * 6, none⟩) hbb1).trans a0, (hB.cell (p := ⟨b, off + i * 6 + 1, none⟩) hbb1).trans a1, (hB.cell (p := ⟨b, off + i * 6 + 2, none⟩) hbb1).trans a2, (hB.cell (p := ⟨b, off + i * 6 + 3, none⟩) hbb1).trans a3, (hB.cell (p := ⟨b, off + i * 6 + 4, none⟩) hbb1).trans a4, (hB.cell (p := ⟨b, off + i * 6 + 5, none⟩) hbb1).trans a5⟩)
    ((go_at_call 78; (with_reducible refine (HLS.out _ hB).mono ?_); rintro e w' ⟨rfl, hb'⟩; replace hB := hB.trans (hb'.mono hB.size)))
  all_goals
    go_wp2_with fail
    go_ret
    exact ⟨rfl, HB1.out.trans (hB.mono (by omega))⟩
set_option maxRecDepth 100000 in
set_option maxHeartbeats 4000000 in
theorem refDurN_any (T m : Nat) (E : Option Addr) (cE : Nat) (A : Option Addr) (cA : Nat) (l : List Acy) (B : Option Addr) (cB : Nat) (ts : List Int) (i : Nat) (a : Acy) (w : World) (hl : Lst encA 6 w w.heap.size A l) (ht : Lst encI 1 w w.heap.size B ts) (hg : goodB T m l ts = true) (hia : l[i]? = some a) :
    Calls Try.prog 56 #[netV T E m cE A l.length cA, .slice B ts.length cB, .int .i64 i] w fun e w' => e = .returned (.int .i64 (a.lo + overI T ts a)) ∧ Below w.heap.size w w' := by
  obtain ⟨hi, hai⟩ := List.getElem?_eq_some_iff.1 hia
  obtain ⟨hnet, hlen, hts⟩ := goodB_iff.1 hg
  obtain ⟨⟨h1, h2, h4, h3⟩, hok⟩ := netB_iff.1 hnet
  have ba := belA w (.cells #[.int .i64 T, .slice E m cE, .slice A l.length cA] 43)
  have hnew := heap_alloc_new w (.cells #[.int .i64 T, .slice E m cE, .slice A l.length cA] 43)
  have hgd := refGood_any T E m cE A cA l B cB ts _ (hl.belowMore ba ba.size) (by omega) (ht.belowMore ba ba.size) (by omega)
  rw [hg] at hgd
  have zw : w.heap.size < (w.alloc (.cells #[.int .i64 T, .slice E m cE, .slice A l.length cA] 43)).heap.size := by simp
  have hoki := hok a (hai ▸ List.getElem_mem hi)
  have HAI := Lib.hid hai
  clear hai hia
  have HL := Lib.hid hlen
  have HT := Lib.hid hts
  have hla := hl.below ba
  have hta := ht.belowMore ba ba.size
  have l3 : l.length ≤ 512 := h3
  clear hg hnet hlen hts hok
  go_enter Try.func56, Try.ntmps56
  go_wp2_with fail
  generalize w.alloc (.cells #[.int .i64 T, .slice E m cE, .slice A l.length cA] 43) = w0 at *
  refine hgd.mono ?_
  rintro e w1 ⟨rfl, hb1⟩
  have hblk := (hb1.block w.heap.size zw).trans hnew
  have n0 : w1.cell? ⟨w.heap.size, 0, none⟩ = some (.int .i64 T) := by rw [cell_of_row w1 _ 0 _ _ _ hblk]; rfl
  have n1 : w1.cell? ⟨w.heap.size, 1, none⟩ = some (.slice E m cE) := by rw [cell_of_row w1 _ 1 _ _ _ hblk]; rfl
  have n2 : w1.cell? ⟨w.heap.size, 2, none⟩ = some (.slice A l.length cA) := by rw [cell_of_row w1 _ 2 _ _ _ hblk]; rfl
  have zr : w.heap.size < w1.heap.size := by have := hb1.size; omega
  obtain ⟨b, off, rfl, hbb, a0, a1, a2, a3, a4, a5⟩ := (hla.below (hb1.mono (by omega))).ac i hi
  rw [HAI.out] at a0 a1 a2 a3 a4 a5
  have hbb1 : b < w1.heap.size := by omega
  have hlasts := fun W (hW : Below w1.heap.size w1 W) => refLasts_any T m E cE (some ⟨b, off, none⟩) l.length cA B cB ts a W ((hta.belowMore hb1 hb1.size).belowMore hW hW.size) (by omega) (by omega) HT.out HL.out hoki
  have HLS := Lib.hid hlasts
  have HB1 := Lib.hid (ba.trans (hb1.mono (by omega)))
  have i0 : (0 : Int) ≤ (i : Int) := by omega
  have i1 : (i : Int) < (l.length : Int) := by omega
  have hin := fun W => in11_any i 0 ((l.length : Int) - 1) W
  rw [decide_eq_true (show (0 : Int) ≤ (i : Int) ∧ (i : Int) ≤ (l.length : Int) - 1 by omega)] at hin
  clear hlasts hla hta hb1 hblk hgd ba hoki hl ht hnew
  go_wp2_with fail
  refine (hin _).mono ?_
  rintro e w' ⟨rfl, rfl⟩
  clear hin
  go_upto_region 3 with fail
  have hB : Below w1.heap.size w1 w1.drew := (Below.refl _ _).drew
  go_region_held3 (fun w' => w'.cell? ⟨w.heap.size, 0, none⟩ = some (.int .i64 T) ∧ w'.cell? ⟨w.heap.size, 1, none⟩ = some (.slice E m cE) ∧ w'.cell? ⟨w.heap.size, 2, none⟩ = some (.slice (some ⟨b, off, none⟩) l.length cA) ∧ w'.cell? ⟨b, off + i * 6, none⟩ = some (.int .i64 a.kind) ∧ w'.cell? ⟨b, off + i * 6 + 1, none⟩ = some (.int .i64 a.src) ∧ w'.cell? ⟨b, off + i * 6 + 2, none⟩ = some (.int .i64 a.dst) ∧ w'.cell? ⟨b, off + i * 6 + 3, none⟩ = some (.int .i64 a.lo) ∧ w'.cell? ⟨b, off + i * 6 + 4, none⟩ = some (.int .i64 a.hi) ∧ w'.cell? ⟨b, off + i * 6 + 5, none⟩ = some (.int .i64 a.wt))
    (exact ⟨(hB.cell (p := ⟨w.heap.size, 0, none⟩) zr).trans n0, (hB.cell (p := ⟨w.heap.size, 1, none⟩) zr).trans n1, (hB.cell (p := ⟨w.heap.size, 2, none⟩) zr).trans n2, (hB.cell (p := ⟨b, off + i * 6, none⟩) hbb1).trans a0, (hB.cell (p := ⟨b, off + i * 6 + 1, none⟩) hbb1).trans a1, (hB.cell (p := ⟨b, off + i * 6 + 2, none⟩) hbb1).trans a2, (hB.cell (p := ⟨b, off + i * 6 + 3, none⟩) hbb1).trans a3, (hB.cell (p := ⟨b, off + i * 6 + 4, none⟩) hbb1).trans a4, (hB.cell (p := ⟨b, off + i * 6 + 5, none⟩) hbb1).trans a5⟩)
    ((go_at_call 76; (with_reducible refine (HLS.out _ hB).mono ?_); rintro e w' ⟨rfl, hb'⟩; replace hB := hB.trans (hb'.mono hB.size)))
  all_goals
    go_wp2_with fail
    go_ret
    exact ⟨rfl, HB1.out.trans (hB.mono (by omega))⟩

end Go.Proofs.Ytaongejpbgjbiaa
