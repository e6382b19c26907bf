/-
  Contracts of First and Feasible, of network and of the reference; of the reference's Good.
-/
import Derived.Test.YtbhjnihcmfagjaaFea
import Derived.Test.YtbhjnihcmfagjaaNetR
import Derived.Deep.RegionHeld3
import Derived.Deep.DrawnRows
set_option linter.unusedVariables false
set_option linter.unusedSimpArgs false
namespace RP
def okTo (T : Nat) (ts : List Int) (l : List Acy) (k : Nat) : Bool := (l.take k).all fun a => decide (a.lo + overI T ts a ≤ a.hi)
theorem okTo_succ {T : Nat} {ts : List Int} {l : List Acy} {k : Nat} (h : k < l.length) : okTo T ts l (k + 1) = (okTo T ts l k && decide (l[k].lo + overI T ts l[k] ≤ l[k].hi)) := by
  unfold okTo; rw [List.take_succ_eq_append_getElem h, List.all_append]; simp
theorem feas_all {T m : Nat} {ts : List Int} {l : List Acy} {k : Nat} (hg : goodB T m l ts = true) (hk : l.length ≤ k) : feasB T m l ts = okTo T ts l k := by
  unfold feasB okTo; rw [hg, Bool.true_and, List.take_of_length_le hk]
theorem feas_no {T m : Nat} {ts : List Int} {l : List Acy} {k : Nat} (hk : k < l.length) (h : decide (l[k].lo + overI T ts l[k] ≤ l[k].hi) = false) : feasB T m l ts = false := by
  unfold feasB
  rw [all_no' (p := fun a : Acy => decide (a.lo + overI T ts a ≤ a.hi)) hk h, Bool.and_false]
end RP
namespace Go.Proofs.Ytbhjnihcmfagjaa
open Go.RowKit RP
attribute [local go_sem ↓] Go.wp_at_zero Go.wp_at_succ

set_option maxRecDepth 100000 in
set_option maxHeartbeats 4000000 in
theorem refGood_any (T : Int) (E : Option Addr) (m cE : Nat) (A : Option Addr) (cA : Nat) (l : List Acy) (B : Option Addr) (cB : Nat) (ts : List Int) (w : World) (hl : Lst encA 6 w w.heap.size A l) (hn : l.length ≤ 9223372036854775807) (ht : Lst encI 1 w w.heap.size B ts) (hn' : ts.length ≤ 9223372036854775807) :
    Calls Try.prog 50 #[netV T E m cE A l.length cA, .slice B ts.length cB] w fun e w' => e = .returned (.bool (goodB T m l ts)) ∧ Below w.heap.size w w' := by
  have ba := belA w (.cells #[.int .i64 T, .slice E m cE, .slice A l.length cA] 25)
  have hnew := heap_alloc_new w (.cells #[.int .i64 T, .slice E m cE, .slice A l.length cA] 25)
  go_enter Try.func50, Try.ntmps50
  go_wp2_with fail
  refine (refNet_any T E m cE A cA l _ (hl.belowMore ba (by simp)) hn).mono ?_
  rintro e w1 ⟨rfl, hb⟩
  rw [World.size_alloc] at hb
  have hbl := (hb.block w.heap.size (by omega)).trans hnew
  have HB := Lib.hid (ba.trans (hb.mono (by omega)))
  have n0 : w1.cell? ⟨w.heap.size, 0, none⟩ = some (.int .i64 T) := by rw [cell_of_row w1 _ 0 _ _ _ hbl]; rfl
  have n1 : w1.cell? ⟨w.heap.size, 1, none⟩ = some (.slice E m cE) := by rw [cell_of_row w1 _ 1 _ _ _ hbl]; rfl
  clear ba hb hnew hbl
  cases hnb : netB T m l with
  | false =>
    have HNB := Lib.hid hnb
    clear hnb
    go_wp2_with fail
    go_ret
    exact ⟨ret_bool (by rw [goodB, HNB.out]; rfl), HB.out⟩
  | true =>
    have HNB := Lib.hid hnb
    have ht2 := (netB_iff.1 hnb).1
    have ht3 := ht2.1
    have ht4 := ht2.2.1
    clear hnb ht2
    by_cases hlen : ts.length = m
    · have d1 : ((ts.length : Int) != (m : Int)) = false := by simp [hlen]
      have HL := Lib.hid hlen
      clear hlen
      go_wp2_with fail
      go_loopg [5] ts.length (fun g s5 wr => ∃ k n : Nat, k ≤ ts.length ∧ g = ts.length - k ∧ s5 = .int .i64 k ∧ (ts.take k).all (fun t => decide (0 ≤ t ∧ t < T)) = true ∧ wr = w1.drewN n)
      case atStart => exact ⟨0, 0, by omega, by omega, rfl, rfl, rfl⟩
      case round =>
        obtain ⟨k, n, hk, hg, rfl, hv, rfl⟩ := hrel
        have HV := Lib.hid hv
        clear hv
        by_cases hlt : k < ts.length
        · obtain ⟨b, off, rfl, hbb, a0⟩ := (ht.below HB.out).it k hlt
          have HNO := Lib.hid (fun h => all_no' (p := fun t : Int => decide (0 ≤ t ∧ t < T)) hlt h)
          have HYES := Lib.hid (fun h => all_snoc' (p := fun t : Int => decide (0 ≤ t ∧ t < T)) hlt HV.out h)
          generalize ts[k] = x at *
          have sw : IntKind.i64.wrap (T - 1) = T - 1 := IntWalk.i64_in _ (by omega)
          have i0 : (0 : Int) ≤ (k : Int) := by omega
          have i1 : (k : Int) < (ts.length : Int) := by omega
          have hin := fun W => in11_any x 0 (T - 1) W
          obtain ⟨q, hq⟩ : ∃ q, decide (0 ≤ x ∧ x ≤ T - 1) = q := ⟨_, rfl⟩
          rw [hq] at hin
          have HQ := Lib.hid hq
          clear hq
          go_wp2_with fail
          go_quiet ((go_at_call 42; exact quiet_add_left (hin _)))
          clear sw
          cases q with
          | false =>
            go_wp2_with fail
            go_ret
            exact ⟨ret_bool (by have := HQ.out; rw [decide_eq_false_iff_not] at this; rw [goodB, HNO.out (by simp; omega), Bool.and_false, Bool.and_false]), below_drewN (below_drewN HB.out _) _⟩
          | true =>
            go_wp2_with fail
            go_roundg (ts.length - (k + 1))
            case measure => omega
            case rel => exact ⟨k + 1, _, by omega, rfl, by go_num, HYES.out (by have := HQ.out; rw [decide_eq_true_eq] at this; simp; omega), rfl⟩
        · go_wp2_with fail
          go_ret
          have hv := HV.out
          rw [List.take_of_length_le (by omega)] at hv
          exact ⟨ret_bool (by rw [goodB, HNB.out, hv, decide_eq_true HL.out]; rfl), below_drewN HB.out _⟩
    · have d1 : ((ts.length : Int) != (m : Int)) = true := by simp; omega
      have HL := Lib.hid hlen
      clear hlen
      go_wp2_with fail
      go_ret
      exact ⟨ret_bool (by rw [goodB, decide_eq_false HL.out, Bool.false_and, Bool.and_false]), HB.out⟩

def FirstPost (b : Bool) (w : World) (e : Ending) (w' : World) : Prop := ∃ i : Int, e = .returned (.tuple #[.int .i64 i, .bool b]) ∧ Below w.heap.size w w'
set_option maxRecDepth 100000 in
set_option maxHeartbeats 8000000 in
theorem refFirst_any (T : Nat) (E : Option Addr) (m cE : Nat) (A : Option Addr) (cA : Nat) (l : List Acy) (B : Option Addr) (cB : Nat) (ts : List Int) (w : World) (hl : Lst encA 6 w w.heap.size A l) (hn : l.length ≤ 9223372036854775807) (ht : Lst encI 1 w w.heap.size B ts) (hn' : ts.length ≤ 9223372036854775807) :
    Calls Try.prog 49 #[netV T E m cE A l.length cA, .slice B ts.length cB] w (FirstPost (goodB T m l ts && !feasB T m l ts) w) := by
  have ba := belA w (.cells #[.int .i64 T, .slice E m cE, .slice A l.length cA] 25)
  have hnew := heap_alloc_new w (.cells #[.int .i64 T, .slice E m cE, .slice A l.length cA] 25)
  go_enter Try.func49, Try.ntmps49
  go_wp2_with fail
  refine (refGood_any T E m cE A cA l B cB ts _ (hl.belowMore ba (by simp)) hn (ht.belowMore ba (by simp)) hn').mono ?_
  rintro e w1 ⟨rfl, hb⟩
  rw [World.size_alloc] at hb
  have hbl := (hb.block w.heap.size (by omega)).trans hnew
  have HB := Lib.hid (ba.trans (hb.mono (by omega)))
  have z1 : w.heap.size < w1.heap.size := by have := hb.size; rw [World.size_alloc] at this; omega
  have HBL := Lib.hid hbl
  clear ba hb hnew hbl
  cases hg : goodB T m l ts with
  | false =>
    have HG := Lib.hid hg
    clear hg
    go_wp2_with fail
    go_ret2
    exact ⟨0, by rw [HG.out]; rfl, HB.out⟩
  | true =>
    obtain ⟨hnet, hlen, hts⟩ := goodB_iff.1 hg
    obtain ⟨⟨h1, h2, _, h3⟩, hok⟩ := netB_iff.1 hnet
    have HG := Lib.hid hg
    have HTS := Lib.hid hts
    have HLEN := Lib.hid hlen
    have HOK := Lib.hid hok
    have h48 : ts.length ≤ 48 := by omega
    clear hg hnet hlen hts hok
    go_wp2_with fail
    go_loopg [6] l.length (fun g s6 wr => ∃ k : Nat, k ≤ l.length ∧ g = l.length - k ∧ s6 = .int .i64 k ∧ okTo T ts l k = true ∧ Below w1.heap.size w1 wr)
    case atStart => exact ⟨0, by omega, by omega, rfl, rfl, Below.refl _ _⟩
    case round =>
      obtain ⟨k, hk, hg, rfl, hv, hbr⟩ := hrel
      have HV := Lib.hid hv
      clear hv
      have hblk := (hbr.block w.heap.size z1).trans HBL.out
      have n0 : wr.cell? ⟨w.heap.size, 0, none⟩ = some (.int .i64 T) := by rw [cell_of_row wr _ 0 _ _ _ hblk]; rfl
      have n1 : wr.cell? ⟨w.heap.size, 1, none⟩ = some (.slice E m cE) := by rw [cell_of_row wr _ 1 _ _ _ hblk]; rfl
      have n2 : wr.cell? ⟨w.heap.size, 2, none⟩ = some (.slice A l.length cA) := by rw [cell_of_row wr _ 2 _ _ _ hblk]; rfl
      have hzr : w.heap.size < wr.heap.size := by have := hbr.size; omega
      clear hblk
      by_cases hlt : k < l.length
      · have hlr := hl.below (HB.out.trans (hbr.mono (by omega)))
        obtain ⟨b, off, rfl, hbb, a0, a1, a2, a3, a4, a5⟩ := hlr.ac k hlt
        have hbbr : b < wr.heap.size := by omega
        have htr := ht.belowMore (HB.out.trans (hbr.mono (by omega))) (show w.heap.size ≤ wr.heap.size by omega)
        have HNO := Lib.hid (fun h => feas_no (T := T) (m := m) (ts := ts) hlt h)
        have HYES := Lib.hid (okTo_succ (T := T) (ts := ts) hlt)
        have hoka := HOK.out l[k] (List.getElem_mem hlt)
        have HBR := Lib.hid hbr
        generalize l[k] = a at *
        have hlasts := fun W (hW : Below wr.heap.size wr W) => refLasts_any T m E cE (some ⟨b, off, none⟩) l.length cA B cB ts a W (htr.belowMore hW hW.size) (by omega) (by omega) HTS.out HLEN.out hoka
        have HLS := Lib.hid hlasts
        obtain ⟨dq, hdq⟩ : ∃ q : Int, a.lo + overI T ts a = q := ⟨_, rfl⟩
        rw [hdq] at hlasts HLS
        have HDQ := Lib.hid hdq
        have i0 : (0 : Int) ≤ (k : Int) := by omega
        have i1 : (k : Int) < (l.length : Int) := by omega
        clear hlasts hlr htr hbr hdq hoka ht
        go_upto_region 6 with fail
        have hB : Below wr.heap.size wr wr.drew := (Below.refl _ _).drew
        go_cut [32] (fun s32 wx => s32 = .bool (decide (a.hi < dq)) ∧ Below wr.heap.size wr wx)
        case first =>
          go_region_held3 (fun w' => w'.cell? ⟨w.heap.size, 0, none⟩ = some (.int .i64 T) ∧ w'.cell? ⟨w.heap.size, 1, none⟩ = some (.slice E m cE) ∧ w'.cell? ⟨w.heap.size, 2, none⟩ = some (.slice (some ⟨b, off, none⟩) l.length cA) ∧ w'.cell? ⟨b, off + k * 6, none⟩ = some (.int .i64 a.kind) ∧ w'.cell? ⟨b, off + k * 6 + 1, none⟩ = some (.int .i64 a.src) ∧ w'.cell? ⟨b, off + k * 6 + 2, none⟩ = some (.int .i64 a.dst) ∧ w'.cell? ⟨b, off + k * 6 + 3, none⟩ = some (.int .i64 a.lo) ∧ w'.cell? ⟨b, off + k * 6 + 4, none⟩ = some (.int .i64 a.hi) ∧ w'.cell? ⟨b, off + k * 6 + 5, none⟩ = some (.int .i64 a.wt))
            (exact ⟨(hB.cell (p := ⟨w.heap.size, 0, none⟩) hzr).trans n0, (hB.cell (p := ⟨w.heap.size, 1, none⟩) hzr).trans n1, (hB.cell (p := ⟨w.heap.size, 2, none⟩) hzr).trans n2, (hB.cell (p := ⟨b, off + k * 6, none⟩) hbbr).trans a0, (hB.cell (p := ⟨b, off + k * 6 + 1, none⟩) hbbr).trans a1, (hB.cell (p := ⟨b, off + k * 6 + 2, none⟩) hbbr).trans a2, (hB.cell (p := ⟨b, off + k * 6 + 3, none⟩) hbbr).trans a3, (hB.cell (p := ⟨b, off + k * 6 + 4, none⟩) hbbr).trans a4, (hB.cell (p := ⟨b, off + k * 6 + 5, none⟩) hbbr).trans a5⟩)
            ((go_at_call 69; (with_reducible refine (HLS.out _ hB).mono ?_); rintro e w' ⟨rfl, hb'⟩; replace hB := hB.trans (hb'.mono hB.size)))
          all_goals
            go_wp2_with fail
            go_meet
            exact ⟨rfl, hB⟩
        case rest =>
          obtain ⟨rfl, hbc⟩ := hcut
          have HBC := Lib.hid (HBR.out.trans (hbc.mono HBR.out.size))
          clear hbc hB n0 n1 n2 a0 a1 a2 a3 a4 a5
          by_cases hq : a.hi < dq
          · have hd := decide_eq_true hq
            have HN := Lib.hid (HNO.out (by rw [HDQ.out, decide_eq_false_iff_not]; omega))
            go_wp2_with fail
            go_ret2
            exact ⟨k, by rw [HG.out, HN.out]; rfl, HB.out.trans (HBC.out.mono (by omega))⟩
          · have hd := decide_eq_false hq
            go_wp2_with fail
            go_roundg (l.length - (k + 1))
            case measure => omega
            case rel => exact ⟨k + 1, by omega, rfl, by go_num, by rw [HYES.out, HV.out, HDQ.out, Bool.true_and, decide_eq_true_eq]; omega, HBC.out⟩
      · have HF := Lib.hid (show feasB T m l ts = true by rw [feas_all HG.out (show l.length ≤ k by omega)]; exact HV.out)
        go_wp2_with fail
        go_ret2
        exact ⟨0, by rw [HG.out, HF.out]; rfl, HB.out.trans (hbr.mono (by omega))⟩

set_option maxRecDepth 100000 in
set_option maxHeartbeats 4000000 in
theorem refFeas_any (T : Nat) (E : Option Addr) (m cE : Nat) (A : Option Addr) (cA : Nat) (l : List Acy) (B : Option Addr) (cB : Nat) (ts : List Int) (w : World) (hl : Lst encA 6 w w.heap.size A l) (hn : l.length ≤ 9223372036854775807) (ht : Lst encI 1 w w.heap.size B ts) (hn' : ts.length ≤ 9223372036854775807) :
    Calls Try.prog 27 #[netV T E m cE A l.length cA, .slice B ts.length cB] w fun e w' => e = .returned (.bool (feasB T m l ts)) ∧ Below w.heap.size w w' := by
  have ba := belA w (.cells #[.int .i64 T, .slice E m cE, .slice A l.length cA] 25)
  have hnew := heap_alloc_new w (.cells #[.int .i64 T, .slice E m cE, .slice A l.length cA] 25)
  go_enter Try.func27, Try.ntmps27
  go_wp2_with fail
  refine (refFirst_any T E m cE A cA l B cB ts _ (hl.belowMore ba (by simp)) hn (ht.belowMore ba (by simp)) hn').mono ?_
  rintro e w1 ⟨i, rfl, hb⟩
  rw [World.size_alloc] at hb
  have hbl := (hb.block w.heap.size (by omega)).trans hnew
  have hB := ba.trans (hb.mono (show w.heap.size ≤ w.heap.size + 1 by omega))
  have z1 : w.heap.size < w1.heap.size := by have := hb.size; rw [World.size_alloc] at this; omega
  have n0 : w1.cell? ⟨w.heap.size, 0, none⟩ = some (.int .i64 T) := by rw [cell_of_row w1 _ 0 _ _ _ hbl]; rfl
  have n1 : w1.cell? ⟨w.heap.size, 1, none⟩ = some (.slice E m cE) := by rw [cell_of_row w1 _ 1 _ _ _ hbl]; rfl
  have n2 : w1.cell? ⟨w.heap.size, 2, none⟩ = some (.slice A l.length cA) := by rw [cell_of_row w1 _ 2 _ _ _ hbl]; rfl
  have HG := Lib.hid (refGood_any T E m cE A cA l B cB ts w1 (hl.belowMore hB (by omega)) hn (ht.belowMore hB (by omega)) hn')
  have HB := Lib.hid hB
  clear ba hb hnew hbl hB
  have hfg : feasB T m l ts = true → goodB T m l ts = true := fun h => (feas_iff.1 h).1
  obtain ⟨f, hf⟩ : ∃ q, feasB T m l ts = q := ⟨_, rfl⟩
  obtain ⟨g, hg⟩ : ∃ q, goodB T m l ts = q := ⟨_, rfl⟩
  have HF := Lib.hid hf
  have HGG := HG.out
  rw [hf, hg] at hfg ⊢
  rw [hg] at HGG
  clear HG hf hg
  have HG := Lib.hid HGG
  clear HGG
  cases g with
  | false =>
    have hf : f = false := by cases f with
      | false => rfl
      | true => exact absurd (hfg rfl) (by simp)
    subst hf
    clear hfg
    go_wp2_with fail
    refine HG.out.mono ?_
    rintro e w2 ⟨rfl, hb2⟩
    go_wp2_with fail
    go_ret
    exact ⟨ret_bool (by rw [HF.out]), HB.out.trans (hb2.mono (by omega))⟩
  | true =>
    clear hfg
    go_wp2_with fail
    refine HG.out.mono ?_
    rintro e w2 ⟨rfl, hb2⟩
    go_wp2_with fail
    go_ret
    exact ⟨ret_bool (by rw [HF.out]), HB.out.trans (hb2.mono (by omega))⟩

end Go.Proofs.Ytbhjnihcmfagjaa
