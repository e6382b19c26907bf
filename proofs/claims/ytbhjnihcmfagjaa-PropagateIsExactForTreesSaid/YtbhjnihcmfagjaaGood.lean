/-
  Contract of Allows.
-/
import Derived.Test.YtbhjnihcmfagjaaL13A
import Derived.Test.YtbhjnihcmfagjaaGd
set_option linter.unusedVariables false
set_option linter.unusedSimpArgs false
namespace Go.Proofs.Ytbhjnihcmfagjaa
open Go.RowKit Go.Shelf RP

/-- What Allows returns. -/
def allowB (m T : Nat) (l : List Acy) (D : Tab) (e : Bool) (ts : List Int) : Bool :=
  goodB T m l ts && (!e && (List.range m).all fun i => (List.range m).all fun j => D i j (res T (ts.getD j 0 - ts.getD i 0)))
def rowB (T : Nat) (D : Tab) (ts : List Int) (i n : Nat) : Bool := (List.range n).all fun j => D i j (res T (ts.getD j 0 - ts.getD i 0))
theorem rowB_succ {T : Nat} {D : Tab} {ts : List Int} {i n : Nat} : rowB T D ts i (n + 1) = (rowB T D ts i n && D i n (res T (ts.getD n 0 - ts.getD i 0))) := by
  unfold rowB; rw [List.range_succ, List.all_append]; simp
theorem rowB_le {T : Nat} {D : Tab} {ts : List Int} {i n k : Nat} (h : rowB T D ts i k = false) (hk : k ≤ n) : rowB T D ts i n = false := by
  unfold rowB at *
  rw [List.all_eq_false] at *
  obtain ⟨x, hx, hx'⟩ := h
  exact ⟨x, by rw [List.mem_range] at *; omega, hx'⟩
theorem allRow_succ {m T : Nat} {D : Tab} {ts : List Int} {n : Nat} : ((List.range (n + 1)).all fun i => rowB T D ts i m) = (((List.range n).all fun i => rowB T D ts i m) && rowB T D ts n m) := by
  rw [List.range_succ, List.all_append]; simp
theorem allRow_false {m T : Nat} {D : Tab} {ts : List Int} {n : Nat} (hn : n < m) (h : rowB T D ts n m = false) : ((List.range m).all fun i => rowB T D ts i m) = false := by
  rw [List.all_eq_false]
  exact ⟨n, by rw [List.mem_range]; exact hn, by rw [h]; simp⟩

set_option maxRecDepth 100000 in
set_option maxHeartbeats 8000000 in
theorem allows_any (gt m T : Nat) (l : List Acy) (D : Tab) (e : Bool) (B : Option Addr) (cB : Nat) (ts : List Int) (w : World) (h : Shut13 w gt m T l D e) (ht : Lst encI 1 w w.heap.size B ts) (hn' : ts.length ≤ 9223372036854775807) :
    Calls Try.prog 28 #[.pointer (some ⟨gt, 0, none⟩), .slice B ts.length cB] w fun ex w' => ex = .returned (.bool (allowB m T l D e ts)) ∧ Below w.heap.size w w' := by
  obtain ⟨⟨gs, M, E, cE, A, cA, hT, hrow⟩, hfin, hnet⟩ := h
  have hsz := hT.mT
  have hll : l.length ≤ 512 := (netB_iff.1 hnet).1.2.2.2
  have c0 := hT.c0
  have c1 := hT.c1
  have c2 : w.cell? ⟨gt, 2, none⟩ = some (.slice A l.length cA) := by rw [cell_of_row w gt 2 _ _ _ hT.tab]; rfl
  have HT := Lib.hid hT
  have hlst := hrow.lst
  clear hrow hfin
  go_enter Try.func28, Try.ntmps28
  go_wp2_with fail
  refine (good_any T E m cE A cA l B cB ts w hlst (by omega) ht hn').mono ?_
  rintro ex w1 ⟨rfl, hb1⟩
  have HT1 := Lib.hid (HT.out.below hb1)
  have d0 := HT1.out.c0
  have d1 := HT1.out.c1
  have d3 := HT1.out.c3
  have d6 := HT1.out.c6
  have gX := HT1.out.gtlt
  have sX := HT1.out.gslt
  have HB1 := Lib.hid hb1
  have HTS := Lib.hid (ht.belowMore hb1 hb1.size)
  clear c0 c1 c2 hb1 hlst ht
  cases hg : goodB T m l ts with
  | false =>
    have HG := Lib.hid hg
    clear hg
    go_wp2_with fail
    go_ret
    exact ⟨ret_bool (by rw [allowB, HG.out]; rfl), HB1.out⟩
  | true =>
    have HG := Lib.hid hg
    obtain ⟨_, hlen, hts⟩ := goodB_iff.1 hg
    clear hg
    cases e with
    | true =>
      go_wp2_with fail
      go_ret
      exact ⟨ret_bool (by rw [allowB, HG.out]; rfl), HB1.out⟩
    | false =>
      have HTT := Lib.hid hts
      have HLEN := Lib.hid hlen
      have HA := Lib.hid (show allowB m T l D false ts = ((List.range m).all fun i => rowB T D ts i m) by rw [allowB, HG.out]; rfl)
      clear hts hlen
      go_wp2_with fail
      go_loopg [5, 6, 7, 8, 24] ts.length (fun g s5 s6 s7 s8 s24 wr => ∃ k : Nat, k ≤ ts.length ∧ g = ts.length - k ∧ s24 = .int .i64 k ∧ ((List.range k).all fun i => rowB T D ts i m) = true ∧ Below w1.heap.size w1 wr)
      case atStart => exact ⟨0, by omega, by omega, rfl, rfl, Below.refl _ _⟩
      case round =>
        obtain ⟨i, hi, hg, rfl, hv, hb⟩ := hrel
        have HV := Lib.hid hv
        clear hv
        by_cases hlt : i < ts.length
        · obtain ⟨b, off, rfl, hbb, a0⟩ := (HTS.out.below hb).it i hlt
          have hxi := HTT.out ts[i] (List.getElem_mem hlt)
          have HGI := Lib.hid (show ts.getD i 0 = ts[i] by simp [hlt])
          generalize ts[i] = x at *
          have HB := Lib.hid hb
          clear hb
          go_wp2_with fail
          obtain ⟨wo, rfl⟩ : ∃ wo : World, wo = wr := ⟨_, rfl⟩
          go_loopg [7, 8, 31] ts.length (fun g' s7 s8 s31 wr => ∃ k : Nat, k ≤ ts.length ∧ g' = ts.length - k ∧ s31 = .int .i64 k ∧ rowB T D ts i k = true ∧ Below w1.heap.size w1 wr)
          case atStart => exact ⟨0, by omega, by omega, rfl, rfl, HB.out⟩
          case round =>
            obtain ⟨j, hj, hg', rfl, hv', hb⟩ := hrel
            have HV' := Lib.hid hv'
            clear hv' a0
            by_cases hlt' : j < ts.length
            · obtain ⟨b', off', hAd, hbb', a0⟩ := (HTS.out.below hb).it j hlt'
              injection hAd with hAd
              injection hAd with hA1 hA2
              subst hA1 hA2
              have hxj := HTT.out ts[j] (List.getElem_mem hlt')
              have HGJ := Lib.hid (show ts.getD j 0 = ts[j] by simp [hlt'])
              generalize ts[j] = y at *
              have him : i < m := by have := HLEN.out; omega
              have hjm : j < m := by have := HLEN.out; omega
              obtain ⟨A1, c1, s1, s2, r1, b1, b2⟩ := HT1.out.set i j him hjm
              have hat := fun W (k1 : W.cell? ⟨gt, 1, none⟩ = some (.slice E m cE)) => at_any gt m E cE i j W k1 hsz.1 him hjm
              have hix := idx_lt him hjm
              have hln := runs_len (D i j) T
              have HSU := Lib.hid (rowB_succ (T := T) (D := D) (ts := ts) (i := i) (n := j))
              obtain ⟨ans, hans⟩ : ∃ q, D i j (res T (y - x)) = q := ⟨_, rfl⟩
              have HAN := Lib.hid (show D i j (res T (ts.getD j 0 - ts.getD i 0)) = ans by rw [HGI.out, HGJ.out]; exact hans)
              have hhas : ∀ W, Below w1.heap.size w1 W → Calls Try.prog 52 #[.int .i64 T, .slice A1 (runs (D i j) T).length c1, .int .i64 (y - x)] W fun e w' => e = .returned (.bool ans) ∧ Below W.heap.size W w' := fun W hW => by
                have := hasPub_any T A1 c1 (runs (D i j) T) (y - x) W (r1.lst.belowMore hW hW.size) (by omega) (by omega) (by omega)
                rw [has_runs hsz.2.1 hsz.2.2, hans] at this
                exact this
              have HHAS := Lib.hid hhas
              have sw : IntKind.i64.wrap (y - x) = y - x := IntWalk.i64_in _ (by omega)
              clear hans hhas r1 b1 b2 s2
              generalize hmm : m * m = mm at d3 hix
              generalize hp : i * m + j = p at *
              have ip0 : (0 : Int) ≤ (p : Int) := by omega
              have ip1 : (p : Int) < (mm : Int) := by omega
              clear hmm hp
              go_upto_region 9 with fail
              have hB := hb.drew
              go_cut [56] (fun s56 wx => s56 = .bool (!ans) ∧ Below w1.heap.size w1 wx)
              case first =>
                go_region_held3 (fun w' => w'.cell? ⟨gt, 0, none⟩ = some (.int .i64 T) ∧ w'.cell? ⟨gt, 1, none⟩ = some (.slice E m cE) ∧ w'.cell? ⟨gt, 3, none⟩ = some (.slice (some ⟨gs, 0, none⟩) mm mm) ∧ w'.cell? ⟨gs, p * 2, none⟩ = some (.slice A1 (runs (D i j) T).length c1))
                  (exact ⟨(hB.cell (p := ⟨gt, 0, none⟩) gX).trans d0, (hB.cell (p := ⟨gt, 1, none⟩) gX).trans d1, (hB.cell (p := ⟨gt, 3, none⟩) gX).trans d3, (hB.cell (p := ⟨gs, p * 2, none⟩) sX).trans s1⟩)
                  (first
                    | (go_at_call 38; refine (hat _ ((hB.cell (p := ⟨gt, 1, none⟩) gX).trans d1)).mono ?_; rintro e w' ⟨rfl, rfl⟩)
                    | (go_at_call 52; refine (HHAS.out _ hB).mono ?_; rintro e wx ⟨rfl, hbx⟩; replace hB := hB.trans (hbx.mono hB.size)))
                all_goals
                  go_wp2_with fail
                  go_meet
                  exact ⟨rfl, hB⟩
              case rest =>
                obtain ⟨rfl, hbc⟩ := hcut
                have HBC := Lib.hid hbc
                clear hbc hB hb sw s1 hat a0
                cases ans with
                | false =>
                  have HF := Lib.hid (show rowB T D ts i m = false from rowB_le (k := j + 1) (by rw [HSU.out, HAN.out, Bool.and_false]) (by omega))
                  go_wp2_with fail
                  go_ret
                  exact ⟨ret_bool (by rw [HA.out]; exact (allRow_false him HF.out).symm), HB1.out.trans (HBC.out.mono HB1.out.size)⟩
                | true =>
                  go_wp2_with fail
                  go_roundg (ts.length - (j + 1))
                  case measure => omega
                  case rel => exact ⟨j + 1, by omega, rfl, by go_num, by rw [HSU.out, HV'.out, HAN.out]; rfl, HBC.out⟩
            · have HR := Lib.hid (show rowB T D ts i m = true by have := HV'.out; rw [show j = m by have := HLEN.out; omega] at this; exact this)
              go_wp2_with fail
              go_roundg (ts.length - (i + 1))
              case measure => omega
              case rel => exact ⟨i + 1, by omega, rfl, by go_num, by rw [allRow_succ, HV.out, HR.out]; rfl, hb⟩
        · have HR := Lib.hid (show ((List.range m).all fun i => rowB T D ts i m) = true by have := HV.out; rw [show i = m by have := HLEN.out; omega] at this; exact this)
          go_wp2_with fail
          go_ret
          exact ⟨ret_bool (by rw [HA.out]; exact HR.out.symm), HB1.out.trans (hb.mono HB1.out.size)⟩

end Go.Proofs.Ytbhjnihcmfagjaa
