/-
  Contract of the reference's starts (chapter 24).
-/
import Derived.Test.YtaongejpbgjbiaaRolB
import Derived.Test.YtaongejpbgjbiaaCalRB
set_option linter.unusedVariables false
set_option linter.unusedSimpArgs false
namespace RP
section
variable (T : Nat) (s : List Svc) (x : List Exc) (res : Int) (a : Svc)
/-- The seconds of the day, and the starts of a service. -/
def dayS (d : Nat) : List Int := if runsB s x a.line d then secL T ((d : Int) * 86400 + a.fst) res (a.lst - a.fst + 1).toNat else []
def stS : Nat → List Int
  | 0 => []
  | d + 1 => stS d ++ dayS T s x res a d
theorem dayS_len (f0 : 0 ≤ a.fst) (f2 : a.lst < 86400) (d : Nat) : (dayS T s x res a d).length ≤ 86400 := by
  unfold dayS
  split
  · have := secL_len T ((d : Int) * 86400 + a.fst) res (a.lst - a.fst + 1).toNat
    omega
  · simp
theorem stS_len (f0 : 0 ≤ a.fst) (f2 : a.lst < 86400) : ∀ d, (stS T s x res a d).length ≤ 86400 * d
  | 0 => by simp [stS]
  | d + 1 => by
    have := stS_len f0 f2 d
    have := dayS_len T s x res a f0 f2 d
    simp only [stS, List.length_append]
    omega
end
end RP
namespace Go.Proofs.Ytaongejpbgjbiaa
open Go.RowKit RP

set_option maxRecDepth 100000 in
set_option maxHeartbeats 8000000 in
theorem starts_any (T : Nat) (E : Option Addr) (cE : Nat) (A : Option Addr) (n cA : Nat) (ev : List Evt) (B' : Option Addr) (cB : Nat) (ts : List Int) (D : Nat) (a : Svc) (S : Option Addr) (cS : Nat) (s : List Svc) (X : Option Addr) (cX : Nat) (x : List Exc) (p0 : Nat) (w : World)
    (he : Lst encE 3 w w.heap.size E ev) (ht : Lst encI 1 w w.heap.size B' ts) (hs : Lst encV 4 w w.heap.size S s) (hx : Lst encX 3 w w.heap.size X x)
    (h1 : 1 ≤ T) (h2 : T ≤ 7200) (hD : D ≤ 31) (hev : ev.length ≤ 48) (htn : ts.length ≤ 48) (hns : s.length ≤ 16) (hnx : x.length ≤ 1000) (hda : ∀ b ∈ s, R64 b.days)
    (hp : fidx (fun e => decide (e = ((1 : Int), a.line, ((0 : Nat) : Int)))) ev = p0) (hp2 : p0 < ts.length) (f0 : 0 ≤ a.fst) (f1 : a.fst ≤ a.lst) (f2 : a.lst < 86400) :
    Calls Try.prog 45 #[netV T E ev.length cE A n cA, .slice B' ts.length cB, .int .i64 D, .agg #[.int .i64 a.line, .int .i64 a.days, .int .i64 a.fst, .int .i64 a.lst], .slice S s.length cS, .slice X x.length cX] w fun e w' => ∃ v, e = .returned v ∧ OwnN w' w.heap.size v (stS T s x (ts.getD p0 0) a D) ∧ Below w.heap.size w w' := by
  have ba := belA w (.cells #[.int .i64 T, .slice E ev.length cE, .slice A n cA] 43)
  have hn := heap_alloc_new w (.cells #[.int .i64 T, .slice E ev.length cE, .slice A n cA] 43)
  have z0 : (w.alloc (.cells #[.int .i64 T, .slice E ev.length cE, .slice A n cA] 43)).heap.size = w.heap.size + 1 := by simp
  have bb := belA (w.alloc (.cells #[.int .i64 T, .slice E ev.length cE, .slice A n cA] 43)) (.cells #[.int .i64 a.line, .int .i64 a.days, .int .i64 a.fst, .int .i64 a.lst] 34)
  have hm := heap_alloc_new (w.alloc (.cells #[.int .i64 T, .slice E ev.length cE, .slice A n cA] 43)) (.cells #[.int .i64 a.line, .int .i64 a.days, .int .i64 a.fst, .int .i64 a.lst] 34)
  rw [z0] at hm
  have z1 : ((w.alloc (.cells #[.int .i64 T, .slice E ev.length cE, .slice A n cA] 43)).alloc (.cells #[.int .i64 a.line, .int .i64 a.days, .int .i64 a.fst, .int .i64 a.lst] 34)).heap.size = w.heap.size + 2 := by rw [World.size_alloc, z0]
  have hB := ba.trans (bb.mono (by omega))
  have HE := Lib.hid (he.belowMore hB hB.size)
  have HT := Lib.hid (ht.belowMore hB hB.size)
  have HS := Lib.hid (hs.belowMore hB hB.size)
  have HX := Lib.hid (hx.belowMore hB hB.size)
  have HB := Lib.hid hB
  have HN := Lib.hid (BxN.mk ((bb.block w.heap.size (by omega)).trans hn))
  have HM := Lib.hid hm
  have HP := Lib.hid hp
  have HDA := Lib.hid hda
  have hlen := stS_len T s x (ts.getD p0 0) a f0 f2
  have hgz : w.heap.size + 1 < ((w.alloc (.cells #[.int .i64 T, .slice E ev.length cE, .slice A n cA] 43)).alloc (.cells #[.int .i64 a.line, .int .i64 a.days, .int .i64 a.fst, .int .i64 a.lst] 34)).heap.size := by omega
  clear he ht hs hx hda hp ba bb hn hm hB z0 z1
  go_enter Try.func45, Try.ntmps45
  go_wp2_with fail
  generalize (w.alloc (.cells #[.int .i64 T, .slice E ev.length cE, .slice A n cA] 43)).alloc (.cells #[.int .i64 a.line, .int .i64 a.days, .int .i64 a.fst, .int .i64 a.lst] 34) = w0 at *
  obtain ⟨n0, n1, n2, ng⟩ := HN.out.cells
  have c0 : w0.cell? ⟨w.heap.size + 1, 0, none⟩ = some (.int .i64 a.line) := by rw [cell_of_row w0 _ 0 _ _ _ HM.out]; rfl
  have hi := refIdx_any 1 a.line 0 T E cE A n cA ev w0 HE.out (by omega)
  have hp' : fidx (fun e : Evt => decide (e = ((1 : Int), a.line, (0 : Int)))) ev = p0 := HP.out
  rw [hp'] at hi
  clear hp'
  go_wp2_with fail
  refine hi.mono ?_
  rintro e w1 ⟨rfl, hb1⟩
  obtain ⟨tb, tq, rfl, ztb, t0⟩ := (HT.out.belowMore hb1 hb1.size).it p0 hp2
  have hres : ts.getD p0 0 = ts[p0] := by simp [hp2]
  rw [← hres] at t0
  clear hres
  generalize hrs : ts.getD p0 0 = res at *
  have HRS := Lib.hid hrs
  have i0 : (0 : Int) ≤ (p0 : Int) := by omega
  have i1 : (p0 : Int) < (ts.length : Int) := by omega
  have HB1 := Lib.hid hb1
  clear hrs hi hb1 n0 n1 n2 c0
  go_wp2_with fail
  go_loopg [13, 15, 16] D (fun g s13 s15 s16 wr => ∃ d : Nat, d ≤ D ∧ g = D - d ∧ s15 = .int .i64 d ∧ OwnN wr w0.heap.size s13 (stS T s x res a d) ∧ Below w0.heap.size w0 wr)
  case atStart => exact ⟨0, by omega, by omega, rfl, Own.nil _ _ _ _ _, HB1.out⟩
  case round =>
    obtain ⟨d, hd, hg, rfl, ho, hb⟩ := hrel
    have HO := Lib.hid ho
    by_cases hlt : d < D
    · have HBM := Lib.hid ((hb.block (w.heap.size + 1) hgz).trans HM.out)
      have c0 : wr.cell? ⟨w.heap.size + 1, 0, none⟩ = some (.int .i64 a.line) := by rw [cell_of_row wr _ 0 _ _ _ HBM.out]; rfl
      have hrw := refRuns_any a.line d S cS s X cX x wr (HS.out.belowMore hb hb.size) (by omega) (HX.out.belowMore hb hb.size) (by omega) HDA.out ⟨by omega, by omega⟩
      have HSD := Lib.hid (show stS T s x res a (d + 1) = stS T s x res a d ++ dayS T s x res a d from rfl)
      have HDD := Lib.hid (show dayS T s x res a d = if runsB s x a.line d then secL T ((d : Int) * 86400 + a.fst) res (a.lst - a.fst + 1).toNat else [] from rfl)
      have hl1 := hlen d
      have HB2 := Lib.hid hb
      clear ho hb
      go_wp2_with fail
      refine hrw.mono ?_
      rintro e w3 ⟨rfl, hb3⟩
      have HO3 := Lib.hid (HO.out.below' hb3)
      have HB3 := Lib.hid (HB2.out.trans (hb3.mono HB2.out.size))
      clear hrw hb3 HO HB2 c0
      cases hrb : runsB s x a.line d with
      | false =>
        rw [hrb] at HDD
        clear hrb
        go_wp2_with fail
        go_roundg (D - (d + 1))
        case measure => omega
        case rel => exact ⟨d + 1, by omega, rfl, by go_num, by rw [HSD.out, HDD.out]; simpa using HO3.out, HB3.out⟩
      | true =>
        rw [hrb] at HDD
        clear hrb
        have HBM3 := Lib.hid ((HB3.out.block (w.heap.size + 1) hgz).trans HM.out)
        have c2 : w3.cell? ⟨w.heap.size + 1, 2, none⟩ = some (.int .i64 a.fst) := by rw [cell_of_row w3 _ 2 _ _ _ HBM3.out]; rfl
        go_wp2_with fail
        clear c2
        go_loopg [13, 16] (a.lst - a.fst + 1).toNat (fun g s13 s16 wz => ∃ (j : Nat) (u : Int), j ≤ (a.lst - a.fst + 1).toNat ∧ g = (a.lst - a.fst + 1).toNat - j ∧ s16 = .int .i64 u ∧ u = a.fst + j ∧ OwnN wz w0.heap.size s13 (stS T s x res a d ++ secL T ((d : Int) * 86400 + a.fst) res j) ∧ Below w0.heap.size w0 wz)
        case atStart => exact ⟨0, a.fst, by omega, by omega, rfl, by omega, by simpa [secL] using HO3.out, HB3.out⟩
        case round =>
          obtain ⟨j, u, hj, hg2, rfl, hu, ho, hb⟩ := hrel
          have HBM4 := Lib.hid ((hb.block (w.heap.size + 1) hgz).trans HM.out)
          have c3 : wr.cell? ⟨w.heap.size + 1, 3, none⟩ = some (.int .i64 a.lst) := by rw [cell_of_row wr _ 3 _ _ _ HBM4.out]; rfl
          obtain ⟨n0, n1, n2, ng2⟩ := (HN.out.below hb (by omega)).cells
          have HO4 := Lib.hid ho
          have HB4 := Lib.hid hb
          have z4 := hb.size
          have hsl := secL_len T ((d : Int) * 86400 + a.fst) res j
          have HSE := Lib.hid (show secL T ((d : Int) * 86400 + a.fst) res (j + 1) = secL T ((d : Int) * 86400 + a.fst) res j ++ (if ((d : Int) * 86400 + a.fst + j) % (T : Int) = res then [(d : Int) * 86400 + a.fst + (j : Int)] else []) from rfl)
          have HU := Lib.hid hu
          have hu0 : a.fst ≤ u := by omega
          have hT0 : ¬ (T : Int) = 0 := by omega
          have hT1 : ¬ T = 0 := by omega
          clear ho hb
          by_cases hle : u ≤ a.lst
          · have hju : j < (a.lst - a.fst + 1).toNat := by omega
            clear hu
            by_cases hm : ((d : Int) * 86400 + u) % (T : Int) = res
            · have HM1 := Lib.hid (show ((d : Int) * 86400 + a.fst + j) % (T : Int) = res by rw [← hm, HU.out]; congr 1; omega)
              have g1 : (((d : Int) * 86400 + u) % (T : Int) == res) = true := by simpa using hm
              rw [if_pos HM1.out] at HSE
              clear hm
              go_wp2_with (at_builtin; refine Stp.put ?_)
              refine Stp.out ?_
              refine wpList_append_rec rfl _ _ 29 rfl w0.heap.size 3 8 Try.underlying29 elemN _ (stS T s x res a d ++ secL T ((d : Int) * 86400 + a.fst) res j) rfl HO4.out [(d : Int) * 86400 + u] _ rfl 1 1 rfl rfl (by simp only [Go.maxLen, List.length_cons, List.length_nil, List.length_append]; omega) (by simp only [List.length_cons, List.length_nil, List.length_append]; omega) z4 ?_
              intro v6 w6 ho6 hg6 hat6
              have HO6 := Lib.hid ho6
              have HB6 := Lib.hid (HB4.out.grown hg6 z4 (fun q e => (World.ownsRow.lt HO4.out q e).1))
              clear ho6 hg6 hat6
              go_wp2_with fail
              go_roundg ((a.lst - a.fst + 1).toNat - (j + 1))
              case measure => omega
              case rel => exact ⟨j + 1, u + 1, by omega, rfl, rfl, by have := HU.out; omega, by rw [HSE.out, ← List.append_assoc, show (d : Int) * 86400 + a.fst + (j : Int) = (d : Int) * 86400 + u by have := HU.out; omega]; exact HO6.out, HB6.out⟩
            · have HM1 := Lib.hid (show ¬ ((d : Int) * 86400 + a.fst + j) % (T : Int) = res by intro q; apply hm; rw [← q, HU.out]; congr 1; omega)
              have g1 : (((d : Int) * 86400 + u) % (T : Int) == res) = false := by simpa using hm
              rw [if_neg HM1.out] at HSE
              clear hm
              go_wp2_with fail
              go_roundg ((a.lst - a.fst + 1).toNat - (j + 1))
              case measure => omega
              case rel => exact ⟨j + 1, u + 1, by omega, rfl, rfl, by have := HU.out; omega, by rw [HSE.out, List.append_nil]; exact HO4.out, HB4.out⟩
          · have HJ := Lib.hid (show j = (a.lst - a.fst + 1).toNat by omega)
            clear hu
            go_wp2_with fail
            go_roundg (D - (d + 1))
            case measure => omega
            case rel => exact ⟨d + 1, by omega, rfl, by go_num, by rw [HSD.out, HDD.out, if_pos (by trivial), ← HJ.out]; exact HO4.out, HB4.out⟩
    · have hE : d = D := by omega
      subst hE
      have HF := Lib.hid (And.intro (ho.rebase (b' := w.heap.size) (by omega)) (HB.out.trans (hb.mono (by omega))))
      clear ho hb HO
      go_wp2_with fail
      go_ret
      exact ⟨_, rfl, by rw [HRS.out]; exact HF.out.1, HF.out.2⟩
end Go.Proofs.Ytaongejpbgjbiaa
