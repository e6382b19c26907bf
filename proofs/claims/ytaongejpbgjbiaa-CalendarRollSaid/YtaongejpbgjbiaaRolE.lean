/-
  Plain: the reference's starts are the trips of a service (chapter 24).
  Contracts of the reference's checked and Count (chapter 24), where all is well.
-/
import Derived.Test.YtaongejpbgjbiaaRolC
import Derived.Test.YtaongejpbgjbiaaTimQ
import Derived.Test.YtaongejpbgjbiaaCalKR
set_option linter.unusedVariables false
set_option linter.unusedSimpArgs false
namespace RP
theorem secL_day {T : Nat} (h1 : 1 ≤ T) {a : Svc} {res : Int} (r0 : 0 ≤ res) (r1 : res < T) (f0 : 0 ≤ a.fst) (f1 : a.fst ≤ a.lst) (d : Nat) :
    secL T ((d : Int) * 86400 + a.fst) res (a.lst - a.fst + 1).toNat = (List.range (depN T d a res).toNat).map fun i : Nat => depF T d a res + i * T := by
  obtain ⟨n, e, h2, h3⟩ := secL_eq h1 (base := (d : Int) * 86400 + a.fst) r0 r1 (a.lst - a.fst + 1).toNat
  rw [e]
  have hf : depF T d a res = (d : Int) * 86400 + a.fst + (res - ((d : Int) * 86400 + a.fst)) % T := rfl
  rw [← hf] at h2 h3
  rw [hf]
  have hn : (depN T d a res).toNat = n := by
    unfold depN
    rw [hf]
    rw [hf] at h2 h3
    generalize (d : Int) * 86400 + a.fst + (res - ((d : Int) * 86400 + a.fst)) % (T : Int) = f at *
    have hK : ((a.lst - a.fst + 1).toNat : Int) = a.lst - a.fst + 1 := Int.toNat_of_nonneg (by omega)
    rw [hK] at h2 h3
    by_cases q : (d : Int) * 86400 + a.lst < f
    · rw [if_pos q]
      rcases Nat.eq_zero_or_pos n with hz | hz
      · rw [hz]; rfl
      · have := h3 hz
        have : (0 : Int) ≤ ((n : Int) - 1) * T := Int.mul_nonneg (by omega) (by omega)
        omega
    · rw [if_neg q]
      have hn1 : 0 < n := by
        rcases Nat.eq_zero_or_pos n with hz | hz
        · rw [hz] at h2; simp at h2; omega
        · exact hz
      have h4 := h3 hn1
      have hd : ((d : Int) * 86400 + a.lst - f) / (T : Int) = (n : Int) - 1 := by
        have t1 : (n : Int) - 1 ≤ ((d : Int) * 86400 + a.lst - f) / T := (Int.le_ediv_iff_mul_le (show (0 : Int) < T by omega)).2 (by omega)
        have t2 : ((d : Int) * 86400 + a.lst - f) / (T : Int) < n := Int.ediv_lt_of_lt_mul (show (0 : Int) < T by omega) (by omega)
        omega
      rw [hd]; omega
  rw [hn]
section
variable {T : Nat} {s : List Svc} {x : List Exc} {pf : Int → PatP} {a : Svc} (h1 : 1 ≤ T) (h : SvcOk T pf a)
include h1 h
theorem dayS_map (d : Nat) : dayT T s x pf a d = (dayS T s x (pf a.line).res a d).map fun sec => mkT a.line (sec / 86400) (pf a.line) sec := by
  obtain ⟨f0, f1, f2, r0, r1⟩ := h
  unfold dayT dayS
  split
  · rw [secL_day h1 r0 r1 f0 f1, List.map_map]
    unfold runT
    refine List.map_congr_left fun i hi => ?_
    rw [List.mem_range] at hi
    have hr := depN_range (T := T) (day := d) (a := a) (res := (pf a.line).res) h1 (by omega) f0 f1 f2
    have hin := dep_in (T := T) (day := d) (a := a) (res := (pf a.line).res) (i := i) h1 f1 (by omega)
    show mkT a.line d _ _ = mkT a.line ((depF T d a (pf a.line).res + i * T) / 86400) _ _
    rw [show (depF T d a (pf a.line).res + (i : Int) * T) / 86400 = (d : Int) by omega]
  · rfl
theorem stS_map : ∀ D : Nat, svcT T s x pf a D = (stS T s x (pf a.line).res a D).map fun sec => mkT a.line (sec / 86400) (pf a.line) sec
  | 0 => rfl
  | D + 1 => by rw [svcT_succ, stS_map D, dayS_map h1 h D]; simp only [stS, List.map_append]
theorem stS_bound : ∀ D : Nat, ∀ z ∈ stS T s x (pf a.line).res a D, 0 ≤ z ∧ z ≤ (D : Int) * 86400
  | 0 => by simp [stS]
  | D + 1 => fun z hz => by
    simp only [stS] at hz
    rcases List.mem_append.1 hz with hz | hz
    · have := stS_bound D z hz; omega
    · obtain ⟨f0, f1, f2, r0, r1⟩ := h
      unfold dayS at hz
      split at hz
      · rw [secL_day h1 r0 r1 f0 f1] at hz
        obtain ⟨i, hi, rfl⟩ := List.mem_map.1 hz
        rw [List.mem_range] at hi
        have hr := depN_range (T := T) (day := D) (a := a) (res := (pf a.line).res) h1 (by omega) f0 f1 f2
        have hin := dep_in (T := T) (day := D) (a := a) (res := (pf a.line).res) (i := i) h1 f1 (by omega)
        omega
      · cases hz
theorem stS_svcN (D : Nat) : ((stS T s x (pf a.line).res a D).length : Int) = svcN T s x pf a D := by
  rw [← svcT_len h1 h D, stS_map h1 h D, List.length_map]
end
/-- Insertion of a trip at its place. -/
def insT (t : TripP) (l : List TripP) : List TripP := l.filter (fun u => leT u t) ++ t :: l.filter (fun u => !leT u t)
end RP

namespace Go.Proofs.Ytaongejpbgjbiaa
open Go.RowKit RP
attribute [local go_sem ↓] Go.wp_at_zero Go.wp_at_succ

set_option maxRecDepth 100000 in
set_option maxHeartbeats 8000000 in
theorem refChecked_any {T D : Nat} {ts : List Int} {ev : List Evt} {ac : List Acy} {s : List Svc} {x : List Exc} {pf : Int → PatP} (h : RollOk T ts ev ac D s x pf) (hr : ∀ e ∈ ev, R64 e.2.1) (hev : ev.length ≤ 48) (hac : ac.length ≤ 512) (htn : ts.length ≤ 48) (E : Option Addr) (cE : Nat) (A : Option Addr) (cA : Nat) (B' : Option Addr) (cB : Nat) (S : Option Addr) (cS : Nat) (X : Option Addr) (cX : Nat) (w : World)
    (hcS : s.length ≤ cS) (hcS2 : cS ≤ 9223372036854775807) (hcX : x.length ≤ cX) (hcX2 : cX ≤ 9223372036854775807)
    (he : Lst encE 3 w w.heap.size E ev) (hl : Lst encA 6 w w.heap.size A ac) (ht : Lst encI 1 w w.heap.size B' ts) (hs : Lst encV 4 w w.heap.size S s) (hx : Lst encX 3 w w.heap.size X x) :
    Calls Try.prog 47 #[netV T E ev.length cE A ac.length cA, .slice B' ts.length cB, .int .i64 D, .slice S s.length cS, .slice X x.length cX] w fun e w' => e = .returned (.int .i64 0) ∧ Below w.heap.size w w' := by
  have hns := h.ns
  have hnx := h.nx
  have hD := h.le
  have HH := Lib.hid h
  have hlp := linesP_range ev
  have ba := belA w (.cells #[.int .i64 T, .slice E ev.length cE, .slice A ac.length cA] 43)
  have hn := heap_alloc_new w (.cells #[.int .i64 T, .slice E ev.length cE, .slice A ac.length cA] 43)
  have hg0 : w.heap.size < (w.alloc (.cells #[.int .i64 T, .slice E ev.length cE, .slice A ac.length cA] 43)).heap.size := by simp
  have HE := Lib.hid (he.belowMore ba ba.size)
  have HL := Lib.hid (hl.belowMore ba ba.size)
  have HT := Lib.hid (ht.belowMore ba ba.size)
  have HS := Lib.hid (hs.belowMore ba ba.size)
  have HX := Lib.hid (hx.belowMore ba ba.size)
  have HBA := Lib.hid ba
  have HN := Lib.hid (BxN.mk hn)
  clear he hl ht hs hx ba hn h
  go_enter Try.func47, Try.ntmps47
  go_wp2_with fail
  generalize w.alloc (.cells #[.int .i64 T, .slice E ev.length cE, .slice A ac.length cA] 43) = w0 at *
  generalize hgz : w.heap.size = gz at *
  have HGZ := Lib.hid hgz
  clear hgz
  obtain ⟨n0, n1, n2, ng⟩ := HN.out.cells
  have hfe := refFeas_any T E ev.length cE A cA ac B' cB ts w0 HL.out (by omega) HT.out (by omega)
  rw [HH.out.feas] at hfe
  go_wp2_with fail
  refine hfe.mono ?_
  rintro e w1 ⟨rfl, hb1⟩
  obtain ⟨m0, m1, m2, mg⟩ := (HN.out.below hb1 hg0).cells
  have hln := refLines_any T E cE A ac.length cA ev w1 (HE.out.belowMore hb1 hb1.size) (by omega) hr
  have HB1 := Lib.hid hb1
  clear hb1 hfe n0 n1 n2
  go_wp2_with fail
  refine hln.mono ?_
  rintro e w2 ⟨rfl, hb2⟩
  have hB2 := HB1.out.trans (hb2.mono HB1.out.size)
  have HB2 := Lib.hid hB2
  have hck := refCheck_any (linesP ev) D S cS s X cX x w2 (HS.out.belowMore hB2 hB2.size) (by omega) hcS hcS2 (HX.out.belowMore hB2 hB2.size) (by omega) hcX hcX2 ⟨by omega, by omega⟩ ⟨by omega, by omega⟩
  rw [HH.out.check] at hck
  generalize linesP ev = lp at *
  clear hb2 hB2 hln m0 m1 m2
  go_wp2_with fail
  refine hck.mono ?_
  rintro e w3 ⟨rfl, hb3⟩
  have HB3 := Lib.hid (HB2.out.trans (hb3.mono HB2.out.size))
  clear hb3 hck
  go_wp2_with fail
  go_loopg [12, 13, 14, 30] s.length (fun g s12 s13 s14 s30 wr => ∃ k : Nat, k ≤ s.length ∧ g = s.length - k ∧ s30 = .int .i64 k ∧ Below w0.heap.size w0 wr)
  case atStart => exact ⟨0, by omega, by omega, rfl, HB3.out⟩
  case round =>
    obtain ⟨k, hk, hg, rfl, hb⟩ := hrel
    by_cases hlt : k < s.length
    · obtain ⟨R, P, Q, Dd, W, hP, _⟩ := HH.out.pat s[k] (List.getElem_mem hlt)
      obtain ⟨b, off, rfl, hbb, a0, _, _, _⟩ := (HS.out.belowMore hb hb.size).sv k hlt
      generalize s[k].line = li at *
      obtain ⟨n0, n1, n2, ng2⟩ := (HN.out.below hb hg0).cells
      have hz := hb.size
      have HPT := Lib.hid (fun V (b : Below wr.heap.size wr V) => refPat_any T E cE A cA ev ac li ts R P Q Dd W V (HE.out.belowMore (hb.trans (b.mono hb.size)) (hb.trans (b.mono hb.size)).size) (HL.out.belowMore (hb.trans (b.mono hb.size)) (hb.trans (b.mono hb.size)).size) hP hev hac)
      have HB := Lib.hid hb
      have i0 : (0 : Int) ≤ (k : Int) := by omega
      have i1 : (k : Int) < (s.length : Int) := by omega
      have hB0 : Below wr.heap.size wr wr.drew := (Below.refl _ _).drew
      clear hP hb
      go_wp2_with fail
      go_cut [13, 14] (fun s13 s14 wx => s14 = .bool true ∧ Below wr.heap.size wr wx)
      case first =>
        go_region_held3 (fun w' => w'.cell? ⟨gz, 0, none⟩ = some (.int .i64 T) ∧ w'.cell? ⟨gz, 1, none⟩ = some (.slice E ev.length cE) ∧ w'.cell? ⟨gz, 2, none⟩ = some (.slice A ac.length cA) ∧ w'.cell? ⟨b, off + k * 4, none⟩ = some (.int .i64 li))
          (exact ⟨(hB0.cell (p := ⟨gz, 0, none⟩) ng2).trans n0, (hB0.cell (p := ⟨gz, 1, none⟩) ng2).trans n1, (hB0.cell (p := ⟨gz, 2, none⟩) ng2).trans n2, (hB0.cell (p := ⟨b, off + k * 4, none⟩) hbb).trans a0⟩)
          ((go_at_call 55; (with_reducible refine (HPT.out _ hB0).mono ?_); rintro e w' ⟨v, rfl, _, hb'⟩; replace hB0 := hB0.trans (hb'.mono hB0.size)))
        all_goals
          go_wp2_with fail
          go_meet
          exact ⟨rfl, hB0⟩
      case rest =>
        obtain ⟨rfl, hbc⟩ := hcut
        have HBC := Lib.hid (HB.out.trans (hbc.mono hz))
        clear hbc hB0 n0 n1 n2 a0
        go_wp2_with fail
        go_roundg (s.length - (k + 1))
        case measure => omega
        case rel => exact ⟨k + 1, by omega, rfl, by go_num, HBC.out⟩
    · have HF := Lib.hid (HBA.out.trans (hb.mono (Nat.le_of_lt hg0)))
      clear hb
      go_wp2_with fail
      go_ret
      exact ⟨rfl, by rw [HGZ.out]; exact HF.out⟩
/-- What starts returns at a service of the list. -/
theorem starts_ok {T D : Nat} {ts : List Int} {ev : List Evt} {ac : List Acy} {s : List Svc} {x : List Exc} {pf : Int → PatP} (h : RollOk T ts ev ac D s x pf) (hev : ev.length ≤ 48) (htn : ts.length ≤ 48) (a : Svc) (ha : a ∈ s) (E : Option Addr) (cE : Nat) (A : Option Addr) (n cA : Nat) (B' : Option Addr) (cB : Nat) (S : Option Addr) (cS : Nat) (X : Option Addr) (cX : Nat) (w : World)
    (he : Lst encE 3 w w.heap.size E ev) (ht : Lst encI 1 w w.heap.size B' ts) (hs : Lst encV 4 w w.heap.size S s) (hx : Lst encX 3 w w.heap.size X x) :
    Calls Try.prog 45 #[netV T E ev.length cE A n cA, .slice B' ts.length cB, .int .i64 D, .agg #[.int .i64 a.line, .int .i64 a.days, .int .i64 a.fst, .int .i64 a.lst], .slice S s.length cS, .slice X x.length cX] w fun e w' => ∃ v, e = .returned v ∧ OwnN w' w.heap.size v (stS T s x (pf a.line).res a D) ∧ Below w.heap.size w w' := by
  obtain ⟨R, P, Q, Dd, W, hP, hp⟩ := h.pat a ha
  obtain ⟨f0, f1, f2, r0, r1⟩ := h.ok a ha
  have hlen := (goodB_iff.1 (feas_iff.1 h.feas).1).2.1
  have h0 := hP.dep 0 (by have := hP.pos; omega)
  have h2 : P 0 < ts.length := by rw [hlen]; exact fidx_lt h0
  have := starts_any T E cE A n cA ev B' cB ts D a S cS s X cX x (P 0) w he ht hs hx (by have := h.one; omega) (by have := h.one; omega) h.le hev htn h.ns (by have := h.nx; omega) (fun b hb => h.days b hb) h0 h2 f0 f1 f2
  rw [hp]
  exact this

set_option maxRecDepth 100000 in
set_option maxHeartbeats 8000000 in
theorem refCount_any {T D : Nat} {ts : List Int} {ev : List Evt} {ac : List Acy} {s : List Svc} {x : List Exc} {pf : Int → PatP} (h : RollOk T ts ev ac D s x pf) (hr : ∀ e ∈ ev, R64 e.2.1) (hev : ev.length ≤ 48) (hac : ac.length ≤ 512) (htn : ts.length ≤ 48) (E : Option Addr) (cE : Nat) (A : Option Addr) (cA : Nat) (B' : Option Addr) (cB : Nat) (S : Option Addr) (cS : Nat) (X : Option Addr) (cX : Nat) (w : World)
    (hcS : s.length ≤ cS) (hcS2 : cS ≤ 9223372036854775807) (hcX : x.length ≤ cX) (hcX2 : cX ≤ 9223372036854775807)
    (he : Lst encE 3 w w.heap.size E ev) (hl : Lst encA 6 w w.heap.size A ac) (ht : Lst encI 1 w w.heap.size B' ts) (hs : Lst encV 4 w w.heap.size S s) (hx : Lst encX 3 w w.heap.size X x) :
    Calls Try.prog 27 #[netV T E ev.length cE A ac.length cA, .slice B' ts.length cB, .int .i64 D, .slice S s.length cS, .slice X x.length cX] w fun e w' => e = .returned (.tuple #[.int .i64 (cntS T s x pf D s), .int .i64 0]) ∧ Below w.heap.size w w' := by
  have hns := h.ns
  have hnx := h.nx
  have hD := h.le
  have h1 := h.one
  have HH := Lib.hid h
  have HCR := Lib.hid (cntS_range (s := s) (x := x) (pf := pf) (show 1 ≤ T by omega) D h.le s h.ok)
  have ba := belA w (.cells #[.int .i64 T, .slice E ev.length cE, .slice A ac.length cA] 43)
  have hn := heap_alloc_new w (.cells #[.int .i64 T, .slice E ev.length cE, .slice A ac.length cA] 43)
  have hg0 : w.heap.size < (w.alloc (.cells #[.int .i64 T, .slice E ev.length cE, .slice A ac.length cA] 43)).heap.size := by simp
  have hE := he.belowMore ba ba.size
  have hT := ht.belowMore ba ba.size
  have hS := hs.belowMore ba ba.size
  have hX := hx.belowMore ba ba.size
  have hck := refChecked_any h hr hev hac htn E cE A cA B' cB S cS X cX _ hcS hcS2 hcX hcX2 hE (hl.belowMore ba ba.size) hT hS hX
  have HE := Lib.hid hE
  have HT := Lib.hid hT
  have HS := Lib.hid hS
  have HX := Lib.hid hX
  have HBA := Lib.hid ba
  have HN := Lib.hid (BxN.mk hn)
  clear he hl ht hs hx ba hn h hE hT hS hX
  go_enter Try.func27, Try.ntmps27
  go_wp2_with fail
  generalize w.alloc (.cells #[.int .i64 T, .slice E ev.length cE, .slice A ac.length cA] 43) = w0 at *
  generalize hgz : w.heap.size = gz at *
  have HGZ := Lib.hid hgz
  clear hgz
  obtain ⟨n0, n1, n2, ng⟩ := HN.out.cells
  go_wp2_with fail
  refine hck.mono ?_
  rintro e w1 ⟨rfl, hb1⟩
  have HB1 := Lib.hid hb1
  clear hb1 hck n0 n1 n2
  go_wp2_with fail
  go_loopg [13, 14, 26] s.length (fun g s13 s14 s26 wr => ∃ k : Nat, k ≤ s.length ∧ g = s.length - k ∧ s26 = .int .i64 k ∧ s13 = .int .i64 (cntS T s x pf D (s.take k)) ∧ Below w0.heap.size w0 wr)
  case atStart => exact ⟨0, by omega, by omega, rfl, rfl, HB1.out⟩
  case round =>
    obtain ⟨k, hk, hg, rfl, rfl, hb⟩ := hrel
    by_cases hlt : k < s.length
    · obtain ⟨b, off, rfl, hbb, a0, a1, a2, a3⟩ := (HS.out.belowMore hb hb.size).sv k hlt
      have hcr := HCR.out k (by omega)
      have HSN := Lib.hid (cntS_snoc T s x pf D hlt)
      have hsk := HH.out.ok s[k] (List.getElem_mem hlt)
      have hsv := svcN_range (s := s) (x := x) (show 1 ≤ T by omega) hsk D
      have hst := stS_svcN (s := s) (x := x) (show 1 ≤ T by omega) hsk D
      have HST := Lib.hid (fun V (b' : Below wr.heap.size wr V) => starts_ok HH.out hev htn s[k] (List.getElem_mem hlt) E cE A ac.length cA B' cB (some ⟨b, off, none⟩) cS X cX V (HE.out.belowMore (hb.trans (b'.mono hb.size)) (hb.trans (b'.mono hb.size)).size) (HT.out.belowMore (hb.trans (b'.mono hb.size)) (hb.trans (b'.mono hb.size)).size) (HS.out.belowMore (hb.trans (b'.mono hb.size)) (hb.trans (b'.mono hb.size)).size) (HX.out.belowMore (hb.trans (b'.mono hb.size)) (hb.trans (b'.mono hb.size)).size))
      rw [← hst] at hsv HSN
      generalize stS T s x (pf s[k].line).res s[k] D = sl at *
      generalize cntS T s x pf D (s.take k) = c at *
      generalize s[k] = a at *
      obtain ⟨li, dy, fs, ls⟩ := a
      simp only at a0 a1 a2 a3 HST
      obtain ⟨n0, n1, n2, ng2⟩ := (HN.out.below hb hg0).cells
      have hz := hb.size
      have HB := Lib.hid hb
      have i0 : (0 : Int) ≤ (k : Int) := by omega
      have i1 : (k : Int) < (s.length : Int) := by omega
      have sw : IntKind.i64.wrap (c + (sl.length : Int)) = c + (sl.length : Int) := IntWalk.i64_in _ (by omega)
      have hB0 : Below wr.heap.size wr wr.drew := (Below.refl _ _).drew
      clear hb hst hsk
      go_wp2_with fail
      go_region_held3 (fun w' => w'.cell? ⟨gz, 0, none⟩ = some (.int .i64 T) ∧ w'.cell? ⟨gz, 1, none⟩ = some (.slice E ev.length cE) ∧ w'.cell? ⟨gz, 2, none⟩ = some (.slice A ac.length cA) ∧ w'.cell? ⟨b, off + k * 4, none⟩ = some (.int .i64 li) ∧ w'.cell? ⟨b, off + k * 4 + 1, none⟩ = some (.int .i64 dy) ∧ w'.cell? ⟨b, off + k * 4 + 2, none⟩ = some (.int .i64 fs) ∧ w'.cell? ⟨b, off + k * 4 + 3, none⟩ = some (.int .i64 ls))
        (exact ⟨(hB0.cell (p := ⟨gz, 0, none⟩) ng2).trans n0, (hB0.cell (p := ⟨gz, 1, none⟩) ng2).trans n1, (hB0.cell (p := ⟨gz, 2, none⟩) ng2).trans n2, (hB0.cell (p := ⟨b, off + k * 4, none⟩) hbb).trans a0, (hB0.cell (p := ⟨b, off + k * 4 + 1, none⟩) hbb).trans a1, (hB0.cell (p := ⟨b, off + k * 4 + 2, none⟩) hbb).trans a2, (hB0.cell (p := ⟨b, off + k * 4 + 3, none⟩) hbb).trans a3⟩)
        ((go_at_call 45; (with_reducible refine (HST.out _ hB0).mono ?_); rintro e w' ⟨v, rfl, ho', hb'⟩; obtain ⟨VA, vc, rfl⟩ := ho'.form; clear ho'; replace hB0 := hB0.trans (hb'.mono hB0.size)))
      all_goals
        have HBC := Lib.hid (HB.out.trans (hB0.mono hz))
        clear hB0 n0 n1 n2 a0 a1 a2 a3 sw
        go_wp2_with fail
        go_roundg (s.length - (k + 1))
        case measure => omega
        case rel => exact ⟨k + 1, by omega, rfl, by go_num, by rw [HSN.out], HBC.out⟩
    · have HF := Lib.hid (HBA.out.trans (hb.mono (Nat.le_of_lt hg0)))
      have HC := Lib.hid (show cntS T s x pf D (s.take k) = cntS T s x pf D s by rw [List.take_of_length_le (by omega)])
      clear hb
      go_wp2_with fail
      go_ret2
      exact ⟨by rw [HC.out]; rfl, by rw [HGZ.out]; exact HF.out⟩
end Go.Proofs.Ytaongejpbgjbiaa
