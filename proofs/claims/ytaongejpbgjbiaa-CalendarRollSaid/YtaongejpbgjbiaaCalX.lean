/-
  Contract of count.
-/
import Derived.Test.YtaongejpbgjbiaaCalW
set_option linter.unusedVariables false
set_option linter.unusedSimpArgs false
namespace RP
section
variable (T : Nat) (s : List Svc) (x : List Exc) (pf : Int → PatP)
def dayN (a : Svc) (day : Nat) : Int := if runsB s x a.line day then depN T day a (pf a.line).res else 0
def svcN (a : Svc) : Nat → Int
  | 0 => 0
  | d + 1 => svcN a d + dayN T s x pf a d
def cntS (D : Nat) (l : List Svc) : Int := l.foldl (fun c a => c + svcN T s x pf a D) 0
theorem cntS_snoc (D : Nat) {l : List Svc} {k : Nat} (h : k < l.length) : cntS T s x pf D (l.take (k + 1)) = cntS T s x pf D (l.take k) + svcN T s x pf l[k] D := by
  unfold cntS; rw [List.take_succ_eq_append_getElem h, List.foldl_append]; rfl
end
/-- The times of a service, and the residue of its line. -/
def SvcOk (T : Nat) (pf : Int → PatP) (a : Svc) : Prop := 0 ≤ a.fst ∧ a.fst ≤ a.lst ∧ a.lst < 86400 ∧ 0 ≤ (pf a.line).res ∧ (pf a.line).res < T
theorem depN_range {T : Nat} {day : Int} {a : Svc} {res : Int} (h1 : 1 ≤ T) (d0 : 0 ≤ day) (f0 : 0 ≤ a.fst) (f1 : a.fst ≤ a.lst) (f2 : a.lst < 86400) : 0 ≤ depN T day a res ∧ depN T day a res ≤ 86401 := by
  unfold depN
  by_cases q : day * 86400 + a.lst < depF T day a res
  · rw [if_pos q]; omega
  · rw [if_neg q]
    have m0 := Int.emod_nonneg (res - (day * 86400 + a.fst)) (show (T : Int) ≠ 0 by omega)
    have hnn : (0 : Int) ≤ day * 86400 + a.lst - depF T day a res := by omega
    have hq1 := Int.ediv_nonneg hnn (show (0 : Int) ≤ T by omega)
    have hq2 := Int.ediv_le_self (T : Int) hnn
    unfold depF at *
    omega
section
variable {T : Nat} {s : List Svc} {x : List Exc} {pf : Int → PatP} (h1 : 1 ≤ T)
include h1
theorem svcN_range {a : Svc} (h : SvcOk T pf a) : ∀ d : Nat, 0 ≤ svcN T s x pf a d ∧ svcN T s x pf a d ≤ 86401 * (d : Int)
  | 0 => by simp [svcN]
  | d + 1 => by
    have ih := svcN_range h d
    have := depN_range (T := T) (day := d) (a := a) (res := (pf a.line).res) h1 (by omega) h.1 h.2.1 h.2.2.1
    simp only [svcN, dayN]
    split <;> omega
theorem cntS_range (D : Nat) (hD : D ≤ 31) : ∀ l : List Svc, (∀ a ∈ l, SvcOk T pf a) → ∀ k, k ≤ l.length → 0 ≤ cntS T s x pf D (l.take k) ∧ cntS T s x pf D (l.take k) ≤ 2678431 * (k : Int) := fun l hl k => by
  induction k with
  | zero => intro _; simp [cntS]
  | succ k ih =>
    intro hk
    have h2 := ih (by omega)
    have h3 := svcN_range (s := s) (x := x) h1 (hl l[k] (List.getElem_mem (by omega))) D
    rw [cntS_snoc T s x pf D (by omega)]
    have : 86401 * (D : Int) ≤ 2678431 := by omega
    omega
end
end RP
namespace Go.Proofs.Ytaongejpbgjbiaa
open Go.RowKit RP
attribute [local go_sem ↓] Go.wp_at_zero Go.wp_at_succ

theorem PatsOk.at_ {w : World} {base : Nat} {A : Option Addr} {n c : Nat} {L : List PatM} (h : PatsOk w base (.slice A n c) L) (i : Nat) (hi : i < L.length) :
    ∃ g, A = some ⟨g, 0, none⟩ ∧ base ≤ g ∧ g < w.heap.size ∧ n = L.length ∧ w.cell? ⟨g, i * 3, none⟩ = some (.int .i64 L[i].p.res) ∧ w.cell? ⟨g, i * 3 + 1, none⟩ = some L[i].dv.v ∧ w.cell? ⟨g, i * 3 + 2, none⟩ = some L[i].av.v := by
  obtain ⟨g, c', hv, hb, hl, _, hc, _⟩ := h.1.at_ encP_len (by intro e; subst e; simp at hi)
  injection hv with h1 h2 h3
  have hg := hc i L[i] (List.getElem?_eq_getElem hi)
  exact ⟨g, h1, hb, hl, h2, hg 0 _ rfl, hg 1 _ rfl, hg 2 _ rfl⟩

set_option maxRecDepth 100000 in
set_option maxHeartbeats 8000000 in
theorem count_any (T D : Nat) (S : Option Addr) (cS : Nat) (s : List Svc) (X : Option Addr) (cX : Nat) (x : List Exc) (PA : Option Addr) (pn pc : Nat) (L : List PatM) (pf : Int → PatP) (base : Nat) (w : World)
    (h1 : 1 ≤ T) (h2 : T ≤ 7200) (hD : D ≤ 31) (hs : Lst encV 4 w w.heap.size S s) (hx : Lst encX 3 w w.heap.size X x) (hP : PatsOk w base (.slice PA pn pc) L) (hL : L.map PatM.p = s.map (fun a => pf a.line)) (hns : s.length ≤ 16) (hnx : x.length ≤ 1000)
    (hok : ∀ a ∈ s, SvcOk T pf a) (hda : ∀ a ∈ s, R64 a.days) :
    Calls Try.prog 38 #[.int .i64 T, .int .i64 D, .slice S s.length cS, .slice X x.length cX, .slice PA pn pc] w fun e w' => e = .returned (.int .i64 (cntS T s x pf D s)) ∧ Below w.heap.size w w' := by
  have hLl : L.length = s.length := by have := congrArg List.length hL; simpa using this
  have HL := Lib.hid hL
  have HLL := Lib.hid hLl
  have HOK := Lib.hid hok
  have HDA := Lib.hid hda
  have HCR := Lib.hid (cntS_range (s := s) (x := x) (pf := pf) h1 D hD s hok)
  clear hL hLl hok hda
  go_enter Try.func38, Try.ntmps38
  go_wp2_with fail
  go_loopg [11, 12, 13, 14, 15, 16, 19, 24, 25, 34] s.length (fun g s11 s12 s13 s14 s15 s16 s19 s24 s25 s34 wr => ∃ k : Nat, k ≤ s.length ∧ g = s.length - k ∧ s19 = .int .i64 k ∧ s11 = .int .i64 (cntS T s x pf D (s.take k)) ∧ Below w.heap.size w wr)
  case atStart => exact ⟨0, by omega, by omega, rfl, rfl, Below.refl _ _⟩
  case round =>
    obtain ⟨k, hk, hg', rfl, rfl, hb⟩ := hrel
    by_cases hlt : k < s.length
    · obtain ⟨b, off, rfl, hbb, a0, a1, a2, a3⟩ := (hs.below hb).sv k hlt
      have hsk := HOK.out s[k] (List.getElem_mem hlt)
      have hcr := HCR.out k (by omega)
      have HSN := Lib.hid (cntS_snoc T s x pf D hlt)
      have hsr := fun d => svcN_range (s := s) (x := x) h1 hsk d
      have bx := belA wr (.cells #[.int .i64 s[k].line, .int .i64 s[k].days, .int .i64 s[k].fst, .int .i64 s[k].lst] 34)
      have hnx' := heap_alloc_new wr (.cells #[.int .i64 s[k].line, .int .i64 s[k].days, .int .i64 s[k].fst, .int .i64 s[k].lst] 34)
      have zx : (wr.alloc (.cells #[.int .i64 s[k].line, .int .i64 s[k].days, .int .i64 s[k].fst, .int .i64 s[k].lst] 34)).heap.size = wr.heap.size + 1 := by simp
      have hbx := hb.trans (bx.mono hb.size)
      have hsx := hs.belowMore hbx hbx.size
      have hxx := hx.belowMore hbx hbx.size
      have hPx := hP.below hbx
      obtain ⟨gl, rfl, _, hgl, hpn, c0, c1, c2⟩ := hPx.at_ k (by rw [HLL.out]; exact hlt)
      have hpk : L[k]'(by rw [HLL.out]; exact hlt) = L[k]'(by rw [HLL.out]; exact hlt) := rfl
      have hres : (L[k]'(by rw [HLL.out]; exact hlt)).p = pf s[k].line := by
        have := congrArg (fun l => l[k]?) HL.out
        simpa [hlt, show k < L.length by rw [HLL.out]; exact hlt] using this
      rw [hres] at c0
      obtain ⟨⟨lp, ⟨DA, dn, dc⟩, ⟨AA, an, ac⟩⟩, hLk⟩ : ∃ q, L[k]'(by rw [HLL.out]; exact hlt) = q := ⟨_, rfl⟩
      rw [hLk] at c1 c2
      have c1' : (wr.alloc (.cells #[.int .i64 s[k].line, .int .i64 s[k].days, .int .i64 s[k].fst, .int .i64 s[k].lst] 34)).cell? ⟨gl, k * 3 + 1, none⟩ = some (.slice DA dn dc) := c1
      have c2' : (wr.alloc (.cells #[.int .i64 s[k].line, .int .i64 s[k].days, .int .i64 s[k].fst, .int .i64 s[k].lst] 34)).cell? ⟨gl, k * 3 + 2, none⟩ = some (.slice AA an ac) := c2
      have HPN := Lib.hid hpn
      clear hpk hres hLk c1 c2 hpn hbb
      have HBX := Lib.hid hbx
      generalize s[k] = a at *
      obtain ⟨li, dy, fs, ls⟩ := a
      simp only at a0 a1 a2 a3 hsr
      obtain ⟨f0, f1, f2, r0, r1⟩ := hsk
      simp only at f0 f1 f2 r0 r1
      have i0 : (0 : Int) ≤ (k : Int) := by omega
      have i1 : (k : Int) < (s.length : Int) := by omega
      have i2 : (k : Int) < (pn : Int) := by have := HPN.out; have := HLL.out; omega
      generalize cntS T s x pf D (s.take k) = c at *
      clear hb bx hbx
      go_wp2_with fail
      generalize wr.alloc (.cells #[.int .i64 li, .int .i64 dy, .int .i64 fs, .int .i64 ls] 34) = w1 at *
      generalize hgr : wr.heap.size = gr at *
      have HGR := Lib.hid hgr
      clear hgr
      have y0 : w1.cell? ⟨gr, 0, none⟩ = some (.int .i64 li) := by rw [cell_of_row w1 _ 0 _ _ _ hnx']; rfl
      have y1 : w1.cell? ⟨gr, 1, none⟩ = some (.int .i64 dy) := by rw [cell_of_row w1 _ 1 _ _ _ hnx']; rfl
      have y2 : w1.cell? ⟨gr, 2, none⟩ = some (.int .i64 fs) := by rw [cell_of_row w1 _ 2 _ _ _ hnx']; rfl
      have y3 : w1.cell? ⟨gr, 3, none⟩ = some (.int .i64 ls) := by rw [cell_of_row w1 _ 3 _ _ _ hnx']; rfl
      have hgr1 : gr < w1.heap.size := by omega
      have hs0 := hsr 0
      have HSR := Lib.hid hsr
      clear hnx' a0 a1 a2 a3 zx hsr
      go_loopg [11, 14, 15, 16, 25, 34] D (fun g s11 s14 s15 s16 s25 s34 wr => ∃ d : Nat, d ≤ D ∧ g = D - d ∧ s25 = .int .i64 d ∧ s11 = .int .i64 (c + svcN T s x pf ⟨li, dy, fs, ls⟩ d) ∧ Below w1.heap.size w1 wr)
      case atStart => exact ⟨0, by omega, by omega, rfl, by rw [show svcN T s x pf ⟨li, dy, fs, ls⟩ 0 = 0 from rfl, Int.add_zero], Below.refl _ _⟩
      case round =>
        obtain ⟨d, hd, hg2, rfl, rfl, hb⟩ := hrel
        have hsd := HSR.out d
        have zb := hb.size
        by_cases hlt2 : d < D
        · have hrun := runs_any li d (some ⟨b, off, none⟩) cS s X cX x
          have v0 := (hb.cell (p := ⟨gr, 0, none⟩) hgr1).trans y0
          have hrw := hrun wr (hsx.belowMore hb hb.size) (by omega) (hxx.belowMore hb hb.size) (by omega) HDA.out ⟨by omega, by omega⟩
          have HSS := Lib.hid (show svcN T s x pf ⟨li, dy, fs, ls⟩ (d + 1) = svcN T s x pf ⟨li, dy, fs, ls⟩ d + (if runsB s x li d then depN T d ⟨li, dy, fs, ls⟩ (pf li).res else 0) from rfl)
          have hdr := depN_range (T := T) (day := d) (a := ⟨li, dy, fs, ls⟩) (res := (pf li).res) h1 (by omega) f0 f1 f2
          generalize svcN T s x pf ⟨li, dy, fs, ls⟩ d = sd at *
          have HB := Lib.hid hb
          clear hb hrun
          go_wp2_with fail
          refine hrw.mono ?_
          rintro e w2 ⟨rfl, hb2⟩
          have hB2 := HB.out.trans (hb2.mono HB.out.size)
          clear hrw hb2 v0
          cases hrb : runsB s x li d with
          | false =>
            rw [hrb] at HSS
            have HB2 := Lib.hid hB2
            clear hrb hB2
            go_wp2_with fail
            go_roundg (D - (d + 1))
            case measure => omega
            case rel => exact ⟨d + 1, by omega, rfl, by go_num, by rw [HSS.out]; simp, HB2.out⟩
          | true =>
            rw [hrb] at HSS
            simp only [if_true] at HSS
            have hdep := fun W => departures_any T d ⟨li, dy, fs, ls⟩ (pf li).res (.slice DA dn dc) (.slice AA an ac) W h1 h2 (by omega) (by omega) f0 f1 f2 r0 r1
            generalize depN T d ⟨li, dy, fs, ls⟩ (pf li).res = nd at *
            have HDE := Lib.hid hdep
            have q0 := (hB2.cell (p := ⟨gr, 0, none⟩) hgr1).trans y0
            have q1 := (hB2.cell (p := ⟨gr, 1, none⟩) hgr1).trans y1
            have q2 := (hB2.cell (p := ⟨gr, 2, none⟩) hgr1).trans y2
            have q3 := (hB2.cell (p := ⟨gr, 3, none⟩) hgr1).trans y3
            have p0 := (hB2.cell (p := ⟨gl, k * 3, none⟩) hgl).trans c0
            have p1 := (hB2.cell (p := ⟨gl, k * 3 + 1, none⟩) hgl).trans c1'
            have p2 := (hB2.cell (p := ⟨gl, k * 3 + 2, none⟩) hgl).trans c2'
            have zg1 : gr < w2.heap.size := by have := hB2.size; omega
            have zg2 : gl < w2.heap.size := by have := hB2.size; omega
            have HB2 := Lib.hid hB2
            clear hrb hB2 hdep
            go_upto_region 9 with fail
            have hB : Below w2.heap.size w2 w2.drew := (Below.refl _ _).drew
            go_cut [15, 16, 34] (fun s15 s16 s34 wx => s16 = .int .i64 nd ∧ Below w2.heap.size w2 wx)
            case first =>
              go_region_held3 (fun w' => w'.cell? ⟨gr, 0, none⟩ = some (.int .i64 li) ∧ w'.cell? ⟨gr, 1, none⟩ = some (.int .i64 dy) ∧ w'.cell? ⟨gr, 2, none⟩ = some (.int .i64 fs) ∧ w'.cell? ⟨gr, 3, none⟩ = some (.int .i64 ls) ∧ w'.cell? ⟨gl, k * 3, none⟩ = some (.int .i64 (pf li).res) ∧ w'.cell? ⟨gl, k * 3 + 1, none⟩ = some (.slice DA dn dc) ∧ w'.cell? ⟨gl, k * 3 + 2, none⟩ = some (.slice AA an ac))
                (exact ⟨(hB.cell (p := ⟨gr, 0, none⟩) zg1).trans q0, (hB.cell (p := ⟨gr, 1, none⟩) zg1).trans q1, (hB.cell (p := ⟨gr, 2, none⟩) zg1).trans q2, (hB.cell (p := ⟨gr, 3, none⟩) zg1).trans q3, (hB.cell (p := ⟨gl, k * 3, none⟩) zg2).trans p0, (hB.cell (p := ⟨gl, k * 3 + 1, none⟩) zg2).trans p1, (hB.cell (p := ⟨gl, k * 3 + 2, none⟩) zg2).trans p2⟩)
                ((go_at_call 39; (with_reducible refine (HDE.out _).mono ?_); rintro e w' ⟨⟨f, rfl, hff⟩, hb'⟩; replace hB := hB.trans (hb'.mono hB.size)))
              all_goals
                go_wp2_with fail
                go_meet
                exact ⟨rfl, hB⟩
            case rest =>
              obtain ⟨rfl, hbc⟩ := hcut
              have HBC := Lib.hid (HB2.out.trans (hbc.mono HB2.out.size))
              clear hbc hB q0 q1 q2 q3 p0 p1 p2
              go_wp2_with fail
              go_roundg (D - (d + 1))
              case measure => omega
              case rel => exact ⟨d + 1, by omega, rfl, by go_num, by rw [HSS.out, Int.add_assoc], HBC.out⟩
        · have hdD : d = D := by omega
          have HE := Lib.hid (show cntS T s x pf D (s.take (k + 1)) = c + svcN T s x pf ⟨li, dy, fs, ls⟩ d by rw [HSN.out, hdD])
          clear hdD
          go_wp2_with fail
          go_roundg (s.length - (k + 1))
          case measure => omega
          case rel => exact ⟨k + 1, by omega, rfl, by go_num, by rw [HE.out], HBX.out.trans (hb.mono HBX.out.size)⟩
    · have hkn : k = s.length := by omega
      have HE := Lib.hid (show cntS T s x pf D (s.take k) = cntS T s x pf D s by rw [hkn, List.take_length])
      clear hkn
      go_wp2_with fail
      go_ret
      exact ⟨ret_int HE.out, hb⟩

end Go.Proofs.Ytaongejpbgjbiaa
