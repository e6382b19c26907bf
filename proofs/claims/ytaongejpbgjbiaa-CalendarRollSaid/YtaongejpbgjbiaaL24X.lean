/-
  The walk of CalendarException.
-/
import Derived.Test.YtaongejpbgjbiaaTimQ
import Derived.Test.YtaongejpbgjbiaaPatW
import Derived.Test.YtaongejpbgjbiaaTrs
import Derived.Test.YtaongejpbgjbiaaLiftX
set_option linter.unusedVariables false
set_option linter.unusedSimpArgs false
namespace RP
theorem allT_cnt {T D : Nat} (h1 : 1 ≤ T) {s : List Svc} {x : List Exc} {pf : Int → PatP} (hok : ∀ a ∈ s, SvcOk T pf a) : ((allT T s x pf D s).length : Int) = cntS T s x pf D s := by
  have := allT_len (s := s) (x := x) h1 D s hok s.length (Nat.le_refl _)
  rwa [List.take_length] at this
theorem cnt_exc {T D : Nat} (h1 : 1 ≤ T) {s : List Svc} {pf : Int → PatP} {e : Exc} (he : e.runs = false) (hok : ∀ a ∈ s, SvcOk T pf a) : cntS T s [e] pf D s ≤ cntS T s [] pf D s := by
  rw [← allT_cnt h1 hok, ← allT_cnt h1 hok, ← allT_exc he]
  have := List.length_filter_le (fun t : TripP => !(decide (t.line = e.line) && decide (t.day = e.day))) (allT T s [] pf D s)
  omega
theorem takeF_snoc {α : Type} (q : α → Bool) {l : List α} {k : Nat} (h : k < l.length) : (l.take (k + 1)).filter q = (l.take k).filter q ++ (if q l[k] then [l[k]] else []) := by
  rw [List.take_succ_eq_append_getElem h, List.filter_append]
  cases hq : q l[k] <;> simp [hq]
end RP
namespace Go.Proofs.Ytaongejpbgjbiaa
open Go.RowKit RP

/-- The trips that are left, in memory. -/
def LeftOk (w : World) (base : Nat) (v : Value) (L : List TripM) : Prop := OwnT w base v L ∧ ∀ t ∈ L, TLst w base t
theorem LeftOk.trs {w : World} {base : Nat} {A : Option Addr} {n c : Nat} {L : List TripM} (h : LeftOk w base (.slice A n c) L) (hb : base ≤ w.heap.size) : Trs w A L :=
  ⟨Own.lst encT_len h.1, fun t ht => (h.2 t ht).belowMore (Below.refl _ _) hb, by have := h.1.maxLen; unfold maxLen at this; omega⟩
theorem LeftOk.keep {w w' : World} {base : Nat} {v : Value} {L : List TripM} (h : LeftOk w base v L) (hb : Below w.heap.size w w') (hle : base ≤ w.heap.size) : LeftOk w' base v L :=
  ⟨h.1.below' hb, fun t ht => (h.2 t ht).belowMore (hb.mono hle) (Nat.le_refl _)⟩
theorem LeftOk.push {w w' : World} {base : Nat} {v v' : Value} {L : List TripM} {t : TripM} (h : LeftOk w base v L) (ht : TLst w base t) (ho : OwnT w' base v' (L ++ [t])) (hg : w.grownBy w' v.ownBlock) (hle : base ≤ w.heap.size) : LeftOk w' base v' (L ++ [t]) := by
  have hb := below_of_grownBy hg hle (fun k hk => (World.ownsRow.lt h.1 k hk).1)
  refine ⟨ho, fun u hu => ?_⟩
  rcases List.mem_append.1 hu with hu | hu
  · exact (h.2 u hu).belowMore hb (Nat.le_refl _)
  · rw [List.mem_singleton.1 hu]; exact ht.belowMore hb (Nat.le_refl _)
def keepX (sl dd : Int) (t : TripM) : Bool := !(decide (t.line = sl) && decide (t.day = dd))

theorem al24 {w : World} {b o : Nat} {v : Value} {x : Obj} (h : w.cell? ⟨b, o, none⟩ = some v) : (w.alloc x).cell? ⟨b, o, none⟩ = some v := by
  rw [World.cell?_alloc_lt _ _ _ (World.block_lt_of_cell? w ⟨b, o, none⟩ h)]; exact h
set_option maxRecDepth 100000 in
set_option maxHeartbeats 16000000 in
theorem walkCalendarException (A : Option Addr) (c : Nat) (net : List Int) (B : Option Addr) (d : Nat) (l : List Int) (days line day : Int) (w : World) (hnet : ArgI w A c net) (hl : ArgI w B d l) (rd : R64 days) (rl : R64 line) (ry : R64 day) :
    Calls Try.prog 7 #[.slice A net.length c, .slice B l.length d, .int .i64 days, .int .i64 line, .int .i64 day] w fun e w' => e = .returned (.bool true) ∧ Below w.heap.size w w' := by
  have q1 := fun W => pick_any days 3 W (by omega) (by omega)
  have p1 := pickI_range days 3 (by omega)
  go_enter Try.func7, Try.ntmps7
  go_wp2_with fail
  refine (pattern_any A c net w hnet).mono ?_
  rintro e w1 ⟨T, L, r, E, cE, An, cA, B', cB, ev, ac, ts, rfl, hE, hA, hT, hI, hr, hT1, hT2, hb1⟩
  have hE1 := Own.lst encE_len hE
  have hA1 := Own.lst encA_len hA
  have hTs1 := Own.lst encI_len hT
  have hl1 := hl.below hb1
  have ba := belA w1 (.cells #[.int .i64 T, .slice E ev.length cE, .slice An ac.length cA] 43)
  have hn := heap_alloc_new w1 (.cells #[.int .i64 T, .slice E ev.length cE, .slice An ac.length cA] 43)
  have HE := Lib.hid (hE1.belowMore ba ba.size)
  have HA := Lib.hid (hA1.belowMore ba ba.size)
  have HT := Lib.hid (hTs1.belowMore ba ba.size)
  have HB := Lib.hid (hb1.trans (ba.mono hb1.size))
  have hl2 := hl1.below ba
  have HN := Lib.hid hn
  obtain ⟨pf, hpf⟩ := pats_of hI hr hT1
  have hev := hI.evs hr
  have HEV := Lib.hid (fun e he => (hev.1 e he))
  have hL3 := hI.L3
  have hL1 := hI.lamL
  have hen : ev.length ≤ 18 := by have := hI.len; have := hI.r3; omega
  have htn : ts.length ≤ 18 := by have := hI.tlen; omega
  have HLK := Lib.hid (linesK_of (by omega) hev.1 hev.2)
  have HRO := Lib.hid (fun (D : Nat) s x (hm : MadeV D L s x) (d1 : 1 ≤ D) (d2 : D ≤ 31) => rollOk_of hI hr hT1 hT2 hpf hm d1 d2)
  generalize hgn : w1.heap.size = gn at *
  clear hE hA hT hE1 hA1 hTs1 hl1 ba hn hI hpf hev hb1 hl
  go_wp2_with fail
  generalize w1.alloc (.cells #[.int .i64 T, .slice E ev.length cE, .slice An ac.length cA] 43) = w2 at *
  have n0 : w2.cell? ⟨gn, 0, none⟩ = some (.int .i64 T) := by rw [cell_of_row w2 _ 0 _ _ _ HN.out]; rfl
  have n1 : w2.cell? ⟨gn, 1, none⟩ = some (.slice E ev.length cE) := by rw [cell_of_row w2 _ 1 _ _ _ HN.out]; rfl
  have n2 : w2.cell? ⟨gn, 2, none⟩ = some (.slice An ac.length cA) := by rw [cell_of_row w2 _ 2 _ _ _ HN.out]; rfl
  clear hgn
  refine (q1 w2).mono ?_
  rintro e w' ⟨rfl, rfl⟩
  clear q1
  generalize pickI days 3 = pd at *
  obtain ⟨D, hD⟩ : ∃ D : Nat, (D : Int) = 1 + pd := ⟨(1 + pd).toNat, by omega⟩
  have hD2 : 1 ≤ D ∧ D ≤ 3 := by omega
  go_wp2_with fail
  refine (linesK_any T E cE An ac.length cA ev w2 HE.out (by omega) (fun e he => by have := HEV.out e he; omega)).mono ?_
  rintro e w3 ⟨rfl, hb3⟩
  rw [HLK.out, ← hD]
  clear hD
  have HB3 := Lib.hid hb3
  have hl3 := hl2.below hb3
  clear hb3 hl2
  go_wp2_with fail
  refine (services_any L D B d l w3 (by omega) (by omega) (by omega) hl3).mono ?_
  rintro e w4 ⟨va, vb, s, x, rfl, ha, hb, hmv, hb4⟩
  obtain ⟨S, cS, rfl⟩ := ha.form
  obtain ⟨X, cX, rfl⟩ := hb.form
  have HMV := Lib.hid hmv
  have hns : s.length ≤ 16 := by have := hmv.olen; omega
  have hSl := Own.lst encV_len ha
  have HS := Lib.hid hSl
  have hB4 := HB3.out.trans (hb4.mono HB3.out.size)
  have HB4 := Lib.hid hB4
  have k0 := (hB4.cell (p := ⟨gn, 0, none⟩) (cell_lt n0)).trans n0
  have k1 := (hB4.cell (p := ⟨gn, 1, none⟩) (cell_lt n1)).trans n1
  have k2 := (hB4.cell (p := ⟨gn, 2, none⟩) (cell_lt n2)).trans n2
  clear ha hb hmv hb4 hB4 n0 n1 n2 hl3
  by_cases hz : s.length = 0
  · have g1 : ((s.length : Int) == 0) = true := by simp [hz]
    have HZ := Lib.hid hz
    clear hz hSl
    go_wp2_with fail
    refine (awake_any _).mono ?_
    rintro e w6 ⟨rfl, hb6⟩
    have hB6 := HB4.out.trans (hb6.mono HB4.out.size)
    have HB6 := Lib.hid (HB.out.trans (hB6.mono HB.out.size))
    clear hb6 hB6
    go_wp2_with fail
    go_ret
    exact ⟨rfl, HB6.out⟩
  · have g1 : ((s.length : Int) == 0) = false := by rw [beq_eq_false_iff_ne]; omega
    have p2 := pickI_range line s.length (by omega)
    have p3 := pickI_range day D (by omega)
    have q2 := fun W => pick_any line s.length W (by omega) (by omega)
    have q3 := fun W => pick_any day D W (by omega) (by omega)
    obtain ⟨pl, hpl⟩ : ∃ p : Nat, (p : Int) = pickI line s.length := ⟨(pickI line s.length).toNat, by omega⟩
    rw [← hpl] at p2 q2
    have hpl2 : pl < s.length := by omega
    obtain ⟨sb, so, rfl, hsb, a0, a1, a2, a3⟩ := hSl.sv pl hpl2
    have HMX := Lib.hid (fun (dd : Int) (h0 : 0 ≤ dd) (h1 : dd < D) => HMV.out.exc1 (List.getElem_mem hpl2) (r := false) h0 h1)
    generalize s[pl].line = sl at *
    generalize pickI day D = dd at *
    have i0 : (0 : Int) ≤ (pl : Int) := by omega
    have i1 : (pl : Int) < (s.length : Int) := by omega
    clear hpl hz hSl a1 a2 a3
    go_wp2_with fail
    go_cut [16] (fun s16 wx => s16 = .pointer (some ⟨w4.heap.size, 0, none⟩) ∧ wx = (w4.alloc (.cells #[.int .i64 sl, .int .i64 dd, .bool false] 36)).drew)
    case first =>
      have s0d : w4.drew.cell? ⟨sb, so + pl * 4, none⟩ = some (.int .i64 sl) := a0
      go_region_held3 (fun w' => w'.cell? ⟨sb, so + pl * 4, none⟩ = some (.int .i64 sl))
        (first | exact s0d | exact al24 s0d | go_keep)
        (first
          | (go_at_call 12; (with_reducible refine (q2 _).mono ?_); rintro e w' ⟨rfl, rfl⟩)
          | (go_at_call 12; (with_reducible refine (q3 _).mono ?_); rintro e w' ⟨rfl, rfl⟩))
      all_goals (go_wp2_with fail; go_meet; exact ⟨rfl, rfl⟩)
    case rest =>
      obtain ⟨rfl, rfl⟩ := hcut
      have bX := ((Below.refl w4.heap.size w4).alloc (Nat.le_refl _) (.cells #[.int .i64 sl, .int .i64 dd, .bool false] 36)).drew
      have hXn : (w4.alloc (.cells #[.int .i64 sl, .int .i64 dd, .bool false] 36)).drew.heap[w4.heap.size]? = some (.cells #[.int .i64 sl, .int .i64 dd, .bool false] 36 (0, 0)) := heap_alloc_new w4 _
      generalize (w4.alloc (.cells #[.int .i64 sl, .int .i64 dd, .bool false] 36)).drew = w5 at *
      generalize hgx : w4.heap.size = gx at *
      have hB5 := HB4.out.trans (bX.mono (by rw [← hgx]; exact HB4.out.size))
      have HB5 := Lib.hid hB5
      have hzz : gx ≤ w5.heap.size := by have := bX.size; omega
      have hS5 := HS.out.belowMore bX hzz
      have HS5 := Lib.hid hS5
      have HXN := Lib.hid hXn
      have hz5 := bX.size
      have k0' := (bX.cell (p := ⟨gn, 0, none⟩) (by rw [← hgx]; exact cell_lt k0)).trans k0
      have k1' := (bX.cell (p := ⟨gn, 1, none⟩) (by rw [← hgx]; exact cell_lt k1)).trans k1
      have k2' := (bX.cell (p := ⟨gn, 2, none⟩) (by rw [← hgx]; exact cell_lt k2)).trans k2
      have hro := HRO.out D s [] HMV.out.bare (by omega) (by omega)
      have hro2 := HRO.out D s [⟨sl, dd, false⟩] (HMX.out dd p3.1 p3.2) (by omega) (by omega)
      have hev64 : ∀ e ∈ ev, R64 e.2.1 := fun e he => ⟨by have := HEV.out e he; omega, by have := HEV.out e he; omega⟩
      have HEV64 := Lib.hid hev64
      have hrl := roll_ok hro hev64 E cE An cA B' cB (some ⟨sb, so, none⟩) cS none 0 w5 (HE.out.belowMore hB5 hB5.size) (HA.out.belowMore hB5 hB5.size) (HT.out.belowMore hB5 hB5.size) hS5 Lst.nil
      have HRO1 := Lib.hid hro
      have HRO2 := Lib.hid hro2
      clear k0 k1 k2 hB5 hS5 hXn bX hro hro2 hev64 hgx q2 q3 a0 HS
      go_wp2_with fail
      refine hrl.mono ?_
      rintro e w6 ⟨hb6, ⟨hc, rfl⟩ | ⟨hc, TA, tc, Lt, rfl, hTr, hp, hsrt⟩⟩
      · have hB6 := HB5.out.trans (hb6.mono HB5.out.size)
        have bL := belA w6 (.cells #[.int .i64 sl, .int .i64 dd, .bool false] 36)
        have hXl := Own.lst encX_len (Own.lit w6 36 0 #[.int .i64 sl, .int .i64 dd, .bool false] [⟨sl, dd, false⟩] 1 rfl encX_len rfl (Nat.zero_le _) (by unfold Go.maxLen; simp only [List.length_cons, List.length_nil]; decide))
        have hB7 := hB6.trans (bL.mono hB6.size)
        have b57 := hb6.trans (bL.mono hb6.size)
        have hrl2 := roll_ok HRO2.out HEV64.out E cE An cA B' cB (some ⟨sb, so, none⟩) cS (some ⟨w6.heap.size, 0, none⟩) 1 _ (HE.out.belowMore hB7 hB7.size) (HA.out.belowMore hB7 hB7.size) (HT.out.belowMore hB7 hB7.size) (HS5.out.belowMore b57 b57.size) hXl
        have m0 := (hb6.cell (p := ⟨gn, 0, none⟩) (cell_lt k0')).trans k0'
        have m1 := (hb6.cell (p := ⟨gn, 1, none⟩) (cell_lt k1')).trans k1'
        have m2 := (hb6.cell (p := ⟨gn, 2, none⟩) (cell_lt k2')).trans k2'
        have hXb := (hb6.block gx (Array.getElem?_eq_some_iff.1 HXN.out).1).trans HXN.out
        have x0 : w6.cell? ⟨gx, 0, none⟩ = some (.int .i64 sl) := by rw [cell_of_row w6 _ 0 _ _ _ hXb]; rfl
        have x1 : w6.cell? ⟨gx, 1, none⟩ = some (.int .i64 dd) := by rw [cell_of_row w6 _ 1 _ _ _ hXb]; rfl
        have x2 : w6.cell? ⟨gx, 2, none⟩ = some (.bool false) := by rw [cell_of_row w6 _ 2 _ _ _ hXb]; rfl
        clear b57 hXb hrl k0' k1' k2'
        go_wp2_with fail
        refine hrl2.mono ?_
        rintro e w8 ⟨hb8, ⟨hc2, rfl⟩ | ⟨hc2, TB, tc2, Lu, rfl, hTr2, hp2, hsrt2⟩⟩
        · have HBF := Lib.hid (hB7.trans (hb8.mono hB7.size))
          clear hb8 hB7 hB6 bL hXl hrl2 hb6
          go_wp2_with fail
          refine (awake_any _).mono ?_
          rintro e w9 ⟨rfl, hb9⟩
          have hB9 := HBF.out.trans (hb9.mono HBF.out.size)
          have HB9 := Lib.hid (HB.out.trans (hB9.mono HB.out.size))
          clear hb9 hB9
          go_wp2_with fail
          go_ret
          exact ⟨rfl, HB9.out⟩
        · have HBF := Lib.hid (hB7.trans (hb8.mono hB7.size))
          clear hb8 hB7 hB6 bL hXl hrl2 hb6
          go_wp2_with fail
          refine (awake_any _).mono ?_
          rintro e w9 ⟨rfl, hb9⟩
          have hB9 := HBF.out.trans (hb9.mono HBF.out.size)
          have HB9 := Lib.hid (HB.out.trans (hB9.mono HB.out.size))
          clear hb9 hB9
          go_wp2_with fail
          go_ret
          exact ⟨rfl, HB9.out⟩
      · have HTR := Lib.hid hTr
        have HP := Lib.hid hp
        have HSR := Lib.hid hsrt
        have HC := Lib.hid hc
        clear hTr hp hsrt hc
        have hB6 := HB5.out.trans (hb6.mono HB5.out.size)
        have bL := belA w6 (.cells #[.int .i64 sl, .int .i64 dd, .bool false] 36)
        have hXl := Own.lst encX_len (Own.lit w6 36 0 #[.int .i64 sl, .int .i64 dd, .bool false] [⟨sl, dd, false⟩] 1 rfl encX_len rfl (Nat.zero_le _) (by unfold Go.maxLen; simp only [List.length_cons, List.length_nil]; decide))
        have hB7 := hB6.trans (bL.mono hB6.size)
        have b57 := hb6.trans (bL.mono hb6.size)
        have hrl2 := roll_ok HRO2.out HEV64.out E cE An cA B' cB (some ⟨sb, so, none⟩) cS (some ⟨w6.heap.size, 0, none⟩) 1 _ (HE.out.belowMore hB7 hB7.size) (HA.out.belowMore hB7 hB7.size) (HT.out.belowMore hB7 hB7.size) (HS5.out.belowMore b57 b57.size) hXl
        have m0 := (hb6.cell (p := ⟨gn, 0, none⟩) (cell_lt k0')).trans k0'
        have m1 := (hb6.cell (p := ⟨gn, 1, none⟩) (cell_lt k1')).trans k1'
        have m2 := (hb6.cell (p := ⟨gn, 2, none⟩) (cell_lt k2')).trans k2'
        have hXb := (hb6.block gx (Array.getElem?_eq_some_iff.1 HXN.out).1).trans HXN.out
        have x0 : w6.cell? ⟨gx, 0, none⟩ = some (.int .i64 sl) := by rw [cell_of_row w6 _ 0 _ _ _ hXb]; rfl
        have x1 : w6.cell? ⟨gx, 1, none⟩ = some (.int .i64 dd) := by rw [cell_of_row w6 _ 1 _ _ _ hXb]; rfl
        have x2 : w6.cell? ⟨gx, 2, none⟩ = some (.bool false) := by rw [cell_of_row w6 _ 2 _ _ _ hXb]; rfl
        clear b57 hXb hrl k0' k1' k2'
        go_wp2_with fail
        refine hrl2.mono ?_
        rintro e w8 ⟨hb8, ⟨hc2, rfl⟩ | ⟨hc2, TB, tc2, Lu, rfl, hTr2, hp2, hsrt2⟩⟩
        · have := cnt_exc (s := s) (pf := pf) (D := D) (e := ⟨sl, dd, false⟩) (show 1 ≤ T by omega) rfl HRO1.out.ok
          have := HC.out
          omega
        · have hTl : Trs w8 TA Lt := HTR.out.trs.below (by
            have := bL.trans (hb8.mono bL.size)
            exact this)
          have HTU := Lib.hid hTr2.trs
          have HEQ := Lib.hid (rolled_eq (s' := s) (show 1 ≤ T by omega) HRO1.out.ok (fun a ha => (HRO1.out.time a ha).zero) (fun t => !(decide (t.line = sl) && decide (t.day = dd))) HP.out hp2 (allT_exc (e := ⟨sl, dd, false⟩) rfl s) (sorted_p (HSR.out.imp fun h => by omega)) (sorted_p (hsrt2.imp fun h => by omega)))
          have hLn : Lt.length ≤ 1024 := by
            have h1 := HP.out.length_eq
            have h2 := allT_cnt (s := s) (x := []) (pf := pf) (D := D) (show 1 ≤ T by omega) HRO1.out.ok
            have h3 := HC.out
            rw [List.length_map] at h1
            omega
          have y0 := (bL.trans (hb8.mono bL.size)).cell (p := ⟨gx, 0, none⟩) (cell_lt x0) |>.trans x0
          have y1 := (bL.trans (hb8.mono bL.size)).cell (p := ⟨gx, 1, none⟩) (cell_lt x1) |>.trans x1
          have HB8 := Lib.hid (hB7.trans (hb8.mono hB7.size))
          clear hTr2 hp2 hsrt2 hb8 hB7 hB6 bL hXl hrl2 hb6 HE HA HT
          go_wp2_with fail
          go_loopg [21, 23, 83] Lt.length (fun g s21 s23 s83 wr => ∃ i : Nat, i ≤ Lt.length ∧ g = Lt.length - i ∧ s83 = .int .i64 i ∧ LeftOk wr w8.heap.size s21 ((Lt.take i).filter (keepX sl dd)) ∧ Below w8.heap.size w8 wr)
          case atStart => exact ⟨0, by omega, by omega, rfl, ⟨Own.nil _ _ _ _ _, by simp⟩, Below.refl _ _⟩
          case round =>
            obtain ⟨i, hi, hg, rfl, hlo, hb⟩ := hrel
            by_cases hlt : i < Lt.length
            · have HTS := Lib.hid (takeF_snoc (keepX sl dd) hlt)
              have hll : ((Lt.take i).filter (keepX sl dd)).length ≤ 1024 := by
                have h1 := List.length_filter_le (keepX sl dd) (Lt.take i)
                have h2 : (Lt.take i).length ≤ Lt.length := by rw [List.length_take]; omega
                omega
              obtain ⟨b, off, rfl, hbb, a0, a1, a2, a3⟩ := (hTl.lst.belowMore hb hb.size).tr i hlt
              have htl := (hTl.at_ Lt[i] (List.getElem_mem hlt)).belowMore hb (Nat.le_refl _)
              have z0 := (hb.cell (p := ⟨gx, 0, none⟩) (cell_lt y0)).trans y0
              have z1 := (hb.cell (p := ⟨gx, 1, none⟩) (cell_lt y1)).trans y1
              have zb := hb.size
              generalize Lt[i] = t at *
              obtain ⟨tl, td, dep, arr, ⟨ta, tn, tc1⟩, ⟨ta', tn', tc2'⟩⟩ := t
              simp only at a0 a1 a2 a3
              have ba := belA wr (.cells #[.int .i64 tl, .int .i64 td, .slice ta tn tc1, .slice ta' tn' tc2'] 51)
              have hnew := heap_alloc_new wr (.cells #[.int .i64 tl, .int .i64 td, .slice ta tn tc1, .slice ta' tn' tc2'] 51)
              have zx : wr.heap.size < (wr.alloc (.cells #[.int .i64 tl, .int .i64 td, .slice ta tn tc1, .slice ta' tn' tc2'] 51)).heap.size := by simp
              have hlo2 := hlo.keep ba zb
              have htl2 := htl.belowMore (ba.mono zb) (Nat.le_refl _)
              have hB2 := hb.trans (ba.mono zb)
              have HLO := Lib.hid hlo2
              have HTL := Lib.hid htl2
              have HB2 := Lib.hid hB2
              have HBA := Lib.hid ba
              have HBLK := Lib.hid hnew
              have i0 : (0 : Int) ≤ (i : Int) := by omega
              have i1 : (i : Int) < (Lt.length : Int) := by omega
              clear hlo hb htl hlo2 htl2 hB2 hnew ba
              go_upto_region 15 with fail
              generalize wr.alloc (.cells #[.int .i64 tl, .int .i64 td, .slice ta tn tc1, .slice ta' tn' tc2'] 51) = w9 at *
              have z0' := (HBA.out.cell (p := ⟨gx, 0, none⟩) (cell_lt z0)).trans z0
              have z1' := (HBA.out.cell (p := ⟨gx, 1, none⟩) (cell_lt z1)).trans z1
              generalize hgt : wr.heap.size = gt at *
              have t0c : w9.cell? ⟨gt, 0, none⟩ = some (.int .i64 tl) := by rw [cell_of_row w9 _ 0 _ _ _ HBLK.out]; rfl
              have t1c : w9.cell? ⟨gt, 1, none⟩ = some (.int .i64 td) := by rw [cell_of_row w9 _ 1 _ _ _ HBLK.out]; rfl
              have t2c : w9.cell? ⟨gt, 2, none⟩ = some (.slice ta tn tc1) := by rw [cell_of_row w9 _ 2 _ _ _ HBLK.out]; rfl
              have t3c : w9.cell? ⟨gt, 3, none⟩ = some (.slice ta' tn' tc2') := by rw [cell_of_row w9 _ 3 _ _ _ HBLK.out]; rfl
              have zg : w8.heap.size ≤ w9.heap.size := HB2.out.size
              clear z0 z1 a0 a1 a2 a3 hgt
              by_cases h1 : tl = sl
              · have d1 : (tl != sl) = false := by simpa using h1
                by_cases h2 : td = dd
                · have d2 : (td != dd) = false := by simpa using h2
                  have HQ := Lib.hid (show keepX sl dd ⟨tl, td, dep, arr, ⟨ta, tn, tc1⟩, ⟨ta', tn', tc2'⟩⟩ = false by simp [keepX, h1, h2])
                  clear h1 h2
                  go_wp2_with fail
                  go_roundg (Lt.length - (i + 1))
                  case measure => omega
                  case rel => exact ⟨i + 1, by omega, rfl, by go_num, by rw [HTS.out, HQ.out]; simpa using HLO.out, HB2.out⟩
                · have d2 : (td != dd) = true := by simpa using h2
                  have HQ := Lib.hid (show keepX sl dd ⟨tl, td, dep, arr, ⟨ta, tn, tc1⟩, ⟨ta', tn', tc2'⟩⟩ = true by simp [keepX, h2])
                  clear h1 h2
                  rw [HQ.out, if_pos rfl] at HTS
                  go_wp2_with (at_builtin; refine Stp.put ?_)
                  refine Stp.out ?_
                  refine wpList_append_rec rfl _ _ 47 rfl w8.heap.size 51 64 Try.underlying47 elemT _ ((Lt.take i).filter (keepX sl dd)) rfl HLO.out.1 [⟨tl, td, dep, arr, ⟨ta, tn, tc1⟩, ⟨ta', tn', tc2'⟩⟩] _ rfl 1 1 rfl rfl (by simp only [Go.maxLen, List.length_cons, List.length_nil]; omega) (by simp only [List.length_cons, List.length_nil]; omega) HB2.out.size ?_
                  intro v6 w11 ho6 hg6 hat6
                  have HNL := Lib.hid (HLO.out.push HTL.out ho6 hg6 HB2.out.size)
                  have HNB := Lib.hid (HB2.out.grown hg6 HB2.out.size (fun q e => (World.ownsRow.lt HLO.out.1 q e).1))
                  clear ho6 hg6 hat6
                  go_wp2_with fail
                  go_roundg (Lt.length - (i + 1))
                  case measure => omega
                  case rel => exact ⟨i + 1, by omega, rfl, by go_num, by rw [HTS.out]; exact HNL.out, HNB.out⟩
              · have d1 : (tl != sl) = true := by simpa using h1
                have HQ := Lib.hid (show keepX sl dd ⟨tl, td, dep, arr, ⟨ta, tn, tc1⟩, ⟨ta', tn', tc2'⟩⟩ = true by simp [keepX, h1])
                clear h1
                rw [HQ.out, if_pos rfl] at HTS
                go_wp2_with (at_builtin; refine Stp.put ?_)
                refine Stp.out ?_
                refine wpList_append_rec rfl _ _ 47 rfl w8.heap.size 51 64 Try.underlying47 elemT _ ((Lt.take i).filter (keepX sl dd)) rfl HLO.out.1 [⟨tl, td, dep, arr, ⟨ta, tn, tc1⟩, ⟨ta', tn', tc2'⟩⟩] _ rfl 1 1 rfl rfl (by simp only [Go.maxLen, List.length_cons, List.length_nil]; omega) (by simp only [List.length_cons, List.length_nil]; omega) HB2.out.size ?_
                intro v6 w11 ho6 hg6 hat6
                have HNL := Lib.hid (HLO.out.push HTL.out ho6 hg6 HB2.out.size)
                have HNB := Lib.hid (HB2.out.grown hg6 HB2.out.size (fun q e => (World.ownsRow.lt HLO.out.1 q e).1))
                clear ho6 hg6 hat6
                go_wp2_with fail
                go_roundg (Lt.length - (i + 1))
                case measure => omega
                case rel => exact ⟨i + 1, by omega, rfl, by go_num, by rw [HTS.out]; exact HNL.out, HNB.out⟩
            · have HB9 := Lib.hid (HB8.out.trans (hb.mono HB8.out.size))
              have HTU9 := Lib.hid (HTU.out.below hb)
              rw [List.take_of_length_le (by omega)] at hlo
              obtain ⟨LA, lc, rfl⟩ := hlo.1.form
              have HLT := Lib.hid (hlo.trs hb.size)
              have HDQ := Lib.hid (show decide (Lu.map TripM.p = (Lt.filter (keepX sl dd)).map TripM.p) = true by
                rw [HEQ.out, List.filter_map, decide_eq_true_eq]; rfl)
              clear hlo hb
              generalize Lt.filter (keepX sl dd) = left at *
              go_wp2_with fail
              refine (awake_any _).mono ?_
              rintro e w10 ⟨rfl, hb10⟩
              have HB10 := Lib.hid (HB9.out.trans (hb10.mono HB9.out.size))
              have HS1 := Lib.hid (HTU9.out.below hb10)
              have HS2 := Lib.hid (HLT.out.below hb10)
              clear hb10
              go_wp2_with fail
              refine (sameTrips_any TB LA tc2 lc Lu left w10 HS1.out HS2.out).mono ?_
              rintro e w11 ⟨rfl, q, rfl⟩
              rw [HDQ.out]
              have HB11 := Lib.hid (HB.out.trans ((below_drewN HB10.out q).mono HB.out.size))
              go_wp2_with fail
              go_ret
              exact ⟨rfl, HB11.out⟩
end Go.Proofs.Ytaongejpbgjbiaa
