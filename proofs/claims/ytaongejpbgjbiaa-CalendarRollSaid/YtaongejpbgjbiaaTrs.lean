/-
  Lists of trips that are read; contracts of Same at numbers (a quiet call) and of SameTrips.
-/
import Derived.Test.YtaongejpbgjbiaaCalY
set_option linter.unusedVariables false
set_option linter.unusedSimpArgs false
namespace Go.Proofs.Ytaongejpbgjbiaa
open Go.RowKit RP

/-- A trip whose two lists can be read. -/
structure TLst (w : World) (B : Nat) (t : TripM) : Prop where
  dn : t.dv.n = t.dep.length
  an : t.av.n = t.arr.length
  dep : Lst encI 1 w B t.dv.a t.dep
  arr : Lst encI 1 w B t.av.a t.arr
  dm : t.dep.length ≤ 9223372036854775807
  am : t.arr.length ≤ 9223372036854775807
structure Trs (w : World) (A : Option Addr) (L : List TripM) : Prop where
  lst : Lst encT 4 w w.heap.size A L
  at_ : ∀ t ∈ L, TLst w w.heap.size t
  len : L.length ≤ 9223372036854775807
theorem TLst.belowMore {w w' : World} {B B' : Nat} {t : TripM} (h : TLst w B t) (hb : Below B w w') (hB : B ≤ B') : TLst w' B' t := ⟨h.dn, h.an, h.dep.belowMore hb hB, h.arr.belowMore hb hB, h.dm, h.am⟩
theorem Trs.below {w w' : World} {A : Option Addr} {L : List TripM} (h : Trs w A L) (hb : Below w.heap.size w w') : Trs w' A L := ⟨h.lst.belowMore hb hb.size, fun t ht => (h.at_ t ht).belowMore hb hb.size, h.len⟩
theorem TripsOk.trs {w : World} {base : Nat} {A : Option Addr} {n c : Nat} {L : List TripM} (h : TripsOk w base (.slice A n c) L) : Trs w A L := by
  refine ⟨Own.lst encT_len h.1, fun t ht => ?_, by have := h.1.maxLen; unfold maxLen at this; omega⟩
  obtain ⟨⟨hd, ha⟩, _⟩ := h.2 t ht
  obtain ⟨A1, c1, e1⟩ := hd.form
  obtain ⟨A2, c2, e2⟩ := ha.form
  have m1 := hd.maxLen
  have m2 := ha.maxLen
  unfold maxLen at m1 m2
  unfold Sv.v at hd ha e1 e2
  injection e1 with x1 x2 x3
  injection e2 with y1 y2 y3
  exact ⟨x2, y2, Own.lst encI_len hd, Own.lst encI_len ha, by omega, by omega⟩
theorem Lst.tr {w : World} {B : Nat} {A : Option Addr} {l : List TripM} (h : Lst encT 4 w B A l) (i : Nat) (hi : i < l.length) :
    ∃ b off, A = some ⟨b, off, none⟩ ∧ b < B ∧ w.cell? ⟨b, off + i * 4, none⟩ = some (.int .i64 l[i].line) ∧ w.cell? ⟨b, off + i * 4 + 1, none⟩ = some (.int .i64 l[i].day) ∧ w.cell? ⟨b, off + i * 4 + 2, none⟩ = some (.slice l[i].dv.a l[i].dv.n l[i].dv.c) ∧ w.cell? ⟨b, off + i * 4 + 3, none⟩ = some (.slice l[i].av.a l[i].av.n l[i].av.c) := by
  obtain ⟨b, off, e, hb, hc⟩ := h (by intro h0; subst h0; simp at hi)
  have hg := hc i l[i] (List.getElem?_eq_getElem hi)
  exact ⟨b, off, e, hb, hg 0 _ rfl, hg 1 _ rfl, hg 2 _ rfl, hg 3 _ rfl⟩

theorem take_eq_snoc' {α : Type} {l m : List α} {k : Nat} (hl : k < l.length) (hm : k < m.length) (h : l.take k = m.take k) (he : l[k] = m[k]) : l.take (k + 1) = m.take (k + 1) := by
  rw [List.take_succ_eq_append_getElem hl, List.take_succ_eq_append_getElem hm, h, he]
theorem list_ne_at' {α : Type} {l m : List α} {k : Nat} (hl : k < l.length) (hm : k < m.length) (h : l[k] ≠ m[k]) : l ≠ m := fun e => by subst e; exact h rfl

set_option maxHeartbeats 2000000 in
theorem sameI_any (A B : Option Addr) (c d : Nat) (l m : List Int) (w : World) (hl : Lst encI 1 w w.heap.size A l) (hm : Lst encI 1 w w.heap.size B m) (hn : l.length ≤ 9223372036854775807) (hn' : m.length ≤ 9223372036854775807) :
    Calls Try.prog 29 #[.slice A l.length c, .slice B m.length d] w fun e w' => e = .returned (.bool (decide (l = m))) ∧ ∃ q, w' = w.drewN q := by
  by_cases hlen : l.length = m.length
  · have hne : ((l.length : Int) != (m.length : Int)) = false := by simp [hlen]
    have HL := Lib.hid hlen
    have hle : m.length ≤ l.length := by omega
    have hle' : l.length ≤ m.length := by omega
    clear hlen
    go_enter Try.func29, Try.ntmps29
    go_wp2
    go_loopg [5, 13] l.length (fun g s5 s13 wr => ∃ k q : Nat, k ≤ l.length ∧ g = l.length - k ∧ s13 = .int .i64 k ∧ l.take k = m.take k ∧ wr = w.drewN q)
    case atStart => exact ⟨0, 0, by omega, by omega, rfl, rfl, rfl⟩
    case round =>
      obtain ⟨k, q, hk, hg, rfl, ht, hwr⟩ := hrel
      have HT := Lib.hid ht
      have HW := Lib.hid hwr
      clear ht
      by_cases hlt : k < l.length
      · have hlt' : k < m.length := by omega
        have hlr : Lst encI 1 wr wr.heap.size A l := by rw [hwr]; exact hl
        have hmr : Lst encI 1 wr wr.heap.size B m := by rw [hwr]; exact hm
        clear hwr
        obtain ⟨b, off, rfl, hbw, c0⟩ := hlr.it k hlt
        obtain ⟨b', off', rfl, hbw', c0'⟩ := hmr.it k hlt'
        have HX := Lib.hid (fun h => take_eq_snoc' hlt hlt' HT.out h)
        have HY := Lib.hid (fun h => list_ne_at' hlt hlt' h)
        generalize l[k] = x at *
        generalize m[k] = y at *
        by_cases hxy : x = y
        · have e1 : (x == y) = true := by simpa using hxy
          clear hlr hmr hl hm
          go_wp2_with fail
          go_quiet (fail)
          go_wp2_with fail
          go_roundg (l.length - (k + 1))
          case measure => omega
          case rel => exact ⟨k + 1, q + nq, by omega, rfl, by go_num, HX.out (by simpa using e1), by rw [HW.out, World.drewN_drewN]⟩
        · have e1 : (x == y) = false := by simpa using hxy
          clear hlr hmr hl hm
          go_wp2_with fail
          go_quiet (fail)
          go_wp2_with fail
          go_ret
          exact ⟨ret_bool (by have := HY.out (by simpa using e1); simp [this]), q + nq, by rw [HW.out, World.drewN_drewN]⟩
      · clear hwr
        go_wp2_with fail
        go_ret
        have ht := HT.out
        rw [List.take_of_length_le (by omega), List.take_of_length_le (by omega)] at ht
        exact ⟨ret_bool (by simp [ht]), q, HW.out⟩
  · have hne : ((l.length : Int) != (m.length : Int)) = true := by rw [bne_iff_ne]; omega
    go_enter Try.func29, Try.ntmps29
    go_wp2
    go_ret
    exact ⟨ret_bool (by have : l ≠ m := (fun h => hlen (by rw [h])); simp [this]), 0, rfl⟩

set_option maxRecDepth 100000 in
set_option maxHeartbeats 8000000 in
theorem sameTrips_any (A B : Option Addr) (c d : Nat) (l m : List TripM) (w : World) (hl : Trs w A l) (hm : Trs w B m) :
    Calls Try.prog 23 #[.slice A l.length c, .slice B m.length d] w fun e w' => e = .returned (.bool (decide (l.map TripM.p = m.map TripM.p))) ∧ ∃ q, w' = w.drewN q := by
  have hn := hl.len
  have hn' := hm.len
  by_cases hlen : l.length = m.length
  · have hne : ((l.length : Int) != (m.length : Int)) = false := by simp [hlen]
    have HL := Lib.hid hlen
    have hle : m.length ≤ l.length := by omega
    have hle' : l.length ≤ m.length := by omega
    clear hlen
    go_enter Try.func23, Try.ntmps23
    go_wp2
    go_loopg [5, 13] l.length (fun g s5 s13 wr => ∃ k q : Nat, k ≤ l.length ∧ g = l.length - k ∧ s13 = .int .i64 k ∧ (l.map TripM.p).take k = (m.map TripM.p).take k ∧ wr = w.drewN q)
    case atStart => exact ⟨0, 0, by omega, by omega, rfl, rfl, rfl⟩
    case round =>
      obtain ⟨k, q, hk, hg, rfl, ht, hwr⟩ := hrel
      have HT := Lib.hid ht
      have HW := Lib.hid hwr
      clear ht
      by_cases hlt : k < l.length
      · have hlt' : k < m.length := by omega
        have hlr : Trs wr A l := by rw [hwr]; exact ⟨hl.lst, fun t ht => ⟨(hl.at_ t ht).dn, (hl.at_ t ht).an, (hl.at_ t ht).dep, (hl.at_ t ht).arr, (hl.at_ t ht).dm, (hl.at_ t ht).am⟩, hl.len⟩
        have hmr : Trs wr B m := by rw [hwr]; exact ⟨hm.lst, fun t ht => ⟨(hm.at_ t ht).dn, (hm.at_ t ht).an, (hm.at_ t ht).dep, (hm.at_ t ht).arr, (hm.at_ t ht).dm, (hm.at_ t ht).am⟩, hm.len⟩
        clear hwr
        obtain ⟨b, off, rfl, hbw, a0, a1, a2, a3⟩ := hlr.lst.tr k hlt
        obtain ⟨b', off', rfl, hbw', b0, b1, b2, b3⟩ := hmr.lst.tr k hlt'
        have ht := hlr.at_ l[k] (List.getElem_mem hlt)
        have hu := hmr.at_ m[k] (List.getElem_mem hlt')
        have HX := Lib.hid (fun (h : l[k].p = m[k].p) => take_eq_snoc' (l := l.map TripM.p) (m := m.map TripM.p) (by simpa using hlt) (by simpa using hlt') HT.out (by simpa using h))
        have HY := Lib.hid (fun (h : l[k].p ≠ m[k].p) => list_ne_at' (l := l.map TripM.p) (m := m.map TripM.p) (k := k) (by simpa using hlt) (by simpa using hlt') (by simpa using h))
        generalize l[k] = t at *
        generalize m[k] = u at *
        obtain ⟨tl, td, tdep, tarr, ⟨ta, tn, tc⟩, ⟨ta', tn', tc'⟩⟩ := t
        obtain ⟨ul, ud, udep, uarr, ⟨ua, un, uc⟩, ⟨ua', un', uc'⟩⟩ := u
        obtain ⟨dn1, an1, dep1, arr1, dm1, am1⟩ := ht
        obtain ⟨dn2, an2, dep2, arr2, dm2, am2⟩ := hu
        simp only at dn1 an1 dep1 arr1 dm1 am1 dn2 an2 dep2 arr2 dm2 am2 a0 a1 a2 a3 b0 b1 b2 b3
        subst dn1 an1 dn2 an2
        have s1 := fun n => sameI_any ta ua tc uc tdep udep (wr.drewN n) dep1 dep2 dm1 dm2
        have s2 := fun n => sameI_any ta' ua' tc' uc' tarr uarr (wr.drewN n) arr1 arr2 am1 am2
        generalize tdep.length = n1 at *
        generalize tarr.length = n2 at *
        generalize udep.length = n3 at *
        generalize uarr.length = n4 at *
        clear dep1 dep2 arr1 arr2 hlr hmr hl hm
        by_cases e1 : tl = ul
        · by_cases e2 : td = ud
          · by_cases e3 : tdep = udep
            · by_cases e4 : tarr = uarr
              · have HE := Lib.hid (And.intro e1 (And.intro e2 (And.intro e3 e4)))
                have d1 : (tl != ul) = false := by simpa using e1
                have d2 : (td != ud) = false := by simpa using e2
                have d3 : decide (tdep = udep) = true := by simpa using e3
                have d4 : decide (tarr = uarr) = true := by simpa using e4
                rw [d3] at s1
                rw [d4] at s2
                clear e1 e2 e3 e4 d3 d4
                go_wp2_with fail
                go_quiet ((go_at_call 29; first | with_reducible exact Calls.quiet_of (s1 _) | with_reducible exact Calls.quiet_of (s2 _)))
                go_wp2_with fail
                go_roundg (l.length - (k + 1))
                case measure => omega
                case rel => exact ⟨k + 1, q + nq, by omega, rfl, by go_num, HX.out (by obtain ⟨rfl, rfl, rfl, rfl⟩ := HE.out; rfl), by rw [HW.out, World.drewN_drewN]⟩
              · have HE := Lib.hid e4
                have d1 : (tl != ul) = false := by simpa using e1
                have d2 : (td != ud) = false := by simpa using e2
                have d3 : decide (tdep = udep) = true := by simpa using e3
                have d4 : decide (tarr = uarr) = false := by simpa using e4
                rw [d3] at s1
                rw [d4] at s2
                clear e1 e2 e3 e4 d3 d4
                go_wp2_with fail
                go_quiet ((go_at_call 29; first | with_reducible exact Calls.quiet_of (s1 _) | with_reducible exact Calls.quiet_of (s2 _)))
                go_wp2_with fail
                go_ret
                exact ⟨ret_bool (by have := HY.out (fun h => HE.out (congrArg TripP.arr h)); simp [this]), q + nq, by rw [HW.out, World.drewN_drewN]⟩
            · have HE := Lib.hid e3
              have d1 : (tl != ul) = false := by simpa using e1
              have d2 : (td != ud) = false := by simpa using e2
              have d3 : decide (tdep = udep) = false := by simpa using e3
              rw [d3] at s1
              clear e1 e2 e3 d3
              go_wp2_with fail
              go_quiet ((go_at_call 29; first | with_reducible exact Calls.quiet_of (s1 _) | with_reducible exact Calls.quiet_of (s2 _)))
              go_wp2_with fail
              go_ret
              exact ⟨ret_bool (by have := HY.out (fun h => HE.out (congrArg TripP.dep h)); simp [this]), q + nq, by rw [HW.out, World.drewN_drewN]⟩
          · have HE := Lib.hid e2
            have d1 : (tl != ul) = false := by simpa using e1
            have d2 : (td != ud) = true := by simpa using e2
            clear e1 e2
            go_wp2_with fail
            go_quiet ((go_at_call 29; first | with_reducible exact Calls.quiet_of (s1 _) | with_reducible exact Calls.quiet_of (s2 _)))
            go_wp2_with fail
            go_ret
            exact ⟨ret_bool (by have := HY.out (fun h => HE.out (congrArg TripP.day h)); simp [this]), q + nq, by rw [HW.out, World.drewN_drewN]⟩
        · have HE := Lib.hid e1
          have d1 : (tl != ul) = true := by simpa using e1
          clear e1
          go_wp2_with fail
          go_quiet ((go_at_call 29; first | with_reducible exact Calls.quiet_of (s1 _) | with_reducible exact Calls.quiet_of (s2 _)))
          go_wp2_with fail
          go_ret
          exact ⟨ret_bool (by have := HY.out (fun h => HE.out (congrArg TripP.line h)); simp [this]), q + nq, by rw [HW.out, World.drewN_drewN]⟩
      · clear hwr
        go_wp2_with fail
        go_ret
        have ht := HT.out
        rw [List.take_of_length_le (by rw [List.length_map]; omega), List.take_of_length_le (by rw [List.length_map]; omega)] at ht
        exact ⟨ret_bool (by simp [ht]), q, HW.out⟩
  · have hne : ((l.length : Int) != (m.length : Int)) = true := by rw [bne_iff_ne]; omega
    go_enter Try.func23, Try.ntmps23
    go_wp2
    go_ret
    exact ⟨ret_bool (by have : l.map TripM.p ≠ m.map TripM.p := (fun h => hlen (by have := congrArg List.length h; simpa using this)); simp [this]), 0, rfl⟩
end Go.Proofs.Ytaongejpbgjbiaa
