/-
  What Roll wants of a made network and made services; plain facts of CalendarTimes.
-/
import Derived.Test.YtaongejpbgjbiaaTimP
import Derived.Test.YtaongejpbgjbiaaRIdx
import Derived.Test.YtaongejpbgjbiaaL24M
set_option linter.unusedVariables false
set_option linter.unusedSimpArgs false
namespace RP
/-- All that Roll wants. -/
structure RollOk (T : Nat) (ts : List Int) (ev : List (Int × Int × Int)) (ac : List Acy) (D : Nat) (s : List Svc) (x : List Exc) (pf : Int → PatP) : Prop where
  feas : feasB T ev.length ac ts = true
  check : checkS (linesP ev) D s x = 0
  pat : ∀ a ∈ s, PatAt T ts ev ac a.line (pf a.line)
  le : D ≤ 31
  ns : s.length ≤ 16
  nx : x.length ≤ 1000
  ok : ∀ a ∈ s, SvcOk T pf a
  days : ∀ a ∈ s, -9223372036854775808 ≤ a.days ∧ a.days ≤ 9223372036854775807
  time : ∀ a ∈ s, PatT T ts ev a.line (pf a.line)
  inc : s.Pairwise fun a b => a.line < b.line
  one : 60 ≤ T ∧ T ≤ 720
theorem MadeV.bare {D k : Nat} {o : List Svc} {y : List Exc} (h : MadeV D k o y) : MadeV D k o [] := ⟨h.olen, by simp, h.svc, h.inc, by simp, .nil⟩
theorem MadeV.exc1 {D k : Nat} {o : List Svc} {y : List Exc} (h : MadeV D k o y) {a : Svc} (ha : a ∈ o) {d : Int} {r : Bool} (d0 : 0 ≤ d) (d1 : d < D) : MadeV D k o [⟨a.line, d, r⟩] := by
  have h1 := h.svc a ha
  have h2 := h.olen
  have h3 : 0 < o.length := List.length_pos_of_mem ha
  exact ⟨h.olen, by simp; omega, h.svc, h.inc, fun e he => by
    rw [List.mem_singleton] at he; subst he
    exact ⟨h1.1, h1.2.1, d0, d1, a, ha, rfl⟩, List.pairwise_singleton _ _⟩
theorem MadeV.cut {D k : Nat} {o : List Svc} {y : List Exc} (h : MadeV (D + 1) k o y) : MadeV D k (o.map (cutV D)) [] := by
  have hp : (0 : Int) < 2 ^ D := Int.pow_pos (by omega)
  refine ⟨by rw [List.length_map]; exact h.olen, by simp, fun a ha => ?_, ?_, by simp, .nil⟩
  · obtain ⟨b, hb, rfl⟩ := List.mem_map.1 ha
    obtain ⟨a1, a2, a3, a4, a5, a6, a7, a8⟩ := h.svc b hb
    exact ⟨a1, a2, Int.emod_nonneg _ (by omega), Int.emod_lt_of_pos _ hp, a5, a6, a7, a8⟩
  · rw [List.pairwise_map]
    exact h.inc.imp fun h => h
theorem rollOk_of {T L r D : Nat} {ev : List (Int × Int × Int)} {ac : List Acy} {ts : List Int} (hI : PatI T L 0 r ev ac ts) (hr : 0 < r) (h1 : 60 ≤ T) (h2 : T ≤ 720) {pf : Int → PatP} (hpf : ∀ line : Int, 0 ≤ line → line < L → PatAt T ts ev ac line (pf line) ∧ PatT T ts ev line (pf line))
    {s : List Svc} {x : List Exc} (hm : MadeV D L s x) (d1 : 1 ≤ D) (d2 : D ≤ 31) : RollOk T ts ev ac D s x pf := by
  have hL := hI.L3
  have hL1 := hI.lamL
  obtain ⟨e1, e2⟩ := hI.evs hr
  have hln : linesP ev = L := linesP_of (by omega) hL e1 e2
  have hpow : (2 : Int) ^ D ≤ 2147483648 := by
    have h1 := Nat.pow_le_pow_right (n := 2) (by omega) d2
    have h2 : (2 : Nat) ^ 31 = 2147483648 := rfl
    have h3 : (2 : Int) ^ D = ((2 ^ D : Nat) : Int) := by simp
    omega
  have ho := hm.olen
  have hy := hm.ylen
  exact ⟨hI.feas h1 h2, by rw [hln]; exact hm.check (by omega) d1 d2, fun a ha => (hpf _ (hm.svc a ha).1 (hm.svc a ha).2.1).1, d2, by omega, by omega,
    fun a ha => by
      obtain ⟨a1, a2, a3, a4, a5, a6, a7, a8⟩ := hm.svc a ha
      have hp := (hpf _ a1 a2).2
      exact ⟨a5, a7, by omega, hp.res0, hp.resT⟩,
    fun a ha => by have := hm.svc a ha; omega, fun a ha => (hpf _ (hm.svc a ha).1 (hm.svc a ha).2.1).2, hm.inc, h1, h2⟩
/-- What CalendarTimes asks of a trip. -/
structure TimesOk (T : Nat) (ts : List Int) (ev : List (Int × Int × Int)) (s : List Svc) (x : List Exc) (line day : Int) (dep arr : List Int) : Prop where
  pos : 1 ≤ dep.length
  len : arr.length = dep.length
  d0 : 0 ≤ dep.getD 0 0
  d1 : dep.getD 0 0 ≤ 2764800
  dayE : day = dep.getD 0 0 / 86400
  runs : runsB s x line day = true
  at_ : ∀ k, k < dep.length → ∃ u v : Nat, fidx (fun e => decide (e = ((1 : Int), line, (k : Int)))) ev = u ∧ fidx (fun e => decide (e = ((2 : Int), line, (k : Int)))) ev = v ∧ u < ts.length ∧ v < ts.length ∧
    0 ≤ dep.getD k 0 ∧ dep.getD k 0 ≤ arr.getD k 0 ∧ dep.getD k 0 % (T : Int) = ts.getD u 0 ∧ arr.getD k 0 % (T : Int) = ts.getD v 0
theorem getD_map_add (l : List Int) (z : Int) (k : Nat) (h : k < l.length) : (l.map (z + ·)).getD k 0 = z + l.getD k 0 := by simp [h]
theorem RollOk.times {T D : Nat} {ts : List Int} {ev : List (Int × Int × Int)} {ac : List Acy} {s : List Svc} {x : List Exc} {pf : Int → PatP} (h : RollOk T ts ev ac D s x pf) {t : TripP} (ht : t ∈ allT T s x pf D s) : TimesOk T ts ev s x t.line t.day t.dep t.arr := by
  obtain ⟨a, ha, d, hd, hr, sec, rfl, a1, a2, a3⟩ := trip_known (by have := h.one; omega) h.ok ht
  obtain ⟨f0, f1, f2, r0, r1⟩ := h.ok a ha
  have hp := h.time a ha
  have hz := mkT_dep0 (line := a.line) (day := d) (sec := sec) hp.zero
  have hD := h.le
  refine ⟨?_, ?_, ?_, ?_, ?_, hr, ?_⟩
  · show 1 ≤ ((pf a.line).dep.map (sec + ·)).length
    rw [List.length_map]; exact hp.zero.2
  · show ((pf a.line).arr.map (sec + ·)).length = ((pf a.line).dep.map (sec + ·)).length
    rw [List.length_map, List.length_map]; exact hp.len
  · rw [hz]; omega
  · rw [hz]; omega
  · rw [hz]; show (d : Int) = _; omega
  · intro k hk
    have hk2 : k < ((pf a.line).dep.map (sec + ·)).length := hk
    rw [List.length_map] at hk2
    obtain ⟨u, v, b1, b2, b3, b4, b5, b6, b7, b8⟩ := hp.at_ k hk2
    refine ⟨u, v, b1, b2, b3, b4, ?_⟩
    show 0 ≤ ((pf a.line).dep.map (sec + ·)).getD k 0 ∧ ((pf a.line).dep.map (sec + ·)).getD k 0 ≤ ((pf a.line).arr.map (sec + ·)).getD k 0 ∧ ((pf a.line).dep.map (sec + ·)).getD k 0 % (T : Int) = _ ∧ ((pf a.line).arr.map (sec + ·)).getD k 0 % (T : Int) = _
    rw [getD_map_add _ _ _ hk2, getD_map_add _ _ _ (by rw [hp.len]; exact hk2)]
    refine ⟨by omega, by omega, ?_, ?_⟩
    · rw [← b7, ← a3, Int.emod_add_emod]
    · rw [← b8, ← a3, Int.emod_add_emod]
/-- The order of the trips, without ties. -/
theorem RollOk.strict {T D : Nat} {ts : List Int} {ev : List (Int × Int × Int)} {ac : List Acy} {s : List Svc} {x : List Exc} {pf : Int → PatP} (h : RollOk T ts ev ac D s x pf) {L : List TripP} (hp : L.Perm (allT T s x pf D s)) (hs : L.Pairwise fun a b => leT a b = true) (i : Nat) (hi : i + 1 < L.length) :
    L[i].dep.getD 0 0 ≤ L[i + 1].dep.getD 0 0 ∧ (L[i].dep.getD 0 0 = L[i + 1].dep.getD 0 0 → L[i].line < L[i + 1].line) := by
  have h1 := List.pairwise_iff_getElem.1 hs i (i + 1) (by omega) hi (by omega)
  have hk := allT_keys (x := x) (D := D) (by have := h.one; omega) h.ok (fun a ha => (h.time a ha).zero) h.inc
  have h2 := List.pairwise_iff_getElem.1 ((List.Perm.pairwise_iff (fun {a b} (q : ¬ (a.dep.getD 0 0 = b.dep.getD 0 0 ∧ a.line = b.line)) => fun ⟨q1, q2⟩ => q ⟨q1.symm, q2.symm⟩) hp).2 hk) i (i + 1) (by omega) hi (by omega)
  unfold leT at h1
  rw [decide_eq_true_eq] at h1
  omega
end RP
namespace Go.Proofs.Ytaongejpbgjbiaa
open Go.RowKit RP

theorem roll_ok {T D : Nat} {ts : List Int} {ev : List Evt} {ac : List Acy} {s : List Svc} {x : List Exc} {pf : Int → PatP} (h : RollOk T ts ev ac D s x pf) (hr : ∀ e ∈ ev, R64 e.2.1) (E : Option Addr) (cE : Nat) (A : Option Addr) (cA : Nat) (B' : Option Addr) (cB : Nat) (S : Option Addr) (cS : Nat) (X : Option Addr) (cX : Nat) (w : World)
    (he : Lst encE 3 w w.heap.size E ev) (hl : Lst encA 6 w w.heap.size A ac) (ht : Lst encI 1 w w.heap.size B' ts) (hs : Lst encV 4 w w.heap.size S s) (hx : Lst encX 3 w w.heap.size X x) :
    Calls Try.prog 21 #[netV T E ev.length cE A ac.length cA, .slice B' ts.length cB, .int .i64 D, .slice S s.length cS, .slice X x.length cX] w (RollPost T D s x pf w) :=
  roll_any T E cE A cA ev ac B' cB ts D S cS s X cX x pf w he hl ht hs hx h.feas h.check h.pat hr h.le h.ns h.nx h.ok (fun a ha => h.days a ha)
end Go.Proofs.Ytaongejpbgjbiaa
