/-
  Walk of DivertFree.
-/
import Derived.Test.YtlillkfelfoafaaDivFr
import Derived.Test.YtlillkfelfoafaaDivEz
import Derived.Test.YtlillkfelfoafaaDivKj
set_option linter.unusedVariables false
set_option linter.unusedSimpArgs false
namespace Go.Proofs.Ytlillkfelfoafaa
open Go.RowKit RP

/-- The jobs while their starts are overwritten. -/
structure FrS (b : Nat) (wr : World) (JA : Option Addr) (jc n k : Nat) (L : List JobM) : Prop where
  len : L.length = n
  own : Own encJb 2 41 wr b (.slice JA n jc) L
  each : ∀ j ∈ L, JOk wr b j ∧ 1 ≤ j.opts.length ∧ j.opts.length ≤ 2 ∧ ∀ o ∈ j.opts, MadeOp 6 o.steps o.occs
  st : ∀ i (h : i < L.length), i < k → L[i].start = 50 * ((i : Int) + 1)
theorem FrS.set {b : Nat} {wr : World} {g jc n k : Nat} {L : List JobM} (h : FrS b wr (some ⟨g, 0, none⟩) jc n k L) (hk : k < L.length) :
    FrS b (wr.setCell ⟨g, k * 2, none⟩ (.int .i64 (50 * ((k : Int) + 1)))) (some ⟨g, 0, none⟩) jc n (k + 1) (L.set k { L[k] with start := 50 * ((k : Int) + 1) }) ∧ wr.grownBy (wr.setCell ⟨g, k * 2, none⟩ (.int .i64 (50 * ((k : Int) + 1)))) (some g) := by
  have hs := Own.stored (enc := encJb) (k := 2) (fun _ => rfl) h.own k 0 (.int .i64 (50 * ((k : Int) + 1))) { L[k] with start := 50 * ((k : Int) + 1) } hk (by omega) rfl
  rw [Nat.add_zero] at hs
  refine ⟨⟨by rw [List.length_set]; exact h.len, hs.1, fun j hj => ?_, fun i hi hik => ?_⟩, hs.2⟩
  · have key : ∀ j' ∈ L, ∀ s, JOk (wr.setCell ⟨g, k * 2, none⟩ (.int .i64 (50 * ((k : Int) + 1)))) b { j' with start := s } := fun j' hj' s => by
      have := (h.each j' hj').1.keptR h.own (by decide) (by decide) (by decide) hs.2
      exact ⟨this.op, this.each⟩
    rcases List.mem_or_eq_of_mem_set hj with hj | hj
    · exact ⟨key j hj j.start, (h.each j hj).2⟩
    · have hm := List.getElem_mem hk
      rw [hj]
      exact ⟨key _ hm _, (h.each _ hm).2⟩
  · rw [List.getElem_set]
    by_cases hki : k = i
    · rw [if_pos hki]; subst hki; rfl
    · rw [if_neg hki]
      exact h.st i (by rw [List.length_set] at hi; exact hi) (by omega)
theorem FrS.far {b : Nat} {wr : World} {JA : Option Addr} {jc n : Nat} {L : List JobM} (h : FrS b wr JA jc n n L) (h3 : n ≤ 3) : FarJ (L.map JobM.p) := by
  refine ⟨fun i hi => ?_, fun j hj => ?_, by rw [List.length_map, h.len]; exact h3⟩
  · rw [List.length_map] at hi
    rw [show jobAt (L.map JobM.p) i = L[i].p from by simp [jobAt, List.getD_eq_getElem?_getD, hi]]
    exact h.st i hi (by rw [← h.len]; exact hi)
  · obtain ⟨m, hm, rfl⟩ := List.mem_map.1 hj
    obtain ⟨_, h1, h2, h4⟩ := h.each m hm
    refine ⟨by show 1 ≤ (m.opts.map OptM.p).length; rw [List.length_map]; exact h1, by show (m.opts.map OptM.p).length ≤ 2; rw [List.length_map]; exact h2, fun o ho => ?_⟩
    obtain ⟨o', ho', rfl⟩ := List.mem_map.1 ho
    exact h4 o' ho'
theorem FrS.res {b : Nat} {wr : World} {JA : Option Addr} {jc n k : Nat} {L : List JobM} (h : FrS b wr JA jc n k L) : JobsR L := fun j hj o ho x hx => by
  have := ((h.each j hj).2.2.2 o ho).oc x hx
  unfold R64
  omega
set_option maxRecDepth 100000 in
set_option maxHeartbeats 8000000 in
theorem walkDivertFree (A1 : Option Addr) (c1 : Nat) (l1 : List Int) (most : Int) (w : World)
    (h1 : ArgI w A1 c1 l1) (hx : R64 most) :
    Calls Try.prog 11 #[.slice A1 l1.length c1, .int .i64 most] w fun e w' => e = .returned (.bool true) ∧ Below w.heap.size w w' := by
  have s0 := pickI_range most 60 (by omega)
  have hps := fun W => pick_any most 60 W (by omega) (by omega)
  generalize pickI most 60 = mo at *
  go_enter Try.func11, Try.ntmps11
  go_wp2_with fail
  refine (jobs_any A1 c1 l1 w h1).mono ?_
  rintro e w1 ⟨JA, jc, M, rfl, hown, hjo, hmj, hb1⟩
  have hml : 1 ≤ M.length ∧ M.length ≤ 3 := by have h0 := hmj.l0; have h1 := hmj.l1; rw [List.length_map] at h0 h1; omega
  obtain ⟨g', c', hv, _⟩ := hown.at_ encJb_len (by intro h0; subst h0; simp at hml)
  injection hv with hv1 _ hv3
  subst hv1 hv3
  have hgb := (World.ownsRow.lt hown g' rfl)
  have hfr : FrS (w.heap.size + 1) w1 (some ⟨g', 0, none⟩) jc M.length 0 M := ⟨rfl, hown, fun j hj => by
    have hp := hmj.at_ j.p (List.mem_map_of_mem hj)
    have e1 : j.p.opts.length = j.opts.length := List.length_map ..
    exact ⟨hjo j hj, by have := hp.o0; omega, by have := hp.o1; omega, fun o ho => hp.at_ o.p (List.mem_map_of_mem ho)⟩, fun i _ hi => by omega⟩
  have HB1 := Lib.hid hb1
  generalize hn : M.length = n at *
  clear hown hjo hmj hb1 h1 hn
  go_wp2_with fail
  go_loopg [6, 7, 16] n (fun g s6 s7 s16 wr => ∃ (k : Nat) (L : List JobM), k ≤ n ∧ g = n - k ∧ s16 = .int .i64 k ∧ s6 = .int .i64 (50 * ((k : Int) + 1)) ∧ FrS (w.heap.size + 1) wr (some ⟨g', 0, none⟩) jc n k L ∧ w1.grownBy wr (some g'))
  case atStart => exact ⟨0, M, by omega, by omega, rfl, rfl, hfr, ⟨rfl, rfl, rfl, Nat.le_refl _, fun _ _ _ => rfl⟩⟩
  case round =>
    obtain ⟨k, L, hk, hg, rfl, rfl, hfs, hgr⟩ := hrel
    clear hfr
    by_cases hlt : k < n
    · have hkl : k < L.length := by rw [hfs.len]; exact hlt
      obtain ⟨g2, c2, hv, _, _, _, hc, hf⟩ := hfs.own.at_ encJb_len (by intro h0; subst h0; simp at hkl)
      injection hv with hv hv2 hv3
      clear hv2 hv3
      simp only [Option.some.injEq, Addr.mk.injEq, and_true] at hv
      subst hv
      have q0 := hc k L[k] (List.getElem?_eq_getElem hkl) 0 _ rfl
      have f0 := hf (k * 2)
      rw [Nat.add_zero] at q0
      have HS := Lib.hid (hfs.set hkl)
      have HG := Lib.hid hgr
      have i0 : (0 : Int) ≤ (k : Int) := by omega
      have i1 : (k : Int) < (n : Int) := by omega
      have hn3 : (n : Int) ≤ 3 := by omega
      clear hc hf hfs hgr
      go_wp2_with fail
      go_roundg (n - (k + 1))
      case measure => omega
      case rel => exact ⟨k + 1, _, by omega, rfl, by go_num, by go_num, HS.out.1, HG.out.trans HS.out.2⟩
    · obtain rfl : k = n := by omega
      have HB := Lib.hid (HB1.out.grown hgr HB1.out.size (fun q e => by injection e with e; omega))
      have HJB := Lib.hid (jbs_own hfs.own (fun j hj => (hfs.each j hj).1))
      have HFJ := Lib.hid (hfs.far hml.2)
      have HST := Lib.hid (And.intro hfs.len hfs.st)
      have hpl := plan_any (some ⟨g', 0, none⟩) jc L none 0 [] none 0 [] mo 1048576 wr (jbs_own hfs.own (fun j hj => (hfs.each j hj).1)) Lst.nil Lst.nil hfs.res (by rw [hfs.len]; omega) (by simp) (by simp) (by simp)
      rw [hfs.len] at hpl
      clear hfs hgr
      obtain ⟨W, rfl⟩ : ∃ V : World, V = wr := ⟨_, rfl⟩
      go_wp2_with (first | (go_at_call 23; refine (hps _).mono ?_; rintro _ _ ⟨rfl, rfl⟩))
      refine hpl.mono ?_
      rintro e w2 ⟨l, pn, err, KA, kc, rfl, hpi, hko, hb2⟩
      obtain ⟨rfl, rfl, hll, hlg⟩ := far_is HFJ.out s0.1 (by omega) hpi
      rw [List.length_map, HST.out.1] at hll
      rw [show ((L.map JobM.p).length : Int) = (k : Int) by rw [List.length_map, HST.out.1]]
      have HB2 := Lib.hid (HB.out.trans (hb2.mono HB.out.size))
      have HJ2 := Lib.hid (HJB.out.belowMore hb2 hb2.size)
      have HLL := Lib.hid (And.intro hll hlg)
      have HKO := Lib.hid (Own.lst encK_len hko)
      rw [hll]
      clear hpi hko hb2 hll hlg hpl HJB HFJ HB1
      go_wp2_with fail
      go_loopg [11, 52] k (fun g s11 s52 wr => ∃ (i q : Nat), i ≤ k ∧ g = k - i ∧ s52 = .int .i64 i ∧ wr = w2.drewN q)
      case atStart => exact ⟨0, 0, by omega, by omega, rfl, rfl⟩
      case round =>
        obtain ⟨i, q, hi, hg, rfl, hwr⟩ := hrel
        by_cases hik : i < k
        · have hil : i < L.length := by rw [HST.out.1]; exact hik
          have hil2 : i < l.length := by rw [HLL.out.1]; exact hik
          obtain ⟨jb, jo, hJA, hjb, a0, a9⟩ := HJ2.out.lst.job i hil
          rw [HST.out.2 i hil (by omega)] at a0
          injection hJA with hJA
          injection hJA with hJ1 hJ2
          subst hJ1 hJ2
          obtain ⟨kb, ko, hKA, hkb, b0, b1⟩ := HKO.out.cho i hil2
          have hg2 := HLL.out.2 i hil2
          rw [show l.getD i (0, 0) = l[i] from by rw [List.getD_eq_getElem?_getD, List.getElem?_eq_getElem hil2]; rfl] at hg2
          rw [hg2] at b0 b1
          subst hKA
          have HI := Lib.hid hik
          subst hwr
          rw [Nat.zero_add] at a0
          have i0 : (0 : Int) ≤ (i : Int) := by omega
          have i1 : (i : Int) < (k : Int) := by omega
          clear a9 hil hil2 hg2
          go_wp2_with fail
          go_quiet (fail)
          go_wp2_with fail
          go_roundg (k - (i + 1))
          case measure => omega
          case rel => exact ⟨i + 1, q + nq, by omega, rfl, by go_num, rfl⟩
        · subst hwr
          have HB3 := Lib.hid ((show Below w.heap.size w (w2.drewN q) from ⟨HB2.out.os, HB2.out.tape, HB2.out.output, HB2.out.size, HB2.out.block⟩))
          go_wp2_with fail
          refine (awake26_any _).mono ?_
          rintro e w7 ⟨rfl, hb7⟩
          have b7 := HB3.out.trans (hb7.mono HB3.out.size)
          clear hb7
          go_wp2_with fail
          go_ret
          exact ⟨rfl, b7⟩
end Go.Proofs.Ytlillkfelfoafaa
