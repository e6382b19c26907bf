/-
  Walk of DivertCost.
-/
import Derived.Test.YtlillkfelfoafaaDivG
import Derived.Test.YtlillkfelfoafaaDivEz
import Derived.Test.YtlillkfelfoafaaDivKj
import Derived.StillTailTactics
set_option linter.unusedVariables false
set_option linter.unusedSimpArgs false
namespace Go.Proofs.Ytlillkfelfoafaa
open Go.RowKit RP

theorem makeCh (n : Nat) (h : n = 1 ∨ n = 2 ∨ n = 3) : ∀ w : World, (Instr.makeSlice 49 (.int .i64 (n : Int)) (.int .i64 (n : Int))).run Try.prog w =
    .ok (.slice (some ⟨w.heap.size, 0, none⟩) n n) (w.alloc (.cells ((List.replicate n ((0, 0) : Cho)).flatMap encK).toArray 55)) := by
  rcases h with rfl | rfl | rfl <;> intro w <;> kernel_rfl
theorem own_cells {w : World} {base g n c : Nat} {l : List Cho} (h : Own encK 2 55 w base (.slice (some ⟨g, 0, none⟩) n c) l) (i : Nat) (hi : i < l.length) :
    w.cell? ⟨g, i * 2, none⟩ = some (.int .i64 l[i].1) ∧ w.cell? ⟨g, i * 2 + 1, none⟩ = some (.int .i64 l[i].2) ∧ ∀ o, w.frozen? ⟨g, o, none⟩ = false := by
  obtain ⟨g', c', hv, _, _, _, hc, hf⟩ := h.at_ encK_len (by intro h0; subst h0; simp at hi)
  injection hv with hv
  simp only [Option.some.injEq, Addr.mk.injEq, and_true] at hv
  subst hv
  exact ⟨hc i l[i] (List.getElem?_eq_getElem hi) 0 _ rfl, hc i l[i] (List.getElem?_eq_getElem hi) 1 _ rfl, fun o => hf o⟩
/-- A choice of a row is written whole. -/
theorem own_setK {w : World} {base g n c : Nat} {l : List Cho} (h : Own encK 2 55 w base (.slice (some ⟨g, 0, none⟩) n c) l) (i : Nat) (hi : i < l.length) (a b : Int) :
    Own encK 2 55 ((w.setCell ⟨g, i * 2, none⟩ (.int .i64 a)).setCell ⟨g, i * 2 + 1, none⟩ (.int .i64 b)) base (.slice (some ⟨g, 0, none⟩) n c) (l.set i (a, b)) ∧ w.grownBy ((w.setCell ⟨g, i * 2, none⟩ (.int .i64 a)).setCell ⟨g, i * 2 + 1, none⟩ (.int .i64 b)) (some g) := by
  have own1 := Own.stored (enc := encK) (k := 2) (fun _ => rfl) h i 0 (.int .i64 a) (a, l[i].2) hi (by omega) rfl
  have own2 := Own.stored (enc := encK) (k := 2) (fun _ => rfl) own1.1 i 1 (.int .i64 b) (a, b) (by rw [List.length_set]; exact hi) (by omega) (by rw [List.getElem_set_self]; rfl)
  refine ⟨?_, own1.2.trans own2.2⟩
  have := own2.1
  rw [List.set_set] at this
  exact this
set_option maxRecDepth 100000 in
set_option maxHeartbeats 8000000 in
theorem walkDivertCost (A1 : Option Addr) (c1 : Nat) (l1 : List Int) (A2 : Option Addr) (c2 : Nat) (L : List JobM) (A3 : Option Addr) (c3 : Nat) (raw : List Cho) (at_ v : Int) (w : World)
    (h1 : ArgI w A1 c1 l1) (h2 : ArgJ w A2 c2 L) (h3 : ArgK w A3 c3 raw) (hx : R64 at_) (hy : R64 v) :
    Calls Try.prog 12 #[.slice A1 l1.length c1, .slice A2 L.length c2, .slice A3 raw.length c3, .int .i64 at_, .int .i64 v] w fun e w' => e = .returned (.bool true) ∧ Below w.heap.size w w' := by
  have HJ := Lib.hid h2.jbs
  have HK := Lib.hid h3.lst
  have HKL := Lib.hid h3.len
  clear h2 h3
  have hps := Lib.hid (fun (z : Int) W => pick_any z 3 W (by omega) (by omega))
  have hpt := Lib.hid (fun (z : Int) W => pick_any z 50 W (by omega) (by omega))
  go_enter Try.func12, Try.ntmps12
  go_wp2_with fail
  refine (jobs_any A1 c1 l1 w h1).mono ?_
  rintro e w1 ⟨JA, jc, M, rfl, hown, hjo, hmj, hb1⟩
  have HJM := Lib.hid (jbs_own hown hjo)
  have HB1 := Lib.hid hb1
  have hml : M.length = 1 ∨ M.length = 2 ∨ M.length = 3 := by have h0 := hmj.l0; have h1 := hmj.l1; rw [List.length_map] at h0 h1; omega
  have mk := makeCh M.length hml
  have HMJ := Lib.hid hmj
  have hml3 : M.length ≤ 3 := by omega
  clear hown hjo hmj hb1 h1 hml
  go_upto_region 3 with fail
  have ho := Own.lit w1 55 w1.heap.size ((List.replicate M.length ((0, 0) : Cho)).flatMap encK).toArray (List.replicate M.length ((0, 0) : Cho)) M.length (by simp) encK_len (by simp) (Nat.le_refl _) (by simp [Go.maxLen]; omega)
  have ba := belA w1 (.cells ((List.replicate M.length ((0, 0) : Cho)).flatMap encK).toArray 55)
  generalize w1.alloc (.cells ((List.replicate M.length ((0, 0) : Cho)).flatMap encK).toArray 55) = w2 at *
  have HJ2 := Lib.hid (HJM.out.belowMore ba (Nat.le_refl _))
  have HB2 := Lib.hid (HB1.out.trans (ba.mono HB1.out.size))
  have HZ := Lib.hid (And.intro (show w1.heap.size < w2.heap.size from (World.ownsRow.lt ho _ rfl).2) HB1.out.size)
  clear ba mk HJM
  generalize hg1 : w1.heap.size = g1 at *
  have HG1 := Lib.hid hg1
  clear hg1
  go_wp2_with fail
  go_loopg [13, 29] M.length (fun g s13 s29 wr => ∃ (k : Nat) (ch : List Cho), k ≤ M.length ∧ g = M.length - k ∧ s29 = .int .i64 k ∧ ch.length = M.length ∧ Own encK 2 55 wr g1 (.slice (some ⟨g1, 0, none⟩) M.length M.length) ch ∧ w2.grownBy wr (some g1))
  case atStart => exact ⟨0, _, by omega, by omega, rfl, by simp, ho, ⟨rfl, rfl, rfl, Nat.le_refl _, fun _ _ _ => rfl⟩⟩
  case round =>
    obtain ⟨k, ch, hk, hg, rfl, hlen, hoc, hgr⟩ := hrel
    clear ho
    by_cases hlt : k < M.length
    · have hbr : Below g1 w2 wr := below_of_grownBy hgr (by have := HZ.out.1; omega) (fun q e => by injection e with e; omega)
      obtain ⟨b, off, hJA, hbw, a0, _⟩ := (HJ2.out.belowMore hbr (Nat.le_refl _)).lst.job k hlt
      subst hJA
      have hi : k < ch.length := by omega
      obtain ⟨k0, k1, hfr⟩ := own_cells hoc k hi
      have HH := Lib.hid (And.intro hlen (And.intro hoc hgr))
      have i0 : (0 : Int) ≤ (k : Int) := by omega
      have i1 : (k : Int) < (M.length : Int) := by omega
      have f0 := hfr (k * 2)
      have f1 := hfr (k * 2 + 1)
      have hmx : (M.length : Int) ≤ 3 := by omega
      clear hoc hgr hlen hbr hfr
      generalize M[k].start = ms at *
      generalize ch[k].1 = ch1 at *
      generalize ch[k].2 = ch2 at *
      clear hi
      go_upto_region 6 with fail
      refine wp_region_still_tail 19 (by kernel_rfl) (by kernel_rfl) ?_
      simp only [List.take_succ_cons, List.take_zero, List.drop_succ_cons, List.drop_zero]
      have a0' : { wr with drawn := wr.drawn + 1 }.cell? ⟨b, off + k * 2, none⟩ = some (.int .i64 ms) := a0
      have k0' : { wr with drawn := wr.drawn + 1 }.cell? ⟨g1, k * 2, none⟩ = some (.int .i64 ch1) := k0
      have k1' : { wr with drawn := wr.drawn + 1 }.cell? ⟨g1, k * 2 + 1, none⟩ = some (.int .i64 ch2) := k1
      have f0' : { wr with drawn := wr.drawn + 1 }.frozen? ⟨g1, k * 2, none⟩ = false := f0
      have f1' : { wr with drawn := wr.drawn + 1 }.frozen? ⟨g1, k * 2 + 1, none⟩ = false := f1
      have HH' : Hid (ch.length = M.length ∧ Own encK 2 55 { wr with drawn := wr.drawn + 1 } g1 (.slice (some ⟨g1, 0, none⟩) M.length M.length) ch ∧ w2.grownBy { wr with drawn := wr.drawn + 1 } (some g1)) := ⟨HH.out.1, HH.out.2.1.drew, ⟨HH.out.2.2.os, HH.out.2.2.tape, HH.out.2.2.output, HH.out.2.2.size, HH.out.2.2.block⟩⟩
      clear a0 k0 k1 f0 f1 HH
      generalize { wr with drawn := wr.drawn + 1 } = W3 at *
      still_step
      still_step
      still_step
      still_step
      still_step
      still_call ((hps.out _ _).mono fun _ _ ⟨a, b⟩ => ⟨a, b.symm⟩)
      still_step
      still_step
      still_step
      still_step
      still_step
      still_step
      still_step
      still_step
      still_step
      still_call ((hpt.out _ _).mono fun _ _ ⟨a, b⟩ => ⟨a, b.symm⟩)
      still_step
      still_step
      still_step
      refine wpStill_nil ?_
      go_wp2_with fail
      go_roundg (M.length - (k + 1))
      case measure => omega
      case rel =>
        obtain ⟨e1, e2, e3⟩ := HH'.out
        have s2 := own_setK e2 k (by omega)
        exact ⟨k + 1, _, by omega, rfl, by go_num, by rw [List.length_set]; exact e1, (s2 _ _).1, e3.trans (s2 _ _).2⟩
    · have hbr : Below g1 w2 wr := below_of_grownBy hgr (by have := HZ.out.1; omega) (fun q e => by injection e with e; omega)
      have hzr : g1 ≤ wr.heap.size := by have := HZ.out.1; have := hgr.size; omega
      have HBR := Lib.hid (HB2.out.trans (hbr.mono HZ.out.2))
      have HCK := Lib.hid (Own.lst encK_len hoc)
      have HMM := Lib.hid ((HJ2.out.belowMore hbr (Nat.le_refl _)).belowMore (Below.refl _ _) hzr)
      have HLM := Lib.hid hlen
      have HC1 := Lib.hid (fun V (b : Below wr.heap.size wr V) => by
        have := cost_any JA jc M (some ⟨g1, 0, none⟩) M.length ch V (HMM.out.belowMore b b.size) (HCK.out.belowMore b b.size) (by have := HLM.out; omega)
        rw [HLM.out] at this
        exact this)
      have HC2 := Lib.hid (fun V (b : Below wr.heap.size wr V) => by
        have := refCost_any JA jc M (some ⟨g1, 0, none⟩) M.length ch V (HMM.out.belowMore b b.size) (HCK.out.belowMore b b.size) (by have := HLM.out; omega)
        rw [HLM.out] at this
        exact this)
      have HD1 := Lib.hid (fun V (b : Below w.heap.size w V) => cost_any A2 c2 L A3 c3 raw V (HJ.out.belowMore b b.size) (HK.out.belowMore b b.size) HKL.out)
      have HD2 := Lib.hid (fun V (b : Below w.heap.size w V) => refCost_any A2 c2 L A3 c3 raw V (HJ.out.belowMore b b.size) (HK.out.belowMore b b.size) HKL.out)
      generalize costOf (M.map JobM.start) ch = p at *
      generalize costOf (L.map JobM.start) raw = q at *
      obtain ⟨p1, p2⟩ := p
      obtain ⟨q1, q2⟩ := q
      clear hbr hoc hgr hlen hzr
      obtain ⟨W, rfl⟩ : ∃ V : World, V = wr := ⟨_, rfl⟩
      go_wp2_with fail
      refine (HC1.out W (Below.refl _ _)).mono ?_
      rintro e w3 ⟨rfl, hb3⟩
      go_wp2_with fail
      refine (HC2.out w3 hb3).mono ?_
      rintro e w4 ⟨rfl, hb4⟩
      have b4 := HBR.out.trans ((hb3.trans (hb4.mono hb3.size)).mono HBR.out.size)
      clear hb3 hb4
      go_wp2_with fail
      refine (HD1.out w4 b4).mono ?_
      rintro e w5 ⟨rfl, hb5⟩
      have b5 := b4.trans (hb5.mono b4.size)
      clear hb5
      go_wp2_with fail
      refine (HD2.out w5 b5).mono ?_
      rintro e w6 ⟨rfl, hb6⟩
      have b6 := b5.trans (hb6.mono b5.size)
      clear hb6 b4 b5
      go_wp2_with fail
      refine (awake26_any w6).mono ?_
      rintro e w7 ⟨rfl, hb7⟩
      have b7 := b6.trans (hb7.mono b6.size)
      clear hb7 b6
      go_wp2_with fail
      go_ret
      exact ⟨ret_bool (by simp), b7⟩
end Go.Proofs.Ytlillkfelfoafaa
