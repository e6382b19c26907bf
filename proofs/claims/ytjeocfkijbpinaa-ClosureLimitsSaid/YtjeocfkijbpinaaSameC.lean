/-
  Contract of Same at closures, and of awake of chapter 25.
-/
import Derived.Test.YtjeocfkijbpinaaCloH
import Derived.Test.YtjeocfkijbpinaaCloF
import Derived.Test.YtjeocfkijbpinaaSame
set_option linter.unusedVariables false
set_option linter.unusedSimpArgs false
namespace Go.Proofs.Ytjeocfkijbpinaa
open Go.RowKit RP

theorem cloTS : Try.prog.underlying 27 = some (.struct (Try.prog.fieldsOf 27)) := by kernel_rfl
theorem cloTH : Try.prog.stoodInHeld 27 = false := by kernel_rfl
theorem cloTG : Try.prog.eqGuardType Try.prog.depth 27 = false := by kernel_rfl

theorem run_neq_clo (a b c d e f : Int) (w : World) : (binOp .neq 27 (.agg #[.int .i64 a, .int .i64 b, .int .i64 c]) (.agg #[.int .i64 d, .int .i64 e, .int .i64 f])).run Try.prog w = .ok (.bool (!(a == d && (b == e && c == f)))) w := by
  have u3 := Try.underlying3
  have a3 := Try.isAgg3
  have z3 := Try.sizeOf3
  rw [run_neq_struct, show (10000 : Nat) = 9999 + 1 from rfl, run_equalIn_agg w 9999 27 _ _ cloTS cloTH]
  simp only [Program.fieldsOf, Try.underlying27]
  go_simp
  by_cases h1 : a = d <;> by_cases h2 : b = e <;> by_cases h3 : c = f <;> simp [h1, h2, h3]

set_option maxHeartbeats 1000000 in
theorem sameC_any (A B : Option Addr) (c d : Nat) (l m : List Clo) (w : World) (hl : Lst encO 3 w w.heap.size A l) (hm : Lst encO 3 w w.heap.size B m) (hn : l.length ≤ 9223372036854775807) (hn' : m.length ≤ 9223372036854775807) :
    Calls Try.prog 16 #[.slice A l.length c, .slice B m.length d] w fun e w' => e = .returned (.bool (decide (l = m))) ∧ Below w.heap.size w w' := by
  by_cases hlen : l.length = m.length
  · have hne : ((l.length : Int) != (m.length : Int)) = false := by simp [hlen]
    have HL := Lib.hid hlen
    have hle : m.length ≤ l.length := by omega
    have hle' : l.length ≤ m.length := by omega
    clear hlen
    go_enter Try.func16, Try.ntmps16
    go_wp2
    go_loopg [5, 13] l.length (fun g s5 s13 wr => ∃ k : Nat, k ≤ l.length ∧ g = l.length - k ∧ s13 = .int .i64 k ∧ l.take k = m.take k ∧ Below w.heap.size w wr)
    case atStart => exact ⟨0, by omega, by omega, rfl, rfl, Below.refl _ _⟩
    case round =>
      obtain ⟨k, hk, hg, rfl, ht, hb⟩ := hrel
      have HT := Lib.hid ht
      clear ht
      by_cases hlt : k < l.length
      · have hlt' : k < m.length := by omega
        obtain ⟨b, off, rfl, hbw, c0, c1, c2⟩ := (hl.below hb).oc k hlt
        obtain ⟨b', off', rfl, hbw', c0', c1', c2'⟩ := (hm.below hb).oc k hlt'
        have HX := Lib.hid (fun h => take_eq_snoc hlt hlt' HT.out h)
        have HY := Lib.hid (fun h => list_ne_at hlt hlt' h)
        generalize l[k] = x at *
        generalize m[k] = y at *
        obtain ⟨x1, x2, x3⟩ := x
        obtain ⟨y1, y2, y3⟩ := y
        simp only at c0 c1 c2 c0' c1' c2'
        by_cases he : ((x1, x2, x3) : Clo) = (y1, y2, y3)
        · have hq : ∀ W, (binOp .neq 27 (.agg #[.int .i64 x1, .int .i64 x2, .int .i64 x3]) (.agg #[.int .i64 y1, .int .i64 y2, .int .i64 y3])).run Try.prog W = .ok (.bool false) W := fun W => by
            rw [run_neq_clo]; injection he with e1 e2; injection e2 with e2 e3; simp [e1, e2, e3]
          have HE := Lib.hid he
          clear he
          go_wp2_with fail
          go_quiet (fail)
          go_wp2_with fail
          go_roundg (l.length - (k + 1))
          case measure => omega
          case rel => exact ⟨k + 1, by omega, rfl, by go_num, HX.out HE.out, below_drewN hb _⟩
        · have hq : ∀ W, (binOp .neq 27 (.agg #[.int .i64 x1, .int .i64 x2, .int .i64 x3]) (.agg #[.int .i64 y1, .int .i64 y2, .int .i64 y3])).run Try.prog W = .ok (.bool true) W := fun W => by
            rw [run_neq_clo]
            congr 2
            cases h1 : x1 == y1 <;> cases h2 : x2 == y2 <;> cases h3 : x3 == y3 <;> first | rfl | (exfalso; simp at h1 h2 h3; exact he (by rw [h1, h2, h3]))
          have HE := Lib.hid he
          clear he
          go_wp2_with fail
          go_quiet (fail)
          go_wp2_with fail
          go_ret
          exact ⟨ret_bool (by have := HY.out HE.out; simp [this]), below_drewN hb _⟩
      · go_wp2
        go_ret
        have ht := HT.out
        rw [List.take_of_length_le (by omega), List.take_of_length_le (by omega)] at ht
        exact ⟨ret_bool (by simp [ht]), hb⟩
  · have hne : ((l.length : Int) != (m.length : Int)) = true := by rw [bne_iff_ne]; omega
    go_enter Try.func16, Try.ntmps16
    go_wp2
    go_ret
    exact ⟨ret_bool (by have : l ≠ m := (fun h => hlen (by rw [h])); simp [this]), Below.refl _ _⟩

theorem sameC_own (A B : Value) (l m : List Clo) (w : World) (b b' : Nat) (hl : OwnC w b A l) (hm : OwnC w b' B m) :
    Calls Try.prog 16 #[A, B] w fun e w' => e = .returned (.bool (decide (l = m))) ∧ Below w.heap.size w w' := by
  have h1 := hl.maxLen
  have h2 := hm.maxLen
  simp only [maxLen] at h1 h2
  obtain ⟨A', c, rfl⟩ := hl.form
  obtain ⟨B', d, rfl⟩ := hm.form
  exact sameC_any A' B' c d l m w (hl.lst encO_len) (hm.lst encO_len) (by omega) (by omega)
theorem sameC_own' (A B : Value) (l m : List Clo) (w : World) (b b' : Nat) (hl : OwnC w b A l) (hm : OwnC w b' B m) (he : l = m) :
    Calls Try.prog 16 #[A, B] w fun e w' => e = .returned (.bool true) ∧ Below w.heap.size w w' :=
  (sameC_own A B l m w b b' hl hm).mono fun e w' ⟨h1, h2⟩ => ⟨by rw [h1, decide_eq_true he], h2⟩

/-- The example. -/
def exC : List Clo := [(3, 10, 20), (3, 20, 25)]
theorem exC_cover (r x : Int) : coverC exC r x = true ↔ r = 3 ∧ 10 ≤ x ∧ x < 25 := by
  rw [cover_iff]
  constructor
  · rintro ⟨c, hc, h1, h2, h3⟩
    simp only [exC, List.mem_cons, List.not_mem_nil, or_false] at hc
    rcases hc with rfl | rfl <;> simp only at h1 h2 h3 <;> omega
  · rintro ⟨rfl, h2, h3⟩
    by_cases h : x < 20
    · exact ⟨(3, 10, 20), by simp [exC], rfl, h2, h⟩
    · exact ⟨(3, 20, 25), by simp [exC], rfl, by simp only; omega, h3⟩
theorem exC_merge : MergeC exC [(3, 10, 25)] := by
  refine ⟨⟨by simp, by simp⟩, fun r x => ?_⟩
  rw [Bool.eq_iff_iff, exC_cover, cover_iff]
  simp only [List.mem_singleton]
  constructor
  · rintro ⟨c, rfl, h1, h2, h3⟩; simp only at h1 h2 h3; omega
  · rintro ⟨rfl, h2, h3⟩; exact ⟨_, rfl, rfl, h2, h3⟩
theorem exC_merged {g : List Clo} (h : mergeTo exC g) : g = [(3, 10, 25)] := (h.1 (by decide)).1.unique exC_merge
theorem exC_next {n : Int} (h : NextC exC 3 12 n) : n = 25 := by
  refine h.unique ⟨by omega, ?_, fun y h1 h2 => (exC_cover _ _).2 ⟨rfl, by omega, h2⟩⟩
  cases q : coverC exC 3 25 with
  | false => rfl
  | true => have := (exC_cover _ _).1 q; omega
theorem exC_rng : ∀ x ∈ exC, R64 x.1 ∧ R64 x.2.1 ∧ R64 x.2.2 := by
  intro x hx
  simp only [exC, List.mem_cons, List.not_mem_nil, or_false] at hx
  rcases hx with rfl | rfl <;> (unfold R64; simp only; omega)

set_option maxHeartbeats 2000000 in
theorem awake25_any (w : World) : Calls Try.prog 14 #[] w fun e w' => e = .returned (.bool true) ∧ Below w.heap.size w w' := by
  have hl : Lst encO 3 (w.alloc (.cells #[.int .i64 3, .int .i64 10, .int .i64 20, .int .i64 3, .int .i64 20, .int .i64 25] 27)) (w.alloc (.cells #[.int .i64 3, .int .i64 10, .int .i64 20, .int .i64 3, .int .i64 20, .int .i64 25] 27)).heap.size (some ⟨w.heap.size, 0, none⟩) exC :=
    (Own.lit w 27 w.heap.size _ exC 2 rfl encO_len rfl (Nat.le_refl _) (by simp [exC, maxLen])).lst encO_len
  have hb0 := belA w (.cells #[.int .i64 3, .int .i64 10, .int .i64 20, .int .i64 3, .int .i64 20, .int .i64 25] 27)
  have HCK := Lib.hid (show checkC exC = true by decide)
  go_enter Try.func14, Try.ntmps14
  go_upto_region 2 with fail
  generalize w.alloc (.cells #[.int .i64 3, .int .i64 10, .int .i64 20, .int .i64 3, .int .i64 20, .int .i64 25] 27) = W at *
  have z0 := hb0.size
  generalize hg0 : w.heap.size = g0 at *
  have HG0 := Lib.hid hg0
  clear hg0
  go_wp2_with fail
  refine (merge_any (some ⟨g0, 0, none⟩) 2 exC W hl (by simp [exC])).mono ?_
  rintro e w1 ⟨v, g, rfl, ho, hm, hb1⟩
  have z1 := hb1.size
  have hc1 : Below W.heap.size W w1 := Below.trans (Below.refl W.heap.size W) (hb1.mono (Below.size (Below.refl W.heap.size W)))
  replace hl := hl.belowMore hb1 z1
  have hg := exC_merged hm
  subst hg
  clear hm
  have hb2 := belA w1 (.cells #[.int .i64 3, .int .i64 10, .int .i64 25] 27)
  have z2 := hb2.size
  have hc2 : Below W.heap.size W (w1.alloc (.cells #[.int .i64 3, .int .i64 10, .int .i64 25] 27)) := Below.trans hc1 (hb2.mono (Below.size hc1))
  replace hl := hl.belowMore hb2 z2
  replace ho := ho.below' hb2
  have hlit : OwnC (w1.alloc (.cells #[.int .i64 3, .int .i64 10, .int .i64 25] 27)) w1.heap.size (.slice (some ⟨w1.heap.size, 0, none⟩) 1 1) [(3, 10, 25)] := Own.lit w1 _ _ _ [(3, 10, 25)] 1 rfl encO_len rfl (Nat.le_refl _) (by simp [maxLen])
  go_wp2_with fail
  refine (sameC_own' v (.slice (some ⟨w1.heap.size, 0, none⟩) 1 1) [(3, 10, 25)] [(3, 10, 25)] (w1.alloc (.cells #[.int .i64 3, .int .i64 10, .int .i64 25] 27)) _ _ ho hlit rfl).mono ?_
  rintro e w3 ⟨rfl, hb3⟩
  have z3 := hb3.size
  have hc3 : Below W.heap.size W w3 := Below.trans hc2 (hb3.mono (Below.size hc2))
  replace hl := hl.belowMore hb3 z3
  replace ho := ho.below' hb3
  clear ho hlit
  go_wp2_with fail
  refine (cnext_any (some ⟨g0, 0, none⟩) 2 exC 3 12 w3 hl (by simp [exC]) exC_rng (by unfold R64; omega)).mono ?_
  rintro e w4 ⟨n, rfl, hnx, hb4⟩
  have z4 := hb4.size
  have hc4 : Below W.heap.size W w4 := Below.trans hc3 (hb4.mono (Below.size hc3))
  replace hl := hl.belowMore hb4 z4
  have hn := exC_next hnx
  subst hn
  clear hnx
  go_wp2_with fail
  refine (check_any (some ⟨g0, 0, none⟩) 2 exC w4 hl (by simp [exC])).mono ?_
  rintro e w5 ⟨rfl, hb5⟩
  have z5 := hb5.size
  have hc5 : Below W.heap.size W w5 := Below.trans hc4 (hb5.mono (Below.size hc4))
  replace hl := hl.belowMore hb5 z5
  rw [HCK.out]
  go_wp2_with fail
  go_ret
  exact ⟨rfl, by rw [HG0.out]; exact hb0.trans (hc5.mono z0)⟩

end Go.Proofs.Ytjeocfkijbpinaa
