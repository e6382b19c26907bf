/-
  Contracts of Concat of two lists and of Union.
-/
import Derived.Test.YtabcbkgnhdijpaaCheck
import Derived.Test.YtabcbkgnhdijpaaRefUnion
set_option linter.unusedVariables false
set_option linter.unusedSimpArgs false
namespace Go.Proofs.Ytabcbkgnhdijpaa
open Go.RowKit RP

def catN (a b : List Sp) : Nat → List Sp
  | 0 => []
  | 1 => a
  | _ => a ++ b

set_option maxHeartbeats 2000000 in
theorem concat2_any (A B : Option Addr) (c d : Nat) (a b : List Sp) (g cc : Nat) (w : World) (g0 : w.cell? ⟨g, 0, none⟩ = some (.slice A a.length c)) (g1 : w.cell? ⟨g, 1, none⟩ = some (.slice B b.length d)) (hg : g < w.heap.size)
    (ha : Lst encS 2 w w.heap.size A a) (hb : Lst encS 2 w w.heap.size B b) (hn : a.length ≤ 2147483648) (hn' : b.length ≤ 2147483648) :
    Calls Try.prog 56 #[.slice (some ⟨g, 0, none⟩) 2 cc] w fun e w' => ∃ v, e = .returned v ∧ OwnS w' w.heap.size v (a ++ b) ∧ Below w.heap.size w w' := by
  have hgrow := growNil_any (a.length + b.length) w (by omega)
  go_enter Try.func56, Try.ntmps56
  go_wp2_with fail
  go_loop [3, 5, 11] (fun s3 s5 s11 => ∃ k : Nat, k ≤ 2 ∧ s11 = .int .i64 k ∧ s3 = .int .i64 (if k = 0 then 0 else if k = 1 then (a.length : Int) else (a.length : Int) + b.length)) (fun _ _ i => 2 - (intOf i).toNat)
  case atStart => exact ⟨0, by omega, rfl, rfl⟩
  case round =>
    obtain ⟨k, hk, rfl, rfl⟩ := hrel
    obtain rfl | rfl | rfl : k = 0 ∨ k = 1 ∨ k = 2 := by omega
    · go_wp2_with fail
      go_round
      case rel => exact ⟨1, by omega, rfl, by simp⟩
      case measure => simp [intOf]
    · go_wp2_with fail
      go_round
      case rel => exact ⟨2, by omega, rfl, by simp⟩
      case measure => simp [intOf]
    · rw [show ((a.length + b.length : Nat) : Int) = (a.length : Int) + b.length by omega] at hgrow
      go_wp2_with (go_at_call 60; refine hgrow.mono ?_; rintro e w1 ⟨v, rfl, ho, hb1⟩)
      clear hgrow
      have hz1 := hb1.size
      go_loopg [6, 8, 27] 2 (fun gk s6 s8 s27 wr => ∃ k : Nat, k ≤ 2 ∧ gk = 2 - k ∧ s27 = .int .i64 k ∧ OwnS wr w.heap.size s6 (catN a b k) ∧ Below w.heap.size w wr)
      case atStart => exact ⟨0, by omega, by omega, rfl, ho, hb1⟩
      case round =>
        obtain ⟨k, hk, hgk, rfl, hox, hbw⟩ := hrel
        have q0 := (hbw.cell (p := ⟨g, 0, none⟩) hg).trans g0
        have q1 := (hbw.cell (p := ⟨g, 1, none⟩) hg).trans g1
        have hz := hbw.size
        obtain rfl | rfl | rfl : k = 0 ∨ k = 1 ∨ k = 2 := by omega
        · rw [show catN a b 0 = [] from rfl] at hox
          obtain ⟨A6, c6, rfl⟩ := hox.form
          go_wp2_with (at_builtin; refine wpList_append_lst rfl _ _ 22 rfl w.heap.size 31 16 Try.underlying22 elemS _ [] rfl hox a A _ c w.heap.size rfl rfl (ha.below hbw) (by simp only [maxLen, List.length_nil]; omega) (by simp only [List.length_nil]; omega) hz ?_; intro v1 w2 ho2 hg2 hat2)
          go_roundg 1
          case measure => omega
          case rel => exact ⟨1, by omega, by omega, rfl, ho2, hbw.grown hg2 hz (hox.le (Nat.le_refl _))⟩
        · rw [show catN a b 1 = a from rfl] at hox
          obtain ⟨A6, c6, rfl⟩ := hox.form
          go_wp2_with (at_builtin; refine wpList_append_lst rfl _ _ 22 rfl w.heap.size 31 16 Try.underlying22 elemS _ a rfl hox b B _ d w.heap.size rfl rfl (hb.below hbw) (by simp only [maxLen]; omega) (by omega) hz ?_; intro v1 w2 ho2 hg2 hat2)
          go_roundg 0
          case measure => omega
          case rel => exact ⟨2, by omega, by omega, rfl, ho2, hbw.grown hg2 hz (hox.le (Nat.le_refl _))⟩
        · rw [show catN a b 2 = (a ++ b) from rfl] at hox
          go_wp2_with fail
          go_ret
          exact ⟨_, rfl, hox, hbw⟩

theorem valid_all {t : Int} : ∀ {l : List Sp} {p : Int}, validFrom t p l = true → -1 ≤ p → ∀ s ∈ l, 0 ≤ s.1 ∧ s.1 < s.2 ∧ s.2 ≤ t
  | [], _, _, _, s, hs => by simp at hs
  | u :: r, p, hv, hp, s, hs => by
    obtain ⟨h1, h2, h3, h4⟩ := validFrom_cons.1 hv
    rcases List.mem_cons.1 hs with rfl | hs
    · exact ⟨by omega, h2, h3⟩
    · exact valid_all h4 (by omega) s hs

theorem union_eq {T : Nat} {a b : List Sp} : runs (memN (a ++ b)) T = runs (unionB a b) T := runs_congr fun x _ => by simp [memN, unionB, RP.mem, List.any_append]

def unionI (t : Int) (a b : List Sp) : List Sp := if badI t a b = 0 then runs (unionB a b) t.toNat else []
theorem unionI_nat (T : Nat) (a b : List Sp) : unionI T a b = unionL T a b := by simp [unionI, unionL]

theorem badI_range {t : Int} {a b : List Sp} (h : badI t a b = 0) : 1 ≤ t ∧ t ≤ 7200 := by
  unfold badI at h
  split at h
  · rename_i h1; simpa [inRange] using h1
  · simp at h

set_option maxHeartbeats 2000000 in
theorem union_any (t : Int) (A B : Option Addr) (c d : Nat) (a b : List Sp) (w : World) (ha : Lst encS 2 w w.heap.size A a) (hb : Lst encS 2 w w.heap.size B b)
    (hn : a.length ≤ 9223372036854775807) (hn' : b.length ≤ 9223372036854775807) :
    Calls Try.prog 34 #[.int .i64 t, .slice A a.length c, .slice B b.length d] w fun e w' =>
      ∃ v, e = .returned (.tuple #[v, .int .i64 (badI t a b)]) ∧ OwnS w' w.heap.size v (unionI t a b) ∧ Below w.heap.size w w' := by
  have hba : Below w.heap.size w (w.alloc (.cells #[.slice A a.length c, .slice B b.length d] 22)) := (Below.refl _ _).alloc (Nat.le_refl _) _
  have g0 : (w.alloc (.cells #[.slice A a.length c, .slice B b.length d] 22)).cell? ⟨w.heap.size, 0, none⟩ = some (.slice A a.length c) := by rw [World.cell?_alloc_at _ _ _ _ rfl]; rfl
  have g1 : (w.alloc (.cells #[.slice A a.length c, .slice B b.length d] 22)).cell? ⟨w.heap.size, 1, none⟩ = some (.slice B b.length d) := by rw [World.cell?_alloc_at _ _ _ _ rfl]; rfl
  have hch := check2_any t A B c d a b w.heap.size 2 (w.alloc (.cells #[.slice A a.length c, .slice B b.length d] 22)) g0 g1 (by simp) (ha.belowMore hba (by simp)) (hb.belowMore hba (by simp)) hn hn'
  clear g0 g1
  by_cases h0 : badI t a b = 0
  · obtain ⟨va, vb⟩ := badI_zero h0
    obtain ⟨t1, t2⟩ := badI_range h0
    obtain ⟨T, rfl⟩ := Int.eq_ofNat_of_zero_le (show 0 ≤ t by omega)
    have H := Lib.hid h0
    have HE := Lib.hid (show unionI T a b = runs (memN (a ++ b)) T by rw [union_eq]; simp [unionI, h0])
    have HL := Lib.hid (show ∀ s ∈ a ++ b, 0 ≤ s.1 ∧ s.1 < s.2 ∧ s.2 ≤ (T : Int) from fun s hs => by
      rcases List.mem_append.1 hs with q | q
      · exact valid_all va (by omega) s q
      · exact valid_all vb (by omega) s q)
    have la := valid_length va (by omega)
    have lb := valid_length vb (by omega)
    rw [h0] at hch
    clear h0 va vb
    go_enter Try.func34, Try.ntmps34
    go_wp2_with fail
    refine hch.mono ?_
    rintro e w1 ⟨rfl, hb1⟩
    have z0 : w.heap.size + 1 ≤ w1.heap.size := by have := hb1.size; simpa using this
    have hw1 := hba.trans (hb1.mono (by simp))
    have hba2 : Below w.heap.size w (w1.alloc (.cells #[.slice A a.length c, .slice B b.length d] 22)) := hw1.alloc (by omega) _
    have k0 : (w1.alloc (.cells #[.slice A a.length c, .slice B b.length d] 22)).cell? ⟨w1.heap.size, 0, none⟩ = some (.slice A a.length c) := by rw [World.cell?_alloc_at _ _ _ _ rfl]; rfl
    have k1 : (w1.alloc (.cells #[.slice A a.length c, .slice B b.length d] 22)).cell? ⟨w1.heap.size, 1, none⟩ = some (.slice B b.length d) := by rw [World.cell?_alloc_at _ _ _ _ rfl]; rfl
    have hcc := concat2_any A B c d a b w1.heap.size 2 (w1.alloc (.cells #[.slice A a.length c, .slice B b.length d] 22)) k0 k1 (by simp) (ha.belowMore hba2 (by simp; omega)) (hb.belowMore hba2 (by simp; omega)) (by omega) (by omega)
    clear k0 k1 hch
    go_wp2_with fail
    refine hcc.mono ?_
    rintro e w2 ⟨v2, rfl, ho2, hb2⟩
    have z2 : w1.heap.size + 1 ≤ w2.heap.size := by have := hb2.size; simpa using this
    have hw2 := hba2.trans (hb2.mono (by simp; omega))
    have hm := merge_any T _ v2 (a ++ b) w2 ho2 (by rw [List.length_append]; omega) (by simp; omega) (by omega) HL.out
    clear hcc
    go_wp2_with fail
    refine hm.mono ?_
    rintro e w3 ⟨v3, rfl, ho3, hg3⟩
    go_wp2_with fail
    go_ret2
    refine ⟨_, by rw [H.out]; rfl, by rw [HE.out]; exact ho3.rebase (by omega), hw2.grown hg3 (by omega) (fun k hk => ?_)⟩
    have := (World.ownsRow.lt ho2 k hk).1
    simp at this
    omega
  · have hne : (badI t a b != 0) = true := by simp [h0]
    have HE := Lib.hid (show unionI t a b = [] by simp [unionI, h0])
    clear h0
    generalize badI t a b = E at *
    go_enter Try.func34, Try.ntmps34
    go_wp2_with (go_at_call 51; refine hch.mono ?_; rintro e w1 ⟨rfl, hb1⟩)
    go_ret2
    exact ⟨_, rfl, by rw [HE.out]; exact Own.nil _ _ _ _ _, hba.trans (hb1.mono (by simp))⟩

end Go.Proofs.Ytabcbkgnhdijpaa
