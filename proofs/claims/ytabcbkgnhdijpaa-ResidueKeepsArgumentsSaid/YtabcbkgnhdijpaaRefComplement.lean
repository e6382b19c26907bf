/-
  Contracts of the reference's Complement and Shift.
-/
import Derived.Test.YtabcbkgnhdijpaaRefOps
import Derived.Deep.RegionWith
set_option linter.unusedVariables false
set_option linter.unusedSimpArgs false
namespace Go.Proofs.Ytabcbkgnhdijpaa
open Go.RowKit RP

def compB (a : List Sp) (x : Nat) : Bool := !memN a x
def compL (t : Nat) (a : List Sp) : List Sp := if badI t a [] = 0 then runs (compB a) t else []

def compHalf (a : List Sp) (k x : Nat) : Bool := if x < k then compB a x else memN a x
theorem compHalf_zero (T : Nat) (a : List Sp) : bitsOf T (memN a) = bitsOf T (compHalf a 0) := bitsOf_congr fun x _ => by simp [compHalf]
theorem compHalf_full (T : Nat) (a : List Sp) : bitsOf T (compHalf a T) = bitsOf T (compB a) := bitsOf_congr fun x hx => by simp [compHalf, hx]
theorem compHalf_step (T : Nat) (a : List Sp) (k : Nat) : (bitsOf T (compHalf a k)).set k (compB a k) = bitsOf T (compHalf a (k + 1)) := by
  rw [bitsOf_set]
  refine bitsOf_congr fun x _ => ?_
  unfold compHalf
  by_cases e : x = k
  · subst e; simp
  · rw [if_neg e]
    by_cases h : x < k
    · rw [if_pos h, if_pos (by omega)]
    · rw [if_neg h, if_neg (by omega)]

set_option maxHeartbeats 2000000 in
theorem refComplement_any (T : Nat) (A : Option Addr) (c : Nat) (a : List Sp) (w : World) (ha : Lst encS 2 w w.heap.size A a) (h1 : 1 ≤ T) (h2 : T ≤ 7200)
    (hn : a.length ≤ 9223372036854775807) :
    Calls Try.prog 39 #[.int .i64 T, .slice A a.length c] w fun e w' =>
      ∃ v, e = .returned (.tuple #[v, .int .i64 (badI T a [])]) ∧ OwnS w' w.heap.size v (compL T a) ∧ Below w.heap.size w w' := by
  have hbad := bad_any T A none c 0 a [] w ha Lst.nil hn (by simp)
  simp only [List.length_nil] at hbad
  by_cases h0 : badI T a [] = 0
  · obtain ⟨va, _⟩ := badI_zero h0
    have H := Lib.hid h0
    rw [h0] at hbad
    have HE := Lib.hid (show compL T a = runs (compB a) T by simp [compL, h0])
    clear h0
    go_enter Try.func39, Try.ntmps39
    go_wp2_with fail
    refine hbad.mono ?_
    rintro e w1 ⟨rfl, hb1⟩
    have s1 := hb1.size
    go_wp2_with fail
    refine (marks_any T A c a w1 (ha.belowMore hb1 hb1.size) h1 h2 va).mono ?_
    rintro e w2 ⟨g1, rfl, hg1, ho1, hb2⟩
    have s2 := hb2.size
    rw [compHalf_zero T a] at ho1
    go_wp2_with fail
    go_loopg [8] T (fun g s8 wr => ∃ k : Nat, k ≤ T ∧ g = T - k ∧ s8 = .int .i64 k ∧
      Own encB 1 4 wr w1.heap.size (.slice (some ⟨g1, 0, none⟩) T T) (bitsOf T (compHalf a k)) ∧ Below w1.heap.size w2 wr)
    case atStart => exact ⟨0, by omega, by omega, rfl, ho1, Below.refl _ _⟩
    case round =>
      obtain ⟨k, hk, hg, rfl, hox, hbr⟩ := hrel
      have sr := hbr.size
      by_cases hlt : k < T
      · have HS := Lib.hid (compHalf_step T a k)
        obtain ⟨cx, fx, hox'⟩ := hox.boAt k (by rw [bitsOf_length]; omega) (compB a k)
        rw [bitsOf_get] at cx
        rw [HS.out] at hox'
        have e1 : compHalf a k k = memN a k := by simp [compHalf]
        rw [e1] at cx
        have hbits : compB a k = !memN a k := rfl
        rw [hbits] at hox'
        clear hbits e1 HS
        generalize memN a k = bb at *
        go_wp2
        go_roundg (T - (k + 1))
        case measure => omega
        case rel => exact ⟨k + 1, by omega, rfl, by go_num, hox', hbr.setCell hg1 _⟩
      · obtain rfl : k = T := by omega
        rw [compHalf_full] at hox
        have hsp := spans_bits wr w1.heap.size g1 k k _ (by omega) hox
        go_wp2_with (go_at_call 47; refine hsp.mono ?_; rintro e w4 ⟨v, rfl, ho4, hb4⟩)
        go_ret2
        exact ⟨_, by rw [H.out]; rfl, by rw [HE.out]; exact ho4.rebase (by omega), hb1.trans ((hb2.mono s1).trans ((hbr.mono s1).trans (hb4.mono (by omega))))⟩
  · have hne : (badI T a [] != 0) = true := by simp [h0]
    have HE := Lib.hid (show compL T a = [] by simp [compL, h0])
    clear h0
    generalize badI T a [] = E at *
    go_enter Try.func39, Try.ntmps39
    go_wp2_with (go_at_call 45; refine hbad.mono ?_; rintro e w1 ⟨rfl, hb1⟩)
    go_ret2
    exact ⟨_, rfl, by rw [HE.out]; exact Own.nil _ _ _ _ _, hb1⟩

/-- The residues x with x - by in the set. -/
def shiftB (t : Nat) (a : List Sp) (d : Int) (x : Nat) : Bool := mem a (((x : Int) - d) % t)
def shiftL (t : Nat) (a : List Sp) (d : Int) : List Sp := if badI t a [] = 0 then runs (shiftB t a d) t else []

/-- .. of the first k residues. -/
def shiftHalf (t : Nat) (a : List Sp) (d : Int) (k x : Nat) : Bool := decide (((x : Int) - d) % t < k) && mem a (((x : Int) - d) % t)
theorem shiftHalf_zero (T : Nat) (a : List Sp) (d : Int) (h : 1 ≤ T) : (bitsOf T fun _ => false) = bitsOf T (shiftHalf T a d 0) := bitsOf_congr fun x _ => by
  have := Int.emod_nonneg ((x : Int) - d) (show (T : Int) ≠ 0 by omega)
  simp [shiftHalf]; omega
theorem shiftHalf_full (T : Nat) (a : List Sp) (d : Int) (h : 1 ≤ T) : bitsOf T (shiftHalf T a d T) = bitsOf T (shiftB T a d) := bitsOf_congr fun x hx => by
  have := Int.emod_lt_of_pos ((x : Int) - d) (show 0 < (T : Int) by omega)
  simp [shiftHalf, shiftB, this]
theorem shift_at {T : Nat} {d : Int} {k x : Nat} (h0 : 0 ≤ d) (h1 : d < T) (hk : k < T) (hx : x < T) : x = (((k : Int) + d) % T).toNat ↔ ((x : Int) - d) % T = k := by
  have a := addMod (t := T) (x := k) (f := d) (by omega) (by omega) h0 h1
  have b := subMod (t := T) (x := x) (f := d) (by omega) (by omega) h0 h1
  rw [a, b]
  split <;> split <;> omega
theorem shiftHalf_yes (T : Nat) (a : List Sp) (d : Int) (k : Nat) (h0 : 0 ≤ d) (h1 : d < T) (hk : k < T) (hm : memN a k = true) :
    (bitsOf T (shiftHalf T a d k)).set (((k : Int) + d) % T).toNat true = bitsOf T (shiftHalf T a d (k + 1)) := by
  rw [bitsOf_set]
  refine bitsOf_congr fun x hx => ?_
  have hs := shift_at h0 h1 hk hx
  unfold shiftHalf
  by_cases e : ((x : Int) - d) % T = k
  · rw [if_pos (hs.2 e), e]
    have : mem a (k : Int) = true := hm
    simp [this]
    omega
  · rw [if_neg (fun q => e (hs.1 q))]
    congr 1
    simp
    omega
theorem shiftHalf_no (T : Nat) (a : List Sp) (d : Int) (k : Nat) (hm : memN a k = false) : bitsOf T (shiftHalf T a d k) = bitsOf T (shiftHalf T a d (k + 1)) := by
  refine bitsOf_congr fun x hx => ?_
  unfold shiftHalf
  by_cases e : ((x : Int) - d) % T = k
  · rw [e]
    have : mem a (k : Int) = false := hm
    simp [this]
  · congr 1
    simp
    omega

theorem grownBy_setCell (w : World) (g i : Nat) (u : Value) : w.grownBy (w.setCell ⟨g, i, none⟩ u) (some g) :=
  ⟨rfl, rfl, rfl, by simp [World.setCell], fun k hk hne => Below.heap_setCell w _ _ k (fun e => hne (by rw [e]))⟩

set_option maxHeartbeats 2000000 in
theorem refShift_any (T : Nat) (A : Option Addr) (c : Nat) (a : List Sp) (by_ : Int) (w : World) (ha : Lst encS 2 w w.heap.size A a) (h1 : 1 ≤ T) (h2 : T ≤ 7200)
    (hn : a.length ≤ 9223372036854775807) :
    Calls Try.prog 31 #[.int .i64 T, .slice A a.length c, .int .i64 by_] w fun e w' =>
      ∃ v, e = .returned (.tuple #[v, .int .i64 (badI T a [])]) ∧ OwnS w' w.heap.size v (shiftL T a (by_ % T)) ∧ Below w.heap.size w w' := by
  have hbad := bad_any T A none c 0 a [] w ha Lst.nil hn (by simp)
  simp only [List.length_nil] at hbad
  by_cases h0 : badI T a [] = 0
  · obtain ⟨va, _⟩ := badI_zero h0
    have H := Lib.hid h0
    rw [h0] at hbad
    have hmod := fun W => refMod_any by_ T W (by omega) (by omega)
    have hmr := modI_range by_ T (by omega)
    have em : modI by_ T = by_ % T := by rw [modI, if_neg (by omega)]
    rw [em] at hmod hmr
    have HE := Lib.hid (show shiftL T a (by_ % T) = runs (shiftB T a (by_ % T)) T by simp [shiftL, h0])
    generalize by_ % (T : Int) = d at *
    clear h0 em
    obtain ⟨hd0, hd1⟩ := hmr
    have hmk := makeBools T (by omega)
    go_enter Try.func31, Try.ntmps31
    go_wp2_with fail
    refine hbad.mono ?_
    rintro e w1 ⟨rfl, hb1⟩
    have s1 := hb1.size
    have hm1 : ∀ W, Below w1.heap.size w1 W → Calls Try.prog 53 #[.int .i64 T, .slice A a.length c] W fun e w' =>
      ∃ g, e = .returned (.slice (some ⟨g, 0, none⟩) T T) ∧ W.heap.size ≤ g ∧ Own encB 1 4 w' W.heap.size (.slice (some ⟨g, 0, none⟩) T T) (bitsOf T (memN a)) ∧ Below W.heap.size W w' := fun W hW =>
        marks_any T A c a W (ha.belowMore (hb1.trans (hW.mono s1)) (by have := hW.size; omega)) h1 h2 va
    go_upto_region 4 with fail
    go_cut [9, 10] (fun s9 s10 wx => ∃ g1 g2, s9 = .slice (some ⟨g1, 0, none⟩) T T ∧ s10 = .slice (some ⟨g2, 0, none⟩) T T ∧ g1 ≠ g2 ∧ w1.heap.size ≤ g1 ∧ w1.heap.size ≤ g2 ∧
      Own encB 1 4 wx w1.heap.size (.slice (some ⟨g1, 0, none⟩) T T) (bitsOf T fun _ => false) ∧ Own encB 1 4 wx w1.heap.size (.slice (some ⟨g2, 0, none⟩) T T) (bitsOf T (memN a)) ∧ Below w1.heap.size w1 wx)
    case first =>
      go_region_with (first
        | (go_at_call 53; refine (hm1 _ (((Below.refl w1.heap.size w1).alloc (Nat.le_refl _) _).drew)).mono ?_; rintro e w2 ⟨g, rfl, hg, ho, hb⟩)
        | (go_at_call 53; refine (hm1 _ ((Below.refl w1.heap.size w1).drew)).mono ?_; rintro e w2 ⟨g, rfl, hg, ho, hb⟩))
      all_goals (go_wp2_with fail; go_meet)
      · have hg' : w1.heap.size + 1 ≤ g := by simpa using hg
        exact ⟨w1.heap.size, g, rfl, rfl, by omega, Nat.le_refl _, by omega, (Own.bools w1 T (by omega)).drew.below' hb, ho.rebase (by simp), (((Below.refl w1.heap.size w1).alloc (Nat.le_refl _) _).drew).trans (hb.mono (by simp))⟩
      · have hlt := (World.ownsRow.lt ho g rfl).2
        have hz : w1.heap.size ≤ w2.heap.size := hb.size
        have hg' : w1.heap.size ≤ g := hg
        exact ⟨w2.heap.size, g, rfl, rfl, by omega, hz, hg', (Own.bools w2 T (by omega)).rebase hz, (ho.rebase (Nat.le_refl w1.heap.size)).alloc _, (((Below.refl w1.heap.size w1).drew).trans hb).alloc hz _⟩
    case rest =>
      obtain ⟨g1, g2, rfl, rfl, hne, hg1, hg2, hox0, hoy0, hbc⟩ := hcut
      have sc := hbc.size
      rw [shiftHalf_zero T a d h1] at hox0
      clear hm1
      go_wp2_with (go_at_call 46; refine (hmod _).mono ?_; rintro e w' ⟨rfl, rfl⟩)
      go_loopg [12] T (fun g s12 wr => ∃ k : Nat, k ≤ T ∧ g = T - k ∧ s12 = .int .i64 k ∧
        Own encB 1 4 wr w1.heap.size (.slice (some ⟨g1, 0, none⟩) T T) (bitsOf T (shiftHalf T a d k)) ∧ Own encB 1 4 wr w1.heap.size (.slice (some ⟨g2, 0, none⟩) T T) (bitsOf T (memN a)) ∧ Below w1.heap.size w1 wr)
      case atStart => exact ⟨0, by omega, by omega, rfl, hox0, hoy0, hbc⟩
      case round =>
        obtain ⟨k, hk, hg, rfl, hox, hoy, hbr⟩ := hrel
        have sr := hbr.size
        by_cases hlt : k < T
        · obtain ⟨cy, fy, _⟩ := hoy.boAt k (by rw [bitsOf_length]; omega) true
          rw [bitsOf_get] at cy
          cases hx : memN a k with
          | true =>
            have HS := Lib.hid (shiftHalf_yes T a d k hd0 hd1 hlt hx)
            rw [hx] at cy
            clear hx
            have hx1 := Int.emod_nonneg ((k : Int) + d) (show (T : Int) ≠ 0 by omega)
            have hx2 := Int.emod_lt_of_pos ((k : Int) + d) (show 0 < (T : Int) by omega)
            have hkd : (0 : Int) ≤ (k : Int) + d := by omega
            obtain ⟨X, hX⟩ := Int.eq_ofNat_of_zero_le hx1
            rw [hX] at HS hx2
            rw [Int.toNat_natCast] at HS
            obtain ⟨cx, fx, hox'⟩ := hox.boAt X (by rw [bitsOf_length]; omega) true
            rw [HS.out] at hox'
            have hoy' := hoy.kept (grownBy_setCell wr g1 X (.bool true)) (.inr (by simp only [Value.ownBlock]; intro e; injection e with e; exact hne e.symm))
            clear hx1
            go_wp2
            go_roundg (T - (k + 1))
            case measure => omega
            case rel => exact ⟨k + 1, by omega, rfl, by go_num, hox', hoy', hbr.setCell hg1 _⟩
          | false =>
            have HS := Lib.hid (shiftHalf_no T a d k hx)
            rw [hx] at cy
            clear hx
            go_wp2
            go_roundg (T - (k + 1))
            case measure => omega
            case rel => exact ⟨k + 1, by omega, rfl, by go_num, by rw [← HS.out]; exact hox, hoy, hbr⟩
        · obtain rfl : k = T := by omega
          rw [shiftHalf_full _ a d h1] at hox
          have hsp := spans_bits wr w1.heap.size g1 k k _ (by omega) hox
          go_wp2_with (go_at_call 47; refine hsp.mono ?_; rintro e w4 ⟨v, rfl, ho4, hb4⟩)
          go_ret2
          exact ⟨_, by rw [H.out]; rfl, by rw [HE.out]; exact ho4.rebase (by omega), hb1.trans ((hbr.mono s1).trans (hb4.mono (by omega)))⟩
  · have hne : (badI T a [] != 0) = true := by simp [h0]
    have HE := Lib.hid (show shiftL T a (by_ % T) = [] by simp [shiftL, h0])
    clear h0
    generalize badI T a [] = E at *
    go_enter Try.func31, Try.ntmps31
    go_wp2_with (go_at_call 45; refine hbad.mono ?_; rintro e w1 ⟨rfl, hb1⟩)
    go_ret2
    exact ⟨_, rfl, by rw [HE.out]; exact Own.nil _ _ _ _ _, hb1⟩

end Go.Proofs.Ytabcbkgnhdijpaa
