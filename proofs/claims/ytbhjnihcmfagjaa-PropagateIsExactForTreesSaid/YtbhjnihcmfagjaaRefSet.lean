/-
  What the reference's operations on sets share.
  Contract of the reference's Union.
  Contract of the reference's Intersect.
  Contracts of the reference's Complement and Shift.
-/
import Derived.Test.YtbhjnihcmfagjaaBasics
import Derived.Deep.RegionWith
set_option linter.unusedVariables false
set_option linter.unusedSimpArgs false
namespace Go.Proofs.Ytbhjnihcmfagjaa
open Go.RowKit RP

theorem badI_zero {t : Int} {a b : List Sp} (h : badI t a b = 0) : validFrom t (-1) a = true ∧ validFrom t (-1) b = true := by
  unfold badI at h
  split at h
  · split at h
    · rename_i h1
      simp [validL] at h1
      exact ⟨h1.1.2, h1.2.2⟩
    · simp at h
  · simp at h

theorem badI_of {t : Int} {a b : List Sp} (hr : inRange t = true) (ha : validFrom t (-1) a = true) (hb : validFrom t (-1) b = true) : badI t a b = 0 := by
  simp [badI, hr, validL, ha, hb]

end Go.Proofs.Ytbhjnihcmfagjaa

namespace Go.Proofs.Ytbhjnihcmfagjaa
open Go.RowKit RP

def unionB (a b : List Sp) (x : Nat) : Bool := memN a x || memN b x
def unionL (t : Nat) (a b : List Sp) : List Sp := if badI t a b = 0 then runs (unionB a b) t else []

def unionHalf (a b : List Sp) (k x : Nat) : Bool := if x < k then unionB a b x else memN a x
theorem unionHalf_zero (T : Nat) (a b : List Sp) : bitsOf T (memN a) = bitsOf T (unionHalf a b 0) := bitsOf_congr fun x _ => by simp [unionHalf]
theorem unionHalf_full (T : Nat) (a b : List Sp) : bitsOf T (unionHalf a b T) = bitsOf T (unionB a b) := bitsOf_congr fun x hx => by simp [unionHalf, hx]
theorem unionHalf_step (T : Nat) (a b : List Sp) (k : Nat) : (bitsOf T (unionHalf a b k)).set k (unionB a b k) = bitsOf T (unionHalf a b (k + 1)) := by
  rw [bitsOf_set]
  refine bitsOf_congr fun x _ => ?_
  unfold unionHalf
  by_cases e : x = k
  · subst e; simp
  · rw [if_neg e]
    by_cases h : x < k
    · rw [if_pos h, if_pos (by omega)]
    · rw [if_neg h, if_neg (by omega)]

end Go.Proofs.Ytbhjnihcmfagjaa

namespace Go.Proofs.Ytbhjnihcmfagjaa
open Go.RowKit RP

def interB (a b : List Sp) (x : Nat) : Bool := memN a x && memN b x
def interL (t : Nat) (a b : List Sp) : List Sp := if badI t a b = 0 then runs (interB a b) t else []

def interHalf (a b : List Sp) (k x : Nat) : Bool := if x < k then interB a b x else memN a x
theorem interHalf_zero (T : Nat) (a b : List Sp) : bitsOf T (memN a) = bitsOf T (interHalf a b 0) := bitsOf_congr fun x _ => by simp [interHalf]
theorem interHalf_full (T : Nat) (a b : List Sp) : bitsOf T (interHalf a b T) = bitsOf T (interB a b) := bitsOf_congr fun x hx => by simp [interHalf, hx]
theorem interHalf_step (T : Nat) (a b : List Sp) (k : Nat) : (bitsOf T (interHalf a b k)).set k (interB a b k) = bitsOf T (interHalf a b (k + 1)) := by
  rw [bitsOf_set]
  refine bitsOf_congr fun x _ => ?_
  unfold interHalf
  by_cases e : x = k
  · subst e; simp
  · rw [if_neg e]
    by_cases h : x < k
    · rw [if_pos h, if_pos (by omega)]
    · rw [if_neg h, if_neg (by omega)]

set_option maxHeartbeats 2000000 in
theorem refIntersect_any (T : Nat) (A B : Option Addr) (c d : Nat) (a b : List Sp) (w : World) (ha : Lst encS 2 w w.heap.size A a) (hb : Lst encS 2 w w.heap.size B b) (h1 : 1 ≤ T) (h2 : T ≤ 7200)
    (hn : a.length ≤ 9223372036854775807) (hn' : b.length ≤ 9223372036854775807) :
    Calls Try.prog 23 #[.int .i64 T, .slice A a.length c, .slice B b.length d] w fun e w' =>
      ∃ v, e = .returned (.tuple #[v, .int .i64 (badI T a b)]) ∧ OwnS w' w.heap.size v (interL T a b) ∧ Below w.heap.size w w' := by
  have hbad := bad_any T A B c d a b w ha hb hn hn'
  by_cases h0 : badI T a b = 0
  · obtain ⟨va, vb⟩ := badI_zero h0
    have H := Lib.hid h0
    rw [h0] at hbad
    have HE := Lib.hid (show interL T a b = runs (interB a b) T by simp [interL, h0])
    clear h0
    go_enter Try.func23, Try.ntmps23
    go_wp2_with fail
    refine hbad.mono ?_
    rintro e w1 ⟨rfl, hb1⟩
    have s1 := hb1.size
    go_wp2_with fail
    refine (marks_any T A c a w1 (ha.belowMore hb1 hb1.size) h1 h2 va).mono ?_
    rintro e w2 ⟨g1, rfl, hg1, ho1, hb2⟩
    have s2 := hb2.size
    go_wp2_with fail
    refine (marks_any T B d b w2 (hb.belowMore (hb1.trans (hb2.mono s1)) (by omega)) h1 h2 vb).mono ?_
    rintro e w3 ⟨g2, rfl, hg2, ho2, hb3⟩
    have s3 := hb3.size
    have hlt1 := (World.ownsRow.lt ho1 g1 rfl).2
    have ho1' := ho1.below' hb3
    rw [interHalf_zero T a b] at ho1'
    go_wp2_with fail
    go_loopg [11] T (fun g s11 wr => ∃ k : Nat, k ≤ T ∧ g = T - k ∧ s11 = .int .i64 k ∧
      Own encB 1 4 wr w1.heap.size (.slice (some ⟨g1, 0, none⟩) T T) (bitsOf T (interHalf a b k)) ∧ Own encB 1 4 wr w2.heap.size (.slice (some ⟨g2, 0, none⟩) T T) (bitsOf T (memN b)) ∧ Below w1.heap.size w3 wr)
    case atStart => exact ⟨0, by omega, by omega, rfl, ho1', ho2, Below.refl _ _⟩
    case round =>
      obtain ⟨k, hk, hg, rfl, hox, hoy, hbr⟩ := hrel
      have sr := hbr.size
      by_cases hlt : k < T
      · have HS := Lib.hid (interHalf_step T a b k)
        obtain ⟨cx, fx, hox'⟩ := hox.boAt k (by rw [bitsOf_length]; omega) (interB a b k)
        obtain ⟨cy, fy, _⟩ := hoy.boAt k (by rw [bitsOf_length]; omega) true
        rw [bitsOf_get] at cx cy
        have hoy' : Own encB 1 4 (wr.setCell ⟨g1, k, none⟩ (.bool (interB a b k))) w2.heap.size (.slice (some ⟨g2, 0, none⟩) T T) (bitsOf T (memN b)) := hoy.setBelow (a := ⟨g1, k, none⟩) hlt1 _
        rw [HS.out] at hox'
        have e1 : interHalf a b k k = memN a k := by simp [interHalf]
        rw [e1] at cx
        have hbits : interB a b k = (memN a k && memN b k) := rfl
        rw [hbits] at hox' hoy'
        clear hbits e1 HS
        cases hx : memN a k with
        | true =>
          rw [hx] at cx hox' hoy'
          simp only [Bool.true_and] at hox' hoy'
          clear hx
          go_wp2
          go_roundg (T - (k + 1))
          case measure => omega
          case rel => exact ⟨k + 1, by omega, rfl, by go_num, hox', hoy', hbr.setCell hg1 _⟩
        | false =>
          rw [hx] at cx hox' hoy'
          simp only [Bool.false_and] at hox' hoy'
          clear hx
          go_wp2
          go_roundg (T - (k + 1))
          case measure => omega
          case rel => exact ⟨k + 1, by omega, rfl, by go_num, hox', hoy', hbr.setCell hg1 _⟩
      · obtain rfl : k = T := by omega
        rw [interHalf_full] at hox
        have hsp := spans_bits wr w1.heap.size g1 k k _ (by omega) hox
        go_wp2_with (go_at_call 47; refine hsp.mono ?_; rintro e w4 ⟨v, rfl, ho4, hb4⟩)
        go_ret2
        exact ⟨_, by rw [H.out]; rfl, by rw [HE.out]; exact ho4.rebase (by omega), hb1.trans ((hb2.mono s1).trans ((hb3.mono (by omega)).trans ((hbr.mono s1).trans (hb4.mono (by omega)))))⟩
  · have hne : (badI T a b != 0) = true := by simp [h0]
    have HE := Lib.hid (show interL T a b = [] by simp [interL, h0])
    clear h0
    generalize badI T a b = E at *
    go_enter Try.func23, Try.ntmps23
    go_wp2_with (go_at_call 46; refine hbad.mono ?_; rintro e w1 ⟨rfl, hb1⟩)
    go_ret2
    exact ⟨_, rfl, by rw [HE.out]; exact Own.nil _ _ _ _ _, hb1⟩

end Go.Proofs.Ytbhjnihcmfagjaa

namespace Go.Proofs.Ytbhjnihcmfagjaa
open Go.RowKit RP

def compB (a : List Sp) (x : Nat) : Bool := !memN a x
def compL (t : Nat) (a : List Sp) : List Sp := if badI t a [] = 0 then runs (compB a) t else []

def compHalf (a : List Sp) (k x : Nat) : Bool := if x < k then compB a x else memN a x
theorem compHalf_zero (T : Nat) (a : List Sp) : bitsOf T (memN a) = bitsOf T (compHalf a 0) := bitsOf_congr fun x _ => by simp [compHalf]
theorem compHalf_full (T : Nat) (a : List Sp) : bitsOf T (compHalf a T) = bitsOf T (compB a) := bitsOf_congr fun x hx => by simp [compHalf, hx]
theorem compHalf_step (T : Nat) (a : List Sp) (k : Nat) : (bitsOf T (compHalf a k)).set k (compB a k) = bitsOf T (compHalf a (k + 1)) := by
  rw [bitsOf_set]
  refine bitsOf_congr fun x _ => ?_
  unfold compHalf
  by_cases e : x = k
  · subst e; simp
  · rw [if_neg e]
    by_cases h : x < k
    · rw [if_pos h, if_pos (by omega)]
    · rw [if_neg h, if_neg (by omega)]

/-- The residues x with x - by in the set. -/
def shiftB (t : Nat) (a : List Sp) (d : Int) (x : Nat) : Bool := mem a (((x : Int) - d) % t)
def shiftL (t : Nat) (a : List Sp) (d : Int) : List Sp := if badI t a [] = 0 then runs (shiftB t a d) t else []

/-- .. of the first k residues. -/
def shiftHalf (t : Nat) (a : List Sp) (d : Int) (k x : Nat) : Bool := decide (((x : Int) - d) % t < k) && mem a (((x : Int) - d) % t)
theorem shiftHalf_zero (T : Nat) (a : List Sp) (d : Int) (h : 1 ≤ T) : (bitsOf T fun _ => false) = bitsOf T (shiftHalf T a d 0) := bitsOf_congr fun x _ => by
  have := Int.emod_nonneg ((x : Int) - d) (show (T : Int) ≠ 0 by omega)
  simp [shiftHalf]; omega
theorem shiftHalf_full (T : Nat) (a : List Sp) (d : Int) (h : 1 ≤ T) : bitsOf T (shiftHalf T a d T) = bitsOf T (shiftB T a d) := bitsOf_congr fun x hx => by
  have := Int.emod_lt_of_pos ((x : Int) - d) (show 0 < (T : Int) by omega)
  simp [shiftHalf, shiftB, this]
theorem shift_at {T : Nat} {d : Int} {k x : Nat} (h0 : 0 ≤ d) (h1 : d < T) (hk : k < T) (hx : x < T) : x = (((k : Int) + d) % T).toNat ↔ ((x : Int) - d) % T = k := by
  have a := addMod (t := T) (x := k) (f := d) (by omega) (by omega) h0 h1
  have b := subMod (t := T) (x := x) (f := d) (by omega) (by omega) h0 h1
  rw [a, b]
  split <;> split <;> omega
theorem shiftHalf_yes (T : Nat) (a : List Sp) (d : Int) (k : Nat) (h0 : 0 ≤ d) (h1 : d < T) (hk : k < T) (hm : memN a k = true) :
    (bitsOf T (shiftHalf T a d k)).set (((k : Int) + d) % T).toNat true = bitsOf T (shiftHalf T a d (k + 1)) := by
  rw [bitsOf_set]
  refine bitsOf_congr fun x hx => ?_
  have hs := shift_at h0 h1 hk hx
  unfold shiftHalf
  by_cases e : ((x : Int) - d) % T = k
  · rw [if_pos (hs.2 e), e]
    have : mem a (k : Int) = true := hm
    simp [this]
    omega
  · rw [if_neg (fun q => e (hs.1 q))]
    congr 1
    simp
    omega
theorem shiftHalf_no (T : Nat) (a : List Sp) (d : Int) (k : Nat) (hm : memN a k = false) : bitsOf T (shiftHalf T a d k) = bitsOf T (shiftHalf T a d (k + 1)) := by
  refine bitsOf_congr fun x hx => ?_
  unfold shiftHalf
  by_cases e : ((x : Int) - d) % T = k
  · rw [e]
    have : mem a (k : Int) = false := hm
    simp [this]
  · congr 1
    simp
    omega

theorem grownBy_setCell (w : World) (g i : Nat) (u : Value) : w.grownBy (w.setCell ⟨g, i, none⟩ u) (some g) :=
  ⟨rfl, rfl, rfl, by simp [World.setCell], fun k hk hne => Below.heap_setCell w _ _ k (fun e => hne (by rw [e]))⟩

end Go.Proofs.Ytbhjnihcmfagjaa
