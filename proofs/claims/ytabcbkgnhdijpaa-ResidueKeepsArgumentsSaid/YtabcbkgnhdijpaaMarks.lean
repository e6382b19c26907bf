/-
  Contract of the reference's marks: for each residue, whether a valid set contains it.
-/
import Derived.Test.YtabcbkgnhdijpaaRefMake
set_option linter.unusedVariables false
set_option linter.unusedSimpArgs false
namespace Go.Proofs.Ytabcbkgnhdijpaa
open Go.RowKit RP

/-- The marks while a span is being marked. -/
def mk (r : List Sp) (f x : Int) (y : Nat) : Bool := mem r y || (decide (f ≤ (y : Int)) && decide ((y : Int) < x))
def memN (l : List Sp) (y : Nat) : Bool := mem l y

theorem mk_set {T : Nat} {r : List Sp} {f : Int} {X : Nat} (h : f ≤ X) : (bitsOf T (mk r f X)).set X true = bitsOf T (mk r f ((X : Int) + 1)) := by
  rw [bitsOf_set]
  refine bitsOf_congr fun y hy => ?_
  unfold mk
  by_cases e : y = X
  · subst e
    rw [if_pos rfl]
    symm
    simp
    right
    omega
  · rw [if_neg e]
    congr 2
    simp
    omega
theorem mk_first {T : Nat} (r : List Sp) (f : Int) : bitsOf T (mk r f f) = bitsOf T (memN r) :=
  bitsOf_congr fun y _ => by
    unfold mk memN
    have : (decide (f ≤ (y : Int)) && decide ((y : Int) < f)) = false := by simp
    rw [this, Bool.or_false]
theorem mk_last {T : Nat} (r : List Sp) (s : Sp) : bitsOf T (mk r s.1 s.2) = bitsOf T (memN (r ++ [s])) :=
  bitsOf_congr fun y _ => by simp [mk, memN, mem, List.any_append]

theorem valid_at {t p : Int} {l : List Sp} (hv : validFrom t p l = true) {k : Nat} (hk : k < l.length) (hp : -1 ≤ p) : 0 ≤ l[k].1 ∧ l[k].1 < l[k].2 ∧ l[k].2 ≤ t := by
  induction l generalizing p k with
  | nil => simp at hk
  | cons s r ih =>
    obtain ⟨h1, h2, h3, h4⟩ := validFrom_cons.1 hv
    cases k with
    | zero => simp only [List.getElem_cons_zero]; omega
    | succ k => simp only [List.getElem_cons_succ]; exact ih h4 (by simpa using hk) (by omega)

set_option maxHeartbeats 2000000 in
theorem marks_any (T : Nat) (A : Option Addr) (c : Nat) (l : List Sp) (w : World) (hl : Lst encS 2 w w.heap.size A l) (h1 : 1 ≤ T) (h2 : T ≤ 7200) (hv : validFrom T (-1) l = true) :
    Calls Try.prog 53 #[.int .i64 T, .slice A l.length c] w fun e w' =>
      ∃ g, e = .returned (.slice (some ⟨g, 0, none⟩) T T) ∧ w.heap.size ≤ g ∧ Own encB 1 4 w' w.heap.size (.slice (some ⟨g, 0, none⟩) T T) (bitsOf T (memN l)) ∧ Below w.heap.size w w' := by
  have hln := valid_length hv (by omega)
  have HV := Lib.hid hv
  clear hv
  have hmk := makeBools T (by omega)
  have hown0 := Own.bools w T (by omega)
  go_enter Try.func53, Try.ntmps53
  go_wp2
  go_loopg [6, 7] l.length (fun g s6 s7 wr => ∃ k : Nat, k ≤ l.length ∧ g = l.length - k ∧ s6 = .int .i64 k ∧
    Own encB 1 4 wr w.heap.size (.slice (some ⟨w.heap.size, 0, none⟩) T T) (bitsOf T (memN (l.take k))) ∧ Below w.heap.size w wr)
  case atStart => exact ⟨0, by omega, by omega, rfl, hown0, (Below.refl _ _).alloc (Nat.le_refl _) _⟩
  case round =>
    obtain ⟨k, hk, hg, rfl, ho, hb⟩ := hrel
    by_cases hlt : k < l.length
    · obtain ⟨b, off, rfl, hbw, c0, c1⟩ := (hl.below hb).sp k hlt
      obtain ⟨v1, v2, v3⟩ := valid_at HV.out hlt (by omega)
      have HT := Lib.hid (take_snoc l k hlt)
      generalize l[k] = s at *
      obtain ⟨f, e⟩ := s
      simp only at c0 c1 v1 v2 v3
      obtain ⟨F, rfl⟩ := Int.eq_ofNat_of_zero_le v1
      rw [← mk_first (l.take k) (F : Int)] at ho
      obtain ⟨wo, rfl⟩ : ∃ wo : World, wo = wr := ⟨_, rfl⟩
      go_wp2
      go_loopg [7] (e - F).toNat (fun g s7 wr => ∃ X : Nat, F ≤ X ∧ (X : Int) ≤ e ∧ g = (e - X).toNat ∧ s7 = .int .i64 X ∧
        Own encB 1 4 wr w.heap.size (.slice (some ⟨w.heap.size, 0, none⟩) T T) (bitsOf T (mk (l.take k) F X)) ∧ Below w.heap.size w wr)
      case atStart => exact ⟨F, by omega, by omega, rfl, rfl, ho, hb⟩
      case round =>
        obtain ⟨X, hX, hXe, hg', rfl, ho', hb'⟩ := hrel
        have c0' := (hb'.cell (p := ⟨b, off + k * 2, none⟩) hbw).trans ((hb.cell (p := ⟨b, off + k * 2, none⟩) hbw).symm.trans c0)
        have c1' := (hb'.cell (p := ⟨b, off + k * 2 + 1, none⟩) hbw).trans ((hb.cell (p := ⟨b, off + k * 2 + 1, none⟩) hbw).symm.trans c1)
        clear c0 c1
        by_cases hlt' : (X : Int) < e
        · obtain ⟨cx, fx, hox⟩ := ho'.boAt X (by rw [bitsOf_length]; omega) true
          rw [mk_set (by omega)] at hox
          go_wp2
          go_roundg (e - ((X + 1 : Nat) : Int)).toNat
          case measure => omega
          case rel => exact ⟨X + 1, by omega, by omega, rfl, by go_num, hox, hb'.setCell (Nat.le_refl _) _⟩
        · obtain rfl : e = (X : Int) := by omega
          go_wp2
          go_roundg (l.length - (k + 1))
          case measure => omega
          case rel =>
            refine ⟨k + 1, by omega, rfl, by go_num, ?_, hb'⟩
            rw [HT.out, ← mk_last]
            exact ho'
    · go_wp2
      go_ret
      rw [List.take_of_length_le (by omega)] at ho
      exact ⟨_, rfl, Nat.le_refl _, ho, hb⟩

end Go.Proofs.Ytabcbkgnhdijpaa
