/-
  Plain laws on forbidden residues: which they are, for made lists; exchanging the movements.
-/
import Derived.Test.YtdijhhfmicafjaaForbW
import Derived.Test.YtdijhhfmicafjaaCountP
set_option linter.unusedVariables false
set_option linter.unusedSimpArgs false
namespace Go.Proofs.Ytdijhhfmicafjaa
open RP

theorem forbErr_ok {T : Nat} {a b : List Occ} (t1 : 1 ≤ T) (t2 : T ≤ 7200) (ha : validO (-1) a = true) (hb : validO (-1) b = true) : forbErr T a b = 0 := by
  have hr : inRange (T : Int) = true := by simp [inRange]; omega
  simp [forbErr, hr, ha, hb]
theorem forbL_ok {T : Nat} {a b : List Occ} (t1 : 1 ≤ T) (t2 : T ≤ 7200) (ha : validO (-1) a = true) (hb : validO (-1) b = true) : forbL T a b = runs (forbB T (pairsO a b)) T := by
  simp [forbL, forbErr_ok t1 t2 ha hb]
theorem has_runs {T : Nat} {P : Nat → Bool} (t1 : 1 ≤ T) (t2 : T ≤ 7200) (x : Int) : hasL T (runs P T) x = P (x % T).toNat := by
  have hr : inRange (T : Int) = true := by simp [inRange]; omega
  have h0 := Int.emod_nonneg x (show (T : Int) ≠ 0 by omega)
  have h1 := Int.emod_lt_of_pos x (show (0 : Int) < T by omega)
  rw [hasL, validL, hr, runs_valid]
  obtain ⟨y, hy⟩ := Int.eq_ofNat_of_zero_le h0
  rw [hy, mem_runs_nat P (by omega)]
  simp
theorem count_runs {T : Nat} {P : Nat → Bool} (t1 : 1 ≤ T) (t2 : T ≤ 7200) : countL T (runs P T) = cntN P T := by
  have hr : inRange (T : Int) = true := by simp [inRange]; omega
  rw [countL, validL, hr, runs_valid, ← total_runs]
  simp

theorem forb_iff {T : Nat} {l : List (Occ × Occ)} {x : Nat} (t1 : 1 ≤ T) (hx : x < T) : forbB T l x = true ↔ ∃ q ∈ l, ∃ k : Int, q.1.2.1 < q.2.2.2 + ((x : Int) + k * T) ∧ q.2.2.1 + ((x : Int) + k * T) < q.1.2.2 := by
  unfold forbB
  rw [List.any_eq_true]
  constructor
  · rintro ⟨q, hq, h⟩; exact ⟨q, hq, (hit_iff t1 hx).1 h⟩
  · rintro ⟨q, hq, h⟩; exact ⟨q, hq, (hit_iff t1 hx).2 h⟩
theorem forb_tog {T : Nat} {p : Int} {a b : List Occ} {x : Nat} (hb : validO p b = true) (t1 : 1 ≤ T) (hx : x < T) : forbB T (pairsO a b) x = true ↔ ∃ k : Int, togB a b ((x : Int) + k * T) = true := by
  rw [forb_iff t1 hx]
  constructor
  · rintro ⟨q, hq, k, h⟩; exact ⟨k, (tog_pairs hb).2 ⟨q, hq, h⟩⟩
  · rintro ⟨k, h⟩
    obtain ⟨q, hq, h'⟩ := (tog_pairs hb).1 h
    exact ⟨q, hq, k, h'⟩

/-- Whether the movements meet at one of the departures x + lo * T, .., x + (lo + n - 1) * T. -/
def wantN (a b : List Occ) (T x lo : Int) : Nat → Bool
  | 0 => false
  | n + 1 => wantN a b T x lo n || togB a b (x + (lo + n) * T)
theorem want_iff {a b : List Occ} {T x lo : Int} : ∀ {n : Nat}, wantN a b T x lo n = true ↔ ∃ i : Nat, i < n ∧ togB a b (x + (lo + i) * T) = true
  | 0 => ⟨fun h => (by cases h), fun ⟨i, h, _⟩ => (by omega)⟩
  | n + 1 => by
    rw [wantN, Bool.or_eq_true, want_iff (n := n)]
    constructor
    · rintro (⟨i, h1, h2⟩ | h)
      · exact ⟨i, by omega, h2⟩
      · exact ⟨n, by omega, h⟩
    · rintro ⟨i, h1, h2⟩
      by_cases e : i = n
      · subst e; exact .inr h2
      · exact .inl ⟨i, by omega, h2⟩

theorem made_near {a b : List Occ} (ha : MadeO 6 a) (hb : MadeO 6 b) {d : Int} (h : togB a b d = true) : -80 < d ∧ d < 80 := by
  obtain ⟨x, hx, y, hy, _, h1, h2⟩ := tog_iff.1 h
  have := ha.2.2 x hx
  have := hb.2.2 y hy
  omega

theorem forb_want {T : Nat} {a b : List Occ} {x : Nat} (ha : MadeO 6 a) (hb : MadeO 6 b) (t1 : 1 ≤ T) (hx : x < T) {q : Int} (hq : q = 200 / (T : Int)) {n : Nat} (hn : (n : Int) = 2 * q + 3) :
    forbB T (pairsO a b) x = wantN a b T x (-q - 1) n := by
  rw [Bool.eq_iff_iff, forb_tog hb.1 t1 hx, want_iff]
  constructor
  · rintro ⟨k, hk⟩
    obtain ⟨n1, n2⟩ := made_near ha hb hk
    have e := Int.mul_ediv_add_emod 200 (T : Int)
    have m0 := Int.emod_nonneg 200 (show (T : Int) ≠ 0 by omega)
    have m1 := Int.emod_lt_of_pos 200 (show (0 : Int) < T by omega)
    rw [← hq] at e
    have k1 : -q - 1 ≤ k := by
      rcases Int.lt_or_le k (-q - 1) with h | h
      · have : (T : Int) * (k + q + 2) ≤ 0 := Int.mul_nonpos_of_nonneg_of_nonpos (by omega) (by omega)
        rw [Int.mul_add, Int.mul_add, Int.mul_comm _ k] at this
        omega
      · exact h
    have k2 : k ≤ q + 1 := by
      rcases Int.lt_or_le (q + 1) k with h | h
      · have : 0 ≤ (T : Int) * (k - q - 2) := Int.mul_nonneg (by omega) (by omega)
        rw [Int.mul_sub, Int.mul_sub, Int.mul_comm _ k] at this
        omega
      · exact h
    exact ⟨(k + q + 1).toNat, by omega, by rw [show -q - 1 + (((k + q + 1).toNat : Nat) : Int) = k by omega]; exact hk⟩
  · rintro ⟨i, _, h⟩
    exact ⟨_, h⟩

theorem tog_comm {a b : List Occ} {d : Int} : togB a b d = togB b a (-d) := by
  rw [Bool.eq_iff_iff, tog_iff, tog_iff]
  constructor
  · rintro ⟨x, hx, y, hy, h1, h2, h3⟩; exact ⟨y, hy, x, hx, h1.symm, by omega, by omega⟩
  · rintro ⟨x, hx, y, hy, h1, h2, h3⟩; exact ⟨y, hy, x, hx, h1.symm, by omega, by omega⟩

theorem forb_comm {T : Nat} {p p' : Int} {a b : List Occ} {x : Int} (ha : validO p a = true) (hb : validO p' b = true) (t1 : 1 ≤ T) : forbB T (pairsO a b) (x % T).toNat = forbB T (pairsO b a) ((-x) % T).toNat := by
  have m0 := Int.emod_nonneg x (show (T : Int) ≠ 0 by omega)
  have m1 := Int.emod_lt_of_pos x (show (0 : Int) < T by omega)
  have e := Int.mul_ediv_add_emod x (T : Int)
  have n0 := Int.emod_nonneg (-x) (show (T : Int) ≠ 0 by omega)
  have n1 := Int.emod_lt_of_pos (-x) (show (0 : Int) < T by omega)
  have e' := Int.mul_ediv_add_emod (-x) (T : Int)
  generalize x % (T : Int) = m at *
  generalize x / (T : Int) = d at *
  generalize (-x) % (T : Int) = m' at *
  generalize (-x) / (T : Int) = d' at *
  rw [Bool.eq_iff_iff, forb_tog hb t1 (by omega), forb_tog ha t1 (by omega), Int.toNat_of_nonneg m0, Int.toNat_of_nonneg n0]
  constructor
  · rintro ⟨k, h⟩
    rw [tog_comm] at h
    refine ⟨d + d' - k, ?_⟩
    rw [← h]
    congr 1
    rw [Int.sub_mul, Int.add_mul, Int.mul_comm d, Int.mul_comm d']
    omega
  · rintro ⟨k, h⟩
    rw [tog_comm] at h
    refine ⟨d + d' - k, ?_⟩
    rw [← h]
    congr 1
    rw [Int.sub_mul, Int.add_mul, Int.mul_comm d, Int.mul_comm d']
    omega

theorem forb_count {T : Nat} {p p' : Int} {a b : List Occ} (ha : validO p a = true) (hb : validO p' b = true) (t1 : 1 ≤ T) : cntN (forbB T (pairsO a b)) T = cntN (forbB T (pairsO b a)) T := by
  rw [← cntN_negI (forbB T (pairsO b a)) t1 0]
  refine cntN_congr fun x hx => ?_
  have := forb_comm (x := (x : Int)) ha hb t1
  rw [show ((x : Int) % (T : Int)).toNat = x by rw [emod_toNat (by omega)]; simp [Nat.mod_eq_of_lt hx]] at this
  rw [this]
  simp

end Go.Proofs.Ytdijhhfmicafjaa
