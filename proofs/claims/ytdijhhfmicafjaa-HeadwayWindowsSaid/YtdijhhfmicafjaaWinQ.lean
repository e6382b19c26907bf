/-
  Plain laws on windows: which residues they hold, how many there are.
-/
import Derived.Test.YtdijhhfmicafjaaWin
set_option linter.unusedVariables false
set_option linter.unusedSimpArgs false
namespace Go.Proofs.Ytdijhhfmicafjaa
open RP

/-- A window's residues. -/
def inWin (T d : Int) (v : Sp) : Bool := decide (v.1 + (d - v.1) % T ≤ v.2)

theorem win_one {T : Nat} {u : Sp} {d : Int} (h1 : 1 ≤ u.2 - u.1) (h2 : u.2 - u.1 < T) : inWin T d (win1 T u) = !decide ((d - u.1) % T < u.2 - u.1) := by
  have m0 := Int.emod_nonneg (d - u.1) (show (T : Int) ≠ 0 by omega)
  have m1 := Int.emod_lt_of_pos (d - u.1) (show (0 : Int) < T by omega)
  have e : (d - u.2) % (T : Int) = ((d - u.1) % T - (u.2 - u.1)) % T := by rw [Int.emod_sub_emod]; congr 1; omega
  suffices h : u.2 + (d - u.2) % (T : Int) ≤ u.1 + T - 1 ↔ ¬ (d - u.1) % T < u.2 - u.1 by
    rw [← decide_not]
    exact decide_eq_decide.2 h
  rw [e]
  generalize (d - u.1) % (T : Int) = r at *
  by_cases h : r < u.2 - u.1
  · rw [show r - (u.2 - u.1) = (r - (u.2 - u.1) + T) + (T : Int) * (-1) by omega, Int.add_mul_emod_self_left, Int.emod_eq_of_lt (by omega) (by omega)]
    omega
  · rw [Int.emod_eq_of_lt (by omega) (by omega)]
    omega

theorem all_congr' {α : Type} {f g : α → Bool} : ∀ {l : List α}, (∀ x ∈ l, f x = g x) → l.all f = l.all g
  | [], _ => rfl
  | a :: l, h => by rw [List.all_cons, List.all_cons, h a (by simp), all_congr' fun x hx => h x (by simp [hx])]

/-- A residue is in all windows exactly if it is not in the set. -/
theorem win_all {T : Nat} {s : List Sp} (hv : validFrom T (-1) s = true) (hf : total s < T) {d : Int} (d0 : 0 ≤ d) (d1 : d < T) : ((wrapL T s).map (win1 T)).all (inWin T d) = !mem s d := by
  rw [mem_wrap hv d0 d1, List.all_map]
  have : (wrapL T s).all (inWin T d ∘ win1 T) = (wrapL T s).all fun u => !decide ((d - u.1) % T < u.2 - u.1) := all_congr' fun u hu => by
    have := wrap_len hv hf u hu
    exact win_one (by omega) (by omega)
  rw [this]
  generalize wrapL T s = L
  induction L with
  | nil => rfl
  | cons u l ih => rw [List.all_cons, List.any_cons, ih, Bool.not_or]

theorem win_bounds {T : Nat} {s : List Sp} (hv : validFrom T (-1) s = true) (hf : total s < T) : ∀ v ∈ (wrapL T s).map (win1 T), 0 ≤ v.1 ∧ v.1 ≤ v.2 ∧ v.2 - v.1 ≤ T - 2 ∧ v.2 ≤ 2 * T := by
  intro v hv'
  obtain ⟨u, hu, rfl⟩ := List.mem_map.1 hv'
  have := wrap_len hv hf u hu
  simp only [win1]
  omega

theorem nodup_length {α : Type} [DecidableEq α] : ∀ {l m : List α}, l.Nodup → (∀ x ∈ l, x ∈ m) → l.length ≤ m.length
  | [], _, _, _ => by simp
  | a :: l, m, hn, hs => by
    obtain ⟨h1, h2⟩ := List.nodup_cons.1 hn
    have hm := hs a (by simp)
    have := nodup_length (m := m.erase a) h2 (fun x hx => by
      have hne : x ≠ a := fun e => h1 (e ▸ hx)
      exact (List.mem_erase_of_ne hne).2 (hs x (by simp [hx])))
    rw [List.length_erase_of_mem hm] at this
    have hp : 0 < m.length := List.length_pos_of_mem hm
    simp only [List.length_cons]
    omega

/-- There are at most as many windows as pairs. -/
theorem win_few {T : Nat} {l : List (Occ × Occ)} (t1 : 1 ≤ T) (hf : total (runs (forbB T l) T) < T) : (wrapL T (runs (forbB T l) T)).length ≤ l.length := by
  have hv := runs_valid (forbB T l) T
  have hp := wrap_pairwise hv
  have hnd : ((wrapL T (runs (forbB T l) T)).map (·.1)).Nodup := by
    rw [List.Nodup, List.pairwise_map]
    exact hp.imp fun h => by omega
  have key : ∀ x ∈ (wrapL T (runs (forbB T l) T)).map (·.1), x ∈ l.map fun q => modI (qFirst q) T := by
    intro x hx
    obtain ⟨u, hu, rfl⟩ := List.mem_map.1 hx
    have hb := wrap_len hv hf u hu
    obtain ⟨m1, m2⟩ := (wrap_start hv hf hb.1 hb.2.1).1 ⟨u, hu, rfl⟩
    obtain ⟨f, hf'⟩ := Int.eq_ofNat_of_zero_le hb.1
    rw [hf'] at m1 m2 hb ⊢
    have x0 := Int.emod_nonneg ((f : Int) - 1) (show (T : Int) ≠ 0 by omega)
    have x1 := Int.emod_lt_of_pos ((f : Int) - 1) (show (0 : Int) < T by omega)
    obtain ⟨g, hg⟩ := Int.eq_ofNat_of_zero_le x0
    rw [hg] at m2 x1
    rw [mem_runs_nat _ (by omega)] at m1 m2
    obtain ⟨q, hq, hh⟩ := List.any_eq_true.1 m1
    have hh2 : hitB T q g = false := by
      cases e : hitB T q g with
      | false => rfl
      | true => rw [show forbB T l g = true from List.any_eq_true.2 ⟨q, hq, e⟩] at m2; cases m2
    refine List.mem_map.2 ⟨q, hq, ?_⟩
    have hr := modI_range (qFirst q) T (by omega)
    unfold hitB arcB at hh hh2
    simp only [decide_eq_true_eq, decide_eq_false_iff_not] at hh hh2
    generalize modI (qFirst q) (T : Int) = F at *
    rw [← hg, Int.emod_sub_emod] at hh2
    rw [subMod (by omega) (by omega) hr.1 hr.2] at hh
    split at hh
    · by_cases e : F = f
      · exact e
      · rw [Int.emod_eq_of_lt (by omega) (by omega)] at hh2
        omega
    · rw [show (f : Int) - 1 - F = ((f : Int) - 1 - F + T) + (T : Int) * (-1) by omega, Int.add_mul_emod_self_left, Int.emod_eq_of_lt (by omega) (by omega)] at hh2
      omega
  have := nodup_length hnd key
  simpa using this

end Go.Proofs.Ytdijhhfmicafjaa
