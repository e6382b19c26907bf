/-
  Plain facts on windows: the runs of a set, taken round the period.
-/
import Derived.Test.YtdijhhfmicafjaaHeadP
set_option linter.unusedVariables false
set_option linter.unusedSimpArgs false
namespace Go.Proofs.Ytdijhhfmicafjaa
open RP

theorem gap_hi {t : Int} : ∀ {l : List Sp} {p : Int}, validFrom t p l = true → ∀ u ∈ l, mem l u.2 = false
  | [], _, _, u, hu => by simp at hu
  | s :: r, p, hv, u, hu => by
    obtain ⟨h1, h2, h3, h4⟩ := validFrom_cons.1 hv
    cases hm : mem (s :: r) u.2 with
    | false => rfl
    | true =>
      rcases List.mem_cons.1 hu with rfl | hu
      · rcases mem_cons.1 hm with h | h
        · omega
        · have := mem_lo h4 h; omega
      · rcases mem_cons.1 hm with h | h
        · have h5 := validFrom_mem_lt h4 u hu
          omega
        · rw [gap_hi h4 u hu] at h; cases h
where
  validFrom_mem_lt {t : Int} : ∀ {l : List Sp} {p : Int}, validFrom t p l = true → ∀ u ∈ l, p < u.1 ∧ u.1 < u.2 ∧ u.2 ≤ t
    | [], _, _, u, hu => by simp at hu
    | s :: r, p, hv, u, hu => by
      obtain ⟨h1, h2, h3, h4⟩ := validFrom_cons.1 hv
      rcases List.mem_cons.1 hu with rfl | hu
      · exact ⟨h1, h2, h3⟩
      · have := validFrom_mem_lt h4 u hu; omega
theorem valid_elt {t : Int} {l : List Sp} {p : Int} (hv : validFrom t p l = true) (u : Sp) (hu : u ∈ l) : p < u.1 ∧ u.1 < u.2 ∧ u.2 ≤ t := gap_hi.validFrom_mem_lt hv u hu
theorem gap_lo {t : Int} : ∀ {l : List Sp} {p : Int}, validFrom t p l = true → ∀ u ∈ l, mem l (u.1 - 1) = false
  | [], _, _, u, hu => by simp at hu
  | s :: r, p, hv, u, hu => by
    obtain ⟨h1, h2, h3, h4⟩ := validFrom_cons.1 hv
    cases hm : mem (s :: r) (u.1 - 1) with
    | false => rfl
    | true =>
      rcases List.mem_cons.1 hu with rfl | hu
      · rcases mem_cons.1 hm with h | h
        · omega
        · have := mem_lo h4 h; omega
      · rcases mem_cons.1 hm with h | h
        · have h5 := valid_elt h4 u hu
          omega
        · rw [gap_lo h4 u hu] at h; cases h
theorem mem_of_elt {l : List Sp} {u : Sp} (hu : u ∈ l) {x : Int} (h1 : u.1 ≤ x) (h2 : x < u.2) : mem l x = true := mem_iff.2 ⟨u, hu, h1, h2⟩

/-- The last span takes up the first one where the two touch round the period. -/
def wrapL (t : Int) (s : List Sp) : List Sp :=
  if 1 < s.length ∧ (s.getD 0 (0, 0)).1 = 0 ∧ (s.getD (s.length - 1) (0, 0)).2 = t then (s.set (s.length - 1) ((s.getD (s.length - 1) (0, 0)).1, (s.getD (s.length - 1) (0, 0)).2 + (s.getD 0 (0, 0)).2)).drop 1 else s
def winL (t : Int) (s : List Sp) : List Sp := (wrapL t s).map fun u => (u.2, u.1 + t - 1)

theorem two_ends {s : List Sp} (h : 1 < s.length) : ∃ a r z, s = a :: (r ++ [z]) := by
  match s, h with
  | a :: b :: r, _ =>
    rcases snoc_cases (b :: r) with h | ⟨q, z, h⟩
    · cases h
    · exact ⟨a, q, z, by rw [h]⟩

theorem wrap_cases (t : Int) (s : List Sp) : (wrapL t s = s ∧ ¬ (1 < s.length ∧ (s.getD 0 (0, 0)).1 = 0 ∧ (s.getD (s.length - 1) (0, 0)).2 = t)) ∨
    ∃ a r z, s = a :: (r ++ [z]) ∧ a.1 = 0 ∧ z.2 = t ∧ wrapL t s = r ++ [(z.1, t + a.2)] := by
  by_cases h : 1 < s.length ∧ (s.getD 0 (0, 0)).1 = 0 ∧ (s.getD (s.length - 1) (0, 0)).2 = t
  · refine .inr ?_
    obtain ⟨a, r, z, rfl⟩ := two_ends h.1
    have e1 : ((a :: (r ++ [z])).getD ((a :: (r ++ [z])).length - 1) (0, 0)) = z := by simp
    have e2 : ((a :: (r ++ [z])).getD 0 (0, 0)) = a := rfl
    have h' := h
    rw [e1, e2] at h'
    refine ⟨a, r, z, rfl, h'.2.1, h'.2.2, ?_⟩
    rw [wrapL, if_pos h, e1, e2, h'.2.2]
    simp
  · exact .inl ⟨by rw [wrapL, if_neg h], h⟩

theorem total_elt {t : Int} : ∀ {s : List Sp} {p : Int}, validFrom t p s = true → ∀ u ∈ s, u.2 - u.1 ≤ total s
  | [], _, _, u, hu => by simp at hu
  | x :: r, p, hv, u, hu => by
    obtain ⟨h1, h2, h3, h4⟩ := validFrom_cons.1 hv
    have hb : 0 ≤ total r := by
      have : ∀ (r : List Sp) (q : Int), validFrom t q r = true → 0 ≤ total r := by
        intro r
        induction r with
        | nil => intro _ _; simp [total]
        | cons y r ih =>
          intro q hq
          obtain ⟨g1, g2, g3, g4⟩ := validFrom_cons.1 hq
          have := ih _ g4
          have e : total (y :: r) = (y.2 - y.1) + total r := by simp [total]
          omega
      exact this r _ h4
    have e : total (x :: r) = (x.2 - x.1) + total r := by simp [total]
    rcases List.mem_cons.1 hu with rfl | hu
    · omega
    · have := total_elt h4 u hu; omega

/-- Where not all is taken: each run has from 1 to T - 1 residues and begins within the period. -/
theorem wrap_len {T : Nat} {s : List Sp} (hv : validFrom T (-1) s = true) (hf : total s < T) : ∀ u ∈ wrapL T s, 0 ≤ u.1 ∧ u.1 < T ∧ 1 ≤ u.2 - u.1 ∧ u.2 - u.1 < T := by
  intro u hu
  rcases wrap_cases T s with ⟨h, _⟩ | ⟨a, r, z, rfl, h0, hT, h⟩
  · rw [h] at hu
    have := valid_elt hv u hu
    have := total_elt hv u hu
    omega
  · rw [h] at hu
    rcases List.mem_append.1 hu with hu | hu
    · have hm : u ∈ a :: (r ++ [z]) := by simp [hu]
      have := valid_elt hv u hm
      have := total_elt hv u hm
      omega
    · simp at hu
      subst hu
      have := valid_elt hv z (by simp)
      have := valid_elt hv a (by simp)
      have e : total (a :: (r ++ [z])) = (a.2 - a.1) + (total r + (z.2 - z.1)) := by
        have e1 := total_append [a] (r ++ [z])
        rw [total_append r [z]] at e1
        simpa [total] using e1
      have hr : 0 ≤ total r := by
        obtain ⟨_, _, _, h4⟩ := validFrom_cons.1 hv
        have h5 : validFrom T a.2 r = true := by
          have := validFrom_take r.length h4
          simpa using this
        exact (total_bound h5 (by omega)).1
      simp only
      omega

theorem mem_wrap {T : Nat} {s : List Sp} (hv : validFrom T (-1) s = true) {d : Int} (d0 : 0 ≤ d) (d1 : d < T) : mem s d = (wrapL T s).any fun u => decide ((d - u.1) % T < u.2 - u.1) := by
  rw [Bool.eq_iff_iff, mem_iff, List.any_eq_true]
  simp only [decide_eq_true_eq]
  rcases wrap_cases T s with ⟨h, _⟩ | ⟨a, r, z, rfl, h0, hT, h⟩
  · rw [h]
    constructor
    · rintro ⟨u, hu, h1, h2⟩
      have := valid_elt hv u hu
      exact ⟨u, hu, by rw [subMod d0 d1 (by omega) (by omega), if_pos h1]; omega⟩
    · rintro ⟨u, hu, h1⟩
      have := valid_elt hv u hu
      rw [subMod d0 d1 (by omega) (by omega)] at h1
      split at h1
      · exact ⟨u, hu, by omega, by omega⟩
      · omega
  · rw [h]
    have va := valid_elt hv a (by simp)
    have vz := valid_elt hv z (by simp)
    constructor
    · rintro ⟨u, hu, h1, h2⟩
      have vu := valid_elt hv u hu
      rcases List.mem_cons.1 hu with rfl | hu
      · refine ⟨(z.1, T + u.2), by simp, ?_⟩
        rw [subMod d0 d1 (by simp; omega) (by simp; omega)]
        simp only
        split <;> omega
      · rcases List.mem_append.1 hu with hu | hu
        · exact ⟨u, by simp [hu], by rw [subMod d0 d1 (by omega) (by omega), if_pos h1]; omega⟩
        · simp at hu; subst hu
          refine ⟨(u.1, T + a.2), by simp, ?_⟩
          rw [subMod d0 d1 (by simp; omega) (by simp; omega)]
          simp only
          split <;> omega
    · rintro ⟨u, hu, h1⟩
      rcases List.mem_append.1 hu with hu | hu
      · have vu := valid_elt hv u (by simp [hu])
        rw [subMod d0 d1 (by omega) (by omega)] at h1
        split at h1
        · exact ⟨u, by simp [hu], by omega, by omega⟩
        · omega
      · simp at hu; subst hu
        rw [subMod d0 d1 (by simp; omega) (by simp; omega)] at h1
        simp only at h1
        split at h1
        · exact ⟨z, by simp, by omega, by omega⟩
        · exact ⟨a, by simp, by omega, by omega⟩

theorem valid_pairwise {t : Int} : ∀ {s : List Sp} {p : Int}, validFrom t p s = true → s.Pairwise fun x y => x.1 < y.1
  | [], _, _ => List.Pairwise.nil
  | x :: r, p, hv => by
    obtain ⟨h1, h2, h3, h4⟩ := validFrom_cons.1 hv
    refine List.Pairwise.cons (fun y hy => ?_) (valid_pairwise h4)
    have := valid_elt h4 y hy
    omega
theorem wrap_pairwise {T : Nat} {s : List Sp} (hv : validFrom T (-1) s = true) : (wrapL T s).Pairwise fun x y => x.1 < y.1 := by
  have hp := valid_pairwise hv
  rcases wrap_cases T s with ⟨h, _⟩ | ⟨a, r, z, rfl, h0, hT, h⟩
  · rw [h]; exact hp
  · rw [h]
    have hp2 := (List.pairwise_cons.1 hp).2
    rw [List.pairwise_append] at hp2 ⊢
    refine ⟨hp2.1, by simp, fun x hx y hy => ?_⟩
    simp at hy; subst hy
    exact hp2.2.2 x hx z (by simp)

/-- A run begins at f: f is taken, the residue before it is not. -/
theorem wrap_start {T : Nat} {s : List Sp} (hv : validFrom T (-1) s = true) (hf : total s < T) {f : Int} (f0 : 0 ≤ f) (f1 : f < T) :
    (∃ u ∈ wrapL T s, u.1 = f) ↔ mem s f = true ∧ mem s ((f - 1) % T) = false := by
  have hmod : (f - 1) % (T : Int) = if f = 0 then (T : Int) - 1 else f - 1 := by
    split
    · rename_i h; subst h
      rw [show (0 : Int) - 1 = (T : Int) - 1 + (T : Int) * (-1) by omega, Int.add_mul_emod_self_left, Int.emod_eq_of_lt (by omega) (by omega)]
    · exact Int.emod_eq_of_lt (by omega) (by omega)
  rw [hmod]
  have hlast : ∀ u ∈ s, u.2 = T → (s.getD (s.length - 1) (0, 0)).2 = T := by
    intro u hu hT
    rcases snoc_cases s with h | ⟨q, z, rfl⟩
    · subst h; simp at hu
    · have ez : ((q ++ [z]).getD ((q ++ [z]).length - 1) (0, 0)) = z := by simp
      rw [ez]
      rcases List.mem_append.1 hu with hu | hu
      · have h3 := (validFrom_snoc.1 hv)
        have h4 := valid_elt h3.1 u hu
        have h5 : mem q (u.2 - 1) = true := mem_of_elt hu (by omega) (by omega)
        have := mem_lt_lastTo h3.1 h5
        omega
      · simp at hu; subst hu; exact hT
  rcases wrap_cases T s with ⟨h, hn⟩ | ⟨a, r, z, rfl, h0, hT, h⟩
  · rw [h]
    constructor
    · rintro ⟨u, hu, rfl⟩
      have vu := valid_elt hv u hu
      refine ⟨mem_of_elt hu (by omega) (by omega), ?_⟩
      split
      · rename_i hz
        cases hm : mem s ((T : Int) - 1) with
        | false => rfl
        | true =>
          exfalso
          obtain ⟨v, hv', v1, v2⟩ := mem_iff.1 hm
          have vv := valid_elt hv v hv'
          have hl := hlast v hv' (by omega)
          have e0 : (s.getD 0 (0, 0)).1 = 0 := by
            match s, hu with
            | x :: r, hu =>
              rcases List.mem_cons.1 hu with rfl | hu
              · exact hz
              · obtain ⟨_, g2, _, g4⟩ := validFrom_cons.1 hv
                have := valid_elt g4 u hu
                obtain ⟨g1, _⟩ := validFrom_cons.1 hv
                omega
          have hlen : ¬ 1 < s.length := fun q => hn ⟨q, e0, hl⟩
          match s, hu, hlen with
          | [x], hu, _ =>
            simp at hu hv'
            subst hu hv'
            simp [total] at hf
            omega
          | x :: y :: r, _, hlen => simp at hlen
      · exact gap_lo hv u hu
    · rintro ⟨h1, h2⟩
      obtain ⟨u, hu, u1, u2⟩ := mem_iff.1 h1
      have vu := valid_elt hv u hu
      refine ⟨u, hu, ?_⟩
      rcases Int.lt_or_le u.1 f with hlt | hge
      · rw [if_neg (by omega), mem_of_elt hu (by omega) (by omega)] at h2; cases h2
      · omega
  · rw [h]
    have va := valid_elt hv a (by simp)
    have vz := valid_elt hv z (by simp)
    obtain ⟨_, _, _, h4⟩ := validFrom_cons.1 hv
    constructor
    · rintro ⟨u, hu, rfl⟩
      have key : ∃ v ∈ r ++ [z], v.1 = u.1 := by
        rcases List.mem_append.1 hu with hu | hu
        · exact ⟨u, by simp [hu], rfl⟩
        · simp at hu; subst hu; exact ⟨z, by simp, rfl⟩
      obtain ⟨v, hv', e⟩ := key
      have h5 := valid_elt h4 v hv'
      rw [← e]
      refine ⟨mem_of_elt (u := v) (List.mem_cons_of_mem _ hv') (by omega) (by omega), ?_⟩
      rw [if_neg (by omega)]
      exact gap_lo hv v (List.mem_cons_of_mem _ hv')
    · rintro ⟨h1, h2⟩
      obtain ⟨u, hu, u1, u2⟩ := mem_iff.1 h1
      have vu := valid_elt hv u hu
      have e : u.1 = f := by
        rcases Int.lt_or_le u.1 f with hlt | hge
        · rw [if_neg (by omega), mem_of_elt hu (by omega) (by omega)] at h2; cases h2
        · omega
      rcases List.mem_cons.1 hu with rfl | hu
      · rw [if_pos (by omega), mem_of_elt (u := z) (by simp) (by omega) (by omega)] at h2; cases h2
      · rcases List.mem_append.1 hu with hu | hu
        · exact ⟨u, by simp [hu], e⟩
        · simp at hu; subst hu; exact ⟨(u.1, T + a.2), by simp, e⟩

/-- The run's residues, and the one behind it. -/
theorem wrap_run {T : Nat} {s : List Sp} (hv : validFrom T (-1) s = true) (hf : total s < T) {u : Sp} (hu : u ∈ wrapL T s) : (∀ i : Int, 0 ≤ i → i < u.2 - u.1 → mem s ((u.1 + i) % T) = true) ∧ mem s (u.2 % T) = false := by
  have hl := wrap_len hv hf u hu
  refine ⟨fun i i0 i1 => ?_, ?_⟩
  · have m0 := Int.emod_nonneg (u.1 + i) (show (T : Int) ≠ 0 by omega)
    have m1 := Int.emod_lt_of_pos (u.1 + i) (show (0 : Int) < T by omega)
    rw [mem_wrap hv m0 m1, List.any_eq_true]
    refine ⟨u, hu, ?_⟩
    rw [decide_eq_true_eq, Int.emod_sub_emod, show u.1 + i - u.1 = i by omega, Int.emod_eq_of_lt i0 (by omega)]
    exact i1
  · rcases wrap_cases T s with ⟨h, hn⟩ | ⟨a, r, z, rfl, h0, hT, h⟩
    · rw [h] at hu
      have vu := valid_elt hv u hu
      rcases Int.lt_or_le u.2 T with hlt | hge
      · rw [Int.emod_eq_of_lt (by omega) hlt]; exact gap_hi hv u hu
      · have e : u.2 = T := by omega
        rw [e, Int.emod_self]
        cases hm : mem s 0 with
        | false => rfl
        | true =>
          exfalso
          have h1 : mem s ((u.1 - 1) % T) = false := ((wrap_start hv hf (f := u.1) (by omega) (by omega)).1 ⟨u, by rw [h]; exact hu, rfl⟩).2
          have hx : ∃ x r', s = x :: r' := by
            cases s with
            | nil => simp at hu
            | cons x r' => exact ⟨x, r', rfl⟩
          obtain ⟨x, r', rfl⟩ := hx
          obtain ⟨g1, g2, g3, g4⟩ := validFrom_cons.1 hv
          have hx0 : x.1 = 0 := by
            rcases mem_cons.1 hm with q | q
            · omega
            · have := mem_lo g4 q; omega
          rcases List.mem_cons.1 hu with rfl | hu
          · have := total_elt hv u (by simp); omega
          · refine hn ⟨by cases r' with | nil => simp at hu | cons y r' => simp, hx0, ?_⟩
            rcases snoc_cases r' with q | ⟨q, y, rfl⟩
            · subst q; simp at hu
            · have ey : ((x :: (q ++ [y])).getD ((x :: (q ++ [y])).length - 1) (0, 0)) = y := by simp
              rw [ey]
              rcases List.mem_append.1 hu with hu | hu
              · have h3 := validFrom_snoc.1 g4
                have h5 : mem q (u.2 - 1) = true := mem_of_elt hu (by omega) (by omega)
                have := mem_lt_lastTo h3.1 h5
                omega
              · simp at hu; subst hu; exact e
    · rw [h] at hu
      have va := valid_elt hv a (by simp)
      obtain ⟨_, _, _, h4⟩ := validFrom_cons.1 hv
      rcases List.mem_append.1 hu with hu | hu
      · have vu := valid_elt hv u (by simp [hu])
        have hlt : u.2 < T := by
          have h3 := validFrom_snoc.1 h4
          have h5 : mem r (u.2 - 1) = true := mem_of_elt hu (by omega) (by omega)
          have := mem_lt_lastTo h3.1 h5
          omega
        rw [Int.emod_eq_of_lt (by omega) hlt]; exact gap_hi hv u (by simp [hu])
      · simp at hu; subst hu
        simp only at hl ⊢
        have vz := valid_elt hv z (by simp)
        rw [Int.add_emod_left, Int.emod_eq_of_lt (by omega) (by omega)]
        exact gap_hi hv a (by simp)

end Go.Proofs.Ytdijhhfmicafjaa
