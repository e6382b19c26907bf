/-
  Plain: the networks that keep2.Pattern makes have a pattern for each line.
-/
import Derived.Test.YtaongejpbgjbiaaCalF
set_option linter.unusedVariables false
set_option linter.unusedSimpArgs false
namespace RP
/-- What Pattern has laid when r rides of line lam, and all lines above it (below L), are laid. -/
structure PatI (T L lam r : Nat) (ev : List (Int × Int × Int)) (l : List Acy) (ts : List Int) : Prop where
  tlen : ts.length = ev.length
  tin : ∀ t ∈ ts, 0 ≤ t ∧ t < (T : Int)
  r3 : r ≤ 3
  lamL : lam < L
  L3 : L ≤ 3
  len : ev.length + 6 * lam + 6 ≤ 6 * L + 2 * r
  llen : l.length ≤ ev.length
  ok : ∀ a ∈ l, (a.kind = 1 ∨ a.kind = 2) ∧ 0 ≤ a.src ∧ a.src < ev.length ∧ 0 ≤ a.dst ∧ a.dst < ev.length ∧ a.src ≠ a.dst ∧ 0 ≤ a.lo ∧ a.lo ≤ 500 ∧ a.hi = a.lo + T - 1 ∧ a.wt = 0
  dom : ∀ e ∈ ev, (e.1 = 1 ∨ e.1 = 2) ∧ (lam : Int) ≤ e.2.1 ∧ e.2.1 < L ∧ 0 ≤ e.2.2 ∧ e.2.2 < 3 ∧ (e.2.1 = lam → e.2.2 < r)
  nd : ev.Nodup
  pair : ∀ (p : Nat) (line ride : Int), ev[p]? = some (1, line, ride) → ev[p + 1]? = some (2, line, ride) ∧ ∃ a ∈ l, a.kind = 1 ∧ a.src = p ∧ a.dst = p + 1
  prev : ∀ (p : Nat) (line ride : Int), ev[p]? = some (1, line, ride + 1) → 0 ≤ ride → ∃ q : Nat, p = q + 2 ∧ ev[q]? = some (1, line, ride) ∧ ∃ a ∈ l, a.kind = 2 ∧ a.src = q + 1 ∧ a.dst = q + 2
  last : 0 < r → ∃ q : Nat, ev.length = q + 2 ∧ ev[q]? = some (1, (lam : Int), (r : Int) - 1)
  all : ∀ k : Nat, lam < k → k < L → ((1 : Int), (k : Int), (0 : Int)) ∈ ev
  cur : 0 < r → ((1 : Int), (lam : Int), (0 : Int)) ∈ ev
theorem PatI.start (T L : Nat) (h1 : 1 ≤ L) (h3 : L ≤ 3) : PatI T L (L - 1) 0 [] [] [] where
  tlen := rfl
  tin := by simp
  r3 := by omega
  lamL := by omega
  L3 := h3
  len := by simp; omega
  llen := by simp
  ok := by simp
  dom := by simp
  nd := List.nodup_nil
  pair := by simp
  prev := by simp
  last := by omega
  all := by intro k a b; omega
  cur := by omega
theorem PatI.line {T L lam r : Nat} {ev : List (Int × Int × Int)} {l : List Acy} {ts : List Int} (h : PatI T L (lam + 1) r ev l ts) (hr : 0 < r) : PatI T L lam 0 ev l ts where
  tlen := h.tlen
  tin := h.tin
  r3 := by omega
  lamL := by have := h.lamL; omega
  L3 := h.L3
  len := by have := h.len; have := h.r3; omega
  llen := h.llen
  ok := h.ok
  dom := fun e he => by
    obtain ⟨a1, a2, a3, a4, a5, a6⟩ := h.dom e he
    exact ⟨a1, by omega, a3, a4, a5, fun e => by omega⟩
  nd := h.nd
  pair := h.pair
  prev := h.prev
  last := by omega
  all := fun k a b => by
    by_cases e : k = lam + 1
    · subst e; exact h.cur hr
    · exact h.all k (by omega) b
  cur := by omega
theorem PatI.fresh {T L lam r : Nat} {ev : List (Int × Int × Int)} {l : List Acy} {ts : List Int} (h : PatI T L lam r ev l ts) (k : Int) : (k, (lam : Int), (r : Int)) ∉ ev := fun hm => by
  have := (h.dom _ hm).2.2.2.2.2 rfl
  simp at this
theorem get_app2 {α : Type} {ev : List α} {x y : α} {p : Nat} {z : α} (h : (ev ++ [x, y])[p]? = some z) : (p < ev.length ∧ ev[p]? = some z) ∨ (p = ev.length ∧ z = x) ∨ (p = ev.length + 1 ∧ z = y) := by
  by_cases h1 : p < ev.length
  · rw [List.getElem?_append_left h1] at h; exact .inl ⟨h1, h⟩
  · rw [List.getElem?_append_right (by omega)] at h
    by_cases h2 : p = ev.length
    · subst h2; simp at h; exact .inr (.inl ⟨rfl, h.symm⟩)
    · by_cases h3 : p = ev.length + 1
      · subst h3
        have e : ev.length + 1 - ev.length = 1 := by omega
        rw [e] at h; simp at h; exact .inr (.inr ⟨rfl, h.symm⟩)
      · have : 2 ≤ p - ev.length := by omega
        rw [List.getElem?_eq_none (by simpa using this)] at h
        cases h
theorem get_app_lt {α : Type} {ev t : List α} {p : Nat} {z : α} (h : ev[p]? = some z) : (ev ++ t)[p]? = some z := by
  have := (List.getElem?_eq_some_iff.1 h).1
  rw [List.getElem?_append_left this, h]
/-- The activities of a ride. -/
def rideA (T n r : Nat) (lo lo2 : Int) : List Acy := ⟨1, n, (n : Int) + 1, lo, lo + T - 1, 0⟩ :: (if r = 0 then [] else [⟨2, (n : Int) - 1, n, lo2, lo2 + T - 1, 0⟩])
theorem PatI.ride {T L lam r : Nat} {ev : List (Int × Int × Int)} {l : List Acy} {ts : List Int} (h : PatI T L lam r ev l ts) (hr : r < 3) {lo lo2 t1 t2 : Int} (l0 : 1 ≤ lo) (l1 : lo ≤ 500) (l2 : 0 ≤ lo2) (l3 : lo2 ≤ 500) (t10 : 0 ≤ t1) (t11 : t1 < T) (t20 : 0 ≤ t2) (t21 : t2 < T) :
    PatI T L lam (r + 1) (ev ++ [(1, (lam : Int), (r : Int)), (2, (lam : Int), (r : Int))]) (l ++ rideA T ev.length r lo lo2) (ts ++ [t1, t2]) where
  tlen := by simp [h.tlen]
  tin := fun t ht => by
    rcases List.mem_append.1 ht with ht | ht
    · exact h.tin t ht
    · simp at ht; rcases ht with rfl | rfl <;> omega
  r3 := by omega
  lamL := h.lamL
  L3 := h.L3
  len := by have := h.len; simp; omega
  llen := by have := h.llen; simp [rideA]; split <;> simp <;> omega
  ok := fun a ha => by
    rcases List.mem_append.1 ha with ha | ha
    · obtain ⟨a1, a2, a3, a4, a5, a6, a7, a8, a9, a10⟩ := h.ok a ha
      refine ⟨a1, a2, by simp; omega, a4, by simp; omega, a6, a7, a8, a9, a10⟩
    · simp only [rideA, List.mem_cons] at ha
      rcases ha with rfl | ha
      · refine ⟨.inl rfl, ?_, ?_, ?_, ?_, ?_, ?_, ?_, rfl, rfl⟩ <;> (try simp only [List.length_append, List.length_cons, List.length_nil]) <;> omega
      · split at ha
        · simp at ha
        · rename_i hr0
          obtain ⟨q, hq, _⟩ := h.last (by omega)
          simp only [List.mem_singleton] at ha
          subst ha
          refine ⟨.inr rfl, ?_, ?_, ?_, ?_, ?_, ?_, ?_, rfl, rfl⟩ <;> (try simp only [List.length_append, List.length_cons, List.length_nil]) <;> omega
  dom := fun e he => by
    have := h.lamL
    rcases List.mem_append.1 he with he | he
    · obtain ⟨a1, a2, a3, a4, a5, a6⟩ := h.dom e he
      exact ⟨a1, a2, a3, a4, a5, fun q => by have := a6 q; omega⟩
    · simp at he
      rcases he with rfl | rfl
      · exact ⟨.inl rfl, by simp, by simp only; omega, by simp only; omega, by simp only; omega, fun _ => by simp only; omega⟩
      · exact ⟨.inr rfl, by simp, by simp only; omega, by simp only; omega, by simp only; omega, fun _ => by simp only; omega⟩
  nd := by
    rw [List.nodup_append]
    refine ⟨h.nd, by simp, fun a ha b hb e => ?_⟩
    subst e
    simp at hb
    rcases hb with rfl | rfl
    · exact h.fresh 1 ha
    · exact h.fresh 2 ha
  pair := fun p line ride hp => by
    rcases get_app2 hp with ⟨h1, h2⟩ | ⟨h1, h2⟩ | ⟨h1, h2⟩
    · obtain ⟨h3, a, ha, h4⟩ := h.pair p line ride h2
      exact ⟨get_app_lt h3, a, List.mem_append_left _ ha, h4⟩
    · simp only [Prod.mk.injEq, true_and] at h2
      obtain ⟨rfl, rfl⟩ := h2
      subst h1
      refine ⟨?_, ⟨1, ev.length, (ev.length : Int) + 1, lo, lo + T - 1, 0⟩, List.mem_append_right _ (by simp [rideA]), rfl, rfl, rfl⟩
      rw [List.getElem?_append_right (by omega)]
      have e : ev.length + 1 - ev.length = 1 := by omega
      rw [e]; rfl
    · simp only [Prod.mk.injEq] at h2
      have := h2.1
      omega
  prev := fun p line ride hp h0 => by
    rcases get_app2 hp with ⟨h1, h2⟩ | ⟨h1, h2⟩ | ⟨h1, h2⟩
    · obtain ⟨q, h3, h4, a, ha, h5⟩ := h.prev p line ride h2 h0
      exact ⟨q, h3, get_app_lt h4, a, List.mem_append_left _ ha, h5⟩
    · simp only [Prod.mk.injEq, true_and] at h2
      obtain ⟨rfl, h6⟩ := h2
      obtain ⟨q, hq, hq2⟩ := h.last (by omega)
      refine ⟨q, by omega, ?_, ⟨2, (ev.length : Int) - 1, ev.length, lo2, lo2 + T - 1, 0⟩, List.mem_append_right _ ?_, rfl, ?_, ?_⟩
      · rw [get_app_lt hq2, ← h6]; simp
      · simp [rideA, show ¬ r = 0 by omega]
      · show (ev.length : Int) - 1 = _; omega
      · show (ev.length : Int) = _; omega
    · simp only [Prod.mk.injEq] at h2
      have := h2.1
      omega
  last := fun _ => ⟨ev.length, by simp, by rw [List.getElem?_append_right (Nat.le_refl _), Nat.sub_self]; simp⟩
  all := fun k a b => List.mem_append_left _ (h.all k a b)
  cur := fun _ => by
    by_cases e : r = 0
    · subst e; exact List.mem_append_right _ (by simp)
    · exact List.mem_append_left _ (h.cur (by omega))
/-- The first place of an element of a list without doubles. -/
theorem fidx_nodup {α : Type} [DecidableEq α] {l : List α} (hn : l.Nodup) {x : α} {p : Nat} (h : l[p]? = some x) : fidx (fun e => decide (e = x)) l = p := by
  obtain ⟨hp, hx⟩ := List.getElem?_eq_some_iff.1 h
  refine fidx_hit hp ?_ (by simp [hx])
  rw [List.any_eq_false]
  intro y hy
  obtain ⟨j, hj, rfl⟩ := List.mem_take_iff_getElem.1 hy
  simp only [decide_eq_true_eq]
  intro e
  have hjp : j < p := by omega
  exact List.pairwise_iff_getElem.1 hn j p (by omega) hp hjp (e.trans hx.symm)
theorem find_isA {l : List Acy} {k s d : Int} (h : ∃ a ∈ l, a.kind = k ∧ a.src = s ∧ a.dst = d) : ∃ a, l.find? (isA k s d) = some a ∧ a ∈ l ∧ a.src = s ∧ a.dst = d := by
  obtain ⟨a, ha, h1, h2, h3⟩ := h
  cases hf : l.find? (isA k s d) with
  | none =>
    rw [List.find?_eq_none] at hf
    exact absurd (by simp [isA, h1, h2, h3]) (hf a ha)
  | some b =>
    have := List.find?_some hf
    simp only [isA, Bool.and_eq_true, decide_eq_true_eq] at this
    exact ⟨b, rfl, List.mem_of_find?_eq_some hf, this.2.1, this.2.2⟩
/-- The duration of the first activity of a kind between two events. -/
def durA (T : Nat) (ts : List Int) (l : List Acy) (k s d : Int) : Int := match l.find? (isA k s d) with
  | some a => a.lo + overI T ts a
  | none => 0
section
variable {T L : Nat} {ev : List (Int × Int × Int)} {l : List Acy} {ts : List Int} {r : Nat} (h : PatI T L 0 r ev l ts) (hr : 0 < r) (hT : 60 ≤ T) (hT2 : T ≤ 720)
include h
theorem PatI.good (hT : 60 ≤ T) (hT2 : T ≤ 720) : goodB T ev.length l ts = true := by
  rw [goodB_iff, netB_iff]
  have h1 := h.len
  have h2 := h.r3
  have h3 := h.L3
  have h4 := h.llen
  refine ⟨⟨⟨by omega, by omega, by omega, by omega⟩, fun a ha => ?_⟩, h.tlen, h.tin⟩
  obtain ⟨a1, a2, a3, a4, a5, a6, a7, a8, a9, a10⟩ := h.ok a ha
  unfold okA
  omega
theorem PatI.feas (hT : 60 ≤ T) (hT2 : T ≤ 720) : feasB T ev.length l ts = true := by
  rw [feas_iff]
  refine ⟨h.good hT hT2, fun a ha => ?_⟩
  obtain ⟨a1, a2, a3, a4, a5, a6, a7, a8, a9, a10⟩ := h.ok a ha
  have := Int.emod_lt_of_pos (ts.getD a.dst.toNat 0 - ts.getD a.src.toNat 0 - a.lo) (show (0 : Int) < T by omega)
  unfold overI
  omega
theorem PatI.evs (hr : 0 < r) : (∀ e ∈ ev, 0 ≤ e.2.1 ∧ e.2.1 < L) ∧ ∀ k : Nat, k < L → ((1 : Int), (k : Int), (0 : Int)) ∈ ev :=
  ⟨fun e he => by have := h.dom e he; omega, fun k hk => by
    by_cases e : k = 0
    · subst e; exact h.cur hr
    · exact h.all k (by omega) hk⟩
end
/-- A pattern whose durations are not negative, and what its times are modulo the period. -/
structure PatNN (T : Nat) (ts : List Int) (R : Nat) (P Q : Nat → Nat) (D W : Nat → Int) : Prop where
  run0 : ∀ r, r < R → 0 ≤ W r
  dwell0 : ∀ r, r + 1 < R → 0 ≤ D (r + 1)
  runT : ∀ r, r < R → (W r - (ts.getD (Q r) 0 - ts.getD (P r) 0)) % (T : Int) = 0
  dwellT : ∀ r, r + 1 < R → (D (r + 1) - (ts.getD (P (r + 1)) 0 - ts.getD (Q r) 0)) % (T : Int) = 0
theorem dur_mod {T : Nat} {ts : List Int} {a : Acy} {s d : Nat} (hs : a.src = s) (hd : a.dst = d) : (a.lo + overI T ts a - (ts.getD d 0 - ts.getD s 0)) % (T : Int) = 0 := by
  unfold overI
  rw [hs, hd, Int.toNat_natCast, Int.toNat_natCast]
  have e : a.lo + (ts.getD d 0 - ts.getD s 0 - a.lo) % (T : Int) - (ts.getD d 0 - ts.getD s 0) = (ts.getD d 0 - ts.getD s 0 - a.lo) % (T : Int) - (ts.getD d 0 - ts.getD s 0 - a.lo) := by omega
  rw [e, Int.emod_sub_emod, Int.sub_self]; rfl
theorem PatI.pat {T L r : Nat} {ev : List (Int × Int × Int)} {l : List Acy} {ts : List Int} (h : PatI T L 0 r ev l ts) (hr : 0 < r) (hT : 60 ≤ T) (line : Int) (l0 : 0 ≤ line) (l1 : line < L) :
    ∃ R P Q D W, PatOk T ts ev l line R P Q D W ∧ PatNN T ts R P Q D W := by
  have key : ∃ R : Nat, 1 ≤ R ∧ R ≤ 3 ∧ (∀ k : Nat, k < R → ((1 : Int), line, (k : Int)) ∈ ev) ∧ ((1 : Int), line, (R : Int)) ∉ ev := by
    have h0 := (h.evs hr).2 line.toNat (by omega)
    rw [Int.toNat_of_nonneg l0] at h0
    by_cases h1 : ((1 : Int), line, ((1 : Nat) : Int)) ∈ ev
    · by_cases h2 : ((1 : Int), line, ((2 : Nat) : Int)) ∈ ev
      · refine ⟨3, by omega, by omega, fun k hk => ?_, fun h3 => by have := (h.dom _ h3).2.2.2.2.1; simp at this⟩
        match k, hk with
        | 0, _ => exact h0
        | 1, _ => exact h1
        | 2, _ => exact h2
      · refine ⟨2, by omega, by omega, fun k hk => ?_, h2⟩
        match k, hk with
        | 0, _ => exact h0
        | 1, _ => exact h1
    · refine ⟨1, by omega, by omega, fun k hk => ?_, h1⟩
      match k, hk with
      | 0, _ => exact h0
  obtain ⟨R, R1, R3, hin, hout⟩ := key
  have hP : ∀ k : Nat, ∃ p : Nat, k < R → ev[p]? = some ((1 : Int), line, (k : Int)) := fun k => by
    by_cases hk : k < R
    · obtain ⟨p, hp⟩ := List.mem_iff_getElem?.1 (hin k hk)
      exact ⟨p, fun _ => hp⟩
    · exact ⟨0, fun q => absurd q hk⟩
  let P := fun k => Classical.choose (hP k)
  have hPs : ∀ k, k < R → ev[P k]? = some ((1 : Int), line, (k : Int)) := fun k => Classical.choose_spec (hP k)
  have hPr : ∀ k, k + 1 < R → P (k + 1) = P k + 2 ∧ ∃ a ∈ l, a.kind = 2 ∧ a.src = ((P k + 1 : Nat) : Int) ∧ a.dst = ((P (k + 1) : Nat) : Int) := fun k hk => by
    have h1 := hPs (k + 1) hk
    have e : ((k + 1 : Nat) : Int) = (k : Int) + 1 := by omega
    rw [e] at h1
    obtain ⟨q, hq, hq2, a, ha, h2, h3, h4⟩ := h.prev _ _ _ h1 (by omega)
    have h5 := hPs k (by omega)
    have e2 := fidx_nodup h.nd hq2
    have e3 := fidx_nodup h.nd h5
    rw [e2] at e3
    have e4 : q = P k := by omega
    exact ⟨by omega, a, ha, h2, by rw [h3, e4]; omega, by rw [h4, hq]; omega⟩
  have hA : ∀ k, k < R → ∃ a, l.find? (isA 1 (P k) ((P k + 1 : Nat) : Int)) = some a ∧ a ∈ l ∧ a.src = P k ∧ a.dst = ((P k + 1 : Nat) : Int) := fun k hk => find_isA (by
    obtain ⟨_, a, ha, h1, h2, h3⟩ := h.pair _ _ _ (hPs k hk)
    exact ⟨a, ha, h1, h2, by rw [h3]; omega⟩)
  have hB : ∀ k, k + 1 < R → ∃ a, l.find? (isA 2 ((P k + 1 : Nat) : Int) (P (k + 1))) = some a ∧ a ∈ l ∧ a.src = ((P k + 1 : Nat) : Int) ∧ a.dst = P (k + 1) := fun k hk => find_isA (hPr k hk).2
  have dn : ∀ a ∈ l, 0 ≤ a.lo + overI T ts a := fun a ha => by
    have h1 := (h.ok a ha).2.2.2.2.2.2.1
    have := Int.emod_nonneg (ts.getD a.dst.toNat 0 - ts.getD a.src.toNat 0 - a.lo) (show (T : Int) ≠ 0 by omega)
    unfold overI; omega
  refine ⟨R, P, fun k => P k + 1, fun k => durA T ts l 2 ((P (k - 1) + 1 : Nat) : Int) (P k), fun k => durA T ts l 1 (P k) ((P k + 1 : Nat) : Int), ⟨R1, by omega, fun k hk => fidx_nodup h.nd (hPs k hk), fun k hk => fidx_nodup h.nd (h.pair _ _ _ (hPs k hk)).1, ?_, ?_, ?_⟩, ⟨?_, ?_, ?_, ?_⟩⟩
  · refine fidx_none ?_
    rw [List.any_eq_false]
    intro e he
    simp only [decide_eq_true_eq]
    intro q; rw [q] at he; exact hout he
  · intro k hk
    obtain ⟨a, h1, _⟩ := hA k hk
    exact ⟨a, h1, by simp only [durA, h1]⟩
  · intro k hk
    obtain ⟨a, h1, _⟩ := hB k hk
    exact ⟨a, h1, by simp only [durA, Nat.add_sub_cancel, h1]⟩
  · intro k hk
    obtain ⟨a, h1, h2, _⟩ := hA k hk
    simp only [durA, h1]; exact dn a h2
  · intro k hk
    obtain ⟨a, h1, h2, _⟩ := hB k hk
    simp only [durA, Nat.add_sub_cancel, h1]; exact dn a h2
  · intro k hk
    obtain ⟨a, h1, _, h3, h4⟩ := hA k hk
    simp only [durA, h1]; exact dur_mod h3 h4
  · intro k hk
    obtain ⟨a, h1, _, h3, h4⟩ := hB k hk
    simp only [durA, Nat.add_sub_cancel, h1]; exact dur_mod h3 h4
theorem linesP_of {L : Nat} (h1 : 1 ≤ L) (hL : L ≤ 3) {ev : List (Int × Int × Int)} (hb : ∀ e ∈ ev, 0 ≤ e.2.1 ∧ e.2.1 < (L : Int)) (ha : ∀ k : Nat, k < L → ((1 : Int), (k : Int), (0 : Int)) ∈ ev) : linesP ev = L := by
  have key : ∀ (u : List (Int × Int × Int)) (c : Int), (∀ e ∈ u, 0 ≤ e.2.1 ∧ e.2.1 < (L : Int)) → 0 ≤ c → c ≤ L → (u.foldl (fun c e => max c (min e.2.1 16 + 1)) c ≤ L ∧ c ≤ u.foldl (fun c e => max c (min e.2.1 16 + 1)) c ∧ ∀ e ∈ u, e.2.1 + 1 ≤ u.foldl (fun c e => max c (min e.2.1 16 + 1)) c) := by
    intro u
    induction u with
    | nil => intro c _ h0 h1; exact ⟨h1, Int.le_refl _, by simp⟩
    | cons x u ih =>
      intro c hu h0 h1
      have hx := hu x (by simp)
      obtain ⟨i1, i2, i3⟩ := ih (max c (min x.2.1 16 + 1)) (fun e he => hu e (by simp [he])) (by omega) (by omega)
      rw [List.foldl_cons]
      refine ⟨i1, by omega, fun e he => ?_⟩
      rcases List.mem_cons.1 he with rfl | he
      · omega
      · exact i3 e he
  obtain ⟨k1, _, k3⟩ := key ev 0 hb (by omega) (by omega)
  have := k3 _ (ha (L - 1) (by omega))
  unfold linesP
  simp only at this
  omega
end RP
