/-
  Plain facts: the gaps between the spans of a valid list are the valid list of its complement; the common part of two valid lists.
-/
import Derived.Test.YtabcbkgnhdijpaaMergeP
set_option linter.unusedVariables false
set_option linter.unusedSimpArgs false
namespace RP

/-- The next residue that no span has covered yet. -/
def gapFrom (p : List Sp) : Int := lastTo 0 p
def gapStep (st : List Sp × Int) (s : Sp) : List Sp × Int := (if st.2 < s.1 then st.1 ++ [(st.2, s.1)] else st.1, s.2)
def gaps (p : List Sp) : List Sp × Int := p.foldl gapStep ([], 0)
def gapsEnd (t : Int) (p : List Sp) : List Sp := if (gaps p).2 < t then (gaps p).1 ++ [((gaps p).2, t)] else (gaps p).1

theorem gaps_snoc (p : List Sp) (s : Sp) : gaps (p ++ [s]) = gapStep (gaps p) s := by simp [gaps, List.foldl_append]

structure Gaps (t : Int) (p : List Sp) : Prop where
  valid : validFrom t (-1) (gaps p).1 = true
  mem : ∀ x, mem (gaps p).1 x = true ↔ 0 ≤ x ∧ x < (gaps p).2 ∧ mem p x = false
  last : lastTo (-1) (gaps p).1 < (gaps p).2
  lo : 0 ≤ (gaps p).2
  hi : (gaps p).2 ≤ t
  to : p ≠ [] → (gaps p).2 = lastTo (-1) p
  len : (gaps p).1.length ≤ p.length

theorem gaps_nil (t : Int) (ht : 0 ≤ t) : Gaps t [] where
  valid := rfl
  mem x := by simp [gaps, RP.mem]
  last := by simp [gaps, lastTo]
  lo := by simp [gaps]
  hi := by simpa [gaps] using ht
  to h := absurd rfl h
  len := by simp [gaps]

theorem gaps_step {t : Int} {p : List Sp} {s : Sp} (h : Gaps t p) (hv : validFrom t (-1) (p ++ [s]) = true) : Gaps t (p ++ [s]) := by
  obtain ⟨v1, v2, v3, v4⟩ := validFrom_snoc.1 hv
  have hmem : ∀ x, RP.mem (p ++ [s]) x = (RP.mem p x || (decide (s.1 ≤ x) && decide (x < s.2))) := fun x => by simp [RP.mem, List.any_append]
  have hlo := h.lo
  have hlt := h.last
  have hfs : (gaps p).2 ≤ s.1 ∧ (p ≠ [] → (gaps p).2 < s.1) := by
    by_cases h0 : p = []
    · subst h0; exact ⟨by simp [gaps, lastTo] at v2 ⊢; omega, fun h => absurd rfl h⟩
    · have := h.to h0; exact ⟨by omega, fun _ => by omega⟩
  have hpl : ∀ x, RP.mem p x = true → x < (gaps p).2 := fun x hx => by
    have h0 : p ≠ [] := by rintro rfl; simp [RP.mem] at hx
    rw [h.to h0]; exact mem_lt_lastTo v1 hx
  have hs := gaps_snoc p s
  have hl := h.len
  by_cases hc : (gaps p).2 < s.1
  · have e1 : (gaps (p ++ [s])).1 = (gaps p).1 ++ [((gaps p).2, s.1)] := by rw [hs]; simp [gapStep, hc]
    have e2 : (gaps (p ++ [s])).2 = s.2 := by rw [hs]; rfl
    refine ⟨?_, fun x => ?_, ?_, by rw [e2]; omega, by rw [e2]; exact v4, fun _ => by rw [e2, lastTo_snoc], by rw [e1]; simp; omega⟩
    · rw [e1]; exact validFrom_snoc.2 ⟨h.valid, hlt, hc, by simp only; omega⟩
    · rw [e1, e2, hmem]
      have hm := h.mem x
      rw [mem_append, hm]
      have : RP.mem [((gaps p).2, s.1)] x = true ↔ (gaps p).2 ≤ x ∧ x < s.1 := by simp [RP.mem]
      rw [this]
      cases hp : RP.mem p x with
      | true => have := hpl x hp; simp; omega
      | false => simp; omega
    · rw [e1, e2, lastTo_snoc]; exact v3
  · have e1 : (gaps (p ++ [s])).1 = (gaps p).1 := by rw [hs]; simp [gapStep, hc]
    have e2 : (gaps (p ++ [s])).2 = s.2 := by rw [hs]; rfl
    refine ⟨by rw [e1]; exact h.valid, fun x => ?_, by rw [e1, e2]; omega, by rw [e2]; omega, by rw [e2]; exact v4, fun _ => by rw [e2, lastTo_snoc], by rw [e1]; simp; omega⟩
    rw [e1, e2, hmem, h.mem x]
    cases hp : RP.mem p x with
    | true => simp
    | false => simp; omega

theorem gaps_take {t : Int} (ht : 0 ≤ t) {l : List Sp} (hv : validFrom t (-1) l = true) : ∀ k, k ≤ l.length → Gaps t (l.take k)
  | 0, _ => by rw [List.take_zero]; exact gaps_nil t ht
  | k + 1, hk => by
    have h := gaps_take ht hv k (by omega)
    have hv' := validFrom_take (k + 1) hv
    rw [List.take_succ_eq_append_getElem (by omega)] at hv' ⊢
    exact gaps_step h hv'

theorem gapsEnd_spec {t : Int} (ht : 0 ≤ t) {l : List Sp} (hv : validFrom t (-1) l = true) : validFrom t (-1) (gapsEnd t l) = true ∧ ∀ x, 0 ≤ x → x < t → mem (gapsEnd t l) x = !mem l x := by
  have h := gaps_take ht hv l.length (Nat.le_refl _)
  rw [List.take_length] at h
  have hpl : ∀ x, mem l x = true → x < (gaps l).2 := fun x hx => by
    have h0 : l ≠ [] := by rintro rfl; simp [RP.mem] at hx
    rw [h.to h0]; exact mem_lt_lastTo hv hx
  unfold gapsEnd
  split
  · rename_i hc
    refine ⟨validFrom_snoc.2 ⟨h.valid, h.last, hc, Int.le_refl _⟩, fun x h0 h1 => ?_⟩
    apply mem_eq_of_iff
    rw [mem_append, h.mem x]
    have : mem [((gaps l).2, t)] x = true ↔ (gaps l).2 ≤ x ∧ x < t := by simp [RP.mem]
    rw [this]
    cases hp : mem l x with
    | true => have := hpl x hp; simp; omega
    | false => simp; omega
  · rename_i hc
    refine ⟨h.valid, fun x h0 h1 => ?_⟩
    apply mem_eq_of_iff
    rw [h.mem x]
    have := h.hi
    cases hp : mem l x with
    | true => simp
    | false => simp; omega

/-- One step of the intersection: the common part of the first spans. -/
def interPart (s u : Sp) : List Sp := if max s.1 u.1 < min s.2 u.2 then [(max s.1 u.1, min s.2 u.2)] else []

/-- The invariant of the intersection: what was collected, and the two rests. -/
structure Inter (t : Int) (a b out ra rb : List Sp) : Prop where
  valid : validFrom t (-1) out = true
  ends : ∃ pa pb, -1 ≤ pa ∧ -1 ≤ pb ∧ validFrom t pa ra = true ∧ validFrom t pb rb = true ∧ lastTo (-1) out ≤ max pa pb
  mem : ∀ x, (mem a x && mem b x) = (mem out x || (mem ra x && mem rb x))

theorem inter_start {t : Int} {a b : List Sp} (ha : validFrom t (-1) a = true) (hb : validFrom t (-1) b = true) : Inter t a b [] a b :=
  ⟨rfl, ⟨-1, -1, by omega, by omega, ha, hb, by simp [lastTo]⟩, fun x => by simp [RP.mem]⟩

theorem inter_sym {t : Int} {a b out ra rb : List Sp} (h : Inter t a b out ra rb) : Inter t b a out rb ra := by
  obtain ⟨pa, pb, h1, h2, h3, h4, h5⟩ := h.ends
  exact ⟨h.valid, ⟨pb, pa, h2, h1, h4, h3, by omega⟩, fun x => by rw [Bool.and_comm, h.mem x, Bool.and_comm (RP.mem ra x)]⟩

theorem interPart_sym (s u : Sp) : interPart s u = interPart u s := by
  unfold interPart
  rw [Int.max_comm, Int.min_comm]

theorem inter_step {t : Int} {a b out ra rb : List Sp} {s u : Sp} (h : Inter t a b out (s :: ra) (u :: rb)) (hc : s.2 ≤ u.2) : Inter t a b (out ++ interPart s u) ra (u :: rb) := by
  obtain ⟨pa, pb, h1, h2, h3, h4, h5⟩ := h.ends
  obtain ⟨a1, a2, a3, a4⟩ := validFrom_cons.1 h3
  obtain ⟨b1, b2, b3, b4⟩ := validFrom_cons.1 h4
  have hpart : ∀ x, RP.mem (interPart s u) x = (decide (s.1 ≤ x) && decide (x < s.2) && (decide (u.1 ≤ x) && decide (x < u.2))) := fun x => by
    unfold interPart
    split
    · apply mem_eq_of_iff; simp [RP.mem]; omega
    · apply mem_eq_of_iff; simp [RP.mem]; omega
  refine ⟨?_, ⟨s.2, pb, by omega, h2, a4, h4, ?_⟩, fun x => ?_⟩
  · unfold interPart
    split
    · exact validFrom_snoc.2 ⟨h.valid, by simp only; omega, by assumption, by simp only; omega⟩
    · rw [List.append_nil]; exact h.valid
  · unfold interPart
    split
    · rw [lastTo_snoc]; simp only; omega
    · rw [List.append_nil]; omega
  · rw [h.mem x]
    apply mem_eq_of_iff
    have hp := hpart x
    have hap : RP.mem (out ++ interPart s u) x = (RP.mem out x || RP.mem (interPart s u) x) := by simp [RP.mem, List.any_append]
    rw [hap, hp]
    have ea : RP.mem (s :: ra) x = ((decide (s.1 ≤ x) && decide (x < s.2)) || RP.mem ra x) := by simp [RP.mem]
    have eb : RP.mem (u :: rb) x = ((decide (u.1 ≤ x) && decide (x < u.2)) || RP.mem rb x) := by simp [RP.mem]
    rw [ea]
    have hrb : RP.mem rb x = true → u.2 < x := fun q => mem_lo b4 q
    simp only [Bool.or_eq_true, Bool.and_eq_true, decide_eq_true_eq]
    constructor
    · rintro (q | ⟨q | q, r⟩)
      · exact .inl (.inl q)
      · rw [eb] at r
        simp only [Bool.or_eq_true, Bool.and_eq_true, decide_eq_true_eq] at r
        rcases r with r | r
        · exact .inl (.inr ⟨q, r⟩)
        · have := hrb r; omega
      · exact .inr ⟨q, r⟩
    · rintro ((q | ⟨q, r⟩) | ⟨q, r⟩)
      · exact .inl q
      · exact .inr ⟨.inl q, by rw [eb]; simp only [Bool.or_eq_true, Bool.and_eq_true, decide_eq_true_eq]; exact .inl r⟩
      · exact .inr ⟨.inr q, r⟩

theorem inter_done {t : Int} {a b out ra rb : List Sp} (h : Inter t a b out ra rb) (hd : ra = [] ∨ rb = []) : validFrom t (-1) out = true ∧ ∀ x, mem out x = (mem a x && mem b x) := by
  refine ⟨h.valid, fun x => ?_⟩
  rw [h.mem x]
  rcases hd with rfl | rfl <;> simp [RP.mem]

end RP
