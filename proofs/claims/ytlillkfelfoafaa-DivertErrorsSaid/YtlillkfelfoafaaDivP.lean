/-
  Plain facts on options, jobs, one-way rules; what admits and meets mean; the gaps of a plan.
  What a plan is: the order of the jobs, one job placed after the other, the budget. Plain facts.
  Putting a number into an ordered list of jobs; plain facts.
  The search among the candidates, the reference's placed, and when choices are permissible; plain facts.
  What a plan has: it is permissible, each job stands as early as it can. Plain facts.
  The plan of the example of chapter 26; plain facts.
-/
import Derived.Test.YtlillkfelfoafaaCloP
import Derived.Test.YtlillkfelfoafaaCloA
set_option linter.unusedVariables false
set_option linter.unusedSimpArgs false
namespace Go.Proofs.Ytlillkfelfoafaa
open RP

/-- Section, direction. -/
abbrev Ste := Int × Int
/-- Section, direction, from, to. -/
abbrev OWy := Int × Int × Int × Int
/-- Option, start. -/
abbrev Cho := Int × Int
structure OptP where
  steps : List Ste
  occs : List Occ
structure JobP where
  start : Int
  opts : List OptP

def okSt (s : Ste) : Bool := decide (0 ≤ s.1) && (decide (s.2 = 0) || decide (s.2 = 1))
def validOp (o : OptP) : Bool := decide (o.steps.length ≤ 24) && (decide (o.occs.length ≤ 144) && (validO (-1) o.occs && o.steps.all okSt))
def okJob (j : JobP) : Bool := (decide (0 ≤ j.start) && decide (j.start ≤ 4194304)) && ((decide (1 ≤ j.opts.length) && decide (j.opts.length ≤ 8)) && j.opts.all validOp)
def checkJ (l : List JobP) : Bool := decide (l.length ≤ 48) && l.all okJob
def oppB (o : OptP) (w : OWy) : Bool := o.steps.any fun s => decide (s.1 = w.1) && decide (s.2 ≠ w.2.1)
def inW (c : Occ) (w : OWy) (s : Int) : Bool := decide (c.1 = w.1) && (decide (w.2.2.1 ≤ s + c.2.1) && decide (s + c.2.1 < w.2.2.2))
def agB (ow : List OWy) (o : OptP) (s : Int) : Bool := ow.any fun w => oppB o w && o.occs.any fun c => inW c w s
def bigB (x : Int) : Bool := decide (0 ≤ x) && decide (x ≤ 1099511627776)
def admitsB (cl : List Clo) (ow : List OWy) (o : OptP) (s : Int) : Bool := validOp o && (bigB s && (entersC cl o.occs s && !agB ow o s))
def touchB (c d : Occ) (x y : Int) : Bool := decide (x + c.2.1 < y + d.2.2) && decide (y + d.2.1 < x + c.2.2)
def meetB (a : OptP) (x : Int) (b : OptP) (y : Int) : Bool := (validOp a && validOp b) && ((bigB x && bigB y) && a.occs.any fun c => b.occs.any fun d => decide (c.1 = d.1) && touchB c d x y)

theorem validOp_iff {o : OptP} : validOp o = true ↔ o.steps.length ≤ 24 ∧ o.occs.length ≤ 144 ∧ validO (-1) o.occs = true ∧ o.steps.all okSt = true := by
  simp [validOp, and_assoc]
theorem okJob_iff {j : JobP} : okJob j = true ↔ (0 ≤ j.start ∧ j.start ≤ 4194304) ∧ (1 ≤ j.opts.length ∧ j.opts.length ≤ 8) ∧ ∀ o ∈ j.opts, validOp o = true := by
  simp [okJob, and_assoc]
theorem checkJ_iff {l : List JobP} : checkJ l = true ↔ l.length ≤ 48 ∧ ∀ j ∈ l, okJob j = true := by simp [checkJ]
theorem bigB_iff {x : Int} : bigB x = true ↔ 0 ≤ x ∧ x ≤ 1099511627776 := by simp [bigB]
theorem touch_iff {c d : Occ} {x y : Int} : touchB c d x y = true ↔ x + c.2.1 < y + d.2.2 ∧ y + d.2.1 < x + c.2.2 := by simp [touchB]
theorem touch_comm (c d : Occ) (x y : Int) : touchB c d x y = touchB d c y x := by
  rw [Bool.eq_iff_iff, touch_iff, touch_iff]; exact And.comm
theorem any_swap {α β : Type} (l : List α) (m : List β) (p : α → β → Bool) : (l.any fun a => m.any fun b => p a b) = m.any fun b => l.any fun a => p a b := by
  rw [Bool.eq_iff_iff]
  simp only [List.any_eq_true]
  constructor
  · rintro ⟨a, ha, b, hb, h⟩; exact ⟨b, hb, a, ha, h⟩
  · rintro ⟨a, ha, b, hb, h⟩; exact ⟨b, hb, a, ha, h⟩
theorem meet_comm (a : OptP) (x : Int) (b : OptP) (y : Int) : meetB a x b y = meetB b y a x := by
  unfold meetB
  rw [Bool.and_comm (validOp a), Bool.and_comm (bigB x), any_swap]
  congr 2
  congr 1
  funext d
  congr 1
  funext c
  rw [touch_comm]
  congr 1
  exact decide_eq_decide.2 eq_comm
/-- For valid options: by the pairs. -/
theorem meet_pairs {a b : OptP} (hb : validOp b = true) (x y : Int) : (a.occs.any fun c => b.occs.any fun d => decide (c.1 = d.1) && touchB c d x y) = (pairsO a.occs b.occs).any fun p => touchB p.1 p.2 x y := by
  have hv := (validOp_iff.1 hb).2.2.1
  rw [Bool.eq_iff_iff]
  simp only [List.any_eq_true, Bool.and_eq_true, decide_eq_true_eq]
  constructor
  · rintro ⟨c, hc, d, hd, h1, h2⟩; exact ⟨(c, d), (pairs_iff hv).2 ⟨hc, hd, h1⟩, h2⟩
  · rintro ⟨p, hp, h⟩
    obtain ⟨h1, h2, h3⟩ := (pairs_iff hv).1 hp
    exact ⟨_, h1, _, h2, h3, h⟩

/-! ### Gaps -/
abbrev Gap := Int × Int
def inGap (d : Int) (g : Gap) : Bool := decide (g.1 ≤ d) && decide (d < g.2)
theorem inGap_iff {d : Int} {g : Gap} : inGap d g = true ↔ g.1 ≤ d ∧ d < g.2 := by simp [inGap]
/-- d is the least number from 0 on that lies in no gap. -/
def FirstG (l : List Gap) (d : Int) : Prop := 0 ≤ d ∧ l.any (inGap d) = false ∧ ∀ y, 0 ≤ y → y < d → l.any (inGap y) = true
theorem FirstG.perm {l m : List Gap} {d : Int} (h : FirstG l d) (hp : l.Perm m) : FirstG m d := by
  have key : ∀ y, l.any (inGap y) = m.any (inGap y) := fun y => by
    rw [Bool.eq_iff_iff, List.any_eq_true, List.any_eq_true]
    exact ⟨fun ⟨g, hg, q⟩ => ⟨g, hp.mem_iff.1 hg, q⟩, fun ⟨g, hg, q⟩ => ⟨g, hp.mem_iff.2 hg, q⟩⟩
  exact ⟨h.1, by rw [← key]; exact h.2.1, fun y a b => by rw [← key]; exact h.2.2 y a b⟩
def stepG (d : Int) (g : Gap) : Int := if g.1 ≤ d ∧ d < g.2 then g.2 else d
def firstF (l : List Gap) : Int := l.foldl stepG 0
theorem firstF_snoc {l : List Gap} {k : Nat} (h : k < l.length) : firstF (l.take (k + 1)) = stepG (firstF (l.take k)) l[k] := by
  unfold firstF; rw [List.take_succ_eq_append_getElem h, List.foldl_append]; rfl
theorem firstF_spec {l : List Gap} (hs : l.Pairwise fun a b => a.1 ≤ b.1) : ∀ k, k ≤ l.length → FirstG (l.take k) (firstF (l.take k)) := fun k => by
  induction k with
  | zero => intro _; exact ⟨Int.le_refl _, rfl, fun y a b => by simp [firstF] at b; omega⟩
  | succ k ih =>
    intro hk
    obtain ⟨h0, h1, h2⟩ := ih (by omega)
    rw [firstF_snoc (by omega)]
    generalize hd : firstF (l.take k) = d at *
    have hpre : ∀ g ∈ l.take k, g.1 ≤ l[k].1 := fun g hg => by
      obtain ⟨i, hi, rfl⟩ := List.mem_take_iff_getElem.1 hg
      exact List.pairwise_iff_getElem.1 hs i k (by omega) (by omega) (by omega)
    rw [List.take_succ_eq_append_getElem (by omega)]
    generalize l[k] = g at *
    rw [List.any_eq_false] at h1
    unfold stepG
    by_cases q : g.1 ≤ d ∧ d < g.2
    · rw [if_pos q]
      refine ⟨by omega, ?_, fun y a b => ?_⟩
      · rw [List.any_append, Bool.or_eq_false_iff]
        constructor
        · rw [List.any_eq_false]
          intro u hu e
          have h3 := h1 u hu
          have h4 := hpre u hu
          rw [inGap_iff] at h3 e
          omega
        · simp [inGap]
      · rw [List.any_append, Bool.or_eq_true]
        by_cases y1 : y < d
        · exact .inl (h2 y a y1)
        · right; simp [inGap]; omega
    · rw [if_neg q]
      refine ⟨h0, ?_, fun y a b => ?_⟩
      · rw [List.any_append, Bool.or_eq_false_iff, List.any_eq_false]
        refine ⟨h1, ?_⟩
        simp only [List.any_cons, List.any_nil, Bool.or_false]
        rw [← Bool.not_eq_true, inGap_iff]; exact q
      · rw [List.any_append, Bool.or_eq_true]; exact .inl (h2 y a b)
theorem stepG_range {d B : Int} {g : Gap} (h0 : 0 ≤ d) (h1 : d ≤ B) (h2 : g.2 ≤ B) : 0 ≤ stepG d g ∧ stepG d g ≤ B := by
  unfold stepG; split <;> omega

/-- The shift at which an entry is forbidden. -/
def clampF (x : Int) : Int := max (-1125899906842624) (min x 1125899906842624)
def entryG (o : Occ) (s f t : Int) : Gap := (clampF f - s - o.2.1, clampF t - s - o.2.1)
theorem entry_in {o : Occ} {s f t d : Int} (h1 : -1125899906842624 ≤ s + d + o.2.1) (h2 : s + d + o.2.1 < 1125899906842624) : inGap d (entryG o s f t) = (decide (f ≤ s + d + o.2.1) && decide (s + d + o.2.1 < t)) := by
  rw [Bool.eq_iff_iff, inGap_iff, Bool.and_eq_true, decide_eq_true_eq, decide_eq_true_eq]
  unfold entryG clampF
  simp only
  omega
def gapM (c e : Occ) (s y : Int) : Gap := (y + e.2.1 - c.2.2 - s + 1, y + e.2.2 - c.2.1 - s)
theorem gapM_in {c e : Occ} {s y d : Int} : inGap d (gapM c e s y) = touchB c e (s + d) y := by
  rw [Bool.eq_iff_iff, inGap_iff, touch_iff]
  unfold gapM; simp only; omega
/-- The gaps of an option. -/
def gapsC (cl : List Clo) (ow : List OWy) (o : OptP) (s : Int) (c : Occ) : List Gap :=
  (cl.filter fun x => decide (x.1 = c.1)).map (fun x => entryG c s x.2.1 x.2.2) ++ ((ow.filter fun w => decide (w.1 = c.1)).filter (oppB o)).map fun w => entryG c s w.2.2.1 w.2.2.2
def gapsO (jobs : List JobP) (o : OptP) (s : Int) (i : Nat) (d : Cho) : List Gap :=
  if d.1 < 0 then [] else (pairsO o.occs ((jobs.getD i ⟨0, []⟩).opts.getD d.1.toNat ⟨[], []⟩).occs).map fun p => gapM p.1 p.2 s d.2
def gapsL (jobs : List JobP) (cl : List Clo) (ow : List OWy) (ch : List Cho) (o : OptP) (s : Int) : List Gap :=
  o.occs.flatMap (gapsC cl ow o s) ++ (List.range ch.length).flatMap fun i => gapsO jobs o s i (ch.getD i (0, 0))
/-- A candidate is permitted. -/
def permB (jobs : List JobP) (cl : List Clo) (ow : List OWy) (ch : List Cho) (o : OptP) (x : Int) : Bool :=
  admitsB cl ow o x && (List.range ch.length).all fun i => decide ((ch.getD i (0, 0)).1 < 0) || !meetB ((jobs.getD i ⟨0, []⟩).opts.getD (ch.getD i (0, 0)).1.toNat ⟨[], []⟩) (ch.getD i (0, 0)).2 o x

theorem gapsC_in {cl : List Clo} {ow : List OWy} {o : OptP} {s d : Int} {c : Occ} (h1 : -1125899906842624 ≤ s + d + c.2.1) (h2 : s + d + c.2.1 < 1125899906842624) :
    (gapsC cl ow o s c).any (inGap d) = (coverC cl c.1 (s + d + c.2.1) || ow.any fun w => oppB o w && inW c w (s + d)) := by
  unfold gapsC
  rw [List.any_append, List.any_map, List.any_map]
  congr 1
  · rw [Bool.eq_iff_iff, cover_iff, List.any_eq_true]
    constructor
    · rintro ⟨x, hx, h⟩
      obtain ⟨h3, h4⟩ := List.mem_filter.1 hx
      rw [Function.comp, entry_in h1 h2, Bool.and_eq_true, decide_eq_true_eq, decide_eq_true_eq] at h
      exact ⟨x, h3, by simpa using h4, h.1, h.2⟩
    · rintro ⟨x, hx, h3, h4, h5⟩
      refine ⟨x, List.mem_filter.2 ⟨hx, by simpa using h3⟩, ?_⟩
      rw [Function.comp, entry_in h1 h2, Bool.and_eq_true, decide_eq_true_eq, decide_eq_true_eq]
      exact ⟨h4, h5⟩
  · rw [Bool.eq_iff_iff, List.any_eq_true, List.any_eq_true]
    constructor
    · rintro ⟨w, hw, h⟩
      obtain ⟨hw, h3⟩ := List.mem_filter.1 hw
      obtain ⟨h4, h5⟩ := List.mem_filter.1 hw
      rw [Function.comp, entry_in h1 h2, Bool.and_eq_true, decide_eq_true_eq, decide_eq_true_eq] at h
      refine ⟨w, h4, ?_⟩
      rw [decide_eq_true_eq] at h5
      simp [inW, h3, h5, h.1, h.2]
    · rintro ⟨w, hw, h⟩
      rw [Bool.and_eq_true] at h
      obtain ⟨h3, h4⟩ := h
      simp only [inW, Bool.and_eq_true, decide_eq_true_eq] at h4
      refine ⟨w, List.mem_filter.2 ⟨List.mem_filter.2 ⟨hw, by simp [h4.1]⟩, h3⟩, ?_⟩
      rw [Function.comp, entry_in h1 h2, Bool.and_eq_true, decide_eq_true_eq, decide_eq_true_eq]
      exact ⟨h4.2.1, h4.2.2⟩
/-- The choices of a plan. -/
def ChOk (jobs : List JobP) (ch : List Cho) : Prop := ∀ i < ch.length, (ch.getD i (0, 0)).1 < 0 ∨ (validOp ((jobs.getD i ⟨0, []⟩).opts.getD (ch.getD i (0, 0)).1.toNat ⟨[], []⟩) = true ∧ 0 ≤ (ch.getD i (0, 0)).2 ∧ (ch.getD i (0, 0)).2 ≤ 1099511627776)
/-- A shift lies in none of the gaps exactly if the candidate is permitted. -/
theorem gaps_perm {jobs : List JobP} {cl : List Clo} {ow : List OWy} {ch : List Cho} {o : OptP} {s d : Int} (ho : validOp o = true) (hs : 0 ≤ s + d) (hs2 : s + d ≤ 1099511627776) (hc : ChOk jobs ch) :
    (gapsL jobs cl ow ch o s).any (inGap d) = !permB jobs cl ow ch o (s + d) := by
  have hv := (validOp_iff.1 ho).2.2.1
  have hb : bigB (s + d) = true := bigB_iff.2 ⟨hs, hs2⟩
  have hsm : smallC (s + d) = true := smallC_iff.2 ⟨by omega, hs2⟩
  unfold gapsL permB
  rw [List.any_append, Bool.not_and]
  congr 1
  · rw [Bool.eq_iff_iff]
    unfold admitsB
    rw [ho, hb]
    simp only [Bool.true_and, Bool.not_and, Bool.not_not, Bool.or_eq_true, Bool.not_eq_true']
    rw [List.any_flatMap, List.any_eq_true]
    have hr := validO_lt hv
    constructor
    · rintro ⟨c, hcm, h⟩
      have h3 := hr c hcm
      rw [gapsC_in (by omega) (by omega), Bool.or_eq_true] at h
      rcases h with h | h
      · left
        unfold entersC
        rw [hsm, Bool.true_and, List.all_eq_false]
        exact ⟨c, hcm, by rw [h]; simp⟩
      · right
        obtain ⟨w, hw, h⟩ := List.any_eq_true.1 h
        rw [Bool.and_eq_true] at h
        exact List.any_eq_true.2 ⟨w, hw, by rw [Bool.and_eq_true]; exact ⟨h.1, List.any_eq_true.2 ⟨c, hcm, h.2⟩⟩⟩
    · rintro (h | h)
      · unfold entersC at h
        rw [hsm, Bool.true_and, List.all_eq_false] at h
        obtain ⟨c, hcm, h⟩ := h
        have h3 := hr c hcm
        refine ⟨c, hcm, ?_⟩
        rw [gapsC_in (by omega) (by omega), Bool.or_eq_true]
        left
        rw [show smallC c.2.1 = true from smallC_iff.2 ⟨by omega, by omega⟩, Bool.true_and] at h
        simpa using h
      · obtain ⟨w, hw, h⟩ := List.any_eq_true.1 h
        rw [Bool.and_eq_true] at h
        obtain ⟨c, hcm, h4⟩ := List.any_eq_true.1 h.2
        have h3 := hr c hcm
        refine ⟨c, hcm, ?_⟩
        rw [gapsC_in (by omega) (by omega), Bool.or_eq_true]
        exact .inr (List.any_eq_true.2 ⟨w, hw, by rw [h.1, h4]; rfl⟩)
  · rw [List.any_flatMap, Bool.eq_iff_iff, List.any_eq_true]
    simp only [Bool.not_eq_true', List.all_eq_false, List.mem_range, Bool.or_eq_true, decide_eq_true_eq, Bool.not_eq_true]
    constructor
    · rintro ⟨i, hi, h⟩
      refine ⟨i, hi, ?_⟩
      rcases hc i hi with q | ⟨q1, q2, q3⟩
      · unfold gapsO at h; rw [if_pos q] at h; simp at h
      · unfold gapsO at h
        split at h
        · simp at h
        · rename_i hn
          rintro (h' | h')
          · exact hn h'
          · rw [List.any_map] at h
            unfold meetB at h'
            rw [q1, ho, hb, bigB_iff.2 ⟨q2, q3⟩] at h'
            have e := meet_comm ((jobs.getD i ⟨0, []⟩).opts.getD (ch.getD i (0, 0)).1.toNat ⟨[], []⟩) (ch.getD i (0, 0)).2 o (s + d)
            unfold meetB at e
            rw [q1, ho, hb, bigB_iff.2 ⟨q2, q3⟩] at e
            simp only [Bool.true_and] at e h'
            rw [e, meet_pairs q1] at h'
            obtain ⟨p, hp, h⟩ := List.any_eq_true.1 h
            rw [Function.comp, gapM_in] at h
            rw [List.any_eq_false] at h'
            exact h' p hp h
    · rintro ⟨i, hi, h⟩
      refine ⟨i, hi, ?_⟩
      rcases hc i hi with q | ⟨q1, q2, q3⟩
      · exact absurd (.inl q) h
      · have hn : ¬ (ch.getD i (0, 0)).1 < 0 := fun q => h (.inl q)
        have h' : ¬ meetB ((jobs.getD i ⟨0, []⟩).opts.getD (ch.getD i (0, 0)).1.toNat ⟨[], []⟩) (ch.getD i (0, 0)).2 o (s + d) = false := fun q => h (.inr q)
        unfold gapsO
        rw [if_neg hn, List.any_map]
        rw [meet_comm] at h'
        unfold meetB at h'
        rw [q1, ho, hb, bigB_iff.2 ⟨q2, q3⟩] at h'
        simp only [Bool.true_and] at h'
        rw [meet_pairs q1, Bool.not_eq_false] at h'
        obtain ⟨p, hp, h⟩ := List.any_eq_true.1 h'
        exact List.any_eq_true.2 ⟨p, hp, by rw [Function.comp, gapM_in]; exact h⟩

/-! ### The candidates -/
theorem search_eq {M nK : Nat} (hK : 0 < nK) (least : Nat → Int) (ok : Nat → Nat → Bool) (h0 : ∀ k < nK, 0 ≤ least k) (h1 : ∀ d k, d ≤ M → k < nK → (d : Int) = least k → ok d k = true) (h2 : ∀ d k, d ≤ M → k < nK → ok d k = true → least k ≤ d) :
    (List.range ((M + 1) * nK)).find? (fun t => decide (((t / nK : Nat) : Int) = least (t % nK))) = (List.range ((M + 1) * nK)).find? (fun t => ok (t / nK) (t % nK)) := by
  have hr : ∀ t, t < (M + 1) * nK → t / nK ≤ M ∧ t % nK < nK := fun t ht => ⟨by have := (Nat.div_lt_iff_lt_mul hK).2 ht; omega, Nat.mod_lt _ hK⟩
  cases h : (List.range ((M + 1) * nK)).find? (fun t => ok (t / nK) (t % nK)) with
  | none =>
    rw [List.find?_eq_none] at h ⊢
    intro t ht e
    have := hr t (List.mem_range.1 ht)
    exact h t ht (h1 _ _ this.1 this.2 (by simpa using e))
  | some t =>
    rw [List.find?_range_eq_some] at h ⊢
    obtain ⟨a, b, c⟩ := h
    have hb := hr t (List.mem_range.1 b)
    have l0 := h0 _ hb.2
    have l1 := h2 _ _ hb.1 hb.2 a
    have hdm := Nat.div_add_mod t nK
    have key : ∀ t', t' < t → ¬ ((t' / nK : Nat) : Int) = least (t' % nK) := fun t' ht' e => by
      have h3 := hr t' (by have := List.mem_range.1 b; omega)
      have h4 := h1 _ _ h3.1 h3.2 e
      have h5 := c t' ht'
      simp [h4] at h5
    refine ⟨?_, b, fun t' ht' => by simpa using key t' ht'⟩
    rw [decide_eq_true_eq]
    by_cases q : ((t / nK : Nat) : Int) = least (t % nK)
    · exact q
    · exfalso
      obtain ⟨e, he⟩ : ∃ e : Nat, (e : Int) = least (t % nK) := ⟨(least (t % nK)).toNat, by omega⟩
      have h6 : e < t / nK := by omega
      have h7 : e * nK + t % nK < t := by
        have : e * nK + nK ≤ t / nK * nK := by
          have := Nat.mul_le_mul_right nK (show e + 1 ≤ t / nK by omega)
          rw [Nat.add_mul, Nat.one_mul] at this; exact this
        rw [Nat.mul_comm nK] at hdm
        omega
      refine key _ h7 ?_
      rw [Nat.mul_comm e, Nat.mul_add_div hK, Nat.div_eq_of_lt hb.2, Nat.mul_add_mod, Nat.mod_mod, Nat.add_zero]
      exact he
end Go.Proofs.Ytlillkfelfoafaa

namespace Go.Proofs.Ytlillkfelfoafaa
open RP

abbrev jobAt (jobs : List JobP) (i : Nat) : JobP := jobs.getD i ⟨0, []⟩
abbrev optAt (j : JobP) (k : Nat) : OptP := j.opts.getD k ⟨[], []⟩
def candOk (jobs : List JobP) (cl : List Clo) (ow : List OWy) (ch : List Cho) (i t : Nat) : Bool :=
  permB jobs cl ow ch (optAt (jobAt jobs i) (t % (jobAt jobs i).opts.length)) ((jobAt jobs i).start + (t / (jobAt jobs i).opts.length : Nat))
def placeN (jobs : List JobP) (cl : List Clo) (ow : List OWy) (M : Nat) (ch : List Cho) (i : Nat) : Option Nat := (List.range ((M + 1) * (jobAt jobs i).opts.length)).find? (candOk jobs cl ow ch i)
def choOf (j : JobP) (t : Nat) : Cho := (((t % j.opts.length : Nat) : Int), j.start + (t / j.opts.length : Nat))
/-- What a search gives: the choice, and how many candidates were examined. -/
def foundC (j : JobP) (M : Nat) : Option Nat → Cho × Nat
  | some t => (choOf j t, t + 1)
  | none => ((-1, 0), (M + 1) * j.opts.length)
def placeStep (jobs : List JobP) (cl : List Clo) (ow : List OWy) (M : Nat) (st : List Cho × Nat) (i : Nat) : List Cho × Nat :=
  (st.1.set i (foundC (jobAt jobs i) M (placeN jobs cl ow M st.1 i)).1, st.2 + (foundC (jobAt jobs i) M (placeN jobs cl ow M st.1 i)).2)
def planF (jobs : List JobP) (cl : List Clo) (ow : List OWy) (M : Nat) (ord : List Nat) : List Cho × Nat := ord.foldl (placeStep jobs cl ow M) (List.replicate jobs.length (-1, 0), 0)
theorem planF_snoc (jobs : List JobP) (cl : List Clo) (ow : List OWy) (M : Nat) {ord : List Nat} {k : Nat} (h : k < ord.length) : planF jobs cl ow M (ord.take (k + 1)) = placeStep jobs cl ow M (planF jobs cl ow M (ord.take k)) ord[k] := by
  unfold planF; rw [List.take_succ_eq_append_getElem h, List.foldl_append]; rfl
/-- The jobs in ascending order of Start. -/
def jlt (jobs : List JobP) (a b : Nat) : Prop := (jobAt jobs a).start < (jobAt jobs b).start ∨ ((jobAt jobs a).start = (jobAt jobs b).start ∧ a < b)
structure InOrd (jobs : List JobP) (ord : List Nat) : Prop where
  perm : ord.Perm (List.range jobs.length)
  inc : ord.Pairwise (jlt jobs)
theorem sorted_unique {α : Type} {R : α → α → Prop} (asy : ∀ a b, R a b → R b a → False) : ∀ {l m : List α}, l.Perm m → l.Pairwise R → m.Pairwise R → l = m
  | [], m, h, _, _ => by rw [List.nil_perm.1 h]
  | a :: l, [], h, _, _ => by have := h.length_eq; simp at this
  | a :: l, b :: m, h, h1, h2 => by
    have hab : a = b := by
      have ha := h.mem_iff.1 (List.mem_cons_self (a := a) (l := l))
      have hb := h.mem_iff.2 (List.mem_cons_self (a := b) (l := m))
      rcases List.mem_cons.1 ha with e | ha
      · exact e
      rcases List.mem_cons.1 hb with e | hb
      · exact e.symm
      exact (asy a b ((List.pairwise_cons.1 h1).1 b hb) ((List.pairwise_cons.1 h2).1 a ha)).elim
    subst hab
    rw [sorted_unique asy (List.Perm.cons_inv h) (List.pairwise_cons.1 h1).2 (List.pairwise_cons.1 h2).2]
theorem InOrd.unique {jobs : List JobP} {a b : List Nat} (h : InOrd jobs a) (h' : InOrd jobs b) : a = b :=
  sorted_unique (R := jlt jobs) (fun x y p q => by unfold jlt at p q; omega) (h.perm.trans h'.perm.symm) h.inc h'.inc
theorem InOrd.mem {jobs : List JobP} {a : List Nat} (h : InOrd jobs a) {i : Nat} : i ∈ a ↔ i < jobs.length := by rw [h.perm.mem_iff, List.mem_range]
theorem InOrd.len {jobs : List JobP} {a : List Nat} (h : InOrd jobs a) : a.length = jobs.length := by rw [h.perm.length_eq, List.length_range]
theorem InOrd.nodup {jobs : List JobP} {a : List Nat} (h : InOrd jobs a) : a.Nodup := h.perm.nodup_iff.2 List.nodup_range

/-- The answer of a plan. -/
def PlanIs (jobs : List JobP) (cl : List Clo) (ow : List OWy) (M B : Int) (l : List Cho) (n e : Int) : Prop :=
  (checkJ jobs = false ∧ l = [] ∧ n = 0 ∧ e = 1) ∨
  (checkJ jobs = true ∧ (M < 0 ∨ 3600 < M ∨ B < 1 ∨ 1048576 < B) ∧ l = [] ∧ n = 0 ∧ e = 4) ∨
  (checkJ jobs = true ∧ 0 ≤ M ∧ M ≤ 3600 ∧ 1 ≤ B ∧ B ≤ 1048576 ∧ ∃ ord, InOrd jobs ord ∧
    ((B < (planF jobs cl ow M.toNat ord).2 ∧ l = [] ∧ n = 0 ∧ e = 15) ∨ ((planF jobs cl ow M.toNat ord).2 ≤ B ∧ l = (planF jobs cl ow M.toNat ord).1 ∧ n = (planF jobs cl ow M.toNat ord).2 ∧ e = 0)))
theorem PlanIs.unique {jobs : List JobP} {cl : List Clo} {ow : List OWy} {M B : Int} {l l' : List Cho} {n e n' e' : Int} (h : PlanIs jobs cl ow M B l n e) (h' : PlanIs jobs cl ow M B l' n' e') : l = l' ∧ n = n' ∧ e = e' := by
  rcases h with ⟨a, rfl, rfl, rfl⟩ | ⟨a, b, rfl, rfl, rfl⟩ | ⟨a, b1, b2, b3, b4, o, ho, h⟩ <;> rcases h' with ⟨a', rfl, rfl, rfl⟩ | ⟨a', b', rfl, rfl, rfl⟩ | ⟨a', b1', b2', b3', b4', o', ho', h'⟩
  · exact ⟨rfl, rfl, rfl⟩
  · rw [a] at a'; cases a'
  · rw [a] at a'; cases a'
  · rw [a] at a'; cases a'
  · exact ⟨rfl, rfl, rfl⟩
  · omega
  · rw [a] at a'; cases a'
  · omega
  · rw [ho.unique ho'] at h
    rcases h with ⟨h, rfl, rfl, rfl⟩ | ⟨h, rfl, rfl, rfl⟩ <;> rcases h' with ⟨h', rfl, rfl, rfl⟩ | ⟨h', rfl, rfl, rfl⟩
    · exact ⟨rfl, rfl, rfl⟩
    · omega
    · omega
    · exact ⟨rfl, rfl, rfl⟩
theorem foundC_pos (j : JobP) (M : Nat) (x : Option Nat) : 0 ≤ ((foundC j M x).2 : Int) := Int.natCast_nonneg _
theorem foundC_le {j : JobP} {M : Nat} {ok : Nat → Bool} : (foundC j M ((List.range ((M + 1) * j.opts.length)).find? ok)).2 ≤ (M + 1) * j.opts.length := by
  cases h : (List.range ((M + 1) * j.opts.length)).find? ok with
  | none => exact Nat.le_refl _
  | some t =>
    have := List.mem_range.1 (List.find?_range_eq_some.1 h).2.1
    simp only [foundC]; omega
theorem planF_len (jobs : List JobP) (cl : List Clo) (ow : List OWy) (M : Nat) (ord : List Nat) : (planF jobs cl ow M ord).1.length = jobs.length := by
  unfold planF
  have : ∀ (o : List Nat) (st : List Cho × Nat), (o.foldl (placeStep jobs cl ow M) st).1.length = st.1.length := by
    intro o
    induction o with
    | nil => intro st; rfl
    | cons a o ih => intro st; rw [List.foldl_cons, ih]; simp [placeStep]
  rw [this]; simp
theorem planF_mono (jobs : List JobP) (cl : List Clo) (ow : List OWy) (M : Nat) (ord : List Nat) (k : Nat) (hk : k ≤ ord.length) : (planF jobs cl ow M (ord.take k)).2 ≤ (planF jobs cl ow M ord).2 := by
  have : ∀ (o : List Nat) (st : List Cho × Nat), st.2 ≤ (o.foldl (placeStep jobs cl ow M) st).2 := by
    intro o
    induction o with
    | nil => intro st; exact Nat.le_refl _
    | cons a o ih => intro st; rw [List.foldl_cons]; refine Nat.le_trans ?_ (ih _); simp [placeStep]
  have h2 := this (ord.drop k) (planF jobs cl ow M (ord.take k))
  unfold planF at h2 ⊢
  rw [← List.foldl_append, List.take_append_drop] at h2
  exact h2
/-- What stands in the choices: nothing yet, or a candidate of the job. -/
theorem planF_at (jobs : List JobP) (cl : List Clo) (ow : List OWy) (M : Nat) (ord : List Nat) (i : Nat) (hi : i < jobs.length) : (planF jobs cl ow M ord).1.getD i (0, 0) = (-1, 0) ∨ ∃ t, t < (M + 1) * (jobAt jobs i).opts.length ∧ (planF jobs cl ow M ord).1.getD i (0, 0) = choOf (jobAt jobs i) t := by
  have key : ∀ (o : List Nat) (st : List Cho × Nat), st.1.length = jobs.length → (st.1.getD i (0, 0) = (-1, 0) ∨ ∃ t, t < (M + 1) * (jobAt jobs i).opts.length ∧ st.1.getD i (0, 0) = choOf (jobAt jobs i) t) → ((o.foldl (placeStep jobs cl ow M) st).1.getD i (0, 0) = (-1, 0) ∨ ∃ t, t < (M + 1) * (jobAt jobs i).opts.length ∧ (o.foldl (placeStep jobs cl ow M) st).1.getD i (0, 0) = choOf (jobAt jobs i) t) := by
    intro o
    induction o with
    | nil => intro st _ h; exact h
    | cons a o ih =>
      intro st hl h
      rw [List.foldl_cons]
      refine ih _ (by simp [placeStep, hl]) ?_
      by_cases e : a = i
      · subst e
        unfold placeStep
        simp only [List.getD_eq_getElem?_getD, List.getElem?_set_self (show a < st.1.length by omega), Option.getD_some]
        cases hf : placeN jobs cl ow M st.1 a with
        | none => exact .inl rfl
        | some t => exact .inr ⟨t, List.mem_range.1 (List.find?_range_eq_some.1 hf).2.1, rfl⟩
      · unfold placeStep
        simp only [List.getD_eq_getElem?_getD, List.getElem?_set_ne e]
        simpa only [List.getD_eq_getElem?_getD] using h
  refine key ord _ (by simp) (.inl ?_)
  simp [List.getD_eq_getElem?_getD, hi]
theorem getD_mem' {α : Type} {l : List α} {i : Nat} (h : i < l.length) (d : α) : l.getD i d ∈ l := by
  rw [List.getD_eq_getElem?_getD, List.getElem?_eq_getElem h]; exact List.getElem_mem h
theorem planF_ok {jobs : List JobP} (hj : checkJ jobs = true) (cl : List Clo) (ow : List OWy) {M : Nat} (hM : M ≤ 3600) (ord : List Nat) : ChOk jobs (planF jobs cl ow M ord).1 := by
  intro i hi
  rw [planF_len] at hi
  have hjo := okJob_iff.1 ((checkJ_iff.1 hj).2 (jobAt jobs i) (getD_mem' hi _))
  rcases planF_at jobs cl ow M ord i hi with h | ⟨t, ht, h⟩
  · rw [h]; exact .inl (by show (-1 : Int) < 0; omega)
  · right
    rw [h]
    obtain ⟨⟨a1, a2⟩, ⟨b1, b2⟩, b3⟩ := hjo
    have h3 : t / (jobAt jobs i).opts.length < M + 1 := (Nat.div_lt_iff_lt_mul (by omega)).2 ht
    refine ⟨?_, ?_, ?_⟩
    · unfold choOf
      simp only [Int.toNat_natCast]
      exact b3 _ (getD_mem' (Nat.mod_lt _ (by omega)) _)
    · show (0 : Int) ≤ (jobAt jobs i).start + ((t / (jobAt jobs i).opts.length : Nat) : Int)
      generalize t / (jobAt jobs i).opts.length = d at *; omega
    · show (jobAt jobs i).start + ((t / (jobAt jobs i).opts.length : Nat) : Int) ≤ 1099511627776
      generalize t / (jobAt jobs i).opts.length = d at *; omega
/-- The shifts of the options decide the search. -/
theorem place_of_first {jobs : List JobP} (hj : checkJ jobs = true) {cl : List Clo} {ow : List OWy} {M : Nat} (hM : M ≤ 3600) {ch : List Cho} (hc : ChOk jobs ch) {i : Nat} (hi : i < jobs.length) (least : Nat → Int)
    (hl : ∀ k, k < (jobAt jobs i).opts.length → FirstG (gapsL jobs cl ow ch (optAt (jobAt jobs i) k) (jobAt jobs i).start) (least k)) :
    (List.range ((M + 1) * (jobAt jobs i).opts.length)).find? (fun t => decide (((t / (jobAt jobs i).opts.length : Nat) : Int) = least (t % (jobAt jobs i).opts.length))) = placeN jobs cl ow M ch i := by
  obtain ⟨⟨a1, a2⟩, ⟨b1, b2⟩, b3⟩ := okJob_iff.1 ((checkJ_iff.1 hj).2 (jobAt jobs i) (getD_mem' hi _))
  have hp : ∀ d k, d ≤ M → k < (jobAt jobs i).opts.length → (gapsL jobs cl ow ch (optAt (jobAt jobs i) k) (jobAt jobs i).start).any (inGap d) = !permB jobs cl ow ch (optAt (jobAt jobs i) k) ((jobAt jobs i).start + (d : Nat)) := fun d k hd hk =>
    gaps_perm (b3 _ (getD_mem' hk _)) (by omega) (by omega) hc
  exact search_eq (by omega) least (fun d k => permB jobs cl ow ch (optAt (jobAt jobs i) k) ((jobAt jobs i).start + (d : Nat))) (fun k hk => (hl k hk).1)
    (fun d k hd hk e => by
      have h1 := hp d k hd hk
      rw [e, (hl k hk).2.1] at h1
      rw [← e] at h1
      simpa using h1)
    (fun d k hd hk e => by
      have h1 := hp d k hd hk
      rw [e] at h1
      by_cases q : least k ≤ d
      · exact q
      · have := (hl k hk).2.2 d (by omega) (by omega)
        rw [h1] at this; simp at this)
end Go.Proofs.Ytlillkfelfoafaa

namespace Go.Proofs.Ytlillkfelfoafaa
open RP

/-- The first i jobs, in order. -/
structure OrdTo (jobs : List JobP) (i : Nat) (l : List Nat) : Prop where
  perm : l.Perm (List.range i)
  inc : l.Pairwise (jlt jobs)
theorem OrdTo.nil (jobs : List JobP) : OrdTo jobs 0 [] := ⟨List.Perm.refl _, List.Pairwise.nil⟩
theorem OrdTo.len {jobs : List JobP} {i : Nat} {l : List Nat} (h : OrdTo jobs i l) : l.length = i := by rw [h.perm.length_eq, List.length_range]
theorem OrdTo.lt {jobs : List JobP} {i : Nat} {l : List Nat} (h : OrdTo jobs i l) {x : Nat} (hx : x ∈ l) : x < i := List.mem_range.1 (h.perm.mem_iff.1 hx)
theorem OrdTo.full {jobs : List JobP} {l : List Nat} (h : OrdTo jobs jobs.length l) : InOrd jobs l := ⟨h.perm, h.inc⟩
def stAt (jobs : List JobP) (i : Nat) : Int := (jobAt jobs i).start
theorem jlt_le {jobs : List JobP} {a b : Nat} (h : jlt jobs a b) : stAt jobs a ≤ stAt jobs b := by unfold jlt at h; unfold stAt; omega
/-- One job more: behind those that start no later. -/
theorem OrdTo.ins {jobs : List JobP} {i : Nat} {l : List Nat} (h : OrdTo jobs i l) {k : Nat} (h1 : ∀ x ∈ l.take k, stAt jobs x ≤ stAt jobs i) (h2 : ∀ x ∈ l.drop k, stAt jobs i < stAt jobs x) : OrdTo jobs (i + 1) (l.take k ++ i :: l.drop k) := by
  refine ⟨?_, ?_⟩
  · rw [List.range_succ]
    refine List.perm_middle.trans ?_
    have hp2 : (l.take k ++ l.drop k).Perm (List.range i) := by rw [List.take_append_drop]; exact h.perm
    refine (hp2.cons i).trans ?_
    exact (List.perm_append_comm (l₁ := [i]) (l₂ := List.range i))
  · have hp := h.inc
    rw [← List.take_append_drop k l, List.pairwise_append] at hp
    rw [List.pairwise_append, List.pairwise_cons]
    refine ⟨hp.1, ⟨fun x hx => ?_, hp.2.1⟩, fun a ha b hb => ?_⟩
    · exact .inl (h2 x hx)
    · rcases List.mem_cons.1 hb with rfl | hb
      · have q1 := h1 a ha
        have q2 := h.lt (List.mem_of_mem_take ha)
        unfold stAt at q1
        unfold jlt
        omega
      · exact hp.2.2 a ha b hb
/-- It is enough to look at the neighbours. -/
theorem OrdTo.head_le {jobs : List JobP} {i : Nat} {l : List Nat} (h : OrdTo jobs i l) {k : Nat} (hk : k < l.length) {s : Int} (h1 : stAt jobs l[k] ≤ s) : ∀ x ∈ l.take (k + 1), stAt jobs x ≤ s := by
  intro x hx
  obtain ⟨j, hj, rfl⟩ := List.mem_take_iff_getElem.1 hx
  by_cases e : j = k
  · subst e; exact h1
  · have := jlt_le (List.pairwise_iff_getElem.1 h.inc j k (by omega) hk (by omega))
    omega
theorem drop_step {jobs : List JobP} {l : List Nat} {k : Nat} (hk : k < l.length) {s : Int} (h : ∀ x ∈ l.drop (k + 1), s < stAt jobs x) (h1 : s < stAt jobs l[k]) : ∀ x ∈ l.drop k, s < stAt jobs x := by
  rw [List.drop_eq_getElem_cons hk]
  intro x hx
  rcases List.mem_cons.1 hx with rfl | hx
  · exact h1
  · exact h x hx
/-- Swapping two neighbours in the midst. -/
theorem ins_get0 {l : List Nat} {i j : Nat} (m : List Nat) (hj : j ≤ l.length) : (l.take j ++ i :: l.drop j ++ m)[j]? = some i := by
  rw [List.append_assoc, List.getElem?_append_right (by rw [List.length_take]; omega), List.length_take, Nat.min_eq_left hj]
  simp
theorem ins_get1 {l : List Nat} {i j : Nat} (m : List Nat) (hj : j < l.length) : (l.take (j + 1) ++ i :: l.drop (j + 1) ++ m)[j]? = some l[j] := by
  rw [List.append_assoc, List.getElem?_append_left (by rw [List.length_take]; omega), List.getElem?_take]
  simp [hj]
theorem swap_at (y i : Nat) (R : List Nat) : ∀ P : List Nat, ((P ++ y :: i :: R).set (P.length + 1) y).set P.length i = P ++ i :: y :: R
  | [] => rfl
  | p :: P => by simp [swap_at y i R P]
theorem ins_swap {l : List Nat} {i j : Nat} (m : List Nat) (hj : j < l.length) : ((l.take (j + 1) ++ i :: l.drop (j + 1) ++ m).set (j + 1) l[j]).set j i = l.take j ++ i :: l.drop j ++ m := by
  have h := swap_at l[j] i (l.drop (j + 1) ++ m) (l.take j)
  rw [List.length_take, Nat.min_eq_left (by omega)] at h
  rw [List.take_succ_eq_append_getElem hj, List.drop_eq_getElem_cons hj]
  simp only [List.append_assoc, List.cons_append, List.nil_append]
  exact h
end Go.Proofs.Ytlillkfelfoafaa

namespace Go.Proofs.Ytlillkfelfoafaa
open RP

theorem srch_at {K d k : Nat} (hk : k < K) : (d * K + k) / K = d ∧ (d * K + k) % K = k := by
  have h0 : 0 < K := by omega
  constructor
  · rw [Nat.mul_comm, Nat.mul_add_div h0, Nat.div_eq_of_lt hk]; omega
  · rw [Nat.mul_comm, Nat.mul_add_mod, Nat.mod_eq_of_lt hk]
theorem find_here {n t : Nat} {p : Nat → Bool} (h : t < n) (hp : p t = true) (hn : ∀ s, s < t → p s = false) : (List.range n).find? p = some t :=
  List.find?_range_eq_some.2 ⟨hp, List.mem_range.2 h, fun j hj => by simp [hn j hj]⟩
theorem find_no {n : Nat} {p : Nat → Bool} (hn : ∀ s, s < n → p s = false) : (List.range n).find? p = none :=
  List.find?_eq_none.2 fun x hx => by simp [hn x (List.mem_range.1 hx)]
theorem upto_snoc {p : Nat → Bool} {t : Nat} (h : ∀ s, s < t → p s = false) (ht : p t = false) : ∀ s, s < t + 1 → p s = false := fun s hs => by
  by_cases e : s = t
  · subst e; exact ht
  · exact h s (by omega)

/-- Permitted against those that stand before. -/
def plcB (jobs : List JobP) (out : List Cho) (bef : List Nat) (o : OptP) (x : Int) : Bool :=
  bef.all fun i => decide ((out.getD i (0, 0)).1 < 0) || !meetB (optAt (jobAt jobs i) (out.getD i (0, 0)).1.toNat) (out.getD i (0, 0)).2 o x
theorem perm_plc {jobs : List JobP} {cl : List Clo} {ow : List OWy} {ch out : List Cho} {bef : List Nat} {o : OptP} {x : Int} (hb : ∀ i ∈ bef, i < ch.length) (he : ∀ i ∈ bef, out.getD i (0, 0) = ch.getD i (0, 0)) (hn : ∀ i, i < ch.length → i ∉ bef → (ch.getD i (0, 0)).1 < 0) :
    permB jobs cl ow ch o x = (admitsB cl ow o x && plcB jobs out bef o x) := by
  unfold permB plcB
  congr 1
  rw [Bool.eq_iff_iff, List.all_eq_true, List.all_eq_true]
  constructor
  · intro h i hi
    rw [he i hi]
    exact h i (List.mem_range.2 (hb i hi))
  · intro h i hi
    by_cases hm : i ∈ bef
    · have := h i hm
      rwa [he i hm] at this
    · rw [Bool.or_eq_true]; exact .inl (decide_eq_true (hn i (List.mem_range.1 hi) hm))

/-- The choice of job i is permissible. -/
def chosenB (jobs : List JobP) (cl : List Clo) (ow : List OWy) (l : List Cho) (i : Nat) : Bool :=
  decide (l.getD i (0, 0) = (-1, 0)) || ((decide (0 ≤ (l.getD i (0, 0)).1) && (decide ((l.getD i (0, 0)).1 < (jobAt jobs i).opts.length) && decide ((jobAt jobs i).start ≤ (l.getD i (0, 0)).2))) &&
    (admitsB cl ow (optAt (jobAt jobs i) (l.getD i (0, 0)).1.toNat) (l.getD i (0, 0)).2 && (List.range i).all fun k =>
      decide ((l.getD k (0, 0)).1 < 0) || !meetB (optAt (jobAt jobs k) (l.getD k (0, 0)).1.toNat) (l.getD k (0, 0)).2 (optAt (jobAt jobs i) (l.getD i (0, 0)).1.toNat) (l.getD i (0, 0)).2))
def verB (jobs : List JobP) (cl : List Clo) (ow : List OWy) (l : List Cho) : Bool := checkJ jobs && (decide (l.length = jobs.length) && (List.range l.length).all (chosenB jobs cl ow l))

/-- What stands in a plan where a job has its turn. -/
theorem planF_untouched (jobs : List JobP) (cl : List Clo) (ow : List OWy) (M : Nat) : ∀ (ord : List Nat) (st : List Cho × Nat) (i : Nat), i ∉ ord → (ord.foldl (placeStep jobs cl ow M) st).1.getD i (0, 0) = st.1.getD i (0, 0)
  | [], _, _, _ => rfl
  | a :: o, st, i, h => by
    rw [List.foldl_cons, planF_untouched jobs cl ow M o _ i (fun e => h (List.mem_cons_of_mem _ e))]
    unfold placeStep
    simp only [List.getD_eq_getElem?_getD]
    rw [List.getElem?_set_ne (fun e => h (by rw [e]; exact List.mem_cons_self))]
theorem planF_not (jobs : List JobP) (cl : List Clo) (ow : List OWy) (M : Nat) (ord : List Nat) {i : Nat} (hi : i < jobs.length) (h : i ∉ ord) : (planF jobs cl ow M ord).1.getD i (0, 0) = (-1, 0) := by
  unfold planF
  rw [planF_untouched jobs cl ow M ord _ i h]
  simp [List.getD_eq_getElem?_getD, hi]
/-- What a job gets at its turn stays. -/
theorem planF_turn {jobs : List JobP} {cl : List Clo} {ow : List OWy} {M : Nat} {ord : List Nat} (hnd : ord.Nodup) {n : Nat} (hn : n < ord.length) (hi : ord[n] < jobs.length) {m : Nat} (hm : n < m) :
    (planF jobs cl ow M (ord.take m)).1.getD ord[n] (0, 0) = (foundC (jobAt jobs ord[n]) M (placeN jobs cl ow M (planF jobs cl ow M (ord.take n)).1 ord[n])).1 := by
  have e : ord.take m = ord.take (n + 1) ++ (ord.take m).drop (n + 1) := by
    conv => lhs; rw [← List.take_append_drop (n + 1) (ord.take m)]
    rw [List.take_take, Nat.min_eq_left (by omega)]
  have hnot : ord[n] ∉ (ord.take m).drop (n + 1) := by
    intro h
    have h2 : ord[n] ∈ ord.take (n + 1) := by
      rw [List.take_succ_eq_append_getElem hn, List.mem_append]; exact .inr (List.mem_singleton.2 rfl)
    have h3 := (List.take_sublist m ord).nodup hnd
    rw [e, List.nodup_append] at h3
    exact h3.2.2 _ h2 _ h rfl
  unfold planF
  rw [e, List.foldl_append, planF_untouched jobs cl ow M _ _ _ hnot]
  have := planF_snoc jobs cl ow M hn
  unfold planF at this
  rw [this]
  have hl := planF_len jobs cl ow M (ord.take n)
  unfold planF at hl
  generalize (ord.take n).foldl (placeStep jobs cl ow M) (List.replicate jobs.length (-1, 0), 0) = st at *
  show (st.1.set ord[n] _).getD ord[n] (0, 0) = _
  rw [List.getD_eq_getElem?_getD, List.getElem?_set_self (by rw [hl]; exact hi)]
  rfl
end Go.Proofs.Ytlillkfelfoafaa

namespace Go.Proofs.Ytlillkfelfoafaa
open RP

theorem choOf_get {j : JobP} {t : Nat} (hK : 1 ≤ j.opts.length) : (choOf j t).1.toNat = t % j.opts.length ∧ 0 ≤ (choOf j t).1 ∧ (choOf j t).1 < (j.opts.length : Int) ∧ (choOf j t).2 = j.start + ((t / j.opts.length : Nat) : Int) := by
  unfold choOf
  have := Nat.mod_lt t (show 0 < j.opts.length by omega)
  refine ⟨Int.toNat_natCast _, Int.natCast_nonneg _, ?_, rfl⟩
  show ((t % j.opts.length : Nat) : Int) < _
  omega
/-- The turn of a job. -/
structure Turn (jobs : List JobP) (cl : List Clo) (ow : List OWy) (M : Nat) (ord : List Nat) (i n : Nat) (ch : List Cho) : Prop where
  len : ch.length = jobs.length
  at_ : (planF jobs cl ow M ord).1.getD i (0, 0) = (foundC (jobAt jobs i) M (placeN jobs cl ow M ch i)).1
  same : ∀ x m (hm : m < ord.length), x = ord[m] → m < n → ch.getD x (0, 0) = (planF jobs cl ow M ord).1.getD x (0, 0)
  none : ∀ x m (hm : m < ord.length), x = ord[m] → n ≤ m → ch.getD x (0, 0) = (-1, 0)
theorem InOrd.pos {jobs : List JobP} {ord : List Nat} (h : InOrd jobs ord) {i : Nat} (hi : i < jobs.length) : ∃ n, ∃ hn : n < ord.length, i = ord[n] := by
  obtain ⟨n, hn, e⟩ := List.mem_iff_getElem.1 (h.mem.2 hi)
  exact ⟨n, hn, e.symm⟩
theorem turn_of {jobs : List JobP} (cl : List Clo) (ow : List OWy) (M : Nat) {ord : List Nat} (h : InOrd jobs ord) {i n : Nat} (hn : n < ord.length) (hi : i = ord[n]) : Turn jobs cl ow M ord i n (planF jobs cl ow M (ord.take n)).1 := by
  have hlt : ∀ m (hm : m < ord.length), ord[m] < jobs.length := fun m hm => h.mem.1 (List.getElem_mem hm)
  refine ⟨planF_len _ _ _ _ _, ?_, fun x m hm hx hmn => ?_, fun x m hm hx hmn => ?_⟩
  · subst hi
    have := planF_turn (cl := cl) (ow := ow) (M := M) h.nodup hn (hlt n hn) (m := ord.length) hn
    rwa [List.take_length] at this
  · subst hx
    have h1 := planF_turn (cl := cl) (ow := ow) (M := M) h.nodup hm (hlt m hm) (m := ord.length) hm
    rw [List.take_length] at h1
    rw [h1]
    exact planF_turn h.nodup hm (hlt m hm) hmn
  · subst hx
    refine planF_not _ _ _ _ _ (hlt m hm) ?_
    intro hmem
    obtain ⟨j, hj, e⟩ := List.mem_take_iff_getElem.1 hmem
    have := (List.getElem_inj h.nodup).1 e
    omega
/-- What a job that is performed has. -/
theorem turn_some {jobs : List JobP} {cl : List Clo} {ow : List OWy} {M : Nat} {ord : List Nat} {i n : Nat} {ch : List Cho} (h : Turn jobs cl ow M ord i n ch) :
    ((planF jobs cl ow M ord).1.getD i (0, 0) = (-1, 0) ∧ ∀ t, t < (M + 1) * (jobAt jobs i).opts.length → candOk jobs cl ow ch i t = false) ∨
    ∃ t, t < (M + 1) * (jobAt jobs i).opts.length ∧ (planF jobs cl ow M ord).1.getD i (0, 0) = choOf (jobAt jobs i) t ∧ candOk jobs cl ow ch i t = true ∧ ∀ s, s < t → candOk jobs cl ow ch i s = false := by
  have h0 := h.at_
  cases hp : placeN jobs cl ow M ch i with
  | none =>
    rw [hp] at h0
    refine .inl ⟨h0, fun t ht => ?_⟩
    have := List.find?_eq_none.1 hp t (List.mem_range.2 ht)
    simpa using this
  | some t =>
    rw [hp] at h0
    obtain ⟨a, b, c⟩ := List.find?_range_eq_some.1 hp
    exact .inr ⟨t, List.mem_range.1 b, h0, a, fun s hs => by simpa using c s hs⟩
theorem cand_parts {jobs : List JobP} {cl : List Clo} {ow : List OWy} {ch : List Cho} {i t : Nat} (h : candOk jobs cl ow ch i t = true) :
    admitsB cl ow (optAt (jobAt jobs i) (t % (jobAt jobs i).opts.length)) ((jobAt jobs i).start + (t / (jobAt jobs i).opts.length : Nat)) = true ∧
    ∀ x, x < ch.length → (ch.getD x (0, 0)).1 < 0 ∨ meetB (optAt (jobAt jobs x) (ch.getD x (0, 0)).1.toNat) (ch.getD x (0, 0)).2 (optAt (jobAt jobs i) (t % (jobAt jobs i).opts.length)) ((jobAt jobs i).start + (t / (jobAt jobs i).opts.length : Nat)) = false := by
  unfold candOk permB at h
  rw [Bool.and_eq_true, List.all_eq_true] at h
  refine ⟨h.1, fun x hx => ?_⟩
  have := h.2 x (List.mem_range.2 hx)
  simpa using this
/-- Two jobs of a plan do not meet. -/
theorem plan_apart {jobs : List JobP} (hj : checkJ jobs = true) (cl : List Clo) (ow : List OWy) (M : Nat) {ord : List Nat} (h : InOrd jobs ord) {n m : Nat} (hm : m < ord.length) (hnm : n < m) :
    ((planF jobs cl ow M ord).1.getD ord[n] (0, 0)).1 < 0 ∨ ((planF jobs cl ow M ord).1.getD ord[m] (0, 0)).1 < 0 ∨
    meetB (optAt (jobAt jobs ord[n]) ((planF jobs cl ow M ord).1.getD ord[n] (0, 0)).1.toNat) ((planF jobs cl ow M ord).1.getD ord[n] (0, 0)).2 (optAt (jobAt jobs ord[m]) ((planF jobs cl ow M ord).1.getD ord[m] (0, 0)).1.toNat) ((planF jobs cl ow M ord).1.getD ord[m] (0, 0)).2 = false := by
  have ht := turn_of cl ow M h hm rfl
  have hn : n < ord.length := by omega
  have hl := h.mem.1 (List.getElem_mem hm)
  have hl2 := h.mem.1 (List.getElem_mem hn)
  have hK := (okJob_iff.1 ((checkJ_iff.1 hj).2 (jobAt jobs ord[m]) (getD_mem' hl _))).2.1.1
  rcases turn_some ht with ⟨e, _⟩ | ⟨t, _, e, hc, _⟩
  · right; left; rw [e]; show (-1 : Int) < 0; omega
  · have h2 := (cand_parts hc).2 ord[n] (by rw [ht.len]; exact hl2)
    rw [ht.same ord[n] n hn rfl hnm] at h2
    rcases h2 with h2 | h2
    · exact .inl h2
    · obtain ⟨q1, q2, q3, q4⟩ := choOf_get (t := t) hK
      right; right
      rw [e, q1, q4]; exact h2
theorem plan_apart2 {jobs : List JobP} (hj : checkJ jobs = true) (cl : List Clo) (ow : List OWy) (M : Nat) {ord : List Nat} (h : InOrd jobs ord) {i k : Nat} (hi : i < jobs.length) (hk : k < jobs.length) (hne : k ≠ i) :
    ((planF jobs cl ow M ord).1.getD k (0, 0)).1 < 0 ∨ ((planF jobs cl ow M ord).1.getD i (0, 0)).1 < 0 ∨
    meetB (optAt (jobAt jobs k) ((planF jobs cl ow M ord).1.getD k (0, 0)).1.toNat) ((planF jobs cl ow M ord).1.getD k (0, 0)).2 (optAt (jobAt jobs i) ((planF jobs cl ow M ord).1.getD i (0, 0)).1.toNat) ((planF jobs cl ow M ord).1.getD i (0, 0)).2 = false := by
  obtain ⟨n, hn, rfl⟩ := h.pos hi
  obtain ⟨m, hm, rfl⟩ := h.pos hk
  rcases Nat.lt_trichotomy n m with q | q | q
  · rcases plan_apart hj cl ow M h hm q with a | a | a
    · exact .inr (.inl a)
    · exact .inl a
    · right; right; rw [meet_comm]; exact a
  · subst q; exact absurd rfl hne
  · exact plan_apart hj cl ow M h hn q
/-- A choice of a plan: none, or an option and a start that admit. -/
theorem plan_one {jobs : List JobP} (hj : checkJ jobs = true) (cl : List Clo) (ow : List OWy) (M : Nat) {ord : List Nat} (h : InOrd jobs ord) {i : Nat} (hi : i < jobs.length) :
    (planF jobs cl ow M ord).1.getD i (0, 0) = (-1, 0) ∨ (0 ≤ ((planF jobs cl ow M ord).1.getD i (0, 0)).1 ∧ ((planF jobs cl ow M ord).1.getD i (0, 0)).1 < ((jobAt jobs i).opts.length : Int) ∧ (jobAt jobs i).start ≤ ((planF jobs cl ow M ord).1.getD i (0, 0)).2 ∧ admitsB cl ow (optAt (jobAt jobs i) ((planF jobs cl ow M ord).1.getD i (0, 0)).1.toNat) ((planF jobs cl ow M ord).1.getD i (0, 0)).2 = true) := by
  have hK := (okJob_iff.1 ((checkJ_iff.1 hj).2 (jobAt jobs i) (getD_mem' hi _))).2.1.1
  obtain ⟨n, hn, hin⟩ := h.pos hi
  rcases turn_some (turn_of cl ow M h hn hin) with ⟨e, _⟩ | ⟨t, _, e, hc, _⟩
  · exact .inl e
  · obtain ⟨q1, q2, q3, q4⟩ := choOf_get (t := t) hK
    right
    rw [e]
    refine ⟨q2, q3, by rw [q4]; generalize t / (jobAt jobs i).opts.length = td; omega, ?_⟩
    rw [q1, q4]; exact (cand_parts hc).1
/-- What a plan gives is permissible. -/
theorem plan_ver {jobs : List JobP} (hj : checkJ jobs = true) (cl : List Clo) (ow : List OWy) (M : Nat) {ord : List Nat} (h : InOrd jobs ord) : verB jobs cl ow (planF jobs cl ow M ord).1 = true := by
  unfold verB
  rw [Bool.and_eq_true, Bool.and_eq_true, List.all_eq_true, decide_eq_true_eq]
  refine ⟨hj, planF_len _ _ _ _ _, fun i hi => ?_⟩
  rw [List.mem_range, planF_len] at hi
  unfold chosenB
  rcases plan_one hj cl ow M h hi with e | ⟨a1, a2, a3, a4⟩
  · rw [e]; rfl
  · rw [Bool.or_eq_true]
    right
    simp only [Bool.and_eq_true, decide_eq_true_eq, List.all_eq_true, List.mem_range]
    refine ⟨⟨a1, a2, a3⟩, a4, fun k hk => ?_⟩
    rw [Bool.or_eq_true, decide_eq_true_eq]
    rcases plan_apart2 hj cl ow M h hi (show k < jobs.length by omega) (by omega) with q | q | q
    · exact .inl q
    · omega
    · exact .inr (by rw [q]; rfl)
/-- Each candidate ahead of the one that is chosen is blocked. -/
theorem plan_early {jobs : List JobP} (hj : checkJ jobs = true) (cl : List Clo) (ow : List OWy) (M : Nat) {ord : List Nat} (h : InOrd jobs ord) {i d k : Nat} (hi : i < jobs.length) (hd : d ≤ M) (hk : k < (jobAt jobs i).opts.length)
    (hb : ((planF jobs cl ow M ord).1.getD i (0, 0)).1 < 0 ∨ (jobAt jobs i).start + (d : Int) < ((planF jobs cl ow M ord).1.getD i (0, 0)).2 ∨ ((jobAt jobs i).start + (d : Int) = ((planF jobs cl ow M ord).1.getD i (0, 0)).2 ∧ (k : Int) < ((planF jobs cl ow M ord).1.getD i (0, 0)).1))
    (ha : admitsB cl ow (optAt (jobAt jobs i) k) ((jobAt jobs i).start + (d : Int)) = true) :
    ∃ x, x < jobs.length ∧ jlt jobs x i ∧ 0 ≤ ((planF jobs cl ow M ord).1.getD x (0, 0)).1 ∧ meetB (optAt (jobAt jobs x) ((planF jobs cl ow M ord).1.getD x (0, 0)).1.toNat) ((planF jobs cl ow M ord).1.getD x (0, 0)).2 (optAt (jobAt jobs i) k) ((jobAt jobs i).start + (d : Int)) = true := by
  have hK := (okJob_iff.1 ((checkJ_iff.1 hj).2 (jobAt jobs i) (getD_mem' hi _))).2.1.1
  obtain ⟨n, hn, hin⟩ := h.pos hi
  have ht := turn_of cl ow M h hn hin
  obtain ⟨e1, e2⟩ := srch_at (d := d) hk
  have hlt : d * (jobAt jobs i).opts.length + k < (M + 1) * (jobAt jobs i).opts.length := by
    have h1 : (d + 1) * (jobAt jobs i).opts.length ≤ (M + 1) * (jobAt jobs i).opts.length := Nat.mul_le_mul_right _ (by omega)
    rw [Nat.add_mul, Nat.one_mul] at h1; omega
  have hno : candOk jobs cl ow (planF jobs cl ow M (ord.take n)).1 i (d * (jobAt jobs i).opts.length + k) = false := by
    rcases turn_some ht with ⟨_, hx⟩ | ⟨t, htl, e, hc, hx⟩
    · exact hx _ hlt
    · refine hx _ ?_
      obtain ⟨q1, q2, q3, q4⟩ := choOf_get (t := t) hK
      rw [e, q4] at hb
      have q5 : ((t % (jobAt jobs i).opts.length : Nat) : Int) = (choOf (jobAt jobs i) t).1 := rfl
      rw [← q5] at hb q2
      have hdm := Nat.div_add_mod t (jobAt jobs i).opts.length
      rw [Nat.mul_comm] at hdm
      have hml := Nat.mod_lt t (show 0 < (jobAt jobs i).opts.length by omega)
      generalize t % (jobAt jobs i).opts.length = tm at *
      generalize t / (jobAt jobs i).opts.length = td at *
      rcases hb with hb | hb | hb
      · omega
      · have h1 : (d + 1) * (jobAt jobs i).opts.length ≤ td * (jobAt jobs i).opts.length := Nat.mul_le_mul_right _ (by omega)
        rw [Nat.add_mul, Nat.one_mul] at h1; omega
      · have h1 : d = td := by omega
        subst h1; omega
  unfold candOk permB at hno
  rw [e1, e2, ha, Bool.true_and, List.all_eq_false] at hno
  obtain ⟨x, hx, hq⟩ := hno
  rw [List.mem_range, ht.len] at hx
  obtain ⟨m, hm, hxm⟩ := h.pos hx
  rw [Bool.not_eq_true, Bool.or_eq_false_iff, decide_eq_false_iff_not, Bool.not_eq_false'] at hq
  have hmn : m < n := by
    apply Classical.byContradiction
    intro hc
    rw [ht.none x m hm hxm (by omega)] at hq
    exact hq.1 (by show (-1 : Int) < 0; omega)
  rw [ht.same x m hm hxm hmn] at hq
  refine ⟨x, hx, ?_, by omega, hq.2⟩
  rw [hxm, hin]
  exact List.pairwise_iff_getElem.1 h.inc m n hm hn hmn
end Go.Proofs.Ytlillkfelfoafaa

namespace Go.Proofs.Ytlillkfelfoafaa
open RP

def exJobs : List JobP := [⟨0, [⟨[], [(1, 0, 10)]⟩]⟩, ⟨3, [⟨[], [(1, 0, 10)]⟩]⟩]
theorem exJobs_ok : checkJ exJobs = true := by decide
theorem exJobs_ord : InOrd exJobs [0, 1] := ⟨List.Perm.refl _, by
  refine List.pairwise_cons.2 ⟨fun x hx => ?_, List.pairwise_singleton _ _⟩
  rw [List.mem_singleton] at hx
  subst hx
  left; decide⟩
theorem exJobs_plan : planF exJobs [] [] 20 [0, 1] = ([(0, 0), (0, 10)], 9) := by kernel_rfl
theorem ex_plan {l : List Cho} {n e : Int} (h : PlanIs exJobs [] [] 20 100 l n e) : l = [(0, 0), (0, 10)] ∧ n = 9 ∧ e = 0 := by
  have h2 : PlanIs exJobs [] [] 20 100 [(0, 0), (0, 10)] 9 0 := .inr (.inr ⟨exJobs_ok, by omega, by omega, by omega, by omega, [0, 1], exJobs_ord, .inr (by
    show ((planF exJobs [] [] 20 [0, 1]).2 : Int) ≤ 100 ∧ _ = (planF exJobs [] [] 20 [0, 1]).1 ∧ (9 : Int) = ((planF exJobs [] [] 20 [0, 1]).2 : Nat) ∧ (0 : Int) = 0
    rw [exJobs_plan]; exact ⟨by decide, rfl, rfl, rfl⟩)⟩)
  exact h.unique h2
theorem ex_ver : verB exJobs [] [] [(0, 0), (0, 10)] = true := by
  have := plan_ver exJobs_ok [] [] 20 exJobs_ord
  rwa [exJobs_plan] at this
end Go.Proofs.Ytlillkfelfoafaa
