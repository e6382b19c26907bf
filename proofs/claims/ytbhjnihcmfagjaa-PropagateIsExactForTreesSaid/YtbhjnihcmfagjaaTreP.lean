/-
  Trees of activities: classes, potentials, ways (chapter 13, PropagateIsExactForTrees); plain facts.
  Numbering of components, remainders, the table of a walk back (chapter 13, PropagateIsExactForTrees); plain facts.
  Times from potentials satisfy the activities (chapter 13, PropagateIsExactForTrees); plain facts.
-/
import Derived.Test.YtbhjnihcmfagjaaNet
import Derived.Test.YtbhjnihcmfagjaaPro
import Derived.Test.YtbhjnihcmfagjaaFea
set_option linter.unusedVariables false
set_option linter.unusedSimpArgs false
namespace RP
/-- Ends of the activity at an index. -/
def sN (l : List Acy) (i : Nat) : Nat := (l.getD i ⟨0, 0, 0, 0, 0, 0⟩).src.toNat
def dN (l : List Acy) (i : Nat) : Nat := (l.getD i ⟨0, 0, 0, 0, 0, 0⟩).dst.toNat
theorem sN_get {l : List Acy} {i : Nat} (h : i < l.length) : sN l i = l[i].src.toNat := by simp [sN, h]
theorem dN_get {l : List Acy} {i : Nat} (h : i < l.length) : dN l i = l[i].dst.toNat := by simp [dN, h]
theorem sd_ok {T : Int} {m : Nat} {l : List Acy} {i : Nat} (h : ∀ x ∈ l, okA m T x) (hi : i < l.length) : sN l i < m ∧ dN l i < m ∧ sN l i ≠ dN l i ∧ l[i].src = (sN l i : Int) ∧ l[i].dst = (dN l i : Int) := by
  obtain ⟨a1, a2, a3, a4, a5, _⟩ := h l[i] (List.getElem_mem hi)
  rw [sN_get hi, dN_get hi]
  omega
/-- The classes after the joining of s and d. -/
def mrg (R : Nat → Int) (s d : Nat) : Nat → Int := fun u => if R u = R d then R s else R u
theorem mrg_same {R : Nat → Int} {s d : Nat} (h : R s = R d) : mrg R s d = R := by
  funext u
  unfold mrg
  split
  · rename_i q; rw [h, q]
  · rfl
/-- Classes of the first k activities. -/
structure Cls (l : List Acy) (k : Nat) (R : Nat → Int) : Prop where
  one : ∀ i, i < k → R (sN l i) = R (dN l i)
  two : ∀ p : Nat → Int, (∀ i, i < k → p (sN l i) = p (dN l i)) → ∀ u v, R u = R v → p u = p v
theorem Cls.start (l : List Acy) : Cls l 0 fun u => (u : Int) := by
  refine ⟨fun i h => absurd h (Nat.not_lt_zero i), fun p _ u v h => ?_⟩
  have e : u = v := by have h' : (u : Int) = (v : Int) := h; omega
  rw [e]
theorem mrg_eq {R : Nat → Int} {s d u v : Nat} (h : R u = R v) : mrg R s d u = mrg R s d v := by simp only [mrg, h]
theorem mrg_sd (R : Nat → Int) (s d : Nat) : mrg R s d s = mrg R s d d := by simp [mrg]
theorem Cls.step {l : List Acy} {k : Nat} {R : Nat → Int} (h : Cls l k R) : Cls l (k + 1) (mrg R (sN l k) (dN l k)) := by
  refine ⟨fun i hi => ?_, fun p hp u v q => ?_⟩
  · by_cases e : i = k
    · subst e; exact mrg_sd R _ _
    · exact mrg_eq (h.one i (by omega))
  · have h2 := h.two p fun i hi => hp i (by omega)
    have hk := hp k (by omega)
    unfold mrg at q
    split at q <;> split at q <;> rename_i a b
    · exact h2 u v (a.trans b.symm)
    · rw [h2 u _ a, ← hk]; exact h2 _ _ q
    · rw [h2 v _ b, ← hk]; exact h2 _ _ q
    · exact h2 u v q
/-- No cycle: each choice of durations has times. -/
def Acyc (l : List Acy) : Prop := ∀ v : Nat → Int, ∃ p : Nat → Int, ∀ i, i < l.length → p (dN l i) - p (sN l i) = v i
theorem Acyc.ne {l : List Acy} (h : Acyc l) {k : Nat} {R : Nat → Int} (hc : Cls l k R) (hk : k < l.length) : R (sN l k) ≠ R (dN l k) := fun e => by
  obtain ⟨p, hp⟩ := h fun i => if i = k then 1 else 0
  have h1 := hc.two p (fun i hi => by
    have := hp i (by omega)
    rw [if_neg (by omega)] at this
    omega) _ _ e
  have := hp k hk
  rw [if_pos rfl] at this
  omega
/-- The activities that are taken into the tree. -/
structure TreI (l : List Acy) (tk : Nat → Bool) (R : Nat → Int) : Prop where
  one : ∀ i, i < l.length → tk i = true → R (sN l i) = R (dN l i)
  pot : ∀ v : Nat → Int, ∃ p : Nat → Int, ∀ i, i < l.length → tk i = true → p (dN l i) - p (sN l i) = v i
theorem TreI.start (l : List Acy) (R : Nat → Int) : TreI l (fun _ => false) R := ⟨fun _ _ h => (by cases h), fun _ => ⟨fun _ => 0, fun _ _ h => (by cases h)⟩⟩
theorem TreI.step {l : List Acy} {tk tk' : Nat → Bool} {R : Nat → Int} (h : TreI l tk R) {k : Nat} (hk : k < l.length) (hne : R (sN l k) ≠ R (dN l k)) (h1 : ∀ i, i ≠ k → tk' i = tk i) : TreI l tk' (mrg R (sN l k) (dN l k)) := by
  refine ⟨fun i hi ht => ?_, fun v => ?_⟩
  · by_cases e : i = k
    · subst e; exact mrg_sd R _ _
    · exact mrg_eq (h.one i hi (by rw [← h1 i e]; exact ht))
  · obtain ⟨p, hp⟩ := h.pot v
    refine ⟨fun u => if R u = R (dN l k) then p u + (v k - (p (dN l k) - p (sN l k))) else p u, fun i hi ht => ?_⟩
    simp only
    by_cases e : i = k
    · subst e
      rw [if_pos rfl, if_neg hne]; omega
    · have hik : tk i = true := by rw [← h1 i e]; exact ht
      have hr := h.one i hi hik
      have := hp i hi hik
      rw [hr]
      split <;> omega
/-- The taken indices, in order. -/
def tkL (tk : Nat → Bool) (n : Nat) : List Nat := (List.range n).filter tk
theorem tkL_yes {tk : Nat → Bool} {n : Nat} (h : tk n = true) : tkL tk (n + 1) = tkL tk n ++ [n] := by simp [tkL, List.range_succ, List.filter_append, h]
theorem tkL_no {tk : Nat → Bool} {n : Nat} (h : tk n = false) : tkL tk (n + 1) = tkL tk n := by simp [tkL, List.range_succ, List.filter_append, h]
theorem tkL_len (tk : Nat → Bool) (n : Nat) : (tkL tk n).length ≤ n := by
  have := List.length_filter_le tk (List.range n)
  simpa [tkL] using this
theorem tkL_mem {tk : Nat → Bool} {n i : Nat} (h : i ∈ tkL tk n) : i < n ∧ tk i = true := by simpa [tkL] using h
theorem tkL_nodup (tk : Nat → Bool) (n : Nat) : (tkL tk n).Nodup := (List.nodup_range).filter _
/-- A function on positions of a list without repetitions is a function on its members. -/
theorem at_member : ∀ (L : List Nat), L.Nodup → ∀ v : Nat → Int, ∃ v' : Nat → Int, ∀ j (h : j < L.length), v' L[j] = v j
  | [], _, v => ⟨v, fun j h => by simp at h⟩
  | a :: L, hn, v => by
    obtain ⟨v', hv⟩ := at_member L (List.nodup_cons.1 hn).2 fun j => v (j + 1)
    refine ⟨fun x => if x = a then v 0 else v' x, fun j h => ?_⟩
    cases j with
    | zero => simp
    | succ j =>
      have hj : j < L.length := by simpa using h
      have hne : L[j] ≠ a := fun e => (List.nodup_cons.1 hn).1 (e ▸ List.getElem_mem hj)
      simp only [List.getElem_cons_succ, if_neg hne]
      exact hv j hj
def actD (l : List Acy) (i : Nat) : Acy := l.getD i ⟨0, 0, 0, 0, 0, 0⟩
theorem TreI.acyc {l : List Acy} {tk : Nat → Bool} {R : Nat → Int} (h : TreI l tk R) : Acyc ((tkL tk l.length).map (actD l)) := fun v => by
  obtain ⟨v', hv⟩ := at_member _ (tkL_nodup tk l.length) v
  obtain ⟨p, hp⟩ := h.pot v'
  refine ⟨p, fun j hj => ?_⟩
  have hj' : j < (tkL tk l.length).length := by simpa using hj
  obtain ⟨m1, m2⟩ := tkL_mem (List.getElem_mem hj')
  have := hp _ m1 m2
  rw [hv j hj'] at this
  have e1 : ((tkL tk l.length).map (actD l)).getD j ⟨0, 0, 0, 0, 0, 0⟩ = actD l ((tkL tk l.length)[j]) := by simp [hj']
  rw [dN, sN, e1]
  exact this
theorem some_ok {T : Int} {m : Nat} {l : List Acy} (h : ∀ x ∈ l, okA m T x) (tk : Nat → Bool) : ∀ x ∈ (tkL tk l.length).map (actD l), okA m T x := fun x hx => by
  obtain ⟨i, hi, rfl⟩ := List.mem_map.1 hx
  have := (tkL_mem hi).1
  have e : actD l i = l[i] := by simp [actD, this]
  rw [e]
  exact h _ (List.getElem_mem this)
/-- One more residue. -/
theorem cntN_put {S S' : Nat → Bool} {u : Nat} (h0 : S u = false) (h1 : S' u = true) (ho : ∀ x, x ≠ u → S' x = S x) : ∀ {m : Nat}, u < m → cntN S' m = cntN S m + 1
  | 0, h => by omega
  | m + 1, h => by
    by_cases e : u = m
    · subst e
      have := cntN_congr (P := S') (Q := S) (k := u) fun x hx => ho x (by omega)
      simp only [cntN, h0, h1, this]; simp
    · have ih := cntN_put h0 h1 ho (m := m) (by omega)
      simp only [cntN, ih, ho m (fun q => e q.symm)]; omega
/-- The set of the events that have been seen. -/
structure Bfs (l : List Acy) (m f : Nat) (S : Nat → Bool) (V : Nat → Int) (ρ : Nat → Nat) : Prop where
  inn : ∀ u, S u = true → u < m
  frm : S f = true
  rank : ∀ u, S u = true → ρ u < cntN S m
  back : ∀ u, S u = true → u ≠ f → ∃ e, e < l.length ∧ V u = (e : Int) ∧ ((dN l e = u ∧ S (sN l e) = true ∧ ρ (sN l e) < ρ u) ∨ (sN l e = u ∧ S (dN l e) = true ∧ ρ (dN l e) < ρ u))
theorem Bfs.start {l : List Acy} {m f : Nat} (hf : f < m) (V : Nat → Int) : Bfs l m f (fun u => decide (u = f)) V fun _ => 0 := by
  refine ⟨fun u h => by have := of_decide_eq_true h; omega, decide_eq_true rfl, fun u h => ?_, fun u h hn => absurd (of_decide_eq_true h) hn⟩
  have h0 := cntN_put (S := fun _ => false) (S' := fun u => decide (u = f)) (u := f) rfl (decide_eq_true rfl) (fun x hx => decide_eq_false hx) hf
  omega
theorem Bfs.add {l : List Acy} {m f : Nat} {S S' : Nat → Bool} {V V' : Nat → Int} {ρ : Nat → Nat} (h : Bfs l m f S V ρ) {e u : Nat} (hu : u < m) (h0 : S u = false) (he : e < l.length)
    (hw : (dN l e = u ∧ S (sN l e) = true) ∨ (sN l e = u ∧ S (dN l e) = true)) (s1 : S' u = true) (s2 : ∀ x, x ≠ u → S' x = S x) (v1 : V' u = (e : Int)) (v2 : ∀ x, x ≠ u → V' x = V x) :
    Bfs l m f S' V' fun x => if x = u then cntN S m else ρ x := by
  have hc := cntN_put h0 s1 s2 hu
  have hup : ∀ x, S x = true → S' x = true := fun x hx => by
    by_cases q : x = u
    · rw [q]; exact s1
    · rw [s2 x q]; exact hx
  have hne : ∀ x, S x = true → x ≠ u := fun x hx q => by rw [q, h0] at hx; cases hx
  refine ⟨fun x hx => ?_, hup f h.frm, fun x hx => ?_, fun x hx hf => ?_⟩
  · by_cases q : x = u
    · omega
    · exact h.inn x (by rw [← s2 x q]; exact hx)
  · by_cases q : x = u
    · rw [if_pos q]; omega
    · rw [if_neg q]
      have := h.rank x (by rw [← s2 x q]; exact hx)
      omega
  · by_cases q : x = u
    · refine ⟨e, he, by rw [q]; exact v1, ?_⟩
      rcases hw with ⟨a, b⟩ | ⟨a, b⟩
      · refine .inl ⟨by rw [q]; exact a, hup _ b, ?_⟩
        try simp only
        rw [if_pos q, if_neg (hne _ b)]
        exact h.rank _ b
      · refine .inr ⟨by rw [q]; exact a, hup _ b, ?_⟩
        try simp only
        rw [if_pos q, if_neg (hne _ b)]
        exact h.rank _ b
    · obtain ⟨e', he', w1, w2⟩ := h.back x (by rw [← s2 x q]; exact hx) hf
      refine ⟨e', he', by rw [v2 x q]; exact w1, ?_⟩
      rcases w2 with ⟨a, b, c⟩ | ⟨a, b, c⟩
      · refine .inl ⟨a, hup _ b, ?_⟩
        try simp only
        rw [if_neg q, if_neg (hne _ b)]; exact c
      · refine .inr ⟨a, hup _ b, ?_⟩
        try simp only
        rw [if_neg q, if_neg (hne _ b)]; exact c
def ClN (l : List Acy) (S : Nat → Bool) (k : Nat) : Prop := ∀ i, i < k → S (sN l i) = S (dN l i)
/-- Behind round r: all is closed, or more than r are seen. -/
def Rnd (l : List Acy) (m r : Nat) (S : Nat → Bool) : Prop := ClN l S l.length ∨ r + 1 ≤ cntN S m
/-- Within a round. -/
def InR (l : List Acy) (m r : Nat) (S0 : Nat → Bool) (k : Nat) (S : Nat → Bool) : Prop := (S = S0 ∧ ClN l S k) ∨ r + 2 ≤ cntN S m
theorem InR.start (l : List Acy) (m r : Nat) (S : Nat → Bool) : InR l m r S 0 S := .inl ⟨rfl, fun i h => by omega⟩
theorem InR.same {l : List Acy} {m r k : Nat} {S0 S : Nat → Bool} (h : InR l m r S0 k S) (hs : S (sN l k) = S (dN l k)) : InR l m r S0 (k + 1) S := by
  rcases h with ⟨a, b⟩ | a
  · refine .inl ⟨a, fun i hi => ?_⟩
    by_cases e : i = k
    · rw [e]; exact hs
    · exact b i (by omega)
  · exact .inr a
theorem InR.more {l : List Acy} {m r k : Nat} {S0 S S' : Nat → Bool} (h : InR l m r S0 k S) (h0 : Rnd l m r S0) (hk : k < l.length) (hs : S (sN l k) ≠ S (dN l k)) (hc : cntN S' m = cntN S m + 1) : InR l m r S0 (k + 1) S' := by
  right
  rcases h with ⟨a, b⟩ | a
  · rcases h0 with q | q
    · rw [a] at hs
      exact absurd (q k hk) hs
    · rw [a] at hc; omega
  · omega
theorem InR.done {l : List Acy} {m r : Nat} {S0 S : Nat → Bool} (h : InR l m r S0 l.length S) : Rnd l m (r + 1) S := by
  rcases h with ⟨_, b⟩ | a
  · exact .inl b
  · exact .inr (by omega)
theorem Rnd.all {l : List Acy} {m : Nat} {S : Nat → Bool} (h : Rnd l m m S) : ClN l S l.length := by
  rcases h with b | a
  · exact b
  · have := cntN_le S m; omega
/-- The sum along a way. -/
def sumW (v : Nat → Int) : List (Nat × Int) → Int
  | [] => 0
  | q :: L => q.2 * v q.1 + sumW v L
structure Way (l : List Acy) (t x : Nat) (L : List (Nat × Int)) : Prop where
  mem : ∀ q ∈ L, q.1 < l.length ∧ (q.2 = 1 ∨ q.2 = -1)
  sum : ∀ (v : Nat → Int) (p : Nat → Int), (∀ i, i < l.length → p (dN l i) - p (sN l i) = v i) → sumW v L = p t - p x
theorem Way.start (l : List Acy) (t : Nat) : Way l t t [] := ⟨fun q h => (by cases h), fun v p _ => (by simp [sumW])⟩
theorem Way.fwd {l : List Acy} {t x w e : Nat} {L : List (Nat × Int)} (h : Way l t x L) (he : e < l.length) (h1 : dN l e = x) (h2 : sN l e = w) : Way l t w ((e, 1) :: L) :=
  ⟨fun q hq => by
    rcases List.mem_cons.1 hq with rfl | hq
    · exact ⟨he, .inl rfl⟩
    · exact h.mem q hq, fun v p hp => by
    have := h.sum v p hp
    have h3 := hp e he
    rw [h1, h2] at h3
    simp only [sumW, this]; omega⟩
theorem Way.bwd {l : List Acy} {t x w e : Nat} {L : List (Nat × Int)} (h : Way l t x L) (he : e < l.length) (h1 : sN l e = x) (h2 : dN l e = w) : Way l t w ((e, -1) :: L) :=
  ⟨fun q hq => by
    rcases List.mem_cons.1 hq with rfl | hq
    · exact ⟨he, .inr rfl⟩
    · exact h.mem q hq, fun v p hp => by
    have := h.sum v p hp
    have h3 := hp e he
    rw [h1, h2] at h3
    simp only [sumW, this]; omega⟩
theorem sumW_take {v : Nat → Int} {L : List (Nat × Int)} {k : Nat} (h : k < L.length) : sumW v (L.take (k + 1)) = sumW v (L.take k) + L[k].2 * v L[k].1 := by
  induction L generalizing k with
  | nil => simp at h
  | cons q L ih =>
    cases k with
    | zero => simp [sumW]
    | succ k =>
      have hk : k < L.length := by simpa using h
      simp only [List.take_succ_cons, sumW, List.getElem_cons_succ]
      have := ih hk
      rw [this]; omega
theorem sumW_bound {v : Nat → Int} {B : Int} {n : Nat} (hv : ∀ i, i < n → -B ≤ v i ∧ v i ≤ B) (hB : 0 ≤ B) : ∀ {L : List (Nat × Int)}, (∀ q ∈ L, q.1 < n ∧ (q.2 = 1 ∨ q.2 = -1)) → -(B * L.length) ≤ sumW v L ∧ sumW v L ≤ B * L.length
  | [], _ => by simp [sumW]
  | q :: L, h => by
    have ih := sumW_bound hv hB (L := L) fun x hx => h x (List.mem_cons_of_mem _ hx)
    obtain ⟨a, b⟩ := h q List.mem_cons_self
    obtain ⟨c, d⟩ := hv _ a
    have e : B * ((q :: L).length : Int) = B * (L.length : Int) + B := by rw [List.length_cons]; push_cast; rw [Int.mul_add, Int.mul_one]
    rw [e]
    simp only [sumW]
    rcases b with b | b <;> rw [b] <;> omega
/-- The first event of the same component: what the loop finds. -/
def fiK (C : Nat → Int) (i : Nat) : Nat → Nat
  | 0 => i
  | k + 1 => if C k = C i ∧ k < fiK C i k then k else fiK C i k
theorem fiK_same (C : Nat → Int) (i : Nat) : ∀ k, C (fiK C i k) = C i
  | 0 => rfl
  | k + 1 => by
    simp only [fiK]
    split
    · rename_i h; exact h.1
    · exact fiK_same C i k
theorem fiK_le (C : Nat → Int) (i : Nat) : ∀ k, fiK C i k ≤ i
  | 0 => Nat.le_refl _
  | k + 1 => by
    have := fiK_le C i k
    simp only [fiK]
    split
    · rename_i h; omega
    · exact this
theorem fiK_min (C : Nat → Int) (i : Nat) : ∀ k, ∀ j, j < k → C j = C i → fiK C i k ≤ j
  | 0, j, h, _ => by omega
  | k + 1, j, h, e => by
    simp only [fiK]
    by_cases q : j = k
    · subst q
      split
      · omega
      · rename_i hn
        have : ¬ j < fiK C i j := fun q => hn ⟨e, q⟩
        omega
    · have := fiK_min C i k j (by omega) e
      split
      · rename_i hq; omega
      · exact this
theorem fi_eq {C : Nat → Int} {u v : Nat} (h : C u = C v) : fiK C u u = fiK C v v := by
  have key : ∀ a b, C a = C b → fiK C b b ≤ fiK C a a := fun a b e => by
    by_cases q : fiK C a a < b
    · exact fiK_min C b b _ q ((fiK_same C a a).trans e)
    · have := fiK_le C b b; omega
  exact Nat.le_antisymm (key v u h.symm) (key u v h)
/-- The times of an acyclic network: they satisfy the activities. -/
theorem tree_feas {T : Nat} (h1 : 1 ≤ T) {p : Nat → Int} {C : Nat → Int} {s d : Nat} {v lo hi : Int} (hv : p d - p s = v) (hc : C s = C d) (a : lo ≤ v) (b : v ≤ hi) (c : hi - lo < T) :
    lo + (((p d - p (fiK C d d)) % T - (p s - p (fiK C s s)) % T - lo) % T) ≤ hi := by
  rw [fi_eq hc]
  generalize fiK C d d = f
  have e : ((p d - p f) % T - (p s - p f) % T - lo) % (T : Int) = (v - lo) % T := by
    have q1 := Int.emod_def (p d - p f) T
    have q2 := Int.emod_def (p s - p f) T
    have q3 : (p d - p f) % (T : Int) - (p s - p f) % T - lo = (v - lo) + T * ((p s - p f) / T - (p d - p f) / T) := by
      rw [Int.mul_sub]; omega
    rw [q3, Int.add_mul_emod_self_left]
  rw [e, Int.emod_eq_of_lt (by omega) (by omega)]
  omega
end RP

namespace RP
/-- Numbering of classes: the first i events have their numbers. -/
structure Num13 (R C : Nat → Int) (i nx : Nat) : Prop where
  iff : ∀ u v, u < i → v < i → (C u = C v ↔ R u = R v)
  pos : ∀ u, u < i → 0 ≤ C u ∧ C u < nx
  le : nx ≤ i
def updI (C : Nat → Int) (i : Nat) (z : Int) : Nat → Int := fun u => if u = i then z else C u
theorem updI_at (C : Nat → Int) (i : Nat) (z : Int) : updI C i z i = z := if_pos rfl
theorem updI_ne {C : Nat → Int} {i u : Nat} {z : Int} (h : u ≠ i) : updI C i z u = C u := if_neg h
def Inn13 (R C : Nat → Int) (i k : Nat) (z : Int) : Prop := (z = -1 ∧ ∀ q, q < k → R q ≠ R i) ∨ ∃ q, q < k ∧ R q = R i ∧ z = C q
theorem Inn13.start (R C : Nat → Int) (i : Nat) : Inn13 R C i 0 (-1) := .inl ⟨rfl, fun q h => by omega⟩
theorem Inn13.hit {R C : Nat → Int} {i k : Nat} (h : R k = R i) : Inn13 R C i (k + 1) (C k) := .inr ⟨k, Nat.lt_succ_self k, h, rfl⟩
theorem Inn13.miss {R C : Nat → Int} {i k : Nat} {z : Int} (h : Inn13 R C i k z) (hn : R k ≠ R i) : Inn13 R C i (k + 1) z := by
  rcases h with ⟨a, b⟩ | ⟨q, a, b, c⟩
  · refine .inl ⟨a, fun q hq => ?_⟩
    by_cases e : q = k
    · rw [e]; exact hn
    · exact b q (by omega)
  · exact .inr ⟨q, by omega, b, c⟩
theorem Num13.start (R C : Nat → Int) : Num13 R C 0 0 := ⟨fun u v h => by omega, fun u h => by omega, Nat.le_refl _⟩
theorem Num13.old {R C : Nat → Int} {i nx : Nat} {z : Int} (h : Num13 R C i nx) (hz : Inn13 R C i i z) (h0 : ¬ z < 0) : Num13 R (updI C i z) (i + 1) nx := by
  rcases hz with ⟨a, _⟩ | ⟨q, q1, q2, q3⟩
  · omega
  have key : ∀ u, u < i + 1 → ∃ u', u' < i ∧ updI C i z u = C u' ∧ R u = R u' := fun u hu => by
    by_cases e : u = i
    · exact ⟨q, q1, by rw [e, updI_at, q3], by rw [e, q2]⟩
    · exact ⟨u, by omega, updI_ne e, rfl⟩
  refine ⟨fun u v hu hv => ?_, fun u hu => ?_, Nat.le_succ_of_le h.le⟩
  · obtain ⟨u', a1, a2, a3⟩ := key u hu
    obtain ⟨v', b1, b2, b3⟩ := key v hv
    rw [a2, a3, b2, b3]; exact h.iff u' v' a1 b1
  · obtain ⟨u', a1, a2, a3⟩ := key u hu
    rw [a2]; exact h.pos u' a1
theorem Num13.new {R C : Nat → Int} {i nx : Nat} {z : Int} (h : Num13 R C i nx) (hz : Inn13 R C i i z) (h0 : z < 0) : Num13 R (updI C i nx) (i + 1) (nx + 1) := by
  rcases hz with ⟨_, hn⟩ | ⟨q, q1, _, q3⟩
  · refine ⟨fun u v hu hv => ?_, fun u hu => ?_, Nat.succ_le_succ h.le⟩
    · by_cases e : u = i
      · by_cases e' : v = i
        · rw [e, e']; simp
        · rw [e, updI_at, updI_ne e']
          have h1 := h.pos v (by omega)
          have h2 := hn v (by omega)
          constructor
          · intro q; omega
          · intro q; exact absurd q.symm h2
      · by_cases e' : v = i
        · rw [e', updI_at, updI_ne e]
          have h1 := h.pos u (by omega)
          have h2 := hn u (by omega)
          constructor
          · intro q; omega
          · intro q; exact absurd q h2
        · rw [updI_ne e, updI_ne e']; exact h.iff u v (by omega) (by omega)
    · by_cases e : u = i
      · rw [e, updI_at]; have := h.le; omega
      · rw [updI_ne e]; have := h.pos u (by omega); omega
  · have := h.pos q q1; omega
/-- The components of a network: constant along activities, and no greater than they must be. -/
def Comp13 (l : List Acy) (m : Nat) (C : Nat → Int) : Prop := (∀ i, i < l.length → C (sN l i) = C (dN l i)) ∧ ∀ p : Nat → Int, (∀ i, i < l.length → p (sN l i) = p (dN l i)) → ∀ u v, u < m → v < m → C u = C v → p u = p v
theorem comp_of {l : List Acy} {m nx : Nat} {R C : Nat → Int} (hc : Cls l l.length R) (hn : Num13 R C m nx) (hsd : ∀ i, i < l.length → sN l i < m ∧ dN l i < m) : Comp13 l m C :=
  ⟨fun i hi => (hn.iff _ _ (hsd i hi).1 (hsd i hi).2).2 (hc.one i hi), fun p hp u v hu hv e => hc.two p hp u v ((hn.iff u v hu hv).1 e)⟩
/-- Go's remainder, brought up. -/
theorem rem_up {t T : Int} (h : 0 < T) : (if t.tmod T < 0 then t.tmod T + T else t.tmod T) = t % T := by
  have h1 := Int.tmod_eq_emod_of_nonneg (a := t) (b := T)
  by_cases ht : 0 ≤ t
  · have e := Int.tmod_eq_emod_of_nonneg (b := T) ht
    have := Int.emod_nonneg t (by omega : T ≠ 0)
    rw [e, if_neg (by omega)]
  · have e := Int.tmod_eq_emod (a := t) (b := T)
    have n1 := Int.emod_nonneg t (by omega : T ≠ 0)
    have n2 := Int.emod_lt_of_pos t h
    rw [e]
    by_cases hd : 0 ≤ t ∨ T ∣ t
    · rw [if_pos hd]
      rw [if_neg (by omega)]; omega
    · rw [if_neg hd]
      have : (T.natAbs : Int) = T := by omega
      rw [this, if_pos (by omega)]; omega
/-- What is closed holds the whole component. -/
theorem cl_all {l : List Acy} {S : Nat → Bool} {f t : Nat} (hc : ClN l S l.length) (hf : S f = true) (hcon : ∀ p : Nat → Int, (∀ i, i < l.length → p (sN l i) = p (dN l i)) → p t = p f) : S t = true := by
  have := hcon (fun u => if S u = true then 1 else 0) fun i hi => by simp only [hc i hi]
  simp only [hf, if_true] at this
  by_cases q : S t = true
  · exact q
  · rw [if_neg q] at this; omega
end RP

namespace RP
theorem getD_map_range {m : Nat} {X : Nat → Int} {u : Nat} (h : u < m) : ((List.range m).map X).getD u 0 = X u := by simp [h]
theorem exact_feas {T m : Nat} {l : List Acy} (hnet : netB T m l = true) {p C X v : Nat → Int} (hp : ∀ i, i < l.length → p (dN l i) - p (sN l i) = v i) (hv : ∀ i (h : i < l.length), l[i].lo ≤ v i ∧ v i ≤ l[i].hi) (hC : ∀ i, i < l.length → C (sN l i) = C (dN l i))
    (hX : ∀ u, u < m → X u = (p u - p (fiK C u u)) % T) : feasB T m l ((List.range m).map X) = true := by
  obtain ⟨⟨t1, t2, t3, t4⟩, hok⟩ := netB_iff.1 hnet
  refine feas_iff.2 ⟨goodB_iff.2 ⟨hnet, by simp, fun t ht => ?_⟩, fun a ha => ?_⟩
  · obtain ⟨u, hu, rfl⟩ := List.mem_map.1 ht
    have hu' := List.mem_range.1 hu
    have n1 := Int.emod_nonneg (p u - p (fiK C u u)) (show (T : Int) ≠ 0 by omega)
    have n2 := Int.emod_lt_of_pos (p u - p (fiK C u u)) (show (0 : Int) < T by omega)
    have h0 := hX u hu'
    constructor
    · simp only [h0]; exact n1
    · simp only [h0]; exact n2
  · obtain ⟨i, hi, rfl⟩ := List.getElem_of_mem ha
    obtain ⟨k1, k2, k3, k4, k5⟩ := sd_ok hok hi
    have hx := hok l[i] ha
    obtain ⟨v1, v2⟩ := hv i hi
    have := tree_feas (T := T) (by omega) (p := p) (C := C) (s := sN l i) (d := dN l i) (v := v i) (lo := l[i].lo) (hi := l[i].hi) (hp i hi) (hC i hi) v1 v2 hx.2.2.2.2.2.2.2.2.1
    unfold overI
    rw [k4, k5, Int.toNat_natCast, Int.toNat_natCast, getD_map_range k1, getD_map_range k2, hX _ k1, hX _ k2]
    exact this
end RP
