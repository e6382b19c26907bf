/-
  The reference's tightening of a table: one residue after the other is taken away; plain facts.
  The reference's first table: residues that an activity excludes are taken away; plain facts.
  The reference's table of sets (chapter 13) in memory; contract of restrict.
  Contract of the reference's tighten (chapter 13).
  Contract of the reference's Close (chapter 13).
  The walk of the reference's Close (chapter 13).
  Contracts of the reference's Between, size and Empty (chapter 13).
  Contracts of the reference's Count, Empty and Allows (chapter 13).
  Contract of agrees of chapter 13: it returns true.
-/
import Derived.Test.YtbhjnihcmfagjaaPro
import Derived.Test.YtbhjnihcmfagjaaKit
import Derived.StillTailTactics
import Derived.Test.YtbhjnihcmfagjaaNetR
import Derived.Test.YtbhjnihcmfagjaaCloseA
import Derived.Test.YtbhjnihcmfagjaaBasics
import Derived.Test.YtbhjnihcmfagjaaFeaW
import Derived.Test.YtbhjnihcmfagjaaGood
import Derived.Test.YtbhjnihcmfagjaaAwake
set_option linter.unusedVariables false
set_option linter.unusedSimpArgs false
namespace RP

/-- A residue is taken from a set. -/
def delT (D : Tab) (i k d : Nat) : Tab := fun a b x => D a b x && !(decide (a = i) && decide (b = k) && decide (x = d))
theorem delT_at (D : Tab) (i k d : Nat) : delT D i k d i k d = false := by simp [delT]
theorem delT_other (D : Tab) {i k d a b x : Nat} (h : ¬ (a = i ∧ b = k ∧ x = d)) : delT D i k d a b x = D a b x := by
  unfold delT
  by_cases h1 : a = i <;> by_cases h2 : b = k <;> by_cases h3 : x = d <;> simp [h1, h2, h3]
  exact absurd ⟨h1, h2, h3⟩ h
theorem delT_le (D : Tab) {i k d a b x : Nat} (h : delT D i k d a b x = true) : D a b x = true := by
  unfold delT at h
  rw [Bool.and_eq_true] at h
  exact h.1
/-- What the tightening keeps: the table lies in the first one, and holds every closed one that does. -/
structure Tgh (m T : Nat) (I D : Tab) : Prop where
  sub : SubT m T D I
  max : ∀ E, SubT m T E I → ClosedT m T E → SubT m T E D
theorem Tgh.start (m T : Nat) (I : Tab) : Tgh m T I I := ⟨SubT.refl m T I, fun _ h _ => h⟩
theorem Tgh.del {m T : Nat} {I D : Tab} (h : Tgh m T I D) {i j k d : Nat} (hi : i < m) (hj : j < m) (hk : k < m) (hd : d < T) (hn : sumB T (D i j) (D j k) d = false) : Tgh m T I (delT D i k d) :=
  ⟨fun a b ha hb x hx q => h.sub a b ha hb x hx (delT_le D q), fun E h1 h2 a b ha hb x hx q => by
    have hq := h.max E h1 h2 a b ha hb x hx q
    by_cases e : a = i ∧ b = k ∧ x = d
    · exfalso
      obtain ⟨rfl, rfl, rfl⟩ := e
      have := sumB_mono (T := T) (by omega) (fun y hy p => h.max E h1 h2 a j hi hj y hy p) (fun y hy p => h.max E h1 h2 j b hj hk y hy p) (h2 a j b hi hj hk x hx q)
      rw [hn] at this; cases this
    · rw [delT_other D e]; exact hq⟩
/-- A table through which a pass has gone without taking anything away is the greatest closed one. -/
theorem Tgh.done {m T : Nat} {I D : Tab} (h : Tgh m T I D) (hc : ∀ i j k, i < m → j < m → k < m → ∀ d, d < T → D i k d = true → sumB T (D i j) (D j k) d = true) : Great m T I D :=
  ⟨h.sub, fun i j k hi hj hk x hx q => hc i j k hi hj hk x hx q, h.max⟩
theorem delT_sub (m T : Nat) (D : Tab) (i k d : Nat) : SubT m T (delT D i k d) D := fun _ _ _ _ _ _ q => delT_le D q
/-- Taking a residue away makes the table smaller. -/
theorem delT_lt {m T : Nat} {D : Tab} {i k d : Nat} (hi : i < m) (hk : k < m) (hd : d < T) (h : D i k d = true) : totT m T (delT D i k d) < totT m T D := by
  refine tot_lt (delT_sub m T D i k d) hi hk (fun e => ?_)
  have := cnt_eq (fun x hx q => delT_le D q) e d hd
  rw [delT_at, h] at this; cases this
/-- The search for a sum. -/
def sumK (T : Nat) (P Q : Nat → Bool) (d e : Nat) : Bool := (List.range e).any fun a => P a && Q (res T ((d : Int) - a))
theorem sumK_succ (T : Nat) (P Q : Nat → Bool) (d e : Nat) : sumK T P Q d (e + 1) = (sumK T P Q d e || (P e && Q (res T ((d : Int) - e)))) := by
  unfold sumK
  rw [List.range_succ, List.any_append]; simp
theorem sumK_full (T : Nat) (P Q : Nat → Bool) (d : Nat) : sumK T P Q d T = sumB T P Q d := rfl
theorem sumK_true {T : Nat} {P Q : Nat → Bool} {d e : Nat} (he : e ≤ T) (h : sumK T P Q d e = true) : sumB T P Q d = true := by
  unfold sumK at h
  rw [List.any_eq_true] at h
  obtain ⟨a, ha, q⟩ := h
  rw [List.mem_range] at ha
  rw [sumB_iff]
  rw [Bool.and_eq_true] at q
  exact ⟨a, by omega, q.1, q.2⟩
end RP

namespace RP

/-- A residue that an activity excludes. -/
def badA (T : Nat) (lo hi : Int) (x : Nat) : Bool := decide (hi - lo < (res T ((x : Int) - lo) : Int))
/-- The residues below d that an activity excludes are taken away. -/
def remT (T : Nat) (D : Tab) (s e : Nat) (lo hi : Int) (d : Nat) : Tab := fun a b x =>
  (D a b x && !(decide (a = s) && decide (b = e) && decide (x < d) && badA T lo hi x)) && !(decide (a = e) && decide (b = s) && decide (res T (-(x : Int)) < d) && badA T lo hi (res T (-(x : Int))))
section
variable {m T : Nat} {D : Tab} {s e : Nat} {lo hi : Int}
theorem remT_zero : remT T D s e lo hi 0 = D := by
  funext a b x; simp [remT]
theorem remT_skip {d : Nat} (hb : badA T lo hi d = false) (a b x : Nat) : remT T D s e lo hi d a b x = remT T D s e lo hi (d + 1) a b x := by
  have key : ∀ y, (decide (y < d) && badA T lo hi y) = (decide (y < d + 1) && badA T lo hi y) := fun y => by
    by_cases q : y = d
    · subst q; rw [hb]; simp
    · have : decide (y < d) = decide (y < d + 1) := decide_eq_decide.2 (by omega)
      rw [this]
  unfold remT
  rw [Bool.and_assoc (decide (a = s) && decide (b = e)), Bool.and_assoc (decide (a = e) && decide (b = s)), key, key, ← Bool.and_assoc, ← Bool.and_assoc]
theorem res_neg_iff (h1 : 1 ≤ T) {x d : Nat} (hx : x < T) (hd : d < T) : res T (-(x : Int)) = d ↔ x = res T (-(d : Int)) := by
  constructor
  · intro h
    rw [← h, res_neg_neg h1 hx]
  · intro h
    rw [h, res_neg_neg h1 hd]
theorem remT_step (h1 : 1 ≤ T) {d : Nat} (hd : d < T) (hb : badA T lo hi d = true) (a b x : Nat) (hx : x < T) :
    delT (delT (remT T D s e lo hi d) s e d) e s (res T (-(d : Int))) a b x = remT T D s e lo hi (d + 1) a b x := by
  have key : ∀ y, (decide (y < d + 1) && badA T lo hi y) = (decide (y < d) && badA T lo hi y || decide (y = d)) := fun y => by
    by_cases q : y = d
    · subst q; rw [hb]; simp
    · have : decide (y < d) = decide (y < d + 1) := decide_eq_decide.2 (by omega)
      rw [this]; simp [q]
  have k1 := key x
  have k2 := key (res T (-(x : Int)))
  have hq : decide (res T (-(x : Int)) = d) = decide (x = res T (-(d : Int))) := decide_eq_decide.2 (res_neg_iff h1 hx hd)
  rw [hq] at k2
  unfold delT remT
  rw [Bool.and_assoc (decide (a = s) && decide (b = e)) (decide (x < d + 1)), Bool.and_assoc (decide (a = e) && decide (b = s)) (decide (res T (-(x : Int)) < d + 1)), k1, k2,
    Bool.and_assoc (decide (a = s) && decide (b = e)) (decide (x < d)), Bool.and_assoc (decide (a = e) && decide (b = s)) (decide (res T (-(x : Int)) < d))]
  generalize (decide (x < d) && badA T lo hi x) = p1
  generalize (decide (res T (-(x : Int)) < d) && badA T lo hi (res T (-(x : Int)))) = p2
  generalize (decide (a = s) && decide (b = e)) = q1
  generalize (decide (a = e) && decide (b = s)) = q2
  generalize D a b x = z
  generalize decide (x = d) = u1
  generalize decide (x = res T (-(d : Int))) = u2
  cases p1 <;> cases p2 <;> cases q1 <;> cases q2 <;> cases z <;> cases u1 <;> cases u2 <;> rfl
theorem badA_arc (h1 : 1 ≤ T) (x : Nat) : badA T lo hi x = !arcB T (lo % (T : Int)) (hi - lo + 1) x := by
  have e1 : ((x : Int) - lo % (T : Int)) % (T : Int) = ((x : Int) - lo) % (T : Int) := by rw [Int.sub_emod, Int.emod_emod, ← Int.sub_emod]
  unfold badA arcB
  rw [e1, res_val h1, ← decide_not, decide_eq_decide]
  omega
theorem remT_full (h1 : 1 ≤ T) (hs : SymT m T D) (hse : s ≠ e) (h2 : s < m) (h3 : e < m) {a b x : Nat} (hx : x < T) : remT T D s e lo hi T a b x = resT T D s e (arcB T (lo % (T : Int)) (hi - lo + 1)) a b x := by
  have hr := res_lt h1 (-(x : Int))
  unfold remT
  rw [badA_arc h1, badA_arc h1, decide_eq_true hx, decide_eq_true hr]
  by_cases q : a = s ∧ b = e
  · obtain ⟨rfl, rfl⟩ := q
    have : decide (a = b) = false := by simpa using hse
    rw [resT_ab, this]; simp
  · by_cases q' : a = e ∧ b = s
    · obtain ⟨rfl, rfl⟩ := q'
      have : decide (a = b) = false := by simpa using (fun q => hse q.symm)
      rw [resT_ba hse, this, ← hs b a h2 h3 x hx]; simp
    · rw [resT_other q q']
      have z1 : (decide (a = s) && decide (b = e)) = false := by
        rw [Bool.and_eq_false_iff]; simp only [decide_eq_false_iff_not]
        by_cases q1 : a = s
        · exact .inr fun h => q ⟨q1, h⟩
        · exact .inl q1
      have z2 : (decide (a = e) && decide (b = s)) = false := by
        rw [Bool.and_eq_false_iff]; simp only [decide_eq_false_iff_not]
        by_cases q1 : a = e
        · exact .inr fun h => q' ⟨q1, h⟩
        · exact .inl q1
      rw [z1, z2]; simp
/-- The bound of the first table's sets. -/
theorem base_at (i j x : Nat) : (if i = j then decide (x = 0) else true) = baseT i j x := rfl
end
end RP

namespace Go.Proofs.Ytbhjnihcmfagjaa
open Go.RowKit RP

/-- A set of residues as a row of marks. -/
def bitsA (T : Nat) (P : Nat → Bool) : Array Value := ((List.range T).map fun d => Value.bool (P d)).toArray
theorem bitsA_get {T : Nat} {P : Nat → Bool} {d : Nat} (h : d < T) : (bitsA T P)[d]? = some (.bool (P d)) := by
  unfold bitsA
  rw [List.getElem?_toArray, List.getElem?_map, List.getElem?_range h]; rfl
theorem bitsA_set {T : Nat} {P Q : Nat → Bool} {d : Nat} (b : Bool) (hd : Q d = b) (ho : ∀ x, x ≠ d → Q x = P x) : (bitsA T P).setIfInBounds d (.bool b) = bitsA T Q := by
  refine Array.ext_getElem? fun i => ?_
  rw [Array.getElem?_setIfInBounds]
  by_cases hi : i < T
  · have hp := bitsA_get (P := P) hi
    have hq := bitsA_get (P := Q) hi
    rw [hp, hq]
    by_cases e : d = i
    · subst e
      rw [if_pos rfl, if_pos (by unfold bitsA; simp [hi]), hd]
    · rw [if_neg e, ho i (fun q => e q.symm)]
  · have h1 : (bitsA T Q)[i]? = none := by unfold bitsA; simp; omega
    have h2 : (bitsA T P)[i]? = none := by unfold bitsA; simp; omega
    rw [h1, h2]
    by_cases e : d = i
    · subst e
      rw [if_pos rfl, if_neg (by unfold bitsA; simp; omega)]
    · rw [if_neg e]
theorem idxR_inj {m a b i k : Nat} (hb : b < m) (hk : k < m) (h : a * m + b = i * m + k) : a = i ∧ b = k := by
  have h1 : (a * m + b) / m = a := by rw [Nat.mul_comm, Nat.mul_add_div (by omega), Nat.div_eq_of_lt hb, Nat.add_zero]
  have h2 : (i * m + k) / m = i := by rw [Nat.mul_comm, Nat.mul_add_div (by omega), Nat.div_eq_of_lt hk, Nat.add_zero]
  rw [h] at h1
  have : a = i := by rw [← h1, h2]
  subst this
  exact ⟨rfl, by omega⟩
theorem idxR_lt {m i k : Nat} (hi : i < m) (hk : k < m) : i * m + k < m * m := by
  have := Nat.mul_le_mul_right m (show i + 1 ≤ m from hi)
  rw [Nat.add_mul, Nat.one_mul] at this
  omega
/-- The table in memory: its block gx, the row gs of its sets, set q in block G q. -/
structure RfT (w : World) (gx gs : Nat) (G : Nat → Nat) (m T c : Nat) (ev ac : Value) (D : Tab) : Prop where
  blk : w.heap[gx]? = some (.cells #[.int .i64 T, ev, ac, .slice (some ⟨gs, 0, none⟩) (m * m) c] 104 (0, 0))
  row : ∀ q, q < m * m → w.cell? ⟨gs, q, none⟩ = some (.slice (some ⟨G q, 0, none⟩) T T)
  bits : ∀ i j, i < m → j < m → w.heap[G (i * m + j)]? = some (.cells (bitsA T (D i j)) 4 (0, 0))
  inj : ∀ q q', q < m * m → q' < m * m → G q = G q' → q = q'
  rty : ∃ cs, w.heap[gs]? = some (.cells cs 70 (0, 0))
section
variable {w w' : World} {gx gs : Nat} {G : Nat → Nat} {m T c : Nat} {ev ac : Value} {D : Tab}
theorem RfT.cell (h : RfT w gx gs G m T c ev ac D) {i j d : Nat} (hi : i < m) (hj : j < m) (hd : d < T) : w.cell? ⟨G (i * m + j), d, none⟩ = some (.bool (D i j d)) ∧ w.frozen? ⟨G (i * m + j), d, none⟩ = false := by
  have hb := h.bits i j hi hj
  exact ⟨by rw [cell_of_row w _ d _ _ _ hb]; exact bitsA_get hd, by simp [World.frozen?, hb]⟩
theorem RfT.head (h : RfT w gx gs G m T c ev ac D) : w.cell? ⟨gx, 0, none⟩ = some (.int .i64 T) ∧ w.cell? ⟨gx, 1, none⟩ = some ev ∧ w.cell? ⟨gx, 2, none⟩ = some ac ∧ w.cell? ⟨gx, 3, none⟩ = some (.slice (some ⟨gs, 0, none⟩) (m * m) c) :=
  ⟨by rw [cell_of_row w _ 0 _ _ _ h.blk]; rfl, by rw [cell_of_row w _ 1 _ _ _ h.blk]; rfl, by rw [cell_of_row w _ 2 _ _ _ h.blk]; rfl, by rw [cell_of_row w _ 3 _ _ _ h.blk]; rfl⟩
theorem RfT.ne (h : RfT w gx gs G m T c ev ac D) {i j : Nat} (hi : i < m) (hj : j < m) : G (i * m + j) ≠ gx ∧ G (i * m + j) ≠ gs := by
  have hb := h.bits i j hi hj
  obtain ⟨cs, hr⟩ := h.rty
  have hx := h.blk
  refine ⟨fun e => ?_, fun e => ?_⟩
  · rw [e, hx] at hb
    injection hb with q; injection q with _ q
    exact absurd q (by decide)
  · rw [e, hr] at hb
    injection hb with q; injection q with _ q
    exact absurd q (by decide)
theorem RfT.below (h : RfT w gx gs G m T c ev ac D) (hb : Below w.heap.size w w') : RfT w' gx gs G m T c ev ac D := by
  obtain ⟨cs, hr⟩ := h.rty
  have hlt : ∀ {g : Nat} {x : Obj}, w.heap[g]? = some x → w'.heap[g]? = some x := fun q => (hb.block _ (Array.getElem?_eq_some_iff.1 q).1).trans q
  exact ⟨hlt h.blk, fun q hq => (hb.cell (p := ⟨gs, q, none⟩) (Array.getElem?_eq_some_iff.1 hr).1).trans (h.row q hq), fun i j hi hj => hlt (h.bits i j hi hj), h.inj, cs, hlt hr⟩
/-- A mark is written. -/
theorem RfT.put (h : RfT w gx gs G m T c ev ac D) {i k d : Nat} (hi : i < m) (hk : k < m) (b : Bool) {D' : Tab} (hat : D' i k d = b) (hoth : ∀ a e x, ¬ (a = i ∧ e = k ∧ x = d) → D' a e x = D a e x) :
    RfT (w.setCell ⟨G (i * m + k), d, none⟩ (.bool b)) gx gs G m T c ev ac D' := by
  obtain ⟨n1, n2⟩ := h.ne hi hk
  have hb := h.bits i k hi hk
  have hset : (w.setCell ⟨G (i * m + k), d, none⟩ (.bool b)).heap[G (i * m + k)]? = some (.cells ((bitsA T (D i k)).setIfInBounds d (.bool b)) 4 (0, 0)) := by
    obtain ⟨hlt, hk'⟩ := Array.getElem?_eq_some_iff.1 hb
    show (w.heap.modify (G (i * m + k)) _)[G (i * m + k)]? = _
    rw [Array.getElem?_eq_getElem (by rw [Array.size_modify]; exact hlt), Array.getElem_modify_self, hk']
    rfl
  have hother : ∀ g, g ≠ G (i * m + k) → (w.setCell ⟨G (i * m + k), d, none⟩ (.bool b)).heap[g]? = w.heap[g]? := fun g hg => Below.heap_setCell w ⟨G (i * m + k), d, none⟩ _ g hg
  obtain ⟨cs, hr⟩ := h.rty
  refine ⟨(hother gx (fun e => n1 e.symm)).trans h.blk, fun q hq => ?_, fun a e ha he => ?_, h.inj, ⟨cs, (hother gs (fun e => n2 e.symm)).trans hr⟩⟩
  · rw [World.cell?_setCell_other _ _ _ _ (fun e => n2 (by injection e))]
    exact h.row q hq
  · by_cases e1 : a = i ∧ e = k
    · obtain ⟨rfl, rfl⟩ := e1
      rw [hset, bitsA_set b hat (fun x hx => hoth a e x (fun q => hx q.2.2))]
    · have hg : G (a * m + e) ≠ G (i * m + k) := fun q => e1 (idxR_inj he hk (h.inj _ _ (idxR_lt ha he) (idxR_lt hi hk) q))
      rw [hother _ hg, h.bits a e ha he]
      have : D' a e = D a e := funext fun x => hoth a e x (fun q => e1 ⟨q.1, q.2.1⟩)
      rw [this]
end
/-- What restrict does with the residues below d. -/
structure Rst (m T i j k d : Nat) (D D' : Tab) (any : Bool) : Prop where
  keep : ∀ I, Tgh m T I D → Tgh m T I D'
  no : any = false → D' = D ∧ ∀ x, x < d → D i k x = true → sumB T (D i j) (D j k) x = true
  yes : any = true → totT m T D' < totT m T D
  le : totT m T D' ≤ totT m T D
theorem Rst.start (m T i j k : Nat) (D : Tab) : Rst m T i j k 0 D D false := ⟨fun _ h => h, fun _ => ⟨rfl, fun x hx => by omega⟩, (fun h => by cases h), Nat.le_refl _⟩
theorem Rst.skip {m T i j k d : Nat} {D D' : Tab} {any : Bool} (h : Rst m T i j k d D D' any) (hd : D' i k d = false ∨ sumB T (D' i j) (D' j k) d = true) : Rst m T i j k (d + 1) D D' any :=
  ⟨h.keep, fun ha => ⟨(h.no ha).1, fun x hx q => by
    by_cases e : x = d
    · subst e
      rw [(h.no ha).1] at hd
      rcases hd with hd | hd
      · rw [hd] at q; cases q
      · exact hd
    · exact (h.no ha).2 x (by omega) q⟩, h.yes, h.le⟩
theorem Rst.del {m T i j k d : Nat} {D D' : Tab} {any : Bool} (h : Rst m T i j k d D D' any) (hi : i < m) (hj : j < m) (hk : k < m) (hd : d < T) (h1 : D' i k d = true) (hn : sumB T (D' i j) (D' j k) d = false) : Rst m T i j k (d + 1) D (delT D' i k d) true := by
  have hlt := delT_lt hi hk hd h1
  have hle := h.le
  exact ⟨fun I hI => (h.keep I hI).del hi hj hk hd hn, (fun e => by cases e), (fun _ => by omega), by omega⟩
def RRestPost (w : World) (gz gx gs : Nat) (G : Nat → Nat) (m T c : Nat) (ev ac : Value) (i j k : Nat) (D : Tab) (e : Ending) (w' : World) : Prop :=
  ∃ (D' : Tab) (any : Bool), e = .returned (.bool any) ∧ Rst m T i j k T D D' any ∧ RfT w' gx gs G m T c ev ac D' ∧ Below gz w w'
theorem modI_res {T : Nat} (h : 1 ≤ T) (z : Int) : modI z T = (res T z : Nat) := by
  unfold modI
  rw [if_neg (by omega), res_val h]
set_option maxRecDepth 100000 in
set_option maxHeartbeats 8000000 in
theorem refRestrict_any (gz gx gs : Nat) (G : Nat → Nat) (m T c : Nat) (ev ac : Value) (i j k : Nat) (D : Tab) (w : World) (h : RfT w gx gs G m T c ev ac D) (hi : i < m) (hj : j < m) (hk : k < m) (hT : 1 ≤ T ∧ T ≤ 7200) (hG : ∀ q, q < m * m → gz ≤ G q) :
    Calls Try.prog 83 #[.pointer (some ⟨gx, 0, none⟩), .slice (some ⟨G (i * m + k), 0, none⟩) T T, .slice (some ⟨G (i * m + j), 0, none⟩) T T, .slice (some ⟨G (j * m + k), 0, none⟩) T T] w (RRestPost w gz gx gs G m T c ev ac i j k D) := by
  obtain ⟨x0, _, _, _⟩ := h.head
  have HG := Lib.hid (hG (i * m + k) (idxR_lt hi hk))
  go_enter Try.func83, Try.ntmps83
  go_wp2_with fail
  go_loopg [10, 11] T (fun g s10 s11 wr => ∃ (d : Nat) (D' : Tab) (any : Bool), d ≤ T ∧ g = T - d ∧ s11 = .int .i64 d ∧ s10 = .bool any ∧ Rst m T i j k d D D' any ∧ RfT wr gx gs G m T c ev ac D' ∧ Below gz w wr)
  case atStart => exact ⟨0, D, false, by omega, by omega, rfl, rfl, Rst.start m T i j k D, h, Below.refl _ _⟩
  case round =>
    obtain ⟨d, D', any, hd, hg, rfl, rfl, hrs, hrf, hb⟩ := hrel
    have HRS := Lib.hid hrs
    have HRF := Lib.hid hrf
    have HB := Lib.hid hb
    clear hrs hb
    by_cases hdT : d < T
    · obtain ⟨y0, f0⟩ := hrf.cell hi hk hdT
      have d0 : (0 : Int) ≤ (d : Int) := by omega
      have d1 : (d : Int) < (T : Int) := by omega
      cases hs : D' i k d with
      | false =>
        rw [hs] at y0
        have HN := Lib.hid (HRS.out.skip (.inl hs))
        clear hs hrf h
        go_wp2_with fail
        go_roundg (T - (d + 1))
        case measure => omega
        case rel => exact ⟨d + 1, D', any, by omega, rfl, by go_num, rfl, HN.out, HRF.out, HB.out⟩
      | true =>
        rw [hs] at y0
        have HS := Lib.hid hs
        obtain ⟨W, rfl⟩ : ∃ V : World, V = wr := ⟨_, rfl⟩
        clear hs hrf h
        go_wp2_with fail
        go_loopg [12, 13] T (fun g s12 s13 wr => ∃ (e q : Nat) (ok : Bool), e ≤ T ∧ g = T - e ∧ s13 = .int .i64 e ∧ s12 = .bool ok ∧ ok = sumK T (D' i j) (D' j k) d e ∧ wr = W.drewN q)
        case atStart => exact ⟨0, 0, false, by omega, by omega, rfl, rfl, rfl, rfl⟩
        case round =>
          obtain ⟨e, q, ok, he, hg2, rfl, rfl, hok, hwr⟩ := hrel
          subst hwr
          have HOK := Lib.hid hok
          have hrq : RfT (W.drewN q) gx gs G m T c ev ac D' := ⟨HRF.out.blk, HRF.out.row, HRF.out.bits, HRF.out.inj, HRF.out.rty⟩
          have hbq := below_drewN HB.out q
          by_cases heT : e < T
          · have he1 : decide (e < T) = true := decide_eq_true heT
            cases ok with
            | true =>
              have hsm : sumB T (D' i j) (D' j k) d = true := sumK_true (Nat.le_of_lt heT) HOK.out.symm
              have HN := Lib.hid (HRS.out.skip (.inr hsm))
              have HRQ := Lib.hid hrq
              have HBQ := Lib.hid hbq
              clear hrq hbq hsm hok
              go_wp2_with fail
              go_roundg (T - (d + 1))
              case measure => omega
              case rel => exact ⟨d + 1, D', any, by omega, rfl, by go_num, rfl, HN.out, HRQ.out, HBQ.out⟩
            | false =>
              obtain ⟨a0, _⟩ := HRF.out.cell hi hj heT
              have hlt := res_lt hT.1 ((d : Int) - e)
              obtain ⟨b0, _⟩ := HRF.out.cell hj hk hlt
              have hmd := fun V => refMod_any ((d : Int) - e) T V (by omega) (by omega)
              rw [modI_res hT.1] at hmd
              have HSK := Lib.hid (show sumK T (D' i j) (D' j k) d (e + 1) = (D' i j e && D' j k (res T ((d : Int) - e))) by rw [sumK_succ, ← HOK.out, Bool.false_or])
              generalize res T ((d : Int) - e) = r at *
              generalize D' i j e = pa at *
              generalize D' j k r = pb at *
              have sw : IntKind.i64.wrap ((d : Int) - e) = (d : Int) - e := IntWalk.i64_in _ (by omega)
              have e0 : (0 : Int) ≤ (e : Int) := by omega
              have e1 : (e : Int) < (T : Int) := by omega
              have r0 : (0 : Int) ≤ (r : Int) := by omega
              have r1 : (r : Int) < (T : Int) := by omega
              clear hrq hbq hok
              cases pa with
              | false =>
                go_wp2_with fail
                go_roundg (T - (e + 1))
                case measure => omega
                case rel => exact ⟨e + 1, q, _, by omega, rfl, by go_num, rfl, by rw [HSK.out]; rfl, rfl⟩
              | true =>
                go_wp2_with (go_at_call 44; refine (hmd _).mono ?_; rintro _ _ ⟨rfl, rfl⟩)
                go_roundg (T - (e + 1))
                case measure => omega
                case rel => exact ⟨e + 1, q, _, by omega, rfl, by go_num, rfl, by rw [HSK.out]; rfl, rfl⟩
          · have heE : e = T := by omega
            have hos : ok = sumB T (D' i j) (D' j k) d := by rw [HOK.out, heE, sumK_full]
            have HRQ := Lib.hid hrq
            have HBQ := Lib.hid hbq
            cases ok with
            | true =>
              have HN := Lib.hid (HRS.out.skip (.inr hos.symm))
              clear hrq hbq hok hos heE
              go_wp2_with fail
              go_roundg (T - (d + 1))
              case measure => omega
              case rel => exact ⟨d + 1, D', any, by omega, rfl, by go_num, rfl, HN.out, HRQ.out, HBQ.out⟩
            | false =>
              have HN := Lib.hid (HRS.out.del hi hj hk hdT HS.out hos.symm)
              have HP := Lib.hid (hrq.put hi hk (d := d) false (D' := delT D' i k d) (delT_at D' i k d) (fun a e x q => delT_other D' q))
              have HB2 := Lib.hid (hbq.setCell (p := ⟨G (i * m + k), d, none⟩) HG.out (.bool false))
              clear hrq hbq hok hos heE
              go_wp2_with fail
              go_roundg (T - (d + 1))
              case measure => omega
              case rel => exact ⟨d + 1, delT D' i k d, true, by omega, rfl, by go_num, rfl, HN.out, HP.out, HB2.out⟩
    · have hdE : d = T := by omega
      clear hrf h
      subst hdE
      go_wp2_with fail
      go_ret
      exact ⟨D', any, rfl, HRS.out, HRF.out, HB.out⟩
end Go.Proofs.Ytbhjnihcmfagjaa

namespace Go.Proofs.Ytbhjnihcmfagjaa
open Go.RowKit RP

/-- What a pass has done with the triples below s. -/
structure Pas (m T s : Nat) (D D' : Tab) (any : Bool) : Prop where
  keep : ∀ I, Tgh m T I D → Tgh m T I D'
  no : any = false → D' = D ∧ ∀ i j k, i < m → j < m → k < m → (i * m + j) * m + k < s → ∀ x, x < T → D i k x = true → sumB T (D i j) (D j k) x = true
  yes : any = true → totT m T D' < totT m T D
  le : totT m T D' ≤ totT m T D
theorem Pas.start (m T : Nat) (D : Tab) : Pas m T 0 D D false := ⟨fun _ h => h, fun _ => ⟨rfl, fun _ _ _ _ _ _ h => by omega⟩, (fun h => by cases h), Nat.le_refl _⟩
theorem Pas.step {m T i j k s : Nat} {D D1 D2 : Tab} {any a2 : Bool} (h : Pas m T s D D1 any) (hj : j < m) (hk : k < m) (hs : s = (i * m + j) * m + k) (hr : Rst m T i j k T D1 D2 a2) : Pas m T (s + 1) D D2 (any || a2) := by
  refine ⟨fun I hI => hr.keep I (h.keep I hI), fun ha => ?_, fun ha => ?_, Nat.le_trans hr.le h.le⟩
  · rw [Bool.or_eq_false_iff] at ha
    obtain ⟨e1, h1⟩ := h.no ha.1
    obtain ⟨e2, h2⟩ := hr.no ha.2
    refine ⟨e2.trans e1, fun i' j' k' hi' hj' hk' hlt x hx q => ?_⟩
    by_cases e : (i' * m + j') * m + k' = s
    · rw [hs] at e
      obtain ⟨e3, e4⟩ := idxR_inj hk' hk e
      obtain ⟨e5, e6⟩ := idxR_inj hj' hj e3
      subst e4 e5 e6
      rw [e1] at h2
      exact h2 x hx q
    · exact h1 i' j' k' hi' hj' hk' (by omega) x hx q
  · have h1 := hr.le
    have h2 := h.le
    cases any with
    | true => have := h.yes rfl; omega
    | false =>
      have := hr.yes (by simpa using ha)
      omega
/-- A pass: nothing taken away, and the table is the greatest; or it is smaller. -/
theorem Pas.done {m T : Nat} {D D' : Tab} {any : Bool} (h : Pas m T (m * m * m) D D' any) {I : Tab} (hI : Tgh m T I D) : Tgh m T I D' ∧ (any = false → D' = D ∧ Great m T I D) ∧ (any = true → totT m T D' < totT m T D) :=
  ⟨h.keep I hI, fun ha => ⟨(h.no ha).1, hI.done fun i j k hi hj hk d hd q => (h.no ha).2 i j k hi hj hk (by
    have h1 := idxR_lt hi hj
    have h2 := Nat.mul_le_mul_right m (show i * m + j + 1 ≤ m * m from h1)
    rw [Nat.add_mul, Nat.one_mul] at h2
    omega) d hd q⟩, h.yes⟩
def TightPost (w : World) (gz gx gs : Nat) (G : Nat → Nat) (m T c : Nat) (ev ac : Value) (D : Tab) (e : Ending) (w' : World) : Prop :=
  ∃ (D' : Tab) (any : Bool), e = .returned (.bool any) ∧ Pas m T (m * m * m) D D' any ∧ RfT w' gx gs G m T c ev ac D' ∧ Below gz w w'
set_option maxRecDepth 100000 in
set_option maxHeartbeats 8000000 in
theorem refTighten_any (gz gx gs : Nat) (G : Nat → Nat) (m T c : Nat) (E : Option Addr) (cE : Nat) (ac : Value) (D : Tab) (w : World) (h : RfT w gx gs G m T c (.slice E m cE) ac D) (hm : m ≤ 48) (hT : 1 ≤ T ∧ T ≤ 7200) (hG : ∀ q, q < m * m → gz ≤ G q) :
    Calls Try.prog 71 #[.pointer (some ⟨gx, 0, none⟩)] w (TightPost w gz gx gs G m T c (.slice E m cE) ac D) := by
  obtain ⟨_, x1, _, _⟩ := h.head
  have hmm := Nat.mul_le_mul hm hm
  go_enter Try.func71, Try.ntmps71
  go_wp2_with fail
  go_loopg [4, 5] m (fun g s4 s5 wr => ∃ (i : Nat) (D' : Tab) (any : Bool), i ≤ m ∧ g = m - i ∧ s5 = .int .i64 i ∧ s4 = .bool any ∧ Pas m T (i * m * m) D D' any ∧ RfT wr gx gs G m T c (.slice E m cE) ac D' ∧ Below gz w wr)
  case atStart => exact ⟨0, D, false, by omega, by omega, rfl, rfl, by rw [Nat.zero_mul, Nat.zero_mul]; exact Pas.start m T D, h, Below.refl _ _⟩
  case round =>
    obtain ⟨i, D1, a1, hi, hg, rfl, rfl, hp1, hr1, hb1⟩ := hrel
    have HP1 := Lib.hid hp1
    have HR1 := Lib.hid hr1
    have HB1 := Lib.hid hb1
    clear hp1 hr1 hb1 h
    by_cases hlt : i < m
    · go_wp2_with fail
      go_loopg [4, 6] m (fun g s4 s6 wr => ∃ (j : Nat) (D' : Tab) (any : Bool), j ≤ m ∧ g = m - j ∧ s6 = .int .i64 j ∧ s4 = .bool any ∧ Pas m T ((i * m + j) * m) D D' any ∧ RfT wr gx gs G m T c (.slice E m cE) ac D' ∧ Below gz w wr)
      case atStart => exact ⟨0, D1, a1, by omega, by omega, rfl, rfl, by rw [Nat.add_zero]; exact HP1.out, HR1.out, HB1.out⟩
      case round =>
        obtain ⟨j, D2, a2, hj, hg2, rfl, rfl, hp2, hr2, hb2⟩ := hrel
        have HP2 := Lib.hid hp2
        have HR2 := Lib.hid hr2
        have HB2 := Lib.hid hb2
        clear hp2 hr2 hb2
        by_cases hlt2 : j < m
        · go_wp2_with fail
          go_loopg [4, 7] m (fun g s4 s7 wr => ∃ (k : Nat) (D' : Tab) (any : Bool), k ≤ m ∧ g = m - k ∧ s7 = .int .i64 k ∧ s4 = .bool any ∧ Pas m T ((i * m + j) * m + k) D D' any ∧ RfT wr gx gs G m T c (.slice E m cE) ac D' ∧ Below gz w wr)
          case atStart => exact ⟨0, D2, a2, by omega, by omega, rfl, rfl, by rw [Nat.add_zero]; exact HP2.out, HR2.out, HB2.out⟩
          case round =>
            obtain ⟨k, D3, a3, hk, hg3, rfl, rfl, hp3, hr3, hb3⟩ := hrel
            have HP3 := Lib.hid hp3
            have HB3 := Lib.hid hb3
            by_cases hlt3 : k < m
            · have l1 := idxR_lt hlt hlt3
              have l2 := idxR_lt hlt hlt2
              have l3 := idxR_lt hlt2 hlt3
              have hrd : RfT { wr with drawn := wr.drawn + 1 } gx gs G m T c (.slice E m cE) ac D3 := ⟨hr3.blk, hr3.row, hr3.bits, hr3.inj, hr3.rty⟩
              have hbd := Lib.hid (show Below gz w { wr with drawn := wr.drawn + 1 } from below_drewN hb3 1)
              have hre := refRestrict_any gz gx gs G m T c (.slice E m cE) ac i j k D3 { wr with drawn := wr.drawn + 1 } hrd hlt hlt2 hlt3 hT hG
              obtain ⟨_, x1', _, y3'⟩ := hrd.head
              have r1 := hrd.row _ l1
              have r2 := hrd.row _ l2
              have r3 := hrd.row _ l3
              clear hrd
              have e1 : ((i * m : Nat) : Int) = (i : Int) * (m : Int) := by push_cast; rfl
              have e2 : ((j * m : Nat) : Int) = (j : Int) * (m : Int) := by push_cast; rfl
              have sw1 : IntKind.i64.wrap ((i : Int) * (m : Int)) = (i : Int) * (m : Int) := by rw [← e1]; exact IntWalk.i64_in _ (by omega)
              have sw2 : IntKind.i64.wrap ((j : Int) * (m : Int)) = (j : Int) * (m : Int) := by rw [← e2]; exact IntWalk.i64_in _ (by omega)
              obtain ⟨mm, hmm2⟩ : ∃ z, z = m * m := ⟨_, rfl⟩
              rw [← hmm2] at y3' l1 l2 l3 hmm
              obtain ⟨q1, hq1⟩ : ∃ q, q = i * m + k := ⟨_, rfl⟩
              obtain ⟨q2, hq2⟩ : ∃ q, q = i * m + j := ⟨_, rfl⟩
              obtain ⟨q3, hq3⟩ : ∃ q, q = j * m + k := ⟨_, rfl⟩
              rw [← hq1, ← hq2, ← hq3] at hre
              rw [← hq1] at r1 l1
              rw [← hq2] at r2 l2
              rw [← hq3] at r3 l3
              have sw3 : IntKind.i64.wrap ((i : Int) * (m : Int) + (k : Int)) = (q1 : Int) := by rw [← e1, hq1, IntWalk.i64_in _ (by omega)]; push_cast; rfl
              have sw4 : IntKind.i64.wrap ((i : Int) * (m : Int) + (j : Int)) = (q2 : Int) := by rw [← e1, hq2, IntWalk.i64_in _ (by omega)]; push_cast; rfl
              have sw5 : IntKind.i64.wrap ((j : Int) * (m : Int) + (k : Int)) = (q3 : Int) := by rw [← e2, hq3, IntWalk.i64_in _ (by omega)]; push_cast; rfl
              have b1 : (0 : Int) ≤ (q1 : Int) := by omega
              have b2 : (q1 : Int) < (mm : Int) := by omega
              have b3 : (0 : Int) ≤ (q2 : Int) := by omega
              have b4 : (q2 : Int) < (mm : Int) := by omega
              have b5 : (0 : Int) ≤ (q3 : Int) := by omega
              have b6 : (q3 : Int) < (mm : Int) := by omega
              clear hq1 hq2 hq3 hmm2 e1 e2 hr3 hp3 hb3 hmm l1 l2 l3
              go_upto_region 11 with fail
              refine wp_region_still_tail 34 (by kernel_rfl) (by kernel_rfl) ?_
              simp only [List.take_succ_cons, List.take_zero, List.drop_succ_cons, List.drop_zero]
              generalize ({ wr with drawn := wr.drawn + 1 } : World) = V at *
              iterate 34 still_step
              refine wpStill_nil ?_
              go_wp2_with fail
              go_at_call 83
              refine hre.mono ?_
              rintro _ w5 ⟨D4, a4, rfl, hrst, hrf4, hbb⟩
              have HP5 := Lib.hid (Pas.step HP3.out hlt2 hlt3 rfl hrst)
              have HR5 := Lib.hid hrf4
              have HB5 := Lib.hid (hbd.out.trans hbb)
              clear hrst hrf4 hbb hre hbd y3' r1 r2 r3
              cases a4 with
              | true =>
                rw [Bool.or_true] at HP5
                go_wp2_with fail
                go_roundg (m - (k + 1))
                case measure => omega
                case rel => exact ⟨k + 1, D4, true, by omega, rfl, by go_num, rfl, HP5.out, HR5.out, HB5.out⟩
              | false =>
                rw [Bool.or_false] at HP5
                go_wp2_with fail
                go_roundg (m - (k + 1))
                case measure => omega
                case rel => exact ⟨k + 1, D4, a3, by omega, rfl, by go_num, rfl, HP5.out, HR5.out, HB5.out⟩
            · have hkE : k = m := by omega
              have HP4 := Lib.hid (show Pas m T ((i * m + (j + 1)) * m) D D3 a3 by
                have h := HP3.out
                rw [hkE] at h
                rw [← Nat.add_assoc, Nat.add_mul (i * m + j), Nat.one_mul]; exact h)
              have HR3 := Lib.hid hr3
              clear hr3 hp3 hb3 hkE
              go_wp2_with fail
              go_roundg (m - (j + 1))
              case measure => omega
              case rel => exact ⟨j + 1, D3, a3, by omega, rfl, by go_num, rfl, HP4.out, HR3.out, HB3.out⟩
        · have hjE : j = m := by omega
          have HP4 := Lib.hid (show Pas m T ((i + 1) * m * m) D D2 a2 by
            have h := HP2.out
            rw [hjE] at h
            rw [Nat.add_mul i, Nat.one_mul]; exact h)
          clear hjE
          go_wp2_with fail
          go_roundg (m - (i + 1))
          case measure => omega
          case rel => exact ⟨i + 1, D2, a2, by omega, rfl, by go_num, rfl, HP4.out, HR2.out, HB2.out⟩
    · have hiE : i = m := by omega
      subst hiE
      go_wp2_with fail
      go_ret
      exact ⟨D1, a1, rfl, HP1.out, HR1.out, HB1.out⟩
end Go.Proofs.Ytbhjnihcmfagjaa

namespace Go.Proofs.Ytbhjnihcmfagjaa
open Go.RowKit RP

theorem RfT.congr {w : World} {gx gs : Nat} {G : Nat → Nat} {m T c : Nat} {ev ac : Value} {D D' : Tab} (h : RfT w gx gs G m T c ev ac D) (he : ∀ a b x, a < m → b < m → x < T → D a b x = D' a b x) : RfT w gx gs G m T c ev ac D' :=
  ⟨h.blk, h.row, fun i j hi hj => by
    rw [h.bits i j hi hj]
    have : bitsA T (D i j) = bitsA T (D' i j) := by
      unfold bitsA
      congr 1
      exact List.map_congr_left fun x hx => by rw [he i j x hi hj (List.mem_range.1 hx)]
    rw [this], h.inj, h.rty⟩
/-- The value of a set of the reference: a whole row of T marks. -/
def encG (T : Nat) (g : Nat) : List Value := [.slice (some ⟨g, 0, none⟩) T T]
theorem encG_len (T : Nat) (g : Nat) : (encG T g).length = 1 := rfl
theorem infoRow : (Try.prog.info? 70).map (fun i => (i.zero, i.size, i.bytes)) = some (some (.slice none 0 0), 1, 24) := by kernel_rfl
theorem elemG (T : Nat) : ElemOk Try.prog (encG T) 1 70 24 :=
  ⟨fun _ => rfl, by omega, fun x u hu => by
    simp only [encG, List.mem_cons, List.not_mem_nil, or_false] at hu
    rcases hu with rfl
    rfl, by
    obtain ⟨i, hi, h0, h1, h2⟩ := info_parts infoRow
    exact ⟨i, _, hi, h0, h1, h2, rfl⟩⟩
/-- The table while its sets are laid. -/
structure RfB (w : World) (gx m T : Nat) (ev ac v : Value) (L : List Nat) : Prop where
  blk : w.heap[gx]? = some (.cells #[.int .i64 T, ev, ac, v] 104 (0, 0))
  own : Own (encG T) 1 70 w (gx + 1) v L
  bits : ∀ p (hp : p < L.length), w.heap[L[p]]? = some (.cells (bitsA T (baseT (p / m) (p % m))) 4 (0, 0))
  nod : L.Nodup
  gt : ∀ g ∈ L, gx < g
section
variable {w w' : World} {gx m T : Nat} {ev ac v : Value} {L : List Nat}
theorem RfB.lt (h : RfB w gx m T ev ac v L) : gx < w.heap.size := (Array.getElem?_eq_some_iff.1 h.blk).1
theorem RfB.below (h : RfB w gx m T ev ac v L) (hb : Below w.heap.size w w') : RfB w' gx m T ev ac v L :=
  ⟨(hb.block gx h.lt).trans h.blk, h.own.below' hb, fun p hp => (hb.block _ (Array.getElem?_eq_some_iff.1 (h.bits p hp)).1).trans (h.bits p hp), h.nod, h.gt⟩
theorem RfB.ty (h : RfB w gx m T ev ac v L) {g : Nat} (hg : v.ownBlock = some g) : ∃ cs, w.heap[g]? = some (.cells cs 70 (0, 0)) := by
  rcases h.own.2 with ⟨rfl, _⟩ | ⟨g', cap, cur, rfl, _, hh, _⟩
  · simp [Value.ownBlock] at hg
  · simp only [Value.ownBlock, Option.some.injEq] at hg
    subst hg
    exact ⟨_, hh⟩
/-- A set is appended. -/
theorem RfB.push (h : RfB w gx m T ev ac v L) {gb : Nat} (hgb : gx < gb) (hn : gb ∉ L) (hb : w.heap[gb]? = some (.cells (bitsA T (baseT (L.length / m) (L.length % m))) 4 (0, 0)))
    {v' : Value} (ho : Own (encG T) 1 70 w' (gx + 1) v' (L ++ [gb])) (hg : w.grownBy w' v.ownBlock) :
    RfB (w'.setCell ⟨gx, 3, none⟩ v') gx m T ev ac v' (L ++ [gb]) := by
  have keep : ∀ (g : Nat) (cs : Array Value) (t : TypeId), w.heap[g]? = some (Obj.cells cs t (0, 0)) → t ≠ 70 → w'.heap[g]? = some (Obj.cells cs t (0, 0)) := fun g cs t hc ht => by
    refine (hg.block g (Array.getElem?_eq_some_iff.1 hc).1 (fun e => ?_)).trans hc
    obtain ⟨cs', q⟩ := h.ty e.symm
    rw [hc] at q
    injection q with q; injection q with _ q
    exact ht q
  have hne : ∀ g, gx < g → (w'.setCell ⟨gx, 3, none⟩ v').heap[g]? = w'.heap[g]? := fun g q => Below.heap_setCell w' ⟨gx, 3, none⟩ _ g (by show g ≠ gx; omega)
  have hx := keep gx _ _ h.blk (by decide)
  refine ⟨?_, ho.setBelow (a := ⟨gx, 3, none⟩) (Nat.lt_succ_self gx) v', fun p hp => ?_, ?_, fun g hm => ?_⟩
  · obtain ⟨hlt, hk'⟩ := Array.getElem?_eq_some_iff.1 hx
    show (w'.heap.modify gx _)[gx]? = _
    rw [Array.getElem?_eq_getElem (by rw [Array.size_modify]; exact hlt), Array.getElem_modify_self, hk']
    rfl
  · rw [List.length_append, List.length_singleton] at hp
    by_cases e : p < L.length
    · rw [List.getElem_append_left e, hne _ (h.gt _ (List.getElem_mem e))]
      exact keep _ _ _ (h.bits p e) (by decide)
    · obtain rfl : p = L.length := by omega
      rw [List.getElem_append_right (Nat.le_refl _)]
      simp only [Nat.sub_self, List.getElem_cons_zero]
      rw [hne _ hgb]
      exact keep _ _ _ hb (by decide)
  · rw [List.nodup_append]
    exact ⟨h.nod, by simp, fun a ha b hb e => hn (by simp at hb; rw [← hb, ← e]; exact ha)⟩
  · rcases List.mem_append.1 hm with q | q
    · exact h.gt g q
    · simp at q; omega
theorem RfB.kx (h : RfB w gx m T ev ac v L) (hg : w.grownBy w' v.ownBlock) :
    w'.cell? ⟨gx, 3, none⟩ = some v ∧ w'.frozen? ⟨gx, 3, none⟩ = false := by
  have hx : w'.heap[gx]? = _ := (hg.block gx h.lt (fun e => by
    obtain ⟨cs', q⟩ := h.ty e.symm
    rw [h.blk] at q
    injection q with q; injection q with _ q
    exact absurd q (by decide))).trans h.blk
  exact ⟨by rw [cell_of_row w' _ 3 _ _ _ hx]; rfl, by simp [World.frozen?, hx]⟩
/-- All sets are laid. -/
theorem RfB.done (h : RfB w gx m T ev ac v L) (hm : 1 ≤ m) (hl : L.length = m * m) : ∃ gs c, v = .slice (some ⟨gs, 0, none⟩) (m * m) c ∧ RfT w gx gs (fun q => L.getD q 0) m T c ev ac baseT ∧ (∀ q, q < m * m → gx < L.getD q 0) ∧ m * m ≤ c := by
  have hpos : 0 < m * m := Nat.mul_pos hm hm
  have hne : L ≠ [] := fun e => by rw [e] at hl; simp at hl; omega
  obtain ⟨gs, c, hv, _, _, hc, hcell, _⟩ := h.own.at_ (encG_len T) hne
  have hty := h.ty (g := gs) (by rw [hv]; rfl)
  have hblk := h.blk
  rw [hl] at hv hc
  rw [hv] at hblk
  have hget : ∀ q, q < m * m → ∃ hq : q < L.length, L.getD q 0 = L[q] := fun q hq => ⟨by omega, by rw [List.getD_eq_getElem?_getD, List.getElem?_eq_getElem (by omega)]; rfl⟩
  refine ⟨gs, c, hv, ⟨hblk, fun q hq => ?_, fun i j hi hj => ?_, fun q q' hq hq' e => ?_, hty⟩, fun q hq => ?_, hc⟩
  · obtain ⟨h1, h2⟩ := hget q hq
    have := hcell q L[q] (List.getElem?_eq_getElem h1) 0 _ rfl
    rw [Nat.mul_one, Nat.add_zero] at this
    rw [this, h2]
  · have hij := idxR_lt hi hj
    obtain ⟨h1, h2⟩ := hget _ hij
    have e1 : (i * m + j) / m = i := by rw [Nat.mul_comm, Nat.mul_add_div (by omega), Nat.div_eq_of_lt hj, Nat.add_zero]
    have e2 : (i * m + j) % m = j := by rw [Nat.mul_comm, Nat.mul_add_mod, Nat.mod_eq_of_lt hj]
    have := h.bits _ h1
    rw [e1, e2] at this
    rw [h2]; exact this
  · obtain ⟨h1, h2⟩ := hget q hq
    obtain ⟨h3, h4⟩ := hget q' hq'
    rw [h2, h4] at e
    rcases Nat.lt_trichotomy q q' with a | a | a
    · exact absurd e (List.pairwise_iff_getElem.1 h.nod q q' h1 h3 a)
    · exact a
    · exact absurd e.symm (List.pairwise_iff_getElem.1 h.nod q' q h3 h1 a)
  · obtain ⟨h1, h2⟩ := hget q hq
    rw [h2]
    exact h.gt _ (List.getElem_mem h1)
end
theorem initS {m T : Nat} (h1 : 1 ≤ T) (l : List Acy) (hok : ∀ x ∈ l, okA m T x) : ∀ k, ∃ e, Ini m T (initT T (l.take k)) e
  | 0 => ⟨false, Ini.base h1⟩
  | k + 1 => by
    obtain ⟨e, h⟩ := initS h1 l hok k
    by_cases hk : k < l.length
    · obtain ⟨a1, a2, a3, a4, a5, _⟩ := hok l[k] (List.getElem_mem hk)
      rw [take_snoc l k hk, initT_snoc]
      exact ⟨_, h.step h1 (by omega) (by omega) (by omega)⟩
    · rw [List.take_of_length_le (by omega)] at h ⊢
      exact ⟨e, h⟩
theorem made_bits (T : Nat) : madeCells #[.bool false] (T * 1) = bitsA T fun _ => false := by
  rw [Nat.mul_one]
  refine Array.ext_getElem? fun i => ?_
  rw [← Array.getElem?_toList, madeCells_toList]
  unfold bitsA
  rw [List.getElem?_toArray, List.getElem?_map, List.getElem?_replicate]
  by_cases hi : i < T
  · rw [if_pos hi, List.getElem?_range hi]; rfl
  · rw [if_neg hi, List.getElem?_eq_none (by simp; omega)]; rfl
def RefPost (w : World) (m T : Nat) (l : List Acy) (E : Option Addr) (cE : Nat) (A : Option Addr) (cA : Nat) (e : Ending) (w' : World) : Prop :=
  ∃ gx gs G c D, e = .returned (.tuple #[.pointer (some ⟨gx, 0, none⟩), .int .i64 0]) ∧ Great m T (initT T l) D ∧ RfT w' gx gs G m T c (.slice E m cE) (.slice A l.length cA) D ∧ Below w.heap.size w w'
end Go.Proofs.Ytbhjnihcmfagjaa

namespace Go.Proofs.Ytbhjnihcmfagjaa
open Go.RowKit RP

set_option maxRecDepth 100000 in
set_option maxHeartbeats 8000000 in
theorem refClose_any (T : Nat) (E : Option Addr) (m cE : Nat) (A : Option Addr) (cA : Nat) (l : List Acy) (w : World) (hl : Lst encA 6 w w.heap.size A l) (hm : 1 ≤ m) (hyes : netB T m l = true) :
    Calls Try.prog 58 #[netV T E m cE A l.length cA] w (RefPost w m T l E cE A cA) := by
  have hv := netB_iff.1 hyes
  have ba := belA w (.cells #[.int .i64 T, .slice E m cE, .slice A l.length cA] 25)
  have hnew := heap_alloc_new w (.cells #[.int .i64 T, .slice E m cE, .slice A l.length cA] 25)
  obtain ⟨⟨t1, t2, t3, t4⟩, hok⟩ := hv
  have HOK := Lib.hid hok
  have HINI := Lib.hid (fun k => initS (m := m) (T := T) (by omega) l hok k)
  clear hok
  go_enter Try.func58, Try.ntmps58
  go_wp2_with fail
  refine (refNet_any T E m cE A cA l _ (hl.belowMore ba (by simp)) (by omega)).mono ?_
  rintro e w1 ⟨rfl, hb⟩
  rw [hyes]
  rw [World.size_alloc] at hb
  have hbl := (hb.block w.heap.size (by omega)).trans hnew
  have HB := Lib.hid (ba.trans (hb.mono (by omega)))
  have n0 : w1.cell? ⟨w.heap.size, 0, none⟩ = some (.int .i64 T) := by rw [cell_of_row w1 _ 0 _ _ _ hbl]; rfl
  have n1 : w1.cell? ⟨w.heap.size, 1, none⟩ = some (.slice E m cE) := by rw [cell_of_row w1 _ 1 _ _ _ hbl]; rfl
  have n2 : w1.cell? ⟨w.heap.size, 2, none⟩ = some (.slice A l.length cA) := by rw [cell_of_row w1 _ 2 _ _ _ hbl]; rfl
  have z1 : w.heap.size + 1 ≤ w1.heap.size := by have := hb.size; rw [World.size_alloc] at this; omega
  have HL := Lib.hid (hl.belowMore HB.out (show w.heap.size ≤ w1.heap.size by omega))
  clear ba hb hnew hl hyes
  have HBL := Lib.hid hbl
  clear hbl
  generalize hnb : w.heap.size = nb at *
  have HNB := Lib.hid hnb
  clear hnb
  go_upto_region 3 with fail
  go_quiet (fail)
  have n0' : (w1.drewN nq).cell? ⟨nb, 0, none⟩ = some (.int .i64 T) := n0
  have n1' : (w1.drewN nq).cell? ⟨nb, 1, none⟩ = some (.slice E m cE) := n1
  have n2' : (w1.drewN nq).cell? ⟨nb, 2, none⟩ = some (.slice A l.length cA) := n2
  have HBL2 : Hid ((w1.drewN nq).heap[nb]? = _) := Lib.hid HBL.out
  have HL2 := Lib.hid (show Lst encA 6 (w1.drewN nq) (w1.drewN nq).heap.size A l from HL.out)
  have HB2 := Lib.hid (below_drewN HB.out nq)
  have z2 : nb + 1 ≤ (w1.drewN nq).heap.size := z1
  clear n0 n1 n2 HBL HL HB z1
  generalize w1.drewN nq = w2 at *
  go_upto_region 5 with fail
  have hb0 : RfB (w2.alloc (.cells #[.int .i64 T, .slice E m cE, .slice A l.length cA, .slice none 0 0] 104)) w2.heap.size m T (.slice E m cE) (.slice A l.length cA) (.slice none 0 0) [] := ⟨heap_alloc_new _ _, Own.nil _ _ _ _ _, fun p hp => absurd hp (by simp), List.nodup_nil, by simp⟩
  have hbe0 := belA w2 (.cells #[.int .i64 T, .slice E m cE, .slice A l.length cA, .slice none 0 0] 104)
  have HB0 := Lib.hid hb0
  have HBE0 := Lib.hid hbe0
  generalize w2.alloc (.cells #[.int .i64 T, .slice E m cE, .slice A l.length cA, .slice none 0 0] 104) = w3 at *
  obtain ⟨i1, hi1, hy0, hy1, hy2⟩ := info_parts infoBl
  have mk0 := fun W => run_make_rowN (P := Try.prog) 70 4 i1 _ Try.underlying70 hi1 hy0 .i64 .i64 T T (Nat.le_refl _) (by rw [hy2]; omega) (by omega) W
  rw [hy1] at mk0
  have mk := fun W => (mk0 W).trans (show _ = Result.ok (.slice (some ⟨W.heap.size, 0, none⟩) T T) (W.alloc (.cells (bitsA T fun _ => false) 4)) by rw [← made_bits]; rfl)
  clear mk0 hi1 hy0 hy1 hy2 hb0 hbe0
  generalize hgx : w2.heap.size = gx at *
  have HGX := Lib.hid hgx
  clear hgx
  go_wp2_with fail
  go_loopg [7] m (fun g s7 wr => ∃ (i : Nat) (v : Value) (L : List Nat), i ≤ m ∧ g = m - i ∧ s7 = .int .i64 i ∧ L.length = i * m ∧ RfB wr gx m T (.slice E m cE) (.slice A l.length cA) v L ∧ Below gx w2 wr)
  case atStart => exact ⟨0, _, [], by omega, by omega, rfl, by simp, HB0.out, HBE0.out⟩
  case round =>
    obtain ⟨i, v1, L1, hi, hg, rfl, hL1, hr1, hb1⟩ := hrel
    have HR1 := Lib.hid hr1
    have HB1 := Lib.hid hb1
    have HL1 := Lib.hid hL1
    clear hr1 hb1 HB0 HBE0 hL1
    by_cases hlt : i < m
    · go_wp2_with fail
      go_loopg [8] m (fun g s8 wr => ∃ (j : Nat) (v : Value) (L : List Nat), j ≤ m ∧ g = m - j ∧ s8 = .int .i64 j ∧ L.length = i * m + j ∧ RfB wr gx m T (.slice E m cE) (.slice A l.length cA) v L ∧ Below gx w2 wr)
      case atStart => exact ⟨0, _, L1, by omega, by omega, rfl, by rw [HL1.out]; rfl, HR1.out, HB1.out⟩
      case round =>
        obtain ⟨j, v2, L2, hj, hg2, rfl, hL2, hr2, hb2⟩ := hrel
        have HR2 := Lib.hid hr2
        have HB2 := Lib.hid hb2
        have HLL2 := Lib.hid hL2
        clear hr2 hb2 hL2
        by_cases hlt2 : j < m
        · obtain ⟨W0, rfl⟩ : ∃ W0 : World, W0 = wr := ⟨_, rfl⟩
          go_wp2_with fail
          have hnew := heap_alloc_new W0 (.cells (bitsA T fun _ => false) 4)
          have hbel := belA W0 (.cells (bitsA T fun _ => false) 4)
          go_loopg [10] T (fun g s10 wr => ∃ d : Nat, d ≤ T ∧ g = T - d ∧ s10 = .int .i64 d ∧ wr.heap[W0.heap.size]? = some (.cells (bitsA T fun x => decide (x < d) && baseT i j x) 4 (0, 0)) ∧ Below W0.heap.size W0 wr)
          case atStart => exact ⟨0, by omega, by omega, rfl, by rw [hnew]; rfl, hbel⟩
          case round =>
            obtain ⟨d, hd, hg3, rfl, hrow, hb3⟩ := hrel
            have HROW := Lib.hid hrow
            have HB3 := Lib.hid hb3
            by_cases hdT : d < T
            · have y0 : wr.cell? ⟨W0.heap.size, d, none⟩ = some (.bool (decide (d < d) && baseT i j d)) := by rw [cell_of_row wr _ d _ _ _ hrow]; exact bitsA_get hdT
              have f0 : wr.frozen? ⟨W0.heap.size, d, none⟩ = false := by simp [World.frozen?, hrow]
              have HST := Lib.hid (show ∀ b, baseT i j d = b → (wr.setCell ⟨W0.heap.size, d, none⟩ (.bool b)).heap[W0.heap.size]? = some (.cells (bitsA T fun x => decide (x < d + 1) && baseT i j x) 4 (0, 0)) from fun b hb => by
                rw [set_block (w := wr) (.bool b) hrow, bitsA_set b (Q := fun x => decide (x < d + 1) && baseT i j x) (by simp [hb]) (fun x hx => by
                  have : decide (x < d + 1) = decide (x < d) := decide_eq_decide.2 (by omega)
                  show (decide (x < d + 1) && baseT i j x) = _
                  rw [this])])
              clear hrow hb3
              by_cases e : i = j
              · have HS2 := Lib.hid (HST.out ((d : Int) == 0) (by
                  rw [show baseT i j d = decide (d = 0) by simp [baseT, e]]
                  by_cases q : d = 0
                  · subst q; rfl
                  · simp [q]))
                clear HST
                go_wp2_with fail
                go_roundg (T - (d + 1))
                case measure => omega
                case rel => exact ⟨d + 1, by omega, rfl, by go_num, HS2.out, HB3.out.setCell (p := ⟨W0.heap.size, d, none⟩) (Nat.le_refl _) _⟩
              · have HS2 := Lib.hid (HST.out true (by simp [baseT, e]))
                clear HST
                go_wp2_with fail
                go_roundg (T - (d + 1))
                case measure => omega
                case rel => exact ⟨d + 1, by omega, rfl, by go_num, HS2.out, HB3.out.setCell (p := ⟨W0.heap.size, d, none⟩) (Nat.le_refl _) _⟩
            · have hfull : (bitsA T fun x => decide (x < d) && baseT i j x) = bitsA T (baseT i j) := by
                unfold bitsA
                congr 1
                exact List.map_congr_left fun x hx => by
                  have : decide (x < d) = true := decide_eq_true (by have := List.mem_range.1 hx; omega)
                  show Value.bool (decide (x < d) && baseT i j x) = _
                  rw [this, Bool.true_and]
              rw [hfull] at hrow
              have HR16 := Lib.hid hrow
              have HRX := Lib.hid (HR2.out.below hb3)
              have hx := HRX.out.blk
              obtain ⟨A2, c2, rfl⟩ := HRX.out.own.form
              have x3 : wr.cell? ⟨gx, 3, none⟩ = some (.slice A2 L2.length c2) := by rw [cell_of_row wr _ 3 _ _ _ hx]; rfl
              have hlb : L2.length < 2304 := by
                have h1 := idxR_lt hlt hlt2
                have h2 := Nat.mul_le_mul t3 t3
                rw [HLL2.out]; omega
              have hgl : gx < W0.heap.size := HR2.out.lt
              have hgr : gx < wr.heap.size := HRX.out.lt
              have hWr : W0.heap.size < wr.heap.size := (Array.getElem?_eq_some_iff.1 hrow).1
              have HNI := Lib.hid (show W0.heap.size ∉ L2 from fun q => by
                obtain ⟨p, hp, e⟩ := List.mem_iff_getElem.1 q
                have := (Array.getElem?_eq_some_iff.1 (HR2.out.bits p hp)).1
                omega)
              have HB4 := Lib.hid (HB2.out.trans (hb3.mono (by omega)))
              clear hrow hb3 hx hfull HROW HB3
              go_upto_region 16 with fail
              go_wp2_with (at_builtin; refine wpList_append_rec rfl _ _ 102 rfl (gx + 1) 70 24 Try.underlying102 (elemG T) (.slice A2 L2.length c2) L2 rfl HRX.out.own [W0.heap.size] _ rfl 1 1 rfl rfl (by simp only [Go.maxLen, List.length_cons, List.length_nil]; omega) (by simp only [List.length_cons, List.length_nil]; omega) (by omega) ?_; intro v5 w5 ho5 hg5 hat5; have HGR := Lib.hid (show wr.grownBy w5 (Value.slice A2 L2.length c2).ownBlock from hg5); have HO5 := Lib.hid ho5; obtain ⟨y5, f5⟩ := HRX.out.kx HGR.out; clear hg5 hat5 ho5; obtain ⟨A5, c5, he5⟩ := HO5.out.form; rw [List.length_append, List.length_singleton] at he5; subst he5)
              have hp := HRX.out.push (gb := W0.heap.size) hgl HNI.out (by
                have e1 : L2.length / m = i := by rw [HLL2.out, Nat.mul_comm, Nat.mul_add_div (by omega), Nat.div_eq_of_lt hlt2, Nat.add_zero]
                have e2 : L2.length % m = j := by rw [HLL2.out, Nat.mul_comm, Nat.mul_add_mod, Nat.mod_eq_of_lt hlt2]
                rw [e1, e2]; exact HR16.out) HO5.out HGR.out
              have HP := Lib.hid hp
              have HB5 := Lib.hid ((HB4.out.grown HGR.out (by have := HB4.out.size; omega) (fun q e => by have := (World.ownsRow.lt HRX.out.own q e).1; omega)).setCell (p := ⟨gx, 3, none⟩) (Nat.le_refl gx) (.slice A5 (L2.length + 1) c5))
              go_roundg (m - (j + 1))
              case measure => omega
              case rel => exact ⟨j + 1, _, L2 ++ [W0.heap.size], by omega, rfl, by go_num, by rw [List.length_append, HLL2.out]; rfl, HP.out, HB5.out⟩
        · have HL3 := Lib.hid (show L2.length = (i + 1) * m by rw [HLL2.out, Nat.add_mul]; omega)
          go_wp2_with fail
          go_roundg (m - (i + 1))
          case measure => omega
          case rel => exact ⟨i + 1, v2, L2, by omega, rfl, by go_num, HL3.out, HR2.out, HB2.out⟩
    · have hiE : i = m := by omega
      have hLm := HL1.out
      rw [hiE] at hLm
      obtain ⟨G, gs, c, hrf, hgg⟩ : ∃ (G : Nat → Nat) (gs c : Nat), RfT wr gx gs G m T c (.slice E m cE) (.slice A l.length cA) (initT T (l.take 0)) ∧ ∀ q, q < m * m → gx < G q := by
        obtain ⟨gs, c, _, h1, h2, _⟩ := HR1.out.done hm hLm
        exact ⟨_, gs, c, h1, h2⟩
      have HRF := Lib.hid hrf
      have HGG := Lib.hid hgg
      clear hrf hgg HR1 HL1 hLm mk hiE
      go_wp2_with fail
      go_loopg [11] l.length (fun g s11 wr => ∃ k : Nat, k ≤ l.length ∧ g = l.length - k ∧ s11 = .int .i64 k ∧ RfT wr gx gs G m T c (.slice E m cE) (.slice A l.length cA) (initT T (l.take k)) ∧ Below gx w2 wr)
      case atStart => exact ⟨0, by omega, by omega, rfl, HRF.out, HB1.out⟩
      case round =>
        obtain ⟨k, hk, hg4, rfl, hr4, hb4⟩ := hrel
        have hn2 : wr.cell? ⟨nb, 2, none⟩ = some (.slice A l.length cA) := (hb4.cell (p := ⟨nb, 2, none⟩) (by show nb < gx; omega)).trans n2'
        have HR4 := Lib.hid hr4
        have HB4 := Lib.hid hb4
        clear hr4
        by_cases hlt4 : k < l.length
        · have hS := (congrArg (initT T) (take_snoc l k hlt4)).trans (initT_snoc T _ _)
          have hx := HOK.out l[k] (List.getElem_mem hlt4)
          obtain ⟨b, off, hA, hbb, a0, a1, a2, a3, a4, a5⟩ := (HL2.out.below hb4).ac k hlt4
          generalize l[k] = x at *
          obtain ⟨ki, sr, ds, lo, hi', wt⟩ := x
          obtain ⟨o1, o2, o3, o4, o5, o6, o7, o8, o9, _⟩ := hx
          simp only at o1 o2 o3 o4 o5 o6 o7 o8 o9 a0 a1 a2 a3 a4 a5 hS
          obtain ⟨si, rfl⟩ := Int.eq_ofNat_of_zero_le o1
          obtain ⟨di, rfl⟩ := Int.eq_ofNat_of_zero_le o3
          simp only [Int.toNat_natCast] at hS
          have HS := Lib.hid hS
          have hs1 : si < m := by omega
          have hd1 : di < m := by omega
          have hsd : si ≠ di := by omega
          subst hA
          clear o1 o2 o3 o4 o5 hS hb4
          obtain ⟨W0, rfl⟩ : ∃ W0 : World, W0 = wr := ⟨_, rfl⟩
          go_wp2_with fail
          have hz := HB4.out.size
          rw [HGX.out] at hz
          have hbA := HB4.out.alloc hz (.cells #[.int .i64 ki, .int .i64 si, .int .i64 di, .int .i64 lo, .int .i64 hi', .int .i64 wt] 30)
          have hnA := heap_alloc_new W0 (.cells #[.int .i64 ki, .int .i64 si, .int .i64 di, .int .i64 lo, .int .i64 hi', .int .i64 wt] 30)
          have hrA := HR4.out.below (belA W0 (.cells #[.int .i64 ki, .int .i64 si, .int .i64 di, .int .i64 lo, .int .i64 hi', .int .i64 wt] 30))
          have HRA := Lib.hid hrA
          have HBA := Lib.hid hbA
          have HNA := Lib.hid hnA
          generalize W0.alloc (.cells #[.int .i64 ki, .int .i64 si, .int .i64 di, .int .i64 lo, .int .i64 hi', .int .i64 wt] 30) = WA at *
          generalize W0.heap.size = ga at *
          clear hz hbA hnA hrA a0 a1 a2 a3 a4 a5 hn2 HR4 HB4
          go_loopg [13] T (fun g s13 wr => ∃ d : Nat, d ≤ T ∧ g = T - d ∧ s13 = .int .i64 d ∧ RfT wr gx gs G m T c (.slice E m cE) (.slice (some ⟨b, off, none⟩) l.length cA) (remT T (initT T (l.take k)) si di lo hi' d) ∧ Below gx w2 wr ∧ wr.heap[ga]? = some (.cells #[.int .i64 ki, .int .i64 si, .int .i64 di, .int .i64 lo, .int .i64 hi', .int .i64 wt] 30 (0, 0)))
          case atStart => exact ⟨0, by omega, by omega, rfl, by rw [remT_zero]; exact HRA.out, HBA.out, HNA.out⟩
          case round =>
            obtain ⟨d, hd, hg5, rfl, hr5, hb5, hab⟩ := hrel
            have HR5 := Lib.hid hr5
            have HB5 := Lib.hid hb5
            have HAB := Lib.hid hab
            by_cases hdT : d < T
            · have v1 : wr.cell? ⟨ga, 1, none⟩ = some (.int .i64 si) := by rw [cell_of_row wr _ 1 _ _ _ hab]; rfl
              have v2 : wr.cell? ⟨ga, 2, none⟩ = some (.int .i64 di) := by rw [cell_of_row wr _ 2 _ _ _ hab]; rfl
              have v3 : wr.cell? ⟨ga, 3, none⟩ = some (.int .i64 lo) := by rw [cell_of_row wr _ 3 _ _ _ hab]; rfl
              have v4 : wr.cell? ⟨ga, 4, none⟩ = some (.int .i64 hi') := by rw [cell_of_row wr _ 4 _ _ _ hab]; rfl
              have s1 : IntKind.i64.wrap ((d : Int) - lo) = (d : Int) - lo := IntWalk.i64_in _ (by omega)
              have s2 : IntKind.i64.wrap (hi' - lo) = hi' - lo := IntWalk.i64_in _ (by omega)
              have hmd := fun V => refMod_any ((d : Int) - lo) T V (by omega) (by omega)
              rw [modI_res (by omega)] at hmd
              have HBD := Lib.hid (show badA T lo hi' d = decide (hi' - lo < (res T ((d : Int) - lo) : Int)) from rfl)
              have hrb := res_lt (T := T) (by omega) ((d : Int) - lo)
              generalize res T ((d : Int) - lo) = rr at *
              clear hr5 hb5 hab
              go_wp2_with fail
              go_quiet ((go_at_call 44; exact quiet_left (hmd _)))
              have HR6 := Lib.hid (show RfT (wr.drewN nq) gx gs G m T c (.slice E m cE) (.slice (some ⟨b, off, none⟩) l.length cA) (remT T (initT T (l.take k)) si di lo hi' d) from ⟨HR5.out.blk, HR5.out.row, HR5.out.bits, HR5.out.inj, HR5.out.rty⟩)
              have HB6 := Lib.hid (below_drewN HB5.out nq)
              have HAB6 := Lib.hid (show (wr.drewN nq).heap[ga]? = some (.cells #[.int .i64 ki, .int .i64 si, .int .i64 di, .int .i64 lo, .int .i64 hi', .int .i64 wt] 30 (0, 0)) from HAB.out)
              clear v1 v2 v3 v4 HR5 HB5 HAB hmd
              generalize wr.drewN nq = W5 at *
              by_cases q : hi' - lo < (rr : Int)
              · have HBT := Lib.hid (show badA T lo hi' d = true by rw [HBD.out]; exact decide_eq_true q)
                have HPUT := Lib.hid (remT_step (D := initT T (l.take k)) (s := si) (e := di) (T := T) (by omega) hdT HBT.out)
                have l1 := idxR_lt hs1 hd1
                have l2 := idxR_lt hd1 hs1
                have hmm := Nat.mul_le_mul t3 t3
                have e1 : ((si * m : Nat) : Int) = (si : Int) * (m : Int) := by push_cast; rfl
                have e2 : ((di * m : Nat) : Int) = (di : Int) * (m : Int) := by push_cast; rfl
                have sw1 : IntKind.i64.wrap ((si : Int) * (m : Int)) = (si : Int) * (m : Int) := by rw [← e1]; exact IntWalk.i64_in _ (by omega)
                have sw2 : IntKind.i64.wrap ((di : Int) * (m : Int)) = (di : Int) * (m : Int) := by rw [← e2]; exact IntWalk.i64_in _ (by omega)
                have sw3 : IntKind.i64.wrap (-(d : Int)) = -(d : Int) := IntWalk.i64_in _ (by omega)
                have hmd2 := fun V => refMod_any (-(d : Int)) T V (by omega) (by omega)
                rw [modI_res (by omega)] at hmd2
                have hrb2 := res_lt (T := T) (by omega) (-(d : Int))
                obtain ⟨q1, hq1⟩ : ∃ q, q = si * m + di := ⟨_, rfl⟩
                obtain ⟨q2, hq2⟩ : ∃ q, q = di * m + si := ⟨_, rfl⟩
                have sw4 : IntKind.i64.wrap ((si : Int) * (m : Int) + (di : Int)) = (q1 : Int) := by rw [← e1, hq1, IntWalk.i64_in _ (by omega)]; push_cast; rfl
                have sw5 : IntKind.i64.wrap ((di : Int) * (m : Int) + (si : Int)) = (q2 : Int) := by rw [← e2, hq2, IntWalk.i64_in _ (by omega)]; push_cast; rfl
                obtain ⟨mm, hmm2⟩ : ∃ z, z = m * m := ⟨_, rfl⟩
                generalize res T (-(d : Int)) = d2 at *
                have hrd : RfT { W5 with drawn := W5.drawn + 1 } gx gs G m T c (.slice E m cE) (.slice (some ⟨b, off, none⟩) l.length cA) (remT T (initT T (l.take k)) si di lo hi' d) := ⟨HR6.out.blk, HR6.out.row, HR6.out.bits, HR6.out.inj, HR6.out.rty⟩
                have hbd := Lib.hid (show Below gx w2 { W5 with drawn := W5.drawn + 1 } from below_drewN HB6.out 1)
                have had : ({ W5 with drawn := W5.drawn + 1 } : World).heap[ga]? = _ := HAB6.out
                have v1 : ({ W5 with drawn := W5.drawn + 1 } : World).cell? ⟨ga, 1, none⟩ = some (.int .i64 si) := by rw [cell_of_row _ _ 1 _ _ _ had]; rfl
                have v2 : ({ W5 with drawn := W5.drawn + 1 } : World).cell? ⟨ga, 2, none⟩ = some (.int .i64 di) := by rw [cell_of_row _ _ 2 _ _ _ had]; rfl
                obtain ⟨_, _, _, x3⟩ := hrd.head
                have r1 := hrd.row _ l1
                obtain ⟨a1, f1⟩ := hrd.cell hs1 hd1 hdT
                rw [← hmm2] at x3
                rw [← hq1] at r1 a1 f1
                have b1 : (0 : Int) ≤ (q1 : Int) := by omega
                have b2 : (q1 : Int) < (mm : Int) := by omega
                have b3 : (0 : Int) ≤ (q2 : Int) := by omega
                have b4 : (q2 : Int) < (mm : Int) := by omega
                have b5 : (0 : Int) ≤ (d : Int) := by omega
                have b6 : (d : Int) < (T : Int) := by omega
                have b7 : (0 : Int) ≤ (d2 : Int) := by omega
                have b8 : (d2 : Int) < (T : Int) := by omega
                have HRD := Lib.hid hrd
                have HAD := Lib.hid had
                have HMM := Lib.hid hmm2
                have HQ1 := Lib.hid hq1
                have HQ2 := Lib.hid hq2
                have HL1 := Lib.hid l1
                have HL2' := Lib.hid l2
                clear hrd had HR6 HB6 HAB6 hmm2 hq1 hq2 e1 e2 hmm l1 l2
                go_upto_region 25 with fail
                refine wp_region_still_tail 15 (by kernel_rfl) (by kernel_rfl) ?_
                simp only [List.take_succ_cons, List.take_zero, List.drop_succ_cons, List.drop_zero]
                generalize ({ W5 with drawn := W5.drawn + 1 } : World) = V at *
                iterate 15 still_step
                refine wpStill_nil ?_
                go_upto_region 26 with fail
                have hgq := fun q (hq : q < m * m) => HGG.out q hq
                have hP1 := HRD.out.put hs1 hd1 (d := d) false (D' := delT (remT T (initT T (l.take k)) si di lo hi' d) si di d) (delT_at _ si di d) (fun a e x q => delT_other _ q)
                rw [← HQ1.out] at hP1
                have hgq1 := HGG.out q1 (by rw [HQ1.out]; exact HL1.out)
                have hgq2 := HGG.out q2 (by rw [HQ2.out]; exact HL2'.out)
                have hb2 := hbd.out.setCell (p := ⟨G q1, d, none⟩) (by show gx ≤ G q1; omega) (.bool false)
                have ha2 : (V.setCell ⟨G q1, d, none⟩ (.bool false)).heap[ga]? = _ := (Below.heap_setCell V ⟨G q1, d, none⟩ _ ga (fun e => by
                  have h1 := HRD.out.bits si di hs1 hd1
                  have e' : ga = G (si * m + di) := by rw [← HQ1.out]; exact e
                  rw [← e', HAD.out] at h1
                  injection h1 with q; injection q with _ q
                  exact absurd q (by decide))).trans HAD.out
                clear v1 v2 x3 r1 a1 f1 sw4 hbd hgq
                have HP1 := Lib.hid hP1
                have HB8 := Lib.hid hb2
                have HA8 := Lib.hid ha2
                clear hP1 hb2 ha2 HRD HAD
                generalize V.setCell ⟨G q1, d, none⟩ (.bool false) = V2 at *
                have hrd : RfT { V2 with drawn := V2.drawn + 1 } gx gs G m T c (.slice E m cE) (.slice (some ⟨b, off, none⟩) l.length cA) (delT (remT T (initT T (l.take k)) si di lo hi' d) si di d) := ⟨HP1.out.blk, HP1.out.row, HP1.out.bits, HP1.out.inj, HP1.out.rty⟩
                have hbd := Lib.hid (show Below gx w2 { V2 with drawn := V2.drawn + 1 } from below_drewN HB8.out 1)
                have had : ({ V2 with drawn := V2.drawn + 1 } : World).heap[ga]? = _ := HA8.out
                have v1 : ({ V2 with drawn := V2.drawn + 1 } : World).cell? ⟨ga, 1, none⟩ = some (.int .i64 si) := by rw [cell_of_row _ _ 1 _ _ _ had]; rfl
                have v2 : ({ V2 with drawn := V2.drawn + 1 } : World).cell? ⟨ga, 2, none⟩ = some (.int .i64 di) := by rw [cell_of_row _ _ 2 _ _ _ had]; rfl
                obtain ⟨_, _, _, x3⟩ := hrd.head
                have r1 := hrd.row _ HL2'.out
                obtain ⟨a1, f1⟩ := hrd.cell hd1 hs1 hrb2
                rw [← HMM.out] at x3
                rw [← HQ2.out] at r1 a1 f1
                have HRD := Lib.hid hrd
                have HAD := Lib.hid had
                clear hrd had HP1 HB8 HA8
                refine wp_region_still_tail 18 (by kernel_rfl) (by kernel_rfl) ?_
                simp only [List.take_succ_cons, List.take_zero, List.drop_succ_cons, List.drop_zero]
                generalize ({ V2 with drawn := V2.drawn + 1 } : World) = V3 at *
                iterate 16 still_step
                still_call ((hmd2 _).mono fun _ _ ⟨a, b⟩ => ⟨a, b.symm⟩)
                still_step
                refine wpStill_nil ?_
                have hP1 := HRD.out.put hd1 hs1 (d := d2) false (D' := delT (delT (remT T (initT T (l.take k)) si di lo hi' d) si di d) di si d2) (delT_at _ di si d2) (fun a e x q => delT_other _ q)
                rw [← HQ2.out] at hP1
                have hP2 := hP1.congr (D' := remT T (initT T (l.take k)) si di lo hi' (d + 1)) (fun a e x _ _ hx => HPUT.out a e x hx)
                have hb2 := hbd.out.setCell (p := ⟨G q2, d2, none⟩) (by show gx ≤ G q2; omega) (.bool false)
                have ha2 : (V3.setCell ⟨G q2, d2, none⟩ (.bool false)).heap[ga]? = _ := (Below.heap_setCell V3 ⟨G q2, d2, none⟩ _ ga (fun e => by
                  have h1 := HRD.out.bits di si hd1 hs1
                  have e' : ga = G (di * m + si) := by rw [← HQ2.out]; exact e
                  rw [← e', HAD.out] at h1
                  injection h1 with q; injection q with _ q
                  exact absurd q (by decide))).trans HAD.out
                have HP2 := Lib.hid hP2
                have HB8 := Lib.hid hb2
                have HA8 := Lib.hid ha2
                clear hP1 hP2 hb2 ha2 HRD HAD hbd
                go_wp2_with fail
                go_roundg (T - (d + 1))
                case measure => omega
                case rel => exact ⟨d + 1, by omega, rfl, by go_num, HP2.out, HB8.out, HA8.out⟩
              · have HBT := Lib.hid (show badA T lo hi' d = false by rw [HBD.out]; exact decide_eq_false q)
                go_wp2_with fail
                go_roundg (T - (d + 1))
                case measure => omega
                case rel => exact ⟨d + 1, by omega, rfl, by go_num, HR6.out.congr (fun a e x _ _ _ => remT_skip HBT.out a e x), HB6.out, HAB6.out⟩
            · have hdE : d = T := by omega
              have hnx := hr5.congr (D' := initT T (l.take (k + 1))) (fun a e x _ _ hx => by
                rw [hdE, HS.out]
                obtain ⟨_, hin⟩ := HINI.out k
                exact remT_full (by omega) hin.sym hsd hs1 hd1 hx)
              have HNX := Lib.hid hnx
              clear hr5 hb5 hab hnx hdE
              go_wp2_with fail
              go_roundg (l.length - (k + 1))
              case measure => omega
              case rel => exact ⟨k + 1, by omega, rfl, by go_num, HNX.out, HB5.out⟩
        · have hkE : k = l.length := by omega
          have HR7 := Lib.hid (show RfT wr gx gs G m T c (.slice E m cE) (.slice A l.length cA) (initT T l) by
            have := HR4.out
            rw [hkE, List.take_length] at this
            exact this)
          clear HR4 hb4 hkE
          go_wp2_with fail
          go_loopg [] (totT m T (initT T l)) (fun g wr => ∃ D : Tab, g = totT m T D ∧ Tgh m T (initT T l) D ∧ RfT wr gx gs G m T c (.slice E m cE) (.slice A l.length cA) D ∧ Below gx w2 wr)
          case atStart => exact ⟨_, rfl, Tgh.start m T _, HR7.out, HB4.out⟩
          case round =>
            obtain ⟨D, hg6, htg, hr6, hb6⟩ := hrel
            have HTG := Lib.hid htg
            have HR8 := Lib.hid hr6
            have HB8 := Lib.hid hb6
            have HGE := Lib.hid (fun q (hq : q < m * m) => Nat.le_of_lt (HGG.out q hq))
            have HG6 := Lib.hid hg6
            clear htg hr6 hb6 hg6
            go_wp2_with fail
            go_at_call 71
            refine (refTighten_any gx gx gs G m T c E cE _ D wr HR8.out t3 ⟨by omega, by omega⟩ HGE.out).mono ?_
            rintro e w9 ⟨D', any, rfl, hpas, hrf, hb9⟩
            obtain ⟨p1, p2, p3⟩ := hpas.done HTG.out
            have HP1 := Lib.hid p1
            have HP2 := Lib.hid p2
            have HP3 := Lib.hid p3
            have HRF9 := Lib.hid hrf
            have HB9 := Lib.hid (HB8.out.trans hb9)
            clear p1 p2 p3 hpas hrf hb9
            cases any with
            | true =>
              go_wp2_with fail
              go_roundg (totT m T D')
              case measure => rw [HG6.out]; exact HP3.out trivial
              case rel => exact ⟨D', rfl, HP1.out, HRF9.out, HB9.out⟩
            | false =>
              go_wp2_with fail
              go_ret2
              obtain ⟨rfl, hgr⟩ := HP2.out trivial
              exact ⟨gx, gs, G, c, _, rfl, hgr, HRF9.out, by rw [HNB.out]; exact HB2.out.trans (HB9.out.mono (by omega))⟩
end Go.Proofs.Ytbhjnihcmfagjaa

namespace Go.Proofs.Ytbhjnihcmfagjaa
open Go.RowKit RP

theorem in13_any (n lo hi : Int) (w : World) : Calls Try.prog 72 #[.int .i64 n, .int .i64 lo, .int .i64 hi] w fun e w' => e = .returned (.bool (decide (lo ≤ n ∧ n ≤ hi))) ∧ w = w' := by
  go_enter Try.func72, Try.ntmps72
  go_wp2
  all_goals
    go_ret
    exact ⟨ret_bool (by simp; try omega), rfl⟩

set_option maxRecDepth 100000 in
set_option maxHeartbeats 4000000 in
theorem refBetween_in (gx gs : Nat) (G : Nat → Nat) (m T c : Nat) (E : Option Addr) (cE : Nat) (ac : Value) (D : Tab) (i j : Nat) (w : World) (h : RfT w gx gs G m T c (.slice E m cE) ac D) (hm : m ≤ 48) (hT : 1 ≤ T ∧ T ≤ 7200) (hi : i < m) (hj : j < m) :
    Calls Try.prog 59 #[.pointer (some ⟨gx, 0, none⟩), .int .i64 i, .int .i64 j] w fun e w' => ∃ v, e = .returned v ∧ OwnS w' w.heap.size v (runs (D i j) T) ∧ Below w.heap.size w w' := by
  obtain ⟨_, x1, _, x3⟩ := h.head
  have hix := idxR_lt hi hj
  have r1 := h.row _ hix
  have hmm := Nat.mul_le_mul hm hm
  have HR := Lib.hid h
  have HI := Lib.hid hi
  have HJ := Lib.hid hj
  have e1 : ((i * m : Nat) : Int) = (i : Int) * (m : Int) := by push_cast; rfl
  have sw1 : IntKind.i64.wrap ((i : Int) * (m : Int)) = (i : Int) * (m : Int) := by rw [← e1]; exact IntWalk.i64_in _ (by omega)
  obtain ⟨q1, hq1⟩ : ∃ q, q = i * m + j := ⟨_, rfl⟩
  have sw3 : IntKind.i64.wrap ((i : Int) * (m : Int) + (j : Int)) = (q1 : Int) := by rw [← e1, hq1, IntWalk.i64_in _ (by omega)]; push_cast; rfl
  rw [← hq1] at r1 hix
  obtain ⟨mm, hmm2⟩ : ∃ z, z = m * m := ⟨_, rfl⟩
  rw [← hmm2] at x3 hix hmm
  have b1 : (0 : Int) ≤ (q1 : Int) := by omega
  have b2 : (q1 : Int) < (mm : Int) := by omega
  have d1 : (0 : Int) ≤ (i : Int) ∧ (i : Int) ≤ (m : Int) - 1 := by omega
  have d2 : (0 : Int) ≤ (j : Int) ∧ (j : Int) ≤ (m : Int) - 1 := by omega
  have D1 : decide ((i : Int) ≤ (m : Int) - 1) = true := decide_eq_true d1.2
  have D2 : decide ((j : Int) ≤ (m : Int) - 1) = true := decide_eq_true d2.2
  have HQ1 := Lib.hid hq1
  clear hq1 hmm2 e1 d1 d2 h
  generalize hgq : G q1 = g1 at *
  have HGQ := Lib.hid hgq
  clear hgq
  go_enter Try.func59, Try.ntmps59
  go_wp2_with (go_at_call 72; refine (in13_any _ _ _ _).mono ?_; rintro e w' ⟨rfl, rfl⟩)
  go_loopg [8, 10] T (fun g s8 s10 wr => ∃ k : Nat, k ≤ T ∧ g = T - k ∧ s10 = .int .i64 k ∧ OwnS wr w.heap.size s8 (runs (D i j) k) ∧ Below w.heap.size w wr)
  case atStart => exact ⟨0, by omega, by omega, rfl, Own.nil _ _ _ _ _, Below.refl _ _⟩
  case round =>
    obtain ⟨k, hk, hg, rfl, ho, hb⟩ := hrel
    clear x1 x3 r1 D1 D2 sw1 sw3
    by_cases hlt : k < T
    · obtain ⟨c0, _⟩ := (HR.out.below hb).cell HI.out HJ.out hlt
      rw [← HQ1.out, HGQ.out] at c0
      have k0 : (0 : Int) ≤ (k : Int) := by omega
      have k1 : (k : Int) < (T : Int) := by omega
      cases hx : D i j k with
      | false =>
        rw [hx] at c0
        have H := Lib.hid (runs_no hx)
        clear hx
        go_wp2_with fail
        go_roundg (T - (k + 1))
        case measure => omega
        case rel => exact ⟨k + 1, by omega, rfl, by go_num, by rw [H.out]; exact ho, hb⟩
      | true =>
        rw [hx] at c0
        have hrl := runs_len (D i j) k
        rcases snoc_cases (runs (D i j) k) with h0 | ⟨r, s, h0⟩
        · have H := Lib.hid (runs_first hx h0)
          clear hx
          rw [h0] at ho hrl
          clear h0
          obtain ⟨A', c', rfl⟩ := ho.form
          go_wp2_with (at_builtin; refine wpList_append_rec rfl _ _ 40 rfl w.heap.size 46 16 Try.underlying40 elemS _ [] rfl ho [((k : Int), (k : Int) + 1)] _ rfl 1 1 rfl rfl (by simp only [maxLen, List.length_cons, List.length_nil]; omega) (by simp only [List.length_cons, List.length_nil]; omega) hb.size ?_; intro v1 w1 ho1 hg1 hat1)
          go_roundg (T - (k + 1))
          case measure => omega
          case rel => exact ⟨k + 1, by omega, rfl, by go_num, by rw [H.out]; exact ho1, hb.grown hg1 hb.size (ho.le (Nat.le_refl _))⟩
        · rw [h0] at ho hrl
          obtain ⟨g, c', rfl, hge, hgl, hcc, hcell, hfz⟩ := ho.at_ encS_len (by simp)
          have hr1 : r.length + 1 ≤ 4294967296 := by simp at hrl; omega
          have cl := hcell r.length s (by simp) 1 (.int .i64 s.2) rfl
          have fz := hfz (r.length * 2 + 1)
          by_cases h1 : s.2 = k
          · have H := Lib.hid (runs_near hx h0 h1)
            have hst := ho.stored encS_len r.length 1 (.int .i64 ((k : Int) + 1)) (s.1, (k : Int) + 1) (by simp) (by omega) (by simp [encS])
            have HS := Lib.hid hst
            have hbe : (s.2 == (k : Int)) = true := by simp [h1]
            clear hx h0 h1 hst hcell hfz hrl
            go_wp2_with fail
            go_roundg (T - (k + 1))
            case measure => omega
            case rel =>
              have hs := HS.out
              exact ⟨k + 1, by omega, rfl, by go_num, by rw [H.out]; simpa using hs.1, hb.setCell hge _⟩
          · have H := Lib.hid (runs_far hx h0 h1)
            have hbe : (s.2 == (k : Int)) = false := by simp [h1]
            clear hx h0 h1 hcell hfz hrl
            go_wp2_with (at_builtin; refine wpList_append_rec rfl _ _ 40 rfl w.heap.size 46 16 Try.underlying40 elemS _ (r ++ [s]) rfl ho [((k : Int), (k : Int) + 1)] _ rfl 1 1 rfl rfl (by simp only [maxLen, List.length_cons, List.length_nil, List.length_append]; omega) (by simp only [List.length_cons, List.length_nil, List.length_append]; omega) hb.size ?_; intro v1 w1 ho1 hg1 hat1)
            go_roundg (T - (k + 1))
            case measure => omega
            case rel => exact ⟨k + 1, by omega, rfl, by go_num, by rw [H.out]; exact ho1, hb.grown hg1 hb.size (ho.le (Nat.le_refl _))⟩
    · have hkE : k = T := by omega
      subst hkE
      go_wp2_with fail
      go_ret
      exact ⟨_, rfl, ho, hb⟩

set_option maxRecDepth 100000 in
set_option maxHeartbeats 2000000 in
theorem refBetween_out (gx gs : Nat) (G : Nat → Nat) (m T c : Nat) (E : Option Addr) (cE : Nat) (ac : Value) (D : Tab) (i j : Int) (w : World) (h : RfT w gx gs G m T c (.slice E m cE) ac D) (hm : m ≤ 48) (hno : ¬ (0 ≤ i ∧ i < m ∧ 0 ≤ j ∧ j < m)) :
    Calls Try.prog 59 #[.pointer (some ⟨gx, 0, none⟩), .int .i64 i, .int .i64 j] w fun e w' => e = .returned (.slice none 0 0) ∧ w = w' := by
  obtain ⟨_, x1, _, x3⟩ := h.head
  clear h
  have hor : ¬ (0 ≤ i ∧ i ≤ (m : Int) - 1) ∨ ((0 ≤ i ∧ i ≤ (m : Int) - 1) ∧ ¬ (0 ≤ j ∧ j ≤ (m : Int) - 1)) := by omega
  rcases hor with d1 | ⟨d1, d2⟩
  · have D1 : decide (0 ≤ i ∧ i ≤ (m : Int) - 1) = false := decide_eq_false d1
    clear d1 hno
    go_enter Try.func59, Try.ntmps59
    go_wp2_with (go_at_call 72; refine (in13_any _ _ _ _).mono ?_; rintro e w' ⟨rfl, rfl⟩)
    go_ret
    exact ⟨rfl, rfl⟩
  · have D1 : decide (0 ≤ i ∧ i ≤ (m : Int) - 1) = true := decide_eq_true d1
    have D2 : decide (0 ≤ j ∧ j ≤ (m : Int) - 1) = false := decide_eq_false d2
    clear d1 d2 hno
    go_enter Try.func59, Try.ntmps59
    go_wp2_with (go_at_call 72; refine (in13_any _ _ _ _).mono ?_; rintro e w' ⟨rfl, rfl⟩)
    go_ret
    exact ⟨rfl, rfl⟩

theorem cntN_up (P : Nat → Bool) (k : Nat) : cntN P (k + 1) = if P k then cntN P k + 1 else cntN P k := by
  simp only [cntN]
  split <;> simp_all

set_option maxRecDepth 100000 in
set_option maxHeartbeats 2000000 in
theorem size_any (gx gs : Nat) (G : Nat → Nat) (m T c : Nat) (ev ac : Value) (D : Tab) (i j : Nat) (w : World) (h : RfT w gx gs G m T c ev ac D) (hT : 1 ≤ T ∧ T ≤ 7200) (hi : i < m) (hj : j < m) :
    Calls Try.prog 73 #[.slice (some ⟨G (i * m + j), 0, none⟩) T T] w fun e w' => e = .returned (.int .i64 (cntN (D i j) T : Nat)) ∧ w = w' := by
  have HC := Lib.hid (fun d (hd : d < T) => (h.cell hi hj hd).1)
  have HL := Lib.hid (cntN_le (D i j))
  clear h
  generalize G (i * m + j) = g1 at *
  generalize D i j = P at *
  go_enter Try.func73, Try.ntmps73
  go_wp2_with fail
  go_loopg [3, 4, 7] T (fun g s3 s4 s7 wr => ∃ k : Nat, k ≤ T ∧ g = T - k ∧ s7 = .int .i64 k ∧ s3 = .int .i64 (cntN P k : Nat) ∧ wr = w)
  case atStart => exact ⟨0, by omega, by omega, rfl, rfl, rfl⟩
  case round =>
    obtain ⟨k, hk, hg, rfl, rfl, rfl⟩ := hrel
    by_cases hlt : k < T
    · have c0 := HC.out k hlt
      have k0 : (0 : Int) ≤ (k : Int) := by omega
      have k1 : (k : Int) < (T : Int) := by omega
      have hl := HL.out k
      have HU := Lib.hid (cntN_up P k)
      generalize cntN P k = n at *
      cases hx : P k with
      | false =>
        have HX := Lib.hid hx
        rw [hx] at c0
        clear hx
        go_wp2_with fail
        go_roundg (T - (k + 1))
        case measure => omega
        case rel => exact ⟨k + 1, by omega, rfl, by go_num, by rw [HU.out, HX.out]; rfl, rfl⟩
      | true =>
        have HX := Lib.hid hx
        rw [hx] at c0
        clear hx
        go_wp2_with fail
        go_roundg (T - (k + 1))
        case measure => omega
        case rel => exact ⟨k + 1, by omega, rfl, by go_num, by rw [HU.out, HX.out, if_pos rfl]; go_num, rfl⟩
    · have hkE : k = T := by omega
      subst hkE
      go_wp2_with fail
      go_ret
      exact ⟨rfl, rfl⟩
end Go.Proofs.Ytbhjnihcmfagjaa

namespace Go.Proofs.Ytbhjnihcmfagjaa
open Go.RowKit RP

/-- Sums of the sets' sizes, in the order of the table. -/
def cntR (m T : Nat) (D : Tab) : Nat → Nat
  | 0 => 0
  | k + 1 => cntR m T D k + cntN (D (k / m) (k % m)) T
theorem cntR_le {m T : Nat} {D : Tab} : ∀ k, cntR m T D k ≤ k * T
  | 0 => by simp [cntR]
  | k + 1 => by
    have := cntR_le (m := m) (T := T) (D := D) k
    have := cntN_le (D (k / m) (k % m)) T
    rw [Nat.succ_mul]; simp only [cntR]; omega
/-- Whether one of the first k sets is empty. -/
def noneR (m T : Nat) (D : Tab) (k : Nat) : Bool := (List.range k).any fun q => cntN (D (q / m) (q % m)) T == 0
theorem noneR_succ {m T : Nat} {D : Tab} {k : Nat} : noneR m T D (k + 1) = (noneR m T D k || cntN (D (k / m) (k % m)) T == 0) := by
  unfold noneR; rw [List.range_succ, List.any_append]; simp
theorem noneR_le {m T : Nat} {D : Tab} {k n : Nat} (h : noneR m T D k = true) (hk : k ≤ n) : noneR m T D n = true := by
  unfold noneR at *
  rw [List.any_eq_true] at *
  obtain ⟨x, hx, hx'⟩ := h
  exact ⟨x, by rw [List.mem_range] at *; omega, hx'⟩
theorem divR {m k : Nat} (h : k < m * m) : k / m < m ∧ k % m < m ∧ (k / m) * m + k % m = k := by
  have hm0 : 0 < m := Nat.pos_of_ne_zero fun q => by subst q; simp at h
  exact ⟨Nat.div_lt_of_lt_mul h, Nat.mod_lt _ hm0, Nat.div_add_mod' k m⟩

set_option maxRecDepth 100000 in
set_option maxHeartbeats 2000000 in
theorem refCnt13_any (gx gs : Nat) (G : Nat → Nat) (m T c : Nat) (ev ac : Value) (D : Tab) (w : World) (h : RfT w gx gs G m T c ev ac D) (hm : m ≤ 48) (hT : 1 ≤ T ∧ T ≤ 7200) :
    Calls Try.prog 62 #[.pointer (some ⟨gx, 0, none⟩)] w fun e w' => e = .returned (.int .i64 (cntR m T D (m * m) : Nat)) ∧ w = w' := by
  obtain ⟨_, _, _, x3⟩ := h.head
  have hm2 : m * m ≤ 2304 := Nat.mul_le_mul hm hm
  have HR := Lib.hid h
  clear h
  obtain ⟨mm, hmm⟩ : ∃ z, z = m * m := ⟨_, rfl⟩
  have HMM := Lib.hid hmm
  rw [← hmm] at x3 hm2 ⊢
  clear hmm
  go_enter Try.func62, Try.ntmps62
  go_wp2_with fail
  go_loopg [3, 4, 10] mm (fun g s3 s4 s10 wr => ∃ k : Nat, k ≤ mm ∧ g = mm - k ∧ s10 = .int .i64 k ∧ s3 = .int .i64 (cntR m T D k : Nat) ∧ wr = w)
  case atStart => exact ⟨0, by omega, by omega, rfl, rfl, rfl⟩
  case round =>
    obtain ⟨k, hk, hg, rfl, rfl, rfl⟩ := hrel
    by_cases hlt : k < mm
    · obtain ⟨k1, k2, k3⟩ := divR (show k < m * m by rw [← HMM.out]; exact hlt)
      have r1 := HR.out.row k (by rw [← HMM.out]; exact hlt)
      have hsz := fun V (hV : V = wr) => size_any gx gs G m T c ev ac D (k / m) (k % m) V (by rw [hV]; exact HR.out) hT k1 k2
      rw [k3] at hsz
      have hle := cntR_le (m := m) (T := T) (D := D) k
      have hle2 : k * T ≤ 2304 * 7200 := Nat.mul_le_mul (by omega) hT.2
      have hct := cntN_le (D (k / m) (k % m)) T
      have HS := Lib.hid (show cntR m T D (k + 1) = cntR m T D k + cntN (D (k / m) (k % m)) T from rfl)
      generalize cntN (D (k / m) (k % m)) T = cn at *
      generalize cntR m T D k = cq at *
      clear k1 k2 k3
      go_wp2_with (go_at_call 73; refine (hsz _ rfl).mono ?_; rintro _ _ ⟨rfl, rfl⟩)
      go_roundg (mm - (k + 1))
      case measure => omega
      case rel => exact ⟨k + 1, by omega, rfl, by go_num, by rw [HS.out]; go_num, rfl⟩
    · have hkE : k = mm := by omega
      subst hkE
      go_wp2_with fail
      go_ret
      exact ⟨rfl, rfl⟩

set_option maxRecDepth 100000 in
set_option maxHeartbeats 2000000 in
theorem refEmp13_any (gx gs : Nat) (G : Nat → Nat) (m T c : Nat) (ev ac : Value) (D : Tab) (w : World) (h : RfT w gx gs G m T c ev ac D) (hm : m ≤ 48) (hT : 1 ≤ T ∧ T ≤ 7200) :
    Calls Try.prog 60 #[.pointer (some ⟨gx, 0, none⟩)] w fun e w' => e = .returned (.bool (noneR m T D (m * m))) ∧ w = w' := by
  obtain ⟨_, _, _, x3⟩ := h.head
  have hm2 : m * m ≤ 2304 := Nat.mul_le_mul hm hm
  have HR := Lib.hid h
  clear h
  obtain ⟨mm, hmm⟩ : ∃ z, z = m * m := ⟨_, rfl⟩
  have HMM := Lib.hid hmm
  rw [← hmm] at x3 hm2 ⊢
  clear hmm
  go_enter Try.func60, Try.ntmps60
  go_wp2_with fail
  go_loopg [3, 9] mm (fun g s3 s9 wr => ∃ k : Nat, k ≤ mm ∧ g = mm - k ∧ s9 = .int .i64 k ∧ noneR m T D k = false ∧ wr = w)
  case atStart => exact ⟨0, by omega, by omega, rfl, rfl, rfl⟩
  case round =>
    obtain ⟨k, hk, hg, rfl, hno, rfl⟩ := hrel
    have HNO := Lib.hid hno
    clear hno
    by_cases hlt : k < mm
    · obtain ⟨k1, k2, k3⟩ := divR (show k < m * m by rw [← HMM.out]; exact hlt)
      have r1 := HR.out.row k (by rw [← HMM.out]; exact hlt)
      have hsz := fun V (hV : V = wr) => size_any gx gs G m T c ev ac D (k / m) (k % m) V (by rw [hV]; exact HR.out) hT k1 k2
      rw [k3] at hsz
      have hct := cntN_le (D (k / m) (k % m)) T
      have HS := Lib.hid (noneR_succ (m := m) (T := T) (D := D) (k := k))
      generalize cntN (D (k / m) (k % m)) T = cn at *
      clear k1 k2 k3
      by_cases q : cn = 0
      · have HT2 := Lib.hid (noneR_le (k := k + 1) (n := mm) (by rw [HS.out, q]; simp) (by omega))
        subst q
        go_wp2_with (go_at_call 73; refine (hsz _ rfl).mono ?_; rintro _ _ ⟨rfl, rfl⟩)
        go_ret
        exact ⟨ret_bool HT2.out.symm, rfl⟩
      · have HT2 := Lib.hid (show noneR m T D (k + 1) = false by rw [HS.out, HNO.out]; simpa using q)
        have hq : ((cn : Int) == 0) = false := by simpa using q
        go_wp2_with (go_at_call 73; refine (hsz _ rfl).mono ?_; rintro _ _ ⟨rfl, rfl⟩)
        go_roundg (mm - (k + 1))
        case measure => omega
        case rel => exact ⟨k + 1, by omega, rfl, by go_num, HT2.out, rfl⟩
    · have hkE : k = mm := by omega
      subst hkE
      go_wp2_with fail
      go_ret
      exact ⟨ret_bool HNO.out.symm, rfl⟩

/-- What the reference's Allows returns. -/
def rowR (T : Nat) (D : Tab) (ts : List Int) (i n : Nat) : Bool := (List.range n).all fun j => D i j (res T (ts.getD j 0 - ts.getD i 0))
def allowR (m T : Nat) (l : List Acy) (D : Tab) (ts : List Int) : Bool := goodB T m l ts && (List.range m).all fun i => rowR T D ts i m
theorem rowR_succ {T : Nat} {D : Tab} {ts : List Int} {i n : Nat} : rowR T D ts i (n + 1) = (rowR T D ts i n && D i n (res T (ts.getD n 0 - ts.getD i 0))) := by
  unfold rowR; rw [List.range_succ, List.all_append]; simp
theorem rowR_le {T : Nat} {D : Tab} {ts : List Int} {i n k : Nat} (h : rowR T D ts i k = false) (hk : k ≤ n) : rowR T D ts i n = false := by
  unfold rowR at *
  rw [List.all_eq_false] at *
  obtain ⟨x, hx, hx'⟩ := h
  exact ⟨x, by rw [List.mem_range] at *; omega, hx'⟩
theorem allR_succ {m T : Nat} {D : Tab} {ts : List Int} {n : Nat} : ((List.range (n + 1)).all fun i => rowR T D ts i m) = (((List.range n).all fun i => rowR T D ts i m) && rowR T D ts n m) := by
  rw [List.range_succ, List.all_append]; simp
theorem allR_false {m T : Nat} {D : Tab} {ts : List Int} {n : Nat} (hn : n < m) (h : rowR T D ts n m = false) : ((List.range m).all fun i => rowR T D ts i m) = false := by
  rw [List.all_eq_false]
  exact ⟨n, by rw [List.mem_range]; exact hn, by rw [h]; simp⟩

set_option maxRecDepth 100000 in
set_option maxHeartbeats 4000000 in
theorem refAlw13_any (gx gs : Nat) (G : Nat → Nat) (m T c : Nat) (E : Option Addr) (cE : Nat) (A : Option Addr) (cA : Nat) (l : List Acy) (D : Tab) (B : Option Addr) (cB : Nat) (ts : List Int) (w : World) (h : RfT w gx gs G m T c (.slice E m cE) (.slice A l.length cA) D) (hm : m ≤ 48) (hT : 1 ≤ T ∧ T ≤ 7200)
    (hl : Lst encA 6 w w.heap.size A l) (hn : l.length ≤ 9223372036854775807) (ht : Lst encI 1 w w.heap.size B ts) (hn' : ts.length ≤ 9223372036854775807) :
    Calls Try.prog 61 #[.pointer (some ⟨gx, 0, none⟩), .slice B ts.length cB] w fun e w' => e = .returned (.bool (allowR m T l D ts)) ∧ Below w.heap.size w w' := by
  obtain ⟨x0, x1, x2, _⟩ := h.head
  have hm2 : m * m ≤ 2304 := Nat.mul_le_mul hm hm
  have HR := Lib.hid h
  clear h
  go_enter Try.func61, Try.ntmps61
  go_wp2_with fail
  refine (refGood_any T E m cE A cA l B cB ts w hl hn ht hn').mono ?_
  rintro e w1 ⟨rfl, hb1⟩
  have HB1 := Lib.hid hb1
  have HR1 := Lib.hid (HR.out.below hb1)
  have HTS := Lib.hid (ht.belowMore hb1 hb1.size)
  clear x0 x1 x2 hb1 hl ht HR
  cases hg : goodB T m l ts with
  | false =>
    have HG := Lib.hid hg
    clear hg
    go_wp2_with fail
    go_ret
    exact ⟨ret_bool (by rw [allowR, HG.out]; rfl), HB1.out⟩
  | true =>
    obtain ⟨_, hlen, hts⟩ := goodB_iff.1 hg
    have HTT := Lib.hid hts
    have HLEN := Lib.hid hlen
    have HA := Lib.hid (show allowR m T l D ts = ((List.range m).all fun i => rowR T D ts i m) by rw [allowR, hg]; rfl)
    clear hts hlen hg
    go_wp2_with fail
    go_loopg [6, 7] ts.length (fun g s6 s7 wr => ∃ k : Nat, k ≤ ts.length ∧ g = ts.length - k ∧ s6 = .int .i64 k ∧ ((List.range k).all fun i => rowR T D ts i m) = true ∧ ∃ q, wr = w1.drewN q)
    case atStart => exact ⟨0, by omega, by omega, rfl, rfl, 0, rfl⟩
    case round =>
      obtain ⟨i, hi, hg, rfl, hv, q0, rfl⟩ := hrel
      have HV := Lib.hid hv
      clear hv
      by_cases hlt : i < ts.length
      · obtain ⟨b, off, rfl, hbb, a0⟩ := HTS.out.it i hlt
        have hxi := HTT.out ts[i] (List.getElem_mem hlt)
        have HGI := Lib.hid (show ts.getD i 0 = ts[i] by simp [hlt])
        generalize ts[i] = x at *
        have HX := Lib.hid a0
        clear a0
        go_wp2_with fail
        go_loopg [7] ts.length (fun g' s7 wr => ∃ k : Nat, k ≤ ts.length ∧ g' = ts.length - k ∧ s7 = .int .i64 k ∧ rowR T D ts i k = true ∧ ∃ q, wr = w1.drewN q)
        case atStart => exact ⟨0, by omega, by omega, rfl, rfl, q0, rfl⟩
        case round =>
          obtain ⟨j, hj, hg', rfl, hv', q1, rfl⟩ := hrel
          have HV' := Lib.hid hv'
          clear hv'
          by_cases hlt' : j < ts.length
          · obtain ⟨b', off', hAd, hbb', a1⟩ := HTS.out.it j hlt'
            injection hAd with hAd
            injection hAd with hA1 hA2
            subst hA1 hA2
            have hxj := HTT.out ts[j] (List.getElem_mem hlt')
            have HGJ := Lib.hid (show ts.getD j 0 = ts[j] by simp [hlt'])
            generalize ts[j] = y at *
            have him : i < m := by have := HLEN.out; omega
            have hjm : j < m := by have := HLEN.out; omega
            have hij := idxR_lt him hjm
            have HSU := Lib.hid (rowR_succ (T := T) (D := D) (ts := ts) (i := i) (n := j))
            have hrb := res_lt hT.1 (y - x)
            have HAN := Lib.hid (show D i j (res T (ts.getD j 0 - ts.getD i 0)) = D i j (res T (y - x)) by rw [HGI.out, HGJ.out])
            have hmd := fun V => refMod_any (y - x) T V (by omega) (by omega)
            rw [modI_res hT.1] at hmd
            obtain ⟨W, hW⟩ : ∃ W : World, W = w1.drewN q1 := ⟨_, rfl⟩
            rw [← hW]
            have hrd : RfT W gx gs G m T c (.slice E m cE) (.slice A l.length cA) D := by rw [hW]; exact ⟨HR1.out.blk, HR1.out.row, HR1.out.bits, HR1.out.inj, HR1.out.rty⟩
            obtain ⟨x0, x1, _, x3⟩ := hrd.head
            have r1 := hrd.row _ hij
            obtain ⟨f1, _⟩ := hrd.cell him hjm hrb
            have a0 : W.cell? ⟨b, off + i, none⟩ = some (.int .i64 x) := by rw [hW]; exact HX.out
            replace a1 : W.cell? ⟨b, off + j, none⟩ = some (.int .i64 y) := by rw [hW]; exact a1
            clear hrd
            have e1 : ((i * m : Nat) : Int) = (i : Int) * (m : Int) := by push_cast; rfl
            have sw1 : IntKind.i64.wrap ((i : Int) * (m : Int)) = (i : Int) * (m : Int) := by rw [← e1]; exact IntWalk.i64_in _ (by omega)
            have hlen' : (ts.length : Int) = (m : Int) := by have := HLEN.out; omega
            rw [← hlen'] at sw1
            obtain ⟨q2, hq2⟩ : ∃ q, q = i * m + j := ⟨_, rfl⟩
            have sw3 : IntKind.i64.wrap ((i : Int) * (ts.length : Int) + (j : Int)) = (q2 : Int) := by rw [hlen', ← e1, hq2, IntWalk.i64_in _ (by omega)]; push_cast; rfl
            have sw4 : IntKind.i64.wrap (y - x) = y - x := IntWalk.i64_in _ (by omega)
            rw [← hq2] at r1 hij f1
            obtain ⟨mm, hmm2⟩ : ∃ z, z = m * m := ⟨_, rfl⟩
            rw [← hmm2] at x3 hij hm2
            obtain ⟨ans, hans⟩ : ∃ q, D i j (res T (y - x)) = q := ⟨_, rfl⟩
            rw [hans] at HAN f1
            generalize res T (y - x) = rr at *
            have b1 : (0 : Int) ≤ (q2 : Int) := by omega
            have b2 : (q2 : Int) < (mm : Int) := by omega
            have b3 : (0 : Int) ≤ (rr : Int) := by omega
            have b4 : (rr : Int) < (T : Int) := by omega
            have b5 : (0 : Int) ≤ (i : Int) := by omega
            have b6 : (i : Int) < (ts.length : Int) := by omega
            have b7 : (0 : Int) ≤ (j : Int) := by omega
            have b8 : (j : Int) < (ts.length : Int) := by omega
            have HW := Lib.hid hW
            clear hW hq2 hmm2 e1 hans hlen'
            go_wp2_with fail
            go_quiet ((go_at_call 44; exact quiet_left (hmd _)))
            cases ans with
            | false =>
              have HF := Lib.hid (show rowR T D ts i m = false from rowR_le (k := j + 1) (by rw [HSU.out, HAN.out, Bool.and_false]) (by omega))
              go_wp2_with fail
              go_ret
              exact ⟨ret_bool (by rw [HA.out]; exact (allR_false him HF.out).symm), by rw [HW.out]; exact below_drewN (below_drewN HB1.out q1) nq⟩
            | true =>
              go_wp2_with fail
              go_roundg (ts.length - (j + 1))
              case measure => omega
              case rel => exact ⟨j + 1, by omega, rfl, by go_num, by rw [HSU.out, HV'.out, HAN.out]; rfl, q1 + nq, by rw [HW.out]; simp [World.drewN, Nat.add_assoc]⟩
          · have HRW := Lib.hid (show rowR T D ts i m = true by have := HV'.out; rw [show j = m by have := HLEN.out; omega] at this; exact this)
            go_wp2_with fail
            go_roundg (ts.length - (i + 1))
            case measure => omega
            case rel => exact ⟨i + 1, by omega, rfl, by go_num, by rw [allR_succ, HV.out, HRW.out]; rfl, q1, rfl⟩
      · have HRW := Lib.hid (show ((List.range m).all fun i => rowR T D ts i m) = true by have := HV.out; rw [show i = m by have := HLEN.out; omega] at this; exact this)
        go_wp2_with fail
        go_ret
        exact ⟨ret_bool (by rw [HA.out]; exact HRW.out.symm), below_drewN HB1.out q0⟩
end Go.Proofs.Ytbhjnihcmfagjaa

namespace Go.Proofs.Ytbhjnihcmfagjaa
open Go.RowKit Go.Shelf RP

theorem cntR_eq (m T : Nat) (D : Tab) : ∀ k, cntR m T D k = cntTo m T D k
  | 0 => rfl
  | k + 1 => by simp only [cntR, cntTo, cntR_eq m T D k]
theorem cntN_zero {P : Nat → Bool} : ∀ {T : Nat}, cntN P T = 0 ↔ NoneAt T P
  | 0 => ⟨fun _ x hx => by omega, fun _ => rfl⟩
  | k + 1 => by
    rw [cntN_up]
    have ih := cntN_zero (P := P) (T := k)
    constructor
    · intro h
      cases hk : P k with
      | true => rw [hk, if_pos rfl] at h; omega
      | false =>
        rw [hk, if_neg (by simp)] at h
        intro x hx
        by_cases e : x = k
        · rw [e]; exact hk
        · exact ih.1 h x (by omega)
    · intro h
      rw [h k (by omega), if_neg (by simp)]
      exact ih.2 fun x hx => h x (by omega)
theorem none_eq {m T : Nat} {I D : Tab} {e : Bool} (hf : Fin13 m T I D e) (hm : 1 ≤ m) : noneR m T D (m * m) = e := by
  cases e with
  | true =>
    have h0 : cntN (D (0 / m) (0 % m)) T = 0 := cntN_zero.2 fun x _ => (hf.emp rfl).2 _ _ x
    refine noneR_le (k := 1) ?_ (Nat.mul_pos hm hm)
    rw [noneR_succ, h0]; simp
  | false =>
    have h := (hf.non rfl).1
    unfold noneR
    rw [List.any_eq_false]
    intro q hq
    obtain ⟨k1, k2, _⟩ := divR (List.mem_range.1 hq)
    intro e
    exact h _ _ k1 k2 (cntN_zero.1 (by simpa using e))
theorem allow_eq {m T : Nat} {l : List Acy} {D : Tab} {e : Bool} {ts : List Int} {I : Tab} (hf : Fin13 m T I D e) (hm : 1 ≤ m) : allowR m T l D ts = allowB m T l D e ts := by
  cases e with
  | false => simp only [allowR, allowB, rowR, Bool.not_false, Bool.true_and]
  | true =>
    have h0 : ((List.range m).all fun i => rowR T D ts i m) = false := allR_false (n := 0) hm (rowR_le (k := 1) (by rw [rowR_succ, (hf.emp rfl).2, Bool.and_false]) hm)
    rw [allowR, h0, allowB]; simp

theorem refBetween_any (gx gs : Nat) (G : Nat → Nat) (m T c : Nat) (E : Option Addr) (cE : Nat) (ac : Value) (D : Tab) (i j : Int) (w : World) (h : RfT w gx gs G m T c (.slice E m cE) ac D) (hm : m ≤ 48) (hT : 1 ≤ T ∧ T ≤ 7200) :
    Calls Try.prog 59 #[.pointer (some ⟨gx, 0, none⟩), .int .i64 i, .int .i64 j] w fun e w' => ∃ v, e = .returned v ∧ OwnS w' w.heap.size v (betL m T D i j) ∧ Below w.heap.size w w' := by
  by_cases hin : 0 ≤ i ∧ i < m ∧ 0 ≤ j ∧ j < m
  · obtain ⟨i, rfl⟩ := Int.eq_ofNat_of_zero_le hin.1
    obtain ⟨j, rfl⟩ := Int.eq_ofNat_of_zero_le hin.2.2.1
    refine (refBetween_in gx gs G m T c E cE ac D i j w h hm hT (by omega) (by omega)).mono ?_
    rintro ex w' ⟨v, rfl, ho, hb⟩
    refine ⟨v, rfl, ?_, hb⟩
    rw [betL, if_pos hin]
    exact ho
  · refine (refBetween_out gx gs G m T c E cE ac D i j w h hm hin).mono ?_
    rintro ex w' ⟨rfl, rfl⟩
    refine ⟨_, rfl, ?_, Below.refl _ _⟩
    rw [betL, if_neg hin]
    exact Own.nil _ _ _ _ _

set_option maxRecDepth 100000 in
set_option maxHeartbeats 8000000 in
theorem agrees13_any (T m : Nat) (E : Option Addr) (cE : Nat) (A : Option Addr) (cA : Nat) (ev : List Evt) (l : List Acy) (B : Option Addr) (cB : Nat) (ts : List Int) (w : World) (hl : Lst encA 6 w w.heap.size A l) (he : Lst encE 3 w w.heap.size E ev) (hme : ev.length = m) (hm : 1 ≤ m) (hyes : netB T m l = true)
    (ht : Lst encI 1 w w.heap.size B ts) (hn : ts.length ≤ 9223372036854775807) :
    Calls Try.prog 33 #[netV T E m cE A l.length cA, .slice B ts.length cB] w fun e w' => e = .returned (.bool true) ∧ Below w.heap.size w w' := by
  obtain ⟨t1, t2, t3, t4⟩ := (netB_iff.1 hyes).1
  have ba := belA w (.cells #[.int .i64 T, .slice E m cE, .slice A l.length cA] 25)
  have hnew := heap_alloc_new w (.cells #[.int .i64 T, .slice E m cE, .slice A l.length cA] 25)
  have hL := hl.belowMore ba ba.size
  have hE := he.belowMore ba ba.size
  have hT' := ht.belowMore ba ba.size
  have hz : w.heap.size < (w.alloc (.cells #[.int .i64 T, .slice E m cE, .slice A l.length cA] 25)).heap.size := by simp
  go_enter Try.func33, Try.ntmps33
  go_wp2_with fail
  generalize w.alloc (.cells #[.int .i64 T, .slice E m cE, .slice A l.length cA] 25) = w0 at *
  refine (close_any T E m cE A cA ev l w0 hL hE hme hyes).mono ?_
  intro ex w1 hp
  obtain ⟨gt, D, e, rfl, hS, hb1⟩ := shut_of_post hp
  have hz1 := hb1.size
  have hbl := (hb1.block w.heap.size hz).trans hnew
  have n0 : w1.cell? ⟨w.heap.size, 0, none⟩ = some (.int .i64 T) := by rw [cell_of_row w1 _ 0 _ _ _ hbl]; rfl
  have n1 : w1.cell? ⟨w.heap.size, 1, none⟩ = some (.slice E m cE) := by rw [cell_of_row w1 _ 1 _ _ _ hbl]; rfl
  have n2 : w1.cell? ⟨w.heap.size, 2, none⟩ = some (.slice A l.length cA) := by rw [cell_of_row w1 _ 2 _ _ _ hbl]; rfl
  have hL1 := hL.belowMore hb1 hb1.size
  have HT1 := Lib.hid (hT'.belowMore hb1 hb1.size)
  have HB1 := Lib.hid (ba.trans (hb1.mono ba.size))
  have HS := Lib.hid hS
  clear hp hb1 hbl hnew ba hl he ht hL hE hT' hS
  go_wp2_with fail
  refine (refClose_any T E m cE A cA l w1 hL1 hm hyes).mono ?_
  rintro ex w2 ⟨gx, gs, G, c, D', rfl, hgr, hrf0, hb2⟩
  have hrf := hrf0.congr (fun a b x ha hb hx => hgr.unique HS.out.fin.great a b ha hb x hx)
  have hz2 := hb2.size
  replace n1 := (hb2.cell (p := ⟨w.heap.size, 1, none⟩) (show w.heap.size < w1.heap.size by omega)).trans n1
  have HS2 := Lib.hid (HS.out.below hb2)
  have HR2 := Lib.hid hrf
  have HL2 := Lib.hid (hL1.belowMore hb2 hb2.size)
  have HT2 := Lib.hid (HT1.out.belowMore hb2 hb2.size)
  have HB2 := Lib.hid (HB1.out.trans (hb2.mono HB1.out.size))
  have HSZ := Lib.hid (show w.heap.size < w2.heap.size by omega)
  clear hgr hrf0 hrf hb2 hL1 HS HT1 HB1 n0 n2 hyes hme
  generalize hgn : w.heap.size = gn at *
  have HGN := Lib.hid hgn
  clear hgn hz hz1 hz2
  go_wp2_with fail
  go_loopg [9, 10] (m + 2) (fun g s9 s10 wr => ∃ a : Int, -1 ≤ a ∧ a ≤ (m : Int) + 1 ∧ g = ((m : Int) + 1 - a).toNat ∧ s9 = .int .i64 a ∧ Below w2.heap.size w2 wr)
  case atStart => exact ⟨-1, by omega, by omega, by omega, rfl, Below.refl _ _⟩
  case round =>
    obtain ⟨a, a1, a2, hg, rfl, hb⟩ := hrel
    have n1r := (hb.cell (p := ⟨gn, 1, none⟩) HSZ.out).trans n1
    have HB := Lib.hid hb
    clear hb
    by_cases hlt : a ≤ (m : Int)
    · go_wp2_with fail
      go_loopg [10] (m + 2) (fun g s10 wr => ∃ b : Int, -1 ≤ b ∧ b ≤ (m : Int) + 1 ∧ g = ((m : Int) + 1 - b).toNat ∧ s10 = .int .i64 b ∧ Below w2.heap.size w2 wr)
      case atStart => exact ⟨-1, by omega, by omega, by omega, rfl, HB.out⟩
      case round =>
        obtain ⟨b, b1, b2, hg2, rfl, hb⟩ := hrel
        replace n1r := (hb.cell (p := ⟨gn, 1, none⟩) HSZ.out).trans n1
        have HBI := Lib.hid hb
        clear hb
        by_cases hlt2 : b ≤ (m : Int)
        · go_wp2_with fail
          refine (between_any gt m T l D e a b _ (HS2.out.below HBI.out)).mono ?_
          rintro ex w3 ⟨v3, rfl, ho3, hb3⟩
          have HO3 := Lib.hid ho3
          have HB3 := Lib.hid (HBI.out.trans (hb3.mono HBI.out.size))
          clear ho3 hb3
          go_wp2_with fail
          refine (refBetween_any gx gs G m T c E cE _ D a b w3 (HR2.out.below HB3.out) t3 ⟨by omega, by omega⟩).mono ?_
          rintro ex w4 ⟨v4, rfl, ho4, hb4⟩
          have hs := same_own v3 v4 (betL m T D a b) (betL m T D a b) w4 _ _ (HO3.out.below' hb4) ho4
          rw [decide_eq_true rfl] at hs
          have HB4 := Lib.hid (HB3.out.trans (hb4.mono HB3.out.size))
          clear ho4 hb4
          go_wp2_with fail
          refine hs.mono ?_
          rintro ex w5 ⟨rfl, hb5⟩
          have HB5 := Lib.hid (HB4.out.trans (hb5.mono HB4.out.size))
          clear hb5 hs
          go_wp2_with fail
          go_roundg (((m : Int) + 1 - (b + 1)).toNat)
          case measure => omega
          case rel => exact ⟨b + 1, by omega, by omega, rfl, by go_num, HB5.out⟩
        · go_wp2_with fail
          go_roundg (((m : Int) + 1 - (a + 1)).toNat)
          case measure => omega
          case rel => exact ⟨a + 1, by omega, by omega, rfl, by go_num, HBI.out⟩
    · have HSW := Lib.hid (HS2.out.below HB.out)
      have HRW := Lib.hid (HR2.out.below HB.out)
      go_wp2_with fail
      refine (empty_any gt m T l D e _ HSW.out).mono ?_
      rintro ex w3 ⟨rfl, rfl⟩
      go_wp2_with fail
      refine (refEmp13_any gx gs G m T c _ _ D _ HRW.out t3 ⟨by omega, by omega⟩).mono ?_
      rintro ex w3 ⟨rfl, rfl⟩
      rw [none_eq HSW.out.fin hm]
      have d1 : (e == e) = true := by simp
      go_wp2_with fail
      refine (allows_any gt m T l D e B cB ts _ HSW.out (HT2.out.belowMore HB.out HB.out.size) hn).mono ?_
      rintro ex w3 ⟨rfl, hb3⟩
      have HS3 := Lib.hid (HSW.out.below hb3)
      have HR3 := Lib.hid (HRW.out.below hb3)
      have HB3 := Lib.hid (HB.out.trans (hb3.mono HB.out.size))
      clear hb3
      go_wp2_with fail
      refine (refAlw13_any gx gs G m T c E cE A cA l D B cB ts w3 HR3.out t3 ⟨by omega, by omega⟩ (HL2.out.belowMore HB3.out HB3.out.size) (by omega) (HT2.out.belowMore HB3.out HB3.out.size) hn).mono ?_
      rintro ex w4 ⟨rfl, hb4⟩
      rw [allow_eq HS3.out.fin hm]
      have HS4 := Lib.hid (HS3.out.below hb4)
      have HR4 := Lib.hid (HR3.out.below hb4)
      have HB4 := Lib.hid (HB3.out.trans (hb4.mono HB3.out.size))
      clear hb4
      generalize allowB m T l D e ts = q
      have d2 : (q == q) = true := by simp
      go_wp2_with fail
      refine (tcount_any gt m T l D e w4 HS4.out).mono ?_
      rintro ex w5 ⟨rfl, hb5⟩
      have HR5 := Lib.hid (HR4.out.below hb5)
      have HB5 := Lib.hid (HB4.out.trans (hb5.mono HB4.out.size))
      clear hb5
      go_wp2_with fail
      refine (refCnt13_any gx gs G m T c _ _ D w5 HR5.out t3 ⟨by omega, by omega⟩).mono ?_
      rintro ex w6 ⟨rfl, rfl⟩
      rw [cntR_eq]
      generalize cntTo m T D (m * m) = n
      have d3 : ((n : Int) == (n : Int)) = true := by simp
      go_wp2_with fail
      go_ret
      exact ⟨rfl, by rw [HGN.out]; exact HB2.out.trans (HB5.out.mono (Nat.le_of_lt HSZ.out))⟩
end Go.Proofs.Ytbhjnihcmfagjaa
