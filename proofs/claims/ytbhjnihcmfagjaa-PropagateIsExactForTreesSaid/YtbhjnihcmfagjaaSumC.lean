/-
  Contract of sumByCounts: the sum of two sets by counting spans.
-/
import Derived.Test.YtbhjnihcmfagjaaArcArr
set_option linter.unusedVariables false
set_option linter.unusedSimpArgs false
namespace Go.Proofs.Ytbhjnihcmfagjaa
open Go.RowKit RP

/-! ### A row of numbers -/
def encZ (x : Int) : List Value := [.int .i64 x]
theorem encZ_len (x : Int) : (encZ x).length = 1 := rfl
def intsOf (n : Nat) (f : Nat → Int) : List Int := (List.range n).map f
theorem intsOf_length (n : Nat) (f : Nat → Int) : (intsOf n f).length = n := by simp [intsOf]
theorem intsOf_get {n : Nat} {f : Nat → Int} {i : Nat} (h : i < (intsOf n f).length) : (intsOf n f)[i] = f i := by simp [intsOf]
theorem intsOf_congr {n : Nat} {f g : Nat → Int} (h : ∀ x, x < n → f x = g x) : intsOf n f = intsOf n g := by
  unfold intsOf
  exact List.map_congr_left fun x hx => h x (List.mem_range.1 hx)
theorem intsOf_set (n : Nat) (f : Nat → Int) (i : Nat) (v : Int) : (intsOf n f).set i v = intsOf n fun x => if x = i then v else f x := by
  apply List.ext_getElem
  · simp [intsOf]
  · intro j h1 h2
    rw [List.getElem_set]
    simp only [intsOf, List.getElem_map, List.getElem_range]
    split
    · rename_i h; subst h; simp
    · rename_i h; rw [if_neg (fun e => h e.symm)]
theorem intsOf_zero (n : Nat) : List.replicate n (0 : Int) = intsOf n (chg []) := by
  apply List.ext_getElem
  · simp [intsOf]
  · intro j h1 h2; simp [intsOf, chg]

theorem infoInt : (Try.prog.info? 3).map (fun i => (i.zero, i.size, i.bytes)) = some (some (.int .i64 0), 1, 8) := by kernel_rfl
theorem makeInts (t : Nat) (h : t ≤ 4294967296) : ∀ w : World, (Instr.makeSlice 26 (.int .i64 (t : Int)) (.int .i64 (t : Int))).run Try.prog w =
    .ok (.slice (some ⟨w.heap.size, 0, none⟩) t t) (w.alloc (.cells (madeCells #[.int .i64 0] t) 3)) :=
  fun w => run_make_row' 26 3 (.int .i64 0) 8 Try.underlying26 infoInt rfl .i64 .i64 t (by omega) (by omega) w
theorem flat_ints : ∀ t : Nat, (List.replicate t (0 : Int)).flatMap encZ = List.replicate t (.int .i64 0)
  | 0 => rfl
  | t + 1 => by rw [List.replicate_succ, List.flatMap_cons, flat_ints t, List.replicate_succ]; rfl
theorem Own.ints (w : World) (t : Nat) (h : t ≤ 4294967296) : Own encZ 1 3 (w.alloc (.cells (madeCells #[.int .i64 0] t) 3)) w.heap.size (.slice (some ⟨w.heap.size, 0, none⟩) t t) (intsOf t (chg [])) := by
  refine Own.lit w _ _ _ _ _ (by rw [intsOf_length]) encZ_len ?_ (Nat.le_refl _) (by rw [intsOf_length]; simp only [Go.maxLen]; omega)
  rw [madeCells_toList, ← intsOf_zero, flat_ints]
theorem Own.itAt {w : World} {base g n c : Nat} {l : List Int} (h : Own encZ 1 3 w base (.slice (some ⟨g, 0, none⟩) n c) l) (i : Nat) (hi : i < l.length) (b : Int) :
    w.cell? ⟨g, i, none⟩ = some (.int .i64 l[i]) ∧ w.frozen? ⟨g, i, none⟩ = false ∧ Own encZ 1 3 (w.setCell ⟨g, i, none⟩ (.int .i64 b)) base (.slice (some ⟨g, 0, none⟩) n c) (l.set i b) := by
  obtain ⟨g', c', hv, _, _, _, hc, hf⟩ := h.at_ encZ_len (by intro h0; subst h0; simp at hi)
  injection hv with hv
  simp only [Option.some.injEq, Addr.mk.injEq, and_true] at hv
  subst hv
  have h1 := hc i l[i] (List.getElem?_eq_getElem hi) 0 _ rfl
  have h2 := (h.stored encZ_len i 0 (.int .i64 b) b hi (by omega) rfl).1
  rw [Nat.mul_one, Nat.add_zero] at h1 h2
  exact ⟨h1, hf i, h2⟩

/-- The changes while a span is being counted. -/
def chgHalf (l : List Sp) (s : Sp) (r : Nat) : Int := chg l r + one ((r : Int) = s.1)
theorem chg_first {n : Nat} {l : List Sp} {F : Nat} {e : Int} : (intsOf n (chg l)).set F (chg l F + 1) = intsOf n (chgHalf l ((F : Int), e)) := by
  rw [intsOf_set]
  refine intsOf_congr fun x _ => ?_
  unfold chgHalf one
  by_cases h : x = F
  · subst h; simp
  · rw [if_neg h, if_neg (by simp; omega)]; omega
theorem chg_second {n : Nat} {l : List Sp} {f : Int} {E : Nat} : (intsOf n (chgHalf l (f, (E : Int)))).set E (chgHalf l (f, (E : Int)) E - 1) = intsOf n (chg (l ++ [(f, (E : Int))])) := by
  rw [intsOf_set]
  refine intsOf_congr fun x _ => ?_
  rw [chg_snoc]
  unfold chgHalf
  by_cases h : x = E
  · subst h; simp [one]
  · rw [if_neg h]
    have : one ((x : Int) = ((f, (E : Int)) : Sp).2) = 0 := by simp [one]; omega
    rw [this]; omega
theorem one_bound (b : Prop) [Decidable b] : 0 ≤ one b ∧ one b ≤ 1 := by unfold one; split <;> omega

def rowOf (g T : Nat) : Value := .slice (some ⟨g, 0, none⟩) (T + 1) (T + 1)
abbrev OwnI (w : World) (base g n : Nat) (l : List Int) : Prop := Own encZ 1 3 w base (.slice (some ⟨g, 0, none⟩) n n) l

theorem arr0 (w : World) : Arr2 (w.alloc (.cells #[.int .i64 0, .int .i64 0, .int .i64 0, .int .i64 0] 122)) w.heap.size := ⟨0, 0, 0, 0, heap_alloc_new w _⟩

end Go.Proofs.Ytbhjnihcmfagjaa
