/-
  Words for the walk of Close.
-/
import Derived.Test.YtbhjnihcmfagjaaRun
import Derived.Test.YtbhjnihcmfagjaaPro
import Derived.Test.YtbhjnihcmfagjaaClone
import Derived.Laws.MakeOwn
import Derived.RegionTactic
set_option linter.unusedVariables false
set_option linter.unusedSimpArgs false
namespace RP
/-- The table behind the activities of a list. -/
def initT (T : Nat) (l : List Acy) : Tab := l.foldl (fun D a => resT T D a.src.toNat a.dst.toNat (arcB T (a.lo % (T : Int)) (a.hi - a.lo + 1))) baseT
theorem initT_snoc (T : Nat) (l : List Acy) (a : Acy) : initT T (l ++ [a]) = resT T (initT T l) a.src.toNat a.dst.toNat (arcB T (a.lo % (T : Int)) (a.hi - a.lo + 1)) := by
  unfold initT; rw [List.foldl_append]; rfl
end RP
namespace Go.Proofs.Ytbhjnihcmfagjaa
open Go.RowKit Go.Shelf RP

theorem closeNo_any (T : Int) (E : Option Addr) (m cE : Nat) (A : Option Addr) (cA : Nat) (l : List Acy) (w : World) (hl : Lst encA 6 w w.heap.size A l) (hn : l.length ≤ 9223372036854775807) (hno : netB T m l = false) :
    Calls Try.prog 14 #[netV T E m cE A l.length cA] w fun e w' => e = .returned (.tuple #[.pointer none, .int .i64 1]) ∧ Below w.heap.size w w' := by
  have ba := belA w (.cells #[.int .i64 T, .slice E m cE, .slice A l.length cA] 25)
  go_enter Try.func14, Try.ntmps14
  go_wp2_with fail
  refine (netCheck_any T E m cE A cA l _ (hl.belowMore ba (by simp)) hn).mono ?_
  rintro e w1 ⟨rfl, hb⟩
  rw [hno]
  rw [World.size_alloc] at hb
  have HB := Lib.hid (ba.trans (hb.mono (by omega)))
  clear ba hb
  go_wp2_with fail
  go_ret2
  exact ⟨rfl, HB.out⟩

theorem infoSet : (Try.prog.info? 75).map (fun i => (i.zero, i.size, i.bytes)) = some (some (.agg #[.slice none 0 0, .int .i64 0]), 2, 32) := by kernel_rfl
theorem infoBl : (Try.prog.info? 4).map (fun i => (i.zero, i.size, i.bytes)) = some (some (.bool false), 1, 1) := by kernel_rfl
theorem run_make_rowN {P : Program} (t e : TypeId) (i : TypeInfo) (z : Value) (ht : P.underlying t = some (.slice e)) (hi : P.info? e = some i) (hz : i.zero = some z)
    (kl kc : IntKind) (n c : Nat) (hnc : n ≤ c) (hbytes : i.bytes * c ≤ 281474976710656) (h63 : c ≤ 9223372036854775807) (w : World) :
    (Instr.makeSlice t (.int kl (n : Int)) (.int kc (c : Int))).run P w = .ok (.slice (some ⟨w.heap.size, 0, none⟩) n c) (w.alloc (.cells (madeCells z.cells (c * i.size)) e)) := by
  have hb : (i.bytes : Int) * (c : Int) ≤ 281474976710656 := by
    have h : ((i.bytes * c : Nat) : Int) ≤ 281474976710656 := by omega
    rwa [Int.natCast_mul] at h
  have hr := run_make (P := P) w t e i z ht hi hz kl kc n c (by omega) (by omega) hb (by omega)
  simp only [Int.toNat_natCast] at hr
  exact hr

/-- A list of activities in a block that is not written. -/
def RowA (w : World) (M : List Nat) (A : Option Addr) (l : List Acy) : Prop :=
  l ≠ [] → ∃ b off, A = some ⟨b, off, none⟩ ∧ b < w.heap.size ∧ b ∉ M ∧ ∀ i x, l[i]? = some x → ∀ j v, (encA x)[j]? = some v → w.cell? ⟨b, off + i * 6 + j, none⟩ = some v
section
variable {M M' : List Nat} {w w' : World} {A : Option Addr} {l : List Acy}
theorem RowA.lst (h : RowA w M A l) : Lst encA 6 w w.heap.size A l := fun hl => by
  obtain ⟨b, off, h1, h2, _, h4⟩ := h hl
  exact ⟨b, off, h1, h2, h4⟩
theorem RowA.kept (h : RowA w M A l) (hk : Kept M w w') : RowA w' M A l := fun hl => by
  obtain ⟨b, off, h1, h2, h3, h4⟩ := h hl
  exact ⟨b, off, h1, Nat.lt_of_lt_of_le h2 hk.size, h3, fun i x hx j v hv => (hk.cell h2 h3).trans (h4 i x hx j v hv)⟩
theorem RowA.swap (h : RowA w M A l) (hM : ∀ k ∈ M', k ∈ M ∨ w.heap.size ≤ k) : RowA w M' A l := fun hl => by
  obtain ⟨b, off, h1, h2, h3, h4⟩ := h hl
  exact ⟨b, off, h1, h2, fun q => by
    rcases hM b q with e | e
    · exact h3 e
    · omega, h4⟩
theorem RowA.of_lst (h : Lst encA 6 w w.heap.size A l) (hM : ∀ k ∈ M, w.heap.size ≤ k) : RowA w M A l := fun hl => by
  obtain ⟨b, off, h1, h2, h4⟩ := h hl
  exact ⟨b, off, h1, h2, fun q => by have := hM b q; omega, h4⟩
end
theorem made2 (z0 z1 : Value) (n : Nat) : (madeCells #[z0, z1] (n * 2)).size = n * 2 ∧ ∀ k, k < n → (madeCells #[z0, z1] (n * 2))[k * 2]? = some z0 ∧ (madeCells #[z0, z1] (n * 2))[k * 2 + 1]? = some z1 := by
  have hs : (madeCells #[z0, z1] (n * 2)).size = n * 2 := size_madeCells _ _
  refine ⟨hs, fun k hk => ⟨?_, ?_⟩⟩
  · rw [Array.getElem?_eq_getElem (by rw [hs]; omega)]
    simp [madeCells]
  · rw [Array.getElem?_eq_getElem (by rw [hs]; omega)]
    have : (k * 2 + 1) % 2 = 1 := by omega
    simp [madeCells, this]
theorem tb_start {w : World} {gt gs : Nat} {M : List Nat} {m T : Nat} {E : Option Addr} {cE : Nat} {va vq vw : Value} {e : Bool}
    (h1 : w.heap[gt]? = some (.cells #[.int .i64 T, .slice E m cE, va, .slice (some ⟨gs, 0, none⟩) (m * m) (m * m), vq, vw, .bool e] 73 (0, 0)))
    (h2 : w.heap[gs]? = some (.cells (madeCells #[.slice none 0 0, .int .i64 0] (m * m * 2)) 75 (0, 0))) (hM : gt ∈ M ∧ gs ∈ M ∧ gt ≠ gs) (hmT : m ≤ 48 ∧ 1 ≤ T ∧ T ≤ 7200) :
    Tb w gt gs M m T E cE va vq vw (fillT 0 0) e := by
  have hz := made2 (.slice none 0 0) (.int .i64 0) (m * m)
  refine ⟨h1, ⟨_, h2, hz.1⟩, fun i j hi hj => ?_, hM, hmT⟩
  obtain ⟨g0, g1⟩ := hz.2 (i * m + j) (idx_lt hi hj)
  rw [fill_zero]
  have e0 : runs (fun _ => false) T = [] := runs_none T fun _ _ => rfl
  refine ⟨none, 0, ?_, ?_, by rw [e0]; exact Row.nil, by rw [e0]; simp, by simp [maxLen]⟩
  · rw [cell_of_row w gs _ _ _ _ h2, g0, e0]; rfl
  · rw [cell_of_row w gs _ _ _ _ h2, g1, show cntN (fun _ => false) T = 0 from none_iff.1 fun _ _ => rfl]; rfl
theorem wt_start {w : World} {gw m : Nat} (h : w.heap[gw]? = some (.cells (madeCells #[.bool false] (m * m)) 4 (0, 0))) : Wt w gw m [] := by
  refine ⟨⟨_, h, size_madeCells _ _⟩, fun i j hi hj => ?_⟩
  rw [cell_of_row w gw _ _ _ _ h, Array.getElem?_eq_getElem (by rw [size_madeCells]; exact idx_lt hi hj)]
  have : (i * m + j) % 1 = 0 := Nat.mod_one _
  simp [madeCells, this]
section
variable {w : World} {a b c : Array Value} {t t' t'' : TypeId}
theorem three_a : (((w.alloc (.cells a t)).alloc (.cells b t')).alloc (.cells c t'')).drew.heap[w.heap.size]? = some (.cells a t (0, 0)) :=
  (heap_alloc_old ((w.alloc (.cells a t)).alloc (.cells b t')) (.cells c t'') (by simp; omega)).trans ((heap_alloc_old (w.alloc (.cells a t)) (.cells b t') (by simp)).trans (heap_alloc_new w (.cells a t)))
theorem three_b : (((w.alloc (.cells a t)).alloc (.cells b t')).alloc (.cells c t'')).drew.heap[w.heap.size + 1]? = some (.cells b t' (0, 0)) := by
  have h := heap_alloc_new (w.alloc (.cells a t)) (.cells b t')
  rw [World.size_alloc] at h
  exact (heap_alloc_old ((w.alloc (.cells a t)).alloc (.cells b t')) (.cells c t'') (by simp)).trans h
theorem three_c : (((w.alloc (.cells a t)).alloc (.cells b t')).alloc (.cells c t'')).drew.heap[w.heap.size + 2]? = some (.cells c t'' (0, 0)) := by
  have h := heap_alloc_new ((w.alloc (.cells a t)).alloc (.cells b t')) (.cells c t'')
  rw [World.size_alloc, World.size_alloc] at h
  exact h
theorem three_below (o o' o'' : Obj) : Below w.heap.size w (((w.alloc o).alloc o').alloc o'').drew := ((((Below.refl _ w).alloc (Nat.le_refl _) o).alloc (by simp) o').alloc (by simp; omega) o'').drew
end
/-- A restriction while the activities are looked at. -/
theorem restrict_ini (gt gs : Nat) (M : List Nat) (m T : Nat) (E : Option Addr) (cE : Nat) (va vq vw : Value) (D : Tab) (e : Bool) (i j : Nat) (P : Nat → Bool) (A : Option Addr) (c : Nat) (w : World)
    (h : Tb w gt gs M m T E cE va vq vw D e) (hI : Ini m T D e) (hi : i < m) (hj : j < m) (hij : i ≠ j) (hr : Row w M A (runs P T)) (hc : (runs P T).length ≤ c) (hc' : c ≤ maxLen) (hM : ∀ k ∈ M, k < w.heap.size) :
    Calls Try.prog 39 #[.pointer (some ⟨gt, 0, none⟩), .int .i64 i, .int .i64 j, .slice A (runs P T).length c] w fun ex w' =>
      ∃ b e', ex = .returned (.bool b) ∧ Tb w' gt gs M m T E cE va vq vw (resT T D i j P) e' ∧ Ini m T (resT T D i j P) e' ∧ Kept [gt, gs] w w' := by
  refine (restrict_any gt gs M m T E cE va vq vw D e i j P A c w h hi hj hij hr hc hc' hM).mono ?_
  have h1 := h.mT.2.1
  have hst := hI.step h1 (S := P) hi hj hij
  rintro ex w' (⟨h3, rfl, hb⟩ | ⟨h3, rfl, ht, hk⟩)
  · obtain ⟨q1, q2⟩ := hI.same h1 hi hj hij h3
    rw [q2] at hst
    exact ⟨_, _, rfl, (h.below hb).congr q1, hst, .of_below _ hb⟩
  · exact ⟨_, _, rfl, ht, hst, hk⟩
theorem field_set (A : Option Addr) (n c : Nat) (x : Int) (W : World) : (Instr.field 75 (.agg #[.slice A n c, .int .i64 x]) 0).run Try.prog W = .ok (.slice A n c) W := by kernel_rfl
theorem fill_in {T k j : Nat} (h1 : 1 ≤ T) (a b x : Nat) : putT (fillT k j) k j (arcB T (0 % (T : Int)) T) a b x = fillT k (j + 1) a b x := by
  unfold putT fillT
  by_cases q : a = k ∧ b = j
  · obtain ⟨rfl, rfl⟩ := q
    rw [if_pos ⟨rfl, rfl⟩, if_neg (Nat.lt_irrefl _), if_pos ⟨rfl, Nat.lt_succ_self _⟩]
    exact arc_full h1
  · rw [if_neg q]
    by_cases q1 : a < k
    · rw [if_pos q1, if_pos q1]
    · rw [if_neg q1, if_neg q1]
      by_cases q2 : a = k ∧ b < j
      · rw [if_pos q2, if_pos ⟨q2.1, by omega⟩]
      · rw [if_neg q2, if_neg (fun q3 => q2 ⟨q3.1, by omega⟩)]
theorem fill_diag {T k m a b x : Nat} (h1 : 1 ≤ T) (hk : k < m) (hb : b < m) (hx : x < T) : putT (fillT k m) k k (arcB T (0 % (T : Int)) 1) a b x = fillT (k + 1) 0 a b x := by
  unfold putT fillT
  by_cases q : a = k ∧ b = k
  · obtain ⟨rfl, rfl⟩ := q
    rw [if_pos ⟨rfl, rfl⟩, if_pos (Nat.lt_succ_self _), arc_one h1 hx]
    simp [baseT]
  · rw [if_neg q]
    by_cases q1 : a < k
    · rw [if_pos q1, if_pos (by omega)]
    · rw [if_neg q1]
      by_cases q2 : a = k
      · subst q2
        rw [if_pos ⟨rfl, hb⟩, if_pos (Nat.lt_succ_self _)]
        have : a ≠ b := fun e => q ⟨rfl, e.symm⟩
        simp [baseT, this]
      · rw [if_neg (fun q3 => q2 q3.1), if_neg (by omega), if_neg (fun q3 => by omega)]
def ClosePost (T m : Nat) (l : List Acy) (w : World) (ex : Ending) (w' : World) : Prop :=
  ∃ gt gs M E cE A cA D e, ex = .returned (.tuple #[.pointer (some ⟨gt, 0, none⟩), .int .i64 0]) ∧ Tb w' gt gs M m T E cE (.slice A l.length cA) (.slice none 0 0) (.slice none 0 0) D e ∧ Fin13 m T (initT T l) D e ∧
    Below w.heap.size w w' ∧ (∀ k ∈ M, w.heap.size ≤ k) ∧ RowA w' M A l ∧ netB T m l = true


end Go.Proofs.Ytbhjnihcmfagjaa
