/-
  Contracts of Spare and Kept at spans.
-/
import Derived.Test.YtabcbkgnhdijpaaSum
import Derived.Test.YtabcbkgnhdijpaaOff
set_option linter.unusedVariables false
set_option linter.unusedSimpArgs false
namespace Go.Proofs.Ytabcbkgnhdijpaa
open Go.RowKit RP

/-- What Spare returns: the list, and three fills behind it. -/
def SpareAt (w : World) (B g : Nat) (l : List Sp) (f : Sp) : Prop := B ≤ g ∧ g < w.heap.size ∧ Lst encS 2 w w.heap.size (some ⟨g, 0, none⟩) (l ++ [f, f, f])

theorem SpareAt.keep {w w' : World} {B g : Nat} {l : List Sp} {f : Sp} (h : SpareAt w B g l f) (hb : Below (g + 1) w w') : SpareAt w' B g l f := by
  obtain ⟨h1, h2, h3⟩ := h
  refine ⟨h1, Nat.lt_of_lt_of_le h2 hb.size, fun hn => ?_⟩
  obtain ⟨b, off, e, hlt, hc⟩ := h3 hn
  injection e with e
  injection e with e1 e2
  subst e1 e2
  exact ⟨g, 0, rfl, Nat.lt_of_lt_of_le h2 hb.size, fun i x hx j v hv => (hb.cell (p := ⟨g, 0 + i * 2 + j, none⟩) (by show g < g + 1; omega)).trans (hc i x hx j v hv)⟩
theorem SpareAt.below {w w' : World} {B g : Nat} {l : List Sp} {f : Sp} (h : SpareAt w B g l f) (hb : Below w.heap.size w w') : SpareAt w' B g l f := h.keep (hb.mono h.2.1)
theorem Lst.left {α : Type} {enc : α → List Value} {k : Nat} {w : World} {B : Nat} {A : Option Addr} {l m : List α} (h : Lst enc k w B A (l ++ m)) : Lst enc k w B A l := fun hn => by
  obtain ⟨b, off, e, hb, hc⟩ := h (by simp [hn])
  exact ⟨b, off, e, hb, fun i x hx j v hv => hc i x (by rw [List.getElem?_append_left (List.getElem?_eq_some_iff.1 hx).1]; exact hx) j v hv⟩
theorem SpareAt.lst {w : World} {B g : Nat} {l : List Sp} {f : Sp} (h : SpareAt w B g l f) : Lst encS 2 w w.heap.size (some ⟨g, 0, none⟩) l := h.2.2.left

set_option maxHeartbeats 2000000 in
theorem spare_any (A : Option Addr) (c : Nat) (l : List Sp) (f e : Int) (w : World) (hl : Lst encS 2 w w.heap.size A l) (hn : l.length ≤ 100000000) :
    Calls Try.prog 40 #[.slice A l.length c, .agg #[.int .i64 f, .int .i64 e]] w fun x w' =>
      ∃ g, x = .returned (.slice (some ⟨g, 0, none⟩) l.length (l.length + 3)) ∧ SpareAt w' w.heap.size g l (f, e) ∧ Below w.heap.size w w' := by
  have hb1 := below_refl_alloc w (.cells #[.int .i64 f, .int .i64 e] 31)
  have hz1 : w.heap.size < (w.alloc (.cells #[.int .i64 f, .int .i64 e] 31)).heap.size := by simp
  have hc0 : (w.alloc (.cells #[.int .i64 f, .int .i64 e] 31)).cell? ⟨w.heap.size, 0, none⟩ = some (.int .i64 f) := by rw [World.cell?_alloc_at _ _ _ _ rfl]; rfl
  have hc1 : (w.alloc (.cells #[.int .i64 f, .int .i64 e] 31)).cell? ⟨w.heap.size, 1, none⟩ = some (.int .i64 e) := by rw [World.cell?_alloc_at _ _ _ _ rfl]; rfl
  go_enter Try.func40, Try.ntmps40
  go_upto_region 1 with fail
  generalize hW : w.alloc (.cells #[.int .i64 f, .int .i64 e] 31) = W1 at *
  clear hW
  have hown : OwnS (W1.alloc (.cells #[] 31)) W1.heap.size (.slice (some ⟨W1.heap.size, 0, none⟩) 0 0) [] := Own.lit W1 _ _ _ [] 0 rfl encS_len rfl (Nat.le_refl _) (by simp)
  have hbl := below_refl_alloc W1 (.cells #[] 31)
  go_upto_region 2 with (at_builtin; refine wpList_append_lst rfl _ _ 22 rfl W1.heap.size 31 16 Try.underlying22 elemS _ [] rfl hown l A _ c w.heap.size rfl rfl ((hl.below hb1).below (hbl.mono (by omega))) (by simp only [maxLen, List.length_nil]; omega) (by simp only [List.length_nil]; omega) (by simp) ?_; intro v1 w2 ho2 hg2 hat2)
  have hg2' : (W1.alloc (.cells #[] 31)).grownBy w2 (some W1.heap.size) := hg2
  have hb2 : Below w.heap.size w w2 := (hb1.trans (hbl.mono (by omega))).grown hg2' (by simp; omega) (fun k hk => by injection hk with hk; omega)
  have d0 := hg2'.cell ((World.cell?_alloc_lt W1 (.cells #[] 31) ⟨w.heap.size, 0, none⟩ hz1).trans hc0) (by simp; omega)
  have d1 := hg2'.cell ((World.cell?_alloc_lt W1 (.cells #[] 31) ⟨w.heap.size, 1, none⟩ hz1).trans hc1) (by simp; omega)
  have z2 := hb2.size
  have z3 : W1.heap.size ≤ w2.heap.size := by have := hg2'.size; simp at this; omega
  clear hg2 hat2 hc0 hc1 hown hbl hg2'
  rw [List.nil_append] at ho2
  obtain ⟨A1, c1, rfl⟩ := ho2.form
  go_upto_region 3 with (at_builtin; refine wpList_append_rec rfl _ _ 22 rfl W1.heap.size 31 16 Try.underlying22 elemS _ l rfl ho2 [(f, e), (f, e), (f, e)] _ rfl 3 3 rfl rfl (by simp only [maxLen, List.length_cons, List.length_nil]; omega) (by simp only [List.length_cons, List.length_nil]; omega) z3 ?_; intro v3 w3 ho3 hg3 hat3)
  have hb3 : Below w.heap.size w w3 := hb2.grown hg3 z2 (fun k hk => by have := (World.ownsRow.lt ho2 k hk).1; omega)
  clear hg3 hat3 d0 d1
  have hl3 : (l ++ [(f, e), (f, e), (f, e)]).length = l.length + 3 := by simp
  obtain ⟨g, c3, rfl, hgb, hgl, hgc, _, _⟩ := ho3.at_ encS_len (by simp)
  have hlst := ho3.lst encS_len
  have hcm := ho3.cut encS_len
  obtain ⟨_, _, hv, _, _, hcm⟩ := hcm
  injection hv with hv1 _ hv
  subst hv hv1
  rw [hl3] at hgc ⊢
  have HS := Lib.hid (show SpareAt w3 w.heap.size g l (f, e) from ⟨by omega, hgl, hlst⟩)
  clear hlst ho3 hl3
  go_wp2_with fail
  go_ret
  exact ⟨g, rfl, HS.out, hb3⟩

theorem spanEqRun (a b : Int) (w : World) : (binOp .eql 31 (.agg #[.int .i64 a, .int .i64 b]) (.agg #[.int .i64 a, .int .i64 b])).run Try.prog w = .ok (.bool true) w := by
  have u3 := Try.underlying3
  have a3 := Try.isAgg3
  have z3 := Try.sizeOf3
  rw [run_eql_struct, show (10000 : Nat) = 9999 + 1 from rfl, run_equalIn_agg w 9999 31 _ _ spanS spanH]
  simp only [Program.fieldsOf, Try.underlying31]
  go_simp

set_option maxHeartbeats 2000000 in
theorem kept_any (g B : Nat) (A : Option Addr) (c : Nat) (l : List Sp) (f e : Int) (w : World) (hs : SpareAt w B g l (f, e)) (hl : Lst encS 2 w w.heap.size A l) (hn : l.length ≤ 100000000) :
    Calls Try.prog 41 #[.slice (some ⟨g, 0, none⟩) l.length (l.length + 3), .slice A l.length c, .agg #[.int .i64 f, .int .i64 e]] w fun x w' =>
      x = .returned (.bool true) ∧ Below w.heap.size w w' := by
  have hb1 := below_refl_alloc w (.cells #[.int .i64 f, .int .i64 e] 31)
  have hz1 : w.heap.size < (w.alloc (.cells #[.int .i64 f, .int .i64 e] 31)).heap.size := by simp
  have hc0 : (w.alloc (.cells #[.int .i64 f, .int .i64 e] 31)).cell? ⟨w.heap.size, 0, none⟩ = some (.int .i64 f) := by rw [World.cell?_alloc_at _ _ _ _ rfl]; rfl
  have hc1 : (w.alloc (.cells #[.int .i64 f, .int .i64 e] 31)).cell? ⟨w.heap.size, 1, none⟩ = some (.int .i64 e) := by rw [World.cell?_alloc_at _ _ _ _ rfl]; rfl
  have hsm := same_any (some ⟨g, 0, none⟩) A (l.length + 3) c l l _ ((hs.below hb1).lst) (hl.belowMore hb1 (by omega)) (by omega) (by omega)
  rw [show decide (l = l) = true by simp] at hsm
  have hs1 := hs.below hb1
  go_enter Try.func41, Try.ntmps41
  go_upto_region 1 with fail
  generalize hW : w.alloc (.cells #[.int .i64 f, .int .i64 e] 31) = W1 at *
  clear hW
  go_wp2_with fail
  refine hsm.mono ?_
  rintro x w2 ⟨rfl, hb2⟩
  clear hsm
  have hs2 := hs1.below hb2
  have d0 := (hb2.cell (p := ⟨w.heap.size, 0, none⟩) hz1).trans hc0
  have d1 := (hb2.cell (p := ⟨w.heap.size, 1, none⟩) hz1).trans hc1
  obtain ⟨_, hgl, hlst⟩ := hs2
  obtain ⟨b', o', he, _, hcc⟩ := hlst (by simp)
  injection he with he
  injection he with he1 he2
  subst he1 he2
  have k0 := hcc l.length (f, e) (by simp) 0 _ rfl
  have k1 := hcc l.length (f, e) (by simp) 1 _ rfl
  have k2 := hcc (l.length + 1) (f, e) (by simp) 0 _ rfl
  have k3 := hcc (l.length + 1) (f, e) (by simp) 1 _ rfl
  have k4 := hcc (l.length + 2) (f, e) (by simp) 0 _ rfl
  have k5 := hcc (l.length + 2) (f, e) (by simp) 1 _ rfl
  simp only [Nat.zero_add, Nat.add_zero] at k0 k1 k2 k3 k4 k5
  have hq := spanEqRun f e
  have HB := Lib.hid (hb1.trans (hb2.mono (Nat.le_of_lt hz1)))
  clear hcc hs1 hs hl hlst hc0 hc1 hb1 hb2
  generalize l.length = n at *
  have i0 : (0 : Int) ≤ (n : Int) := by omega
  have s1 : IntKind.i64.wrap ((n : Int) + 1) = (n : Int) + 1 := IntWalk.i64_in _ (by omega)
  have s2 : IntKind.i64.wrap ((n : Int) + 2) = (n : Int) + 2 := IntWalk.i64_in _ (by omega)
  go_wp2_with fail
  go_quiet (fail)
  go_wp2_with fail
  go_ret
  exact ⟨rfl, below_drewN HB.out _⟩

end Go.Proofs.Ytabcbkgnhdijpaa
