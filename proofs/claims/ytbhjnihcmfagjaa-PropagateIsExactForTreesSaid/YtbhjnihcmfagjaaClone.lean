/-
  Contracts of slices.Clone at events and at activities.
-/
import Derived.Test.YtbhjnihcmfagjaaNet
import Derived.Test.YtbhjnihcmfagjaaStp
set_option linter.unusedVariables false
set_option linter.unusedSimpArgs false
namespace Go.Proofs.Ytbhjnihcmfagjaa
open Go.RowKit RP

/-- An event: kind, line, ride. -/
abbrev Evt := Int × Int × Int
def encE (x : Evt) : List Value := [.int .i64 x.1, .int .i64 x.2.1, .int .i64 x.2.2]
theorem encE_len (x : Evt) : (encE x).length = 3 := rfl
theorem encE_one (x : Evt) : ∀ u ∈ encE x, u.oneCell' = true := by
  intro u hu
  simp only [encE, List.mem_cons, List.not_mem_nil, or_false] at hu
  rcases hu with rfl | rfl | rfl <;> rfl
abbrev OwnE (w : World) (base : Nat) (v : Value) (l : List Evt) : Prop := Own encE 3 65 w base v l
theorem infoEvt : (Try.prog.info? 65).map (fun i => (i.zero, i.size, i.bytes)) = some (some (.agg #[.int .i64 0, .int .i64 0, .int .i64 0]), 3, 24) := by kernel_rfl
theorem elemE : ElemOk Try.prog encE 3 65 24 :=
  ⟨fun _ => rfl, by omega, encE_one, by
    obtain ⟨i, hi, h0, h1, h2⟩ := info_parts infoEvt
    exact ⟨i, _, hi, h0, h1, h2, rfl⟩⟩
abbrev OwnA (w : World) (base : Nat) (v : Value) (l : List Acy) : Prop := Own encA 6 30 w base v l
theorem infoAct : (Try.prog.info? 30).map (fun i => (i.zero, i.size, i.bytes)) = some (some (.agg #[.int .i64 0, .int .i64 0, .int .i64 0, .int .i64 0, .int .i64 0, .int .i64 0]), 6, 48) := by kernel_rfl
theorem elemA : ElemOk Try.prog encA 6 30 48 :=
  ⟨fun _ => rfl, by omega, encA_one, by
    obtain ⟨i, hi, h0, h1, h2⟩ := info_parts infoAct
    exact ⟨i, _, hi, h0, h1, h2, rfl⟩⟩

set_option maxHeartbeats 1000000 in
theorem cloneE_any (A : Option Addr) (c : Nat) (l : List Evt) (w : World) (hl : Lst encE 3 w w.heap.size A l) (hn : l.length * 24 ≤ 140737488355328) :
    Calls Try.prog 35 #[.slice A l.length c] w fun e w' => ∃ v, e = .returned v ∧ OwnE w' w.heap.size v l ∧ Below w.heap.size w w' := by
  have q := fun (W : World) (a : Option Addr) (n c : Nat) => Lib.run_eql_slice_nil (P := Try.prog) W 22 65 a n c 0 0 Try.underlying22
  cases A with
  | none =>
    have h0 : l = [] := by
      cases l with
      | nil => rfl
      | cons x r => obtain ⟨b, off, h, _⟩ := hl (by simp); cases h
    subst h0
    go_enter Try.func35, Try.ntmps35
    go_wp2_with fail
    go_ret
    exact ⟨_, rfl, Own.nil _ _ _ _ _, Below.refl _ _⟩
  | some a =>
    have hown : OwnE (w.alloc (.cells #[] 65)) w.heap.size (.slice (some ⟨w.heap.size, 0, none⟩) 0 0) [] := Own.lit w _ _ _ [] 0 rfl encE_len rfl (Nat.le_refl _) (by simp)
    have hbl := belA w (.cells #[] 65)
    go_enter Try.func35, Try.ntmps35
    go_wp2_with (at_builtin; refine wpList_append_lst rfl _ _ 22 rfl w.heap.size 65 24 Try.underlying22 elemE _ [] rfl hown l _ _ c w.heap.size rfl rfl (hl.below hbl) (by simp only [Go.maxLen, List.length_nil]; omega) (by simp only [List.length_nil]; omega) (by simp) ?_; intro v1 w2 ho2 hg2 hat2)
    go_ret
    rw [List.nil_append] at ho2
    have hg2' : (w.alloc (.cells #[] 65)).grownBy w2 (some w.heap.size) := hg2
    exact ⟨_, rfl, ho2, hbl.grown hg2' (by simp) (fun k hk => by injection hk with hk; omega)⟩

set_option maxHeartbeats 1000000 in
theorem cloneA_any (A : Option Addr) (c : Nat) (l : List Acy) (w : World) (hl : Lst encA 6 w w.heap.size A l) (hn : l.length * 48 ≤ 140737488355328) :
    Calls Try.prog 36 #[.slice A l.length c] w fun e w' => ∃ v, e = .returned v ∧ OwnA w' w.heap.size v l ∧ Below w.heap.size w w' := by
  have q := fun (W : World) (a : Option Addr) (n c : Nat) => Lib.run_eql_slice_nil (P := Try.prog) W 23 30 a n c 0 0 Try.underlying23
  cases A with
  | none =>
    have h0 : l = [] := by
      cases l with
      | nil => rfl
      | cons x r => obtain ⟨b, off, h, _⟩ := hl (by simp); cases h
    subst h0
    go_enter Try.func36, Try.ntmps36
    go_wp2_with fail
    go_ret
    exact ⟨_, rfl, Own.nil _ _ _ _ _, Below.refl _ _⟩
  | some a =>
    have hown : OwnA (w.alloc (.cells #[] 30)) w.heap.size (.slice (some ⟨w.heap.size, 0, none⟩) 0 0) [] := Own.lit w _ _ _ [] 0 rfl encA_len rfl (Nat.le_refl _) (by simp)
    have hbl := belA w (.cells #[] 30)
    go_enter Try.func36, Try.ntmps36
    go_wp2_with (at_builtin; refine wpList_append_lst rfl _ _ 23 rfl w.heap.size 30 48 Try.underlying23 elemA _ [] rfl hown l _ _ c w.heap.size rfl rfl (hl.below hbl) (by simp only [Go.maxLen, List.length_nil]; omega) (by simp only [List.length_nil]; omega) (by simp) ?_; intro v1 w2 ho2 hg2 hat2)
    go_ret
    rw [List.nil_append] at ho2
    have hg2' : (w.alloc (.cells #[] 30)).grownBy w2 (some w.heap.size) := hg2
    exact ⟨_, rfl, ho2, hbl.grown hg2' (by simp) (fun k hk => by injection hk with hk; omega)⟩

set_option maxHeartbeats 1000000 in
theorem cloneS_any (A : Option Addr) (c : Nat) (l : List Sp) (w : World) (hl : Lst encS 2 w w.heap.size A l) (hn : l.length * 16 ≤ 140737488355328) :
    Calls Try.prog 45 #[.slice A l.length c] w fun e w' => ∃ v, e = .returned v ∧ OwnS w' w.heap.size v l ∧ Below w.heap.size w w' := by
  have q := fun (W : World) (a : Option Addr) (n c : Nat) => Lib.run_eql_slice_nil (P := Try.prog) W 40 46 a n c 0 0 Try.underlying40
  cases A with
  | none =>
    have h0 : l = [] := by
      cases l with
      | nil => rfl
      | cons x r => obtain ⟨b, off, h, _⟩ := hl (by simp); cases h
    subst h0
    go_enter Try.func45, Try.ntmps45
    go_wp2_with fail
    go_ret
    exact ⟨_, rfl, Own.nil _ _ _ _ _, Below.refl _ _⟩
  | some a =>
    have hown : OwnS (w.alloc (.cells #[] 46)) w.heap.size (.slice (some ⟨w.heap.size, 0, none⟩) 0 0) [] := Own.lit w _ _ _ [] 0 rfl encS_len rfl (Nat.le_refl _) (by simp)
    have hbl := belA w (.cells #[] 46)
    go_enter Try.func45, Try.ntmps45
    go_wp2_with (at_builtin; refine wpList_append_lst rfl _ _ 40 rfl w.heap.size 46 16 Try.underlying40 elemS _ [] rfl hown l _ _ c w.heap.size rfl rfl (hl.below hbl) (by simp only [Go.maxLen, List.length_nil]; omega) (by simp only [List.length_nil]; omega) (by simp) ?_; intro v1 w2 ho2 hg2 hat2)
    go_ret
    rw [List.nil_append] at ho2
    have hg2' : (w.alloc (.cells #[] 46)).grownBy w2 (some w.heap.size) := hg2
    exact ⟨_, rfl, ho2, hbl.grown hg2' (by simp) (fun k hk => by injection hk with hk; omega)⟩


end Go.Proofs.Ytbhjnihcmfagjaa
