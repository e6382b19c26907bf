/-
  Contract of appendArc: the spans of an arc are appended to a row of the caller's own.
-/
import Derived.Test.YtabcbkgnhdijpaaValid
import Derived.Test.YtabcbkgnhdijpaaArc
set_option linter.unusedVariables false
set_option linter.unusedSimpArgs false
namespace Go.Proofs.Ytabcbkgnhdijpaa
open Go.RowKit RP

theorem own_at {a b : Option Nat} {n : Nat} (h : a = b ∨ a = some (n + 1)) : ∀ g, a = some g → b = some g ∨ n ≤ g := fun g hg => by
  rcases h with h | h
  · exact .inl (by rw [← h, hg])
  · rw [h] at hg; injection hg with hg; exact .inr (by omega)

set_option maxHeartbeats 1000000 in
theorem appendArc_at (base : Nat) (v : Value) (l : List Sp) (t f n : Int) (w : World) (hown : OwnS w base v l) (hbase : base ≤ w.heap.size) (hl : l.length ≤ 4294967296)
    (t1 : 1 ≤ t) (t2 : t ≤ 7200) (f1 : 0 ≤ f) (f2 : f < t) (n2 : n ≤ 9223372036854775807) :
    Calls Try.prog 43 #[v, .int .i64 t, .int .i64 f, .int .i64 n] w fun e w' =>
      ∃ v', e = .returned v' ∧ OwnS w' base v' (l ++ arc t f n) ∧ w.grownBy w' v.ownBlock ∧ ∀ g, v'.ownBlock = some g → v.ownBlock = some g ∨ w.heap.size ≤ g := by
  obtain ⟨A, c, rfl⟩ := hown.form
  by_cases c1 : n < 1
  · have H := Lib.hid (show arc t f n = [] by simp [arc, c1])
    go_enter Try.func43, Try.ntmps43
    go_wp2
    go_ret
    exact ⟨_, rfl, by rw [H.out, List.append_nil]; exact hown, ⟨rfl, rfl, rfl, Nat.le_refl _, fun _ _ _ => rfl⟩, fun g hg => .inl hg⟩
  · by_cases c2 : t ≤ n
    · have H := Lib.hid (show arc t f n = [(0, t)] by simp [arc, c1, c2])
      go_enter Try.func43, Try.ntmps43
      go_wp2_with (at_builtin; refine wpList_append_rec rfl _ _ 22 rfl base 31 16 Try.underlying22 elemS _ l rfl hown [(0, t)] _ rfl 1 1 rfl rfl (by simp only [maxLen, List.length_cons, List.length_nil]; omega) (by simp only [List.length_cons, List.length_nil]; omega) hbase ?_; intro v1 w1 ho1 hg1 hat1)
      go_ret
      exact ⟨_, rfl, by rw [H.out]; exact ho1, hg1, own_at hat1⟩
    · by_cases c3 : f + n ≤ t
      · have H := Lib.hid (show arc t f n = [(f, f + n)] by simp [arc, c1, c2, c3])
        go_enter Try.func43, Try.ntmps43
        go_wp2_with (at_builtin; refine wpList_append_rec rfl _ _ 22 rfl base 31 16 Try.underlying22 elemS _ l rfl hown [(f, f + n)] _ rfl 1 1 rfl rfl (by simp only [maxLen, List.length_cons, List.length_nil]; omega) (by simp only [List.length_cons, List.length_nil]; omega) hbase ?_; intro v1 w1 ho1 hg1 hat1)
        go_ret
        exact ⟨_, rfl, by rw [H.out]; exact ho1, hg1, own_at hat1⟩
      · have H := Lib.hid (show arc t f n = [(0, f + n - t), (f, t)] by simp [arc, c1, c2, c3])
        go_enter Try.func43, Try.ntmps43
        go_wp2_with (at_builtin; refine wpList_append_rec rfl _ _ 22 rfl base 31 16 Try.underlying22 elemS _ l rfl hown [(0, f + n - t), (f, t)] _ rfl 2 2 rfl rfl (by simp only [maxLen, List.length_cons, List.length_nil]; omega) (by simp only [List.length_cons, List.length_nil]; omega) hbase ?_; intro v1 w1 ho1 hg1 hat1)
        go_ret
        exact ⟨_, rfl, by rw [H.out]; exact ho1, hg1, own_at hat1⟩

theorem appendArc_any (base : Nat) (v : Value) (l : List Sp) (t f n : Int) (w : World) (hown : OwnS w base v l) (hbase : base ≤ w.heap.size) (hl : l.length ≤ 4294967296)
    (t1 : 1 ≤ t) (t2 : t ≤ 7200) (f1 : 0 ≤ f) (f2 : f < t) (n2 : n ≤ 9223372036854775807) :
    Calls Try.prog 43 #[v, .int .i64 t, .int .i64 f, .int .i64 n] w fun e w' =>
      ∃ v', e = .returned v' ∧ OwnS w' base v' (l ++ arc t f n) ∧ w.grownBy w' v.ownBlock :=
  (appendArc_at base v l t f n w hown hbase hl t1 t2 f1 f2 n2).mono fun _ _ ⟨v', h1, h2, h3, _⟩ => ⟨v', h1, h2, h3⟩

end Go.Proofs.Ytabcbkgnhdijpaa
