/-
  Contracts of keep.Occupations, headway.Valid, headway.Alone and together.
-/
import Derived.Test.YtjeocfkijbpinaaOcc
set_option linter.unusedVariables false
set_option linter.unusedSimpArgs false
namespace Go.Proofs.Ytjeocfkijbpinaa
open Go.RowKit RP

set_option maxHeartbeats 2000000 in
theorem occupations_any (A : Option Addr) (c : Nat) (l : List Int) (w : World) (h : ArgI w A c l) :
    Calls Try.prog 20 #[.slice A l.length c] w fun e w' =>
      ∃ v o, e = .returned v ∧ OwnO w' w.heap.size v o ∧ MadeO 6 o ∧ Below w.heap.size w w' := by
  go_enter Try.func20, Try.ntmps20
  go_wp2_with fail
  refine (from_any A c l w h).mono ?_
  rintro e w1 ⟨rfl, hs1, hb1⟩
  have z1 := hb1.size
  have l1 := hs1.lt
  go_wp2_with fail
  go_loopg [4, 5, 6] 6 (fun g s4 s5 s6 wr => ∃ (k : Nat) (o : List Occ) (j : Nat), k ≤ 6 ∧ g = 6 - k ∧ s5 = .int .i64 k ∧ OwnO wr w.heap.size s4 o ∧ (∀ q, s4.ownBlock = some q → w.heap.size < q) ∧ MadeO k o ∧ Src wr w.heap.size A c l j ∧ Below w.heap.size w wr)
  case atStart => exact ⟨0, [], 0, by omega, rfl, rfl, Own.nil _ _ _ _ _, by simp [Value.ownBlock], MadeO.nil, hs1, hb1⟩
  case round =>
    obtain ⟨k, o, j, hk, hg, rfl, ho, hob, hv, hs, hb⟩ := hrel
    have HV := Lib.hid hv
    have hlen := hv.2.1
    clear hv
    by_cases h0 : k < 6
    · go_wp2_with fail
      have zr := hb.size
      have lr := hs.lt
      refine (next_any w.heap.size A c l j 3 wr hs (by omega) (by omega)).mono ?_
      rintro e w2 ⟨r1, j2, hr0, hr1, rfl, hs2, hg2⟩
      have ho2 := ho.kept hg2 (.inr (fun e => by have := hob _ e; omega))
      have z2 := hg2.size
      have hb2 : Below w.heap.size w w2 := hb.grown hg2 zr (fun k hk => by injection hk with hk; omega)
      by_cases hr : 0 < r1
      · go_wp2_with fail
        refine (next_any w.heap.size A c l j2 60 w2 hs2 (by omega) (by omega)).mono ?_
        rintro e w3 ⟨r2, j3, hq0, hq1, rfl, hs3, hg3⟩
        have ho3 := ho2.kept hg3 (.inr (fun e => by have := hob _ e; omega))
        have z3 := hg3.size
        have hb3 : Below w.heap.size w w3 := hb2.grown hg3 (by omega) (fun k hk => by injection hk with hk; omega)
        go_wp2_with fail
        refine (next_any w.heap.size A c l j3 20 w3 hs3 (by omega) (by omega)).mono ?_
        rintro e w4 ⟨r3, j4, hp0, hp1, rfl, hs4, hg4⟩
        have ho4 := ho3.kept hg4 (.inr (fun e => by have := hob _ e; omega))
        have z4 := hg4.size
        have hb4 : Below w.heap.size w w4 := hb3.grown hg4 (by omega) (fun k hk => by injection hk with hk; omega)
        obtain ⟨A4, c4, rfl⟩ := ho4.form
        go_wp2_with (at_builtin; refine wpList_append_rec rfl _ _ 37 rfl w.heap.size 39 24 Try.underlying37 elemO _ o rfl ho4 [((k : Int), r2 - 20, r2 - 20 + 1 + r3)] _ rfl 1 1 rfl rfl (by simp only [maxLen, List.length_cons, List.length_nil]; omega) (by simp only [List.length_cons, List.length_nil]; omega) (by omega) ?_; intro v1 w5 ho5 hg5 hat5)
        go_roundg (6 - (k + 1))
        case measure => omega
        case rel =>
          refine ⟨k + 1, _, j4, by omega, rfl, by go_num, ho5, fun q hq => ?_, HV.out.snoc (by omega) (by omega) (by omega) (by omega), hs4.grown hg5 (fun q hq => hob q hq), hb4.grown hg5 (by omega) (fun q hq => by have := hob _ hq; omega)⟩
          rcases hat5 with e | e
          · rw [e] at hq; exact hob _ hq
          · rw [e] at hq; injection hq with hq; omega
      · go_wp2_with fail
        go_roundg (6 - (k + 1))
        case measure => omega
        case rel => exact ⟨k + 1, o, j2, by omega, rfl, by go_num, ho2, hob, HV.out.skip, hs2, hb2⟩
    · obtain rfl : k = 6 := by omega
      go_wp2_with fail
      go_ret
      exact ⟨_, o, rfl, ho, HV.out, hb⟩

def aloneL (t : Int) (l : List Occ) : Bool := inRange t && (validO (-1) l && aloneB t l)

theorem all_take_snoc {α : Type} {p : α → Bool} {l : List α} {k : Nat} (hk : k < l.length) (h : (l.take k).all p = true) (hp : p l[k] = true) : (l.take (k + 1)).all p = true := by
  rw [take_snoc l k hk, List.all_append, h]; simp [hp]
theorem all_no {α : Type} {p : α → Bool} {l : List α} {k : Nat} (hk : k < l.length) (hp : p l[k] = false) : l.all p = false := by
  rw [List.all_eq_false]; exact ⟨l[k], List.getElem_mem hk, by simp [hp]⟩
theorem validO_get {p : Int} {l : List Occ} (h : validO p l = true) {k : Nat} (hk : k < l.length) : p < l[k].1 ∧ -65536 ≤ l[k].2.1 ∧ l[k].2.1 < l[k].2.2 ∧ l[k].2.2 ≤ 65536 := validO_lt h _ (List.getElem_mem hk)

end Go.Proofs.Ytjeocfkijbpinaa
