/-
  Closures in memory, and the contracts of Closures, Check, Open and small of both sides.
-/
import Derived.Test.YtlillkfelfoafaaCloP
import Derived.Test.YtlillkfelfoafaaOcc
import Derived.Test.YtlillkfelfoafaaOff
set_option linter.unusedVariables false
set_option linter.unusedSimpArgs false
namespace Go.Proofs.Ytlillkfelfoafaa
open Go.RowKit RP

abbrev OwnC (w : World) (base : Nat) (v : Value) (l : List Clo) : Prop := Own encO 3 82 w base v l
theorem infoClo : (Try.prog.info? 82).map (fun i => (i.zero, i.size, i.bytes)) = some (some (.agg #[.int .i64 0, .int .i64 0, .int .i64 0]), 3, 24) := by kernel_rfl
theorem elemC : ElemOk Try.prog encO 3 82 24 :=
  ⟨fun _ => rfl, by omega, encO_one, by
    obtain ⟨i, hi, h0, h1, h2⟩ := info_parts infoClo
    exact ⟨i, _, hi, h0, h1, h2, rfl⟩⟩

section
variable {H : Type} {enc : TypeId × Value → H} {W : World} {v : Value} {d : DataW H} {p : List MemPlace}
theorem open_argC (hsl : ∃ A len cap, v = .slice A len cap) (h : DataW.Trod enc Try.prog W 0 (fun _ => true) true 23 v d p) : ∃ A c l, v = .slice A l.length c ∧ ArgO W A c l := by
  have := open_recs (recEnc := encO) (rng := fun x : Occ => R64 x.1 ∧ R64 x.2.1 ∧ R64 x.2.2) (fun zs => (zs.getD 0 0, zs.getD 1 0, zs.getD 2 0)) Try.underlying23 Try.underlying82 (by kernel_rfl) (by kernel_rfl)
    (fun j f hj => by
      match j, hj with
      | 0, hj => simp at hj; subst hj; exact Try.underlying3
      | 1, hj => simp at hj; subst hj; exact Try.underlying3
      | 2, hj => simp at hj; subst hj; exact Try.underlying3
      | j + 3, hj => simp at hj)
    (fun zs hz hr => by
      match zs, hz with
      | [a, b, c], _ => exact ⟨rfl, hr _ (by simp), hr _ (by simp), hr _ (by simp)⟩) (by simp) (.inr trivial) h hsl
  exact this
end

theorem MadeC.snoc {l : List Clo} {k : Nat} (h : l.length + k ≤ 5) (hk : 1 ≤ k) (hm : ∀ c ∈ l, 0 ≤ c.1 ∧ c.1 < 6 ∧ 0 ≤ c.2.1 ∧ c.2.1 < 60 ∧ c.2.1 < c.2.2 ∧ c.2.2 ≤ c.2.1 + 30) {r f e : Int} (h1 : 0 ≤ r) (h2 : r < 6) (h3 : 0 ≤ f) (h4 : f < 60) (h5 : f < e) (h6 : e ≤ f + 30) :
    (l ++ [(r, f, e)]).length + (k - 1) ≤ 5 ∧ ∀ c ∈ l ++ [(r, f, e)], 0 ≤ c.1 ∧ c.1 < 6 ∧ 0 ≤ c.2.1 ∧ c.2.1 < 60 ∧ c.2.1 < c.2.2 ∧ c.2.2 ≤ c.2.1 + 30 := by
  refine ⟨by simp; omega, fun c hc => ?_⟩
  rcases List.mem_append.1 hc with hc | hc
  · exact hm c hc
  · simp at hc; subst hc; simp only; omega

set_option maxHeartbeats 2000000 in
theorem closures_any (A : Option Addr) (c : Nat) (l : List Int) (w : World) (h : ArgI w A c l) :
    Calls Try.prog 21 #[.slice A l.length c] w fun e w' =>
      ∃ v o, e = .returned v ∧ OwnC w' w.heap.size v o ∧ MadeC o ∧ Below w.heap.size w w' := by
  go_enter Try.func21, Try.ntmps21
  go_wp2_with fail
  refine (from_any A c l w h).mono ?_
  rintro e w1 ⟨rfl, hs1, hb1⟩
  have z1 := hb1.size
  have l1 := hs1.lt
  go_wp2_with fail
  refine (next_any w.heap.size A c l 0 6 w1 hs1 (by omega) (by omega)).mono ?_
  rintro e w2 ⟨n, j, hn0, hn1, rfl, hs2, hg2⟩
  have hb2 : Below w.heap.size w1 w2 := below_of_grownBy hg2 z1 (fun k hk => by injection hk with hk; omega)
  have z2 := hb2.size
  obtain ⟨N, rfl⟩ := Int.eq_ofNat_of_zero_le hn0
  have hbw := hb1.trans hb2
  clear hb1 hb2 hg2 hs1
  go_wp2_with fail
  go_loopg [4, 5, 6] N (fun g s4 s5 s6 wr => ∃ (k : Nat) (o : List Clo) (j : Nat), k ≤ N ∧ g = k ∧ s5 = .int .i64 k ∧ OwnC wr w.heap.size s4 o ∧ (∀ q, s4.ownBlock = some q → w.heap.size < q) ∧ (o.length + k ≤ 5 ∧ ∀ c ∈ o, 0 ≤ c.1 ∧ c.1 < 6 ∧ 0 ≤ c.2.1 ∧ c.2.1 < 60 ∧ c.2.1 < c.2.2 ∧ c.2.2 ≤ c.2.1 + 30) ∧ Src wr w.heap.size A c l j ∧ Below w.heap.size w wr)
  case atStart => exact ⟨N, [], j, by omega, rfl, rfl, Own.nil _ _ _ _ _, by simp [Value.ownBlock], ⟨by simp; omega, by simp⟩, hs2, hbw⟩
  case round =>
    obtain ⟨k, o, j', hk, hg, rfl, ho, hob, ⟨hlen, hv⟩, hs, hb⟩ := hrel
    have HV := Lib.hid hv
    clear hv
    by_cases h0 : 0 < k
    · go_wp2_with fail
      have zr := hb.size
      have lr := hs.lt
      refine (next_any w.heap.size A c l j' 60 wr hs (by omega) (by omega)).mono ?_
      rintro e w3 ⟨r1, j3, hr0, hr1, rfl, hs3, hg3⟩
      have ho3 := ho.kept hg3 (.inr (fun e => by have := hob _ e; omega))
      have z3 := hg3.size
      have hb3 : Below w.heap.size w w3 := hb.grown hg3 zr (fun k hk => by injection hk with hk; omega)
      go_wp2_with fail
      refine (next_any w.heap.size A c l j3 6 w3 hs3 (by omega) (by omega)).mono ?_
      rintro e w4 ⟨r2, j4, hq0, hq1, rfl, hs4, hg4⟩
      have ho4 := ho3.kept hg4 (.inr (fun e => by have := hob _ e; omega))
      have z4 := hg4.size
      have hb4 : Below w.heap.size w w4 := hb3.grown hg4 (by omega) (fun k hk => by injection hk with hk; omega)
      go_wp2_with fail
      refine (next_any w.heap.size A c l j4 30 w4 hs4 (by omega) (by omega)).mono ?_
      rintro e w5 ⟨r3, j5, hp0, hp1, rfl, hs5, hg5⟩
      have ho5 := ho4.kept hg5 (.inr (fun e => by have := hob _ e; omega))
      have z5 := hg5.size
      have hb5 : Below w.heap.size w w5 := hb4.grown hg5 (by omega) (fun k hk => by injection hk with hk; omega)
      obtain ⟨A5, c5, rfl⟩ := ho5.form
      go_wp2_with (at_builtin; refine wpList_append_rec rfl _ _ 23 rfl w.heap.size 82 24 Try.underlying23 elemC _ o rfl ho5 [(r2, r1, r1 + 1 + r3)] _ rfl 1 1 rfl rfl (by simp only [maxLen, List.length_cons, List.length_nil]; omega) (by simp only [List.length_cons, List.length_nil]; omega) (by omega) ?_; intro v1 w6 ho6 hg6 hat6)
      obtain ⟨K, rfl⟩ : ∃ K, k = K + 1 := ⟨k - 1, by omega⟩
      go_roundg K
      case measure => omega
      case rel =>
        refine ⟨K, _, j5, by omega, rfl, by go_num, ho6, fun q hq => ?_, by have := MadeC.snoc hlen (by omega) HV.out hq0 hq1 hr0 hr1 (show r1 < r1 + 1 + r3 by omega) (by omega); simpa using this, hs5.grown hg6 (fun q hq => hob q hq), hb5.grown hg6 (by omega) (fun q hq => by have := hob _ hq; omega)⟩
        rcases hat6 with e | e
        · rw [e] at hq; exact hob _ hq
        · rw [e] at hq; injection hq with hq; omega
    · obtain rfl : k = 0 := by omega
      go_wp2_with fail
      go_ret
      exact ⟨_, o, rfl, ho, ⟨by omega, HV.out⟩, hb⟩

end Go.Proofs.Ytlillkfelfoafaa
