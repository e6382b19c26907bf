/-
  Contracts of From and Next of a source of choices: a choice lies within its range.
-/
import Derived.Test.YtbhjnihcmfagjaaKit
set_option linter.unusedVariables false
set_option linter.unusedSimpArgs false
namespace Go.Proofs.Ytbhjnihcmfagjaa
open Go.RowKit RP

theorem quiet_left {P : Program} {f : FuncId} {args : Array Value} {w : World} {n : Nat} {v : Value}
    (h : Calls P f args (w.drewN n) fun e w' => e = .returned v ∧ w.drewN n = w') : Calls P f args (w.drewN n) fun e w'' => e = .returned v ∧ ∃ m, w'' = w.drewN m :=
  h.mono fun _ _ ⟨he, hm⟩ => ⟨he, n, hm.symm⟩
theorem quiet_add_left {P : Program} {f : FuncId} {args : Array Value} {w : World} {a n : Nat} {v : Value}
    (h : Calls P f args (w.drewN (a + n)) fun e w' => e = .returned v ∧ w.drewN (a + n) = w') :
    Calls P f args (w.drewN (a + n)) fun e w'' => e = .returned v ∧ ∃ m, w'' = w.drewN (a + m) :=
  h.mono fun _ _ ⟨he, hm⟩ => ⟨he, n, hm.symm⟩

/-- Block g is a source over the list l, of which i choices are used. -/
def Src (w : World) (g : Nat) (A : Option Addr) (c : Nat) (l : List Int) (i : Nat) : Prop :=
  w.heap[g]? = some (.cells #[.slice A l.length c, .int .i64 (i : Int)] 89 (0, 0)) ∧ i ≤ l.length ∧ l.length ≤ 9223372036854775807 ∧ Lst encI 1 w g A l

theorem Src.lt {w : World} {g : Nat} {A : Option Addr} {c : Nat} {l : List Int} {i : Nat} (h : Src w g A c l i) : g < w.heap.size := by
  rcases Nat.lt_or_ge g w.heap.size with hlt | hge
  · exact hlt
  · have := h.1; rw [Array.getElem?_eq_none hge] at this; cases this
theorem Src.below {w w' : World} {g : Nat} {A : Option Addr} {c : Nat} {l : List Int} {i : Nat} (h : Src w g A c l i) (hb : Below w.heap.size w w') : Src w' g A c l i :=
  ⟨(hb.block g h.lt).trans h.1, h.2.1, h.2.2.1, h.2.2.2.below (hb.mono (Nat.le_of_lt h.lt))⟩
/-- A source over new blocks and writes above it. -/
theorem Src.belowAt {w w' : World} {B g : Nat} {A : Option Addr} {c : Nat} {l : List Int} {i : Nat} (h : Src w g A c l i) (hb : Below B w w') (hB : g < B) : Src w' g A c l i :=
  ⟨(hb.block g hB).trans h.1, h.2.1, h.2.2.1, h.2.2.2.below (hb.mono (Nat.le_of_lt hB))⟩

/-- A source over a write into a row above it. -/
theorem Src.grown {w w' : World} {g : Nat} {A : Option Addr} {c : Nat} {l : List Int} {i : Nat} {row : Option Nat} (h : Src w g A c l i) (hg : w.grownBy w' row) (hr : ∀ k, row = some k → g < k) : Src w' g A c l i :=
  h.belowAt (B := g + 1) (below_of_grownBy hg h.lt fun k hk => hr k hk) (by omega)

theorem Lst.it {w : World} {B : Nat} {A : Option Addr} {l : List Int} (h : Lst encI 1 w B A l) (i : Nat) (hi : i < l.length) :
    ∃ b off, A = some ⟨b, off, none⟩ ∧ b < B ∧ w.cell? ⟨b, off + i, none⟩ = some (.int .i64 l[i]) := by
  obtain ⟨b, off, e, hb, hc⟩ := h (by intro h0; subst h0; simp at hi)
  have := hc i l[i] (List.getElem?_eq_getElem hi) 0 _ rfl
  rw [Nat.mul_one, Nat.add_zero] at this
  exact ⟨b, off, e, hb, this⟩

theorem Src.drewN {w : World} {g : Nat} {A : Option Addr} {c : Nat} {l : List Int} {i : Nat} (h : Src w g A c l i) (n : Nat) : Src (w.drewN n) g A c l i := h
theorem Src.step {w : World} {g : Nat} {A : Option Addr} {c : Nat} {l : List Int} {i : Nat} (h : Src w g A c l i) (hi : i < l.length) :
    Src (w.setCell ⟨g, 1, none⟩ (.int .i64 ((i : Int) + 1))) g A c l (i + 1) ∧ w.grownBy (w.setCell ⟨g, 1, none⟩ (.int .i64 ((i : Int) + 1))) (some g) := by
  refine ⟨⟨?_, by omega, h.2.2.1, h.2.2.2.keep fun p hp => World.cell?_setCell_other w _ p _ (fun e => by subst e; simp at hp)⟩, ⟨rfl, rfl, rfl, by simp [World.setCell], fun k hk hne => Below.heap_setCell w _ _ k (fun e => hne (by rw [e]))⟩⟩
  have := h.1
  simp [World.setCell, Array.getElem?_modify, this]

theorem from_any (A : Option Addr) (c : Nat) (l : List Int) (w : World) (h : ArgI w A c l) :
    Calls Try.prog 30 #[.slice A l.length c] w fun e w' => e = .returned (.pointer (some ⟨w.heap.size, 0, none⟩)) ∧ Src w' w.heap.size A c l 0 ∧ Below w.heap.size w w' := by
  go_enter Try.func30, Try.ntmps30
  go_wp2
  go_ret
  refine ⟨rfl, ⟨heap_alloc_new w _, by omega, h.len, h.lst.below ((Below.refl _ _).alloc (Nat.le_refl _) _)⟩, (Below.refl _ _).alloc (Nat.le_refl _) _⟩

set_option maxHeartbeats 1000000 in
theorem next_any (g : Nat) (A : Option Addr) (c : Nat) (l : List Int) (i : Nat) (n : Int) (w : World) (h : Src w g A c l i) (h1 : 1 ≤ n) (h2 : n ≤ 4294967296) :
    Calls Try.prog 31 #[.pointer (some ⟨g, 0, none⟩), .int .i64 n] w fun e w' =>
      ∃ (r : Int) (j : Nat), 0 ≤ r ∧ r < n ∧ e = .returned (.int .i64 r) ∧ Src w' g A c l j ∧ w.grownBy w' (some g) := by
  have hsrc := h
  obtain ⟨hblk, hi, hlen, hlst⟩ := h
  have q0 : w.cell? ⟨g, 0, none⟩ = some (.slice A l.length c) := by rw [cell_of_row w g 0 _ _ _ hblk]; rfl
  have q1 : w.cell? ⟨g, 1, none⟩ = some (.int .i64 (i : Int)) := by rw [cell_of_row w g 1 _ _ _ hblk]; rfl
  have f1 : w.frozen? ⟨g, 1, none⟩ = false := frozen_of_row w g 1 _ _ hblk
  by_cases hlt : i < l.length
  · obtain ⟨b, off, rfl, hb, hc⟩ := hlst.it i hlt
    have hne : b ≠ g := by omega
    generalize l[i] = z at *
    have hp := pickI_range z n h1
    have hpick := fun W => pick_any z n W h1 h2
    generalize pickI z n = r at *
    have hd : decide ((l.length : Int) ≤ (i : Int)) = false := by simp; omega
    clear hblk
    go_enter Try.func31, Try.ntmps31
    go_wp2_with fail
    go_quiet (fail)
    go_wp2_with fail
    obtain ⟨hs2, hg2⟩ := (hsrc.drewN nq).step hlt
    have hcz : ((w.drewN nq).setCell ⟨g, 1, none⟩ (.int .i64 ((i : Int) + 1))).cell? ⟨b, off + i, none⟩ = some (.int .i64 z) :=
      (World.cell?_setCell_other (w.drewN nq) ⟨g, 1, none⟩ ⟨b, off + i, none⟩ _ (fun e => hne (by injection e with e1; exact e1.symm))).trans hc
    have hg3 : w.grownBy ((w.drewN nq).setCell ⟨g, 1, none⟩ (.int .i64 ((i : Int) + 1))) (some g) := ⟨hg2.os, hg2.tape, hg2.output, hg2.size, hg2.block⟩
    clear q0 q1 f1 hc hg2 hd
    generalize (w.drewN nq).setCell ⟨g, 1, none⟩ (.int .i64 ((i : Int) + 1)) = W at *
    have hblk := hs2.1
    have q0 : W.cell? ⟨g, 0, none⟩ = some (.slice (some ⟨b, off, none⟩) l.length c) := by rw [cell_of_row W g 0 _ _ _ hblk]; rfl
    have q1 : W.cell? ⟨g, 1, none⟩ = some (.int .i64 ((i : Int) + 1)) := by rw [cell_of_row W g 1 _ _ _ hblk]; rfl
    clear hblk
    have hwr : IntKind.i64.wrap ((i : Int) + 1 - 1) = (i : Int) := by rw [IntWalk.i64_in _ (by omega)]; omega
    have hlt' : (i : Int) < (l.length : Int) := by omega
    go_quiet ((go_at_call 13; exact quiet_left (hpick _)))
    go_wp2_with fail
    go_ret
    exact ⟨r, i + 1, hp.1, hp.2, rfl, hs2, ⟨hg3.os, hg3.tape, hg3.output, hg3.size, hg3.block⟩⟩
  · have hd : decide ((l.length : Int) ≤ (i : Int)) = true := by simp; omega
    clear hblk
    go_enter Try.func31, Try.ntmps31
    go_wp2_with fail
    go_quiet (fail)
    go_wp2_with fail
    go_ret
    exact ⟨0, i, by omega, by omega, rfl, hsrc, ⟨rfl, rfl, rfl, Nat.le_refl _, fun _ _ _ => rfl⟩⟩

end Go.Proofs.Ytbhjnihcmfagjaa
