/-
  Contract of keep.Times.
-/
import Derived.Test.YtbhjnihcmfagjaaNetK
import Derived.Test.YtbhjnihcmfagjaaCloseA
set_option linter.unusedVariables false
set_option linter.unusedSimpArgs false
namespace Go.Proofs.Ytbhjnihcmfagjaa
open Go.RowKit Go.Shelf RP

theorem infoIntT : (Try.prog.info? 3).map (fun i => (i.zero, i.size, i.bytes)) = some (some (.int .i64 0), 1, 8) := by kernel_rfl
abbrev OwnN (w : World) (base : Nat) (v : Value) (l : List Int) : Prop := Own encI 1 3 w base v l
theorem makeIntsT (t : Nat) (h : t ≤ 4294967296) : ∀ w : World, (Instr.makeSlice 26 (.int .i64 (t : Int)) (.int .i64 (t : Int))).run Try.prog w =
    .ok (.slice (some ⟨w.heap.size, 0, none⟩) t t) (w.alloc (.cells (madeCells #[.int .i64 0] t) 3)) :=
  fun w => run_make_row' 26 3 (.int .i64 0) 8 Try.underlying26 infoIntT rfl .i64 .i64 t (by omega) (by omega) w
theorem flat_intsT : ∀ t : Nat, (List.replicate t (0 : Int)).flatMap encI = List.replicate t (.int .i64 0)
  | 0 => rfl
  | t + 1 => by rw [List.replicate_succ, List.flatMap_cons, flat_intsT t, List.replicate_succ]; rfl
theorem Own.intsT (w : World) (t : Nat) (h : t ≤ 4294967296) : OwnN (w.alloc (.cells (madeCells #[.int .i64 0] t) 3)) w.heap.size (.slice (some ⟨w.heap.size, 0, none⟩) t t) (List.replicate t 0) := by
  refine Own.lit w _ _ _ _ _ (by simp) encI_len ?_ (Nat.le_refl _) (by simp only [List.length_replicate, Go.maxLen]; omega)
  rw [madeCells_toList, flat_intsT]
theorem Own.itT {w : World} {base g n c : Nat} {l : List Int} (h : OwnN w base (.slice (some ⟨g, 0, none⟩) n c) l) (i : Nat) (hi : i < l.length) (b : Int) :
    w.cell? ⟨g, i, none⟩ = some (.int .i64 l[i]) ∧ w.frozen? ⟨g, i, none⟩ = false ∧ OwnN (w.setCell ⟨g, i, none⟩ (.int .i64 b)) base (.slice (some ⟨g, 0, none⟩) n c) (l.set i b) := by
  obtain ⟨g', c', hv, _, _, _, hc, hf⟩ := h.at_ encI_len (by intro h0; subst h0; simp at hi)
  injection hv with hv
  simp only [Option.some.injEq, Addr.mk.injEq, and_true] at hv
  subst hv
  have h1 := hc i l[i] (List.getElem?_eq_getElem hi) 0 _ rfl
  have h2 := (h.stored encI_len i 0 (.int .i64 b) b hi (by omega) rfl).1
  rw [Nat.mul_one, Nat.add_zero] at h1 h2
  exact ⟨h1, hf i, h2⟩

def TimesPost (T m : Nat) (w : World) (e : Ending) (w' : World) : Prop :=
  ∃ (B : Option Addr) (cB : Nat) (ts : List Int), e = .returned (.slice B ts.length cB) ∧ ts.length = m ∧ (∀ t ∈ ts, 0 ≤ t ∧ t < T) ∧ OwnN w' w.heap.size (.slice B ts.length cB) ts ∧ Below w.heap.size w w'

set_option maxRecDepth 100000 in
set_option maxHeartbeats 4000000 in
theorem times_any (T : Nat) (E : Option Addr) (m cE : Nat) (A : Option Addr) (n cA : Nat) (C : Option Addr) (c : Nat) (l : List Int) (w : World) (h : ArgI w C c l) (h1 : 1 ≤ T) (h2 : T ≤ 7200) (hm : m ≤ 48) :
    Calls Try.prog 26 #[netV T E m cE A n cA, .slice C l.length c] w (TimesPost T m w) := by
  have ba := belA w (.cells #[.int .i64 T, .slice E m cE, .slice A n cA] 25)
  have hnew := heap_alloc_new w (.cells #[.int .i64 T, .slice E m cE, .slice A n cA] 25)
  have h' := h.below ba
  have mk := makeIntsT m (by omega)
  generalize hB0 : w.heap.size = B at *
  go_enter Try.func26, Try.ntmps26
  go_wp2_with fail
  refine (from_any C c l _ h').mono ?_
  rw [World.size_alloc, hB0]
  rintro e w1 ⟨rfl, hs1, hb1⟩
  have HB0 := Lib.hid hB0
  have r1 := (hb1.block B (by omega)).trans hnew
  have b1 : Below B w w1 := ba.trans (hb1.mono (by omega))
  have z1 := hs1.lt
  have n1 : w1.cell? ⟨B, 1, none⟩ = some (.slice E m cE) := by rw [cell_of_row w1 _ 1 _ _ _ r1]; rfl
  clear ba hnew h' hb1 hB0 h
  go_wp2_with fail
  have ho := Own.intsT w1 m (by omega)
  have ba := belA w1 (.cells (madeCells #[.int .i64 0] m) 3)
  have hs2 := hs1.below ba
  have r2 := (ba.block B (by omega)).trans r1
  have b2 := b1.trans (ba.mono (by omega))
  have hz2 : (w1.alloc (.cells (madeCells #[.int .i64 0] m) 3)).heap.size = w1.heap.size + 1 := by simp
  generalize w1.alloc (.cells (madeCells #[.int .i64 0] m) 3) = w2 at *
  generalize w1.heap.size = gd at *
  clear r1 b1 n1 ba mk
  go_loopg [7, 16] m (fun g s7 s16 wr => ∃ (k j : Nat) (ts : List Int), k ≤ m ∧ g = m - k ∧ s16 = .int .i64 k ∧ ts.length = m ∧ (∀ t ∈ ts, 0 ≤ t ∧ t < T) ∧ OwnN wr gd (.slice (some ⟨gd, 0, none⟩) m m) ts ∧ Src wr (B + 1) C c l j ∧ wr.heap[B]? = some (.cells #[.int .i64 T, .slice E m cE, .slice A n cA] 25 (0, 0)) ∧ Below B w wr ∧ gd < wr.heap.size)
  case atStart => exact ⟨0, 0, List.replicate m 0, by omega, by omega, rfl, by simp, (fun t ht => by rw [List.eq_of_mem_replicate ht]; omega), ho, hs2, r2, b2, by omega⟩
  case round =>
    obtain ⟨k, j, ts, hk, hg, rfl, hlen, hts, hor, hsr, hrr, hbr, hzr⟩ := hrel
    by_cases hlt : k < m
    · have n0 : wr.cell? ⟨B, 0, none⟩ = some (.int .i64 T) := by rw [cell_of_row wr _ 0 _ _ _ hrr]; rfl
      have HL := Lib.hid hlen
      have HT := Lib.hid hts
      have HO := Lib.hid hor
      clear hlen hts hor ho hs2 r2 b2 hz2 hs1
      go_wp2_with fail
      refine (next_any (B + 1) C c l j T wr hsr (by omega) (by omega)).mono ?_
      rintro e w3 ⟨r, j', hr1, hr2, rfl, hs3, hg3⟩
      have ho3 := HO.out.kept hg3 (.inr (by simp [Value.ownBlock]; omega))
      have r3 := (hg3.block B (by omega) (by simp)).trans hrr
      have b3 := hbr.grown hg3 (by omega) (by simp)
      have z3 := hg3.size
      obtain ⟨hc1, hf1, ho4⟩ := ho3.itT k (by have := HL.out; omega) r
      have HS4 := Lib.hid (hs3.belowAt ((Below.refl gd w3).setCell (p := ⟨gd, k, none⟩) (Nat.le_refl gd) (.int .i64 r)) (by omega))
      have bk := (Below.refl gd w3).setCell (p := ⟨gd, k, none⟩) (Nat.le_refl gd) (.int .i64 r)
      have HR4 := Lib.hid ((bk.block B (by omega)).trans r3)
      have HB4 := Lib.hid (b3.trans (bk.mono (by omega)))
      have HO4 := Lib.hid ho4
      have HZ4 := Lib.hid (show gd < (w3.setCell ⟨gd, k, none⟩ (.int .i64 r)).heap.size by have := bk.size; omega)
      have i0 : (0 : Int) ≤ (k : Int) := by omega
      have i1 : (k : Int) < (m : Int) := by omega
      clear ho3 r3 b3 ho4 bk hg3 hs3 hrr hbr hsr n0
      go_wp2_with fail
      go_roundg (m - (k + 1))
      case measure => omega
      case rel =>
        exact ⟨k + 1, j', ts.set k r, by omega, rfl, by go_num, by rw [List.length_set]; exact HL.out, (fun t ht => by
          rcases List.mem_or_eq_of_mem_set ht with h | h
          · exact HT.out t h
          · subst h; exact ⟨hr1, hr2⟩), HO4.out, HS4.out, HR4.out, HB4.out, HZ4.out⟩
    · have HL := Lib.hid hlen
      clear ho hs2 r2 b2 hz2 hs1 hlen
      go_wp2_with fail
      go_ret
      refine ⟨some ⟨gd, 0, none⟩, m, ts, by rw [HL.out]; rfl, HL.out, hts, ?_, by rw [HB0.out]; exact hbr⟩
      rw [HB0.out, HL.out]
      exact hor.rebase (by omega)

end Go.Proofs.Ytbhjnihcmfagjaa
