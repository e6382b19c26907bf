/-
  Contracts of ref11.Index and of keep2.Lines.
-/
import Derived.Test.YtaongejpbgjbiaaCalC
set_option linter.unusedVariables false
set_option linter.unusedSimpArgs false
namespace RP
/-- The number of lines that Lines of a made network counts. -/
def linesK (ev : List (Int × Int × Int)) : Int := ev.foldl (fun c e => max c (e.2.1 + 1)) 0
theorem linesK_snoc {ev : List (Int × Int × Int)} {k : Nat} (h : k < ev.length) : linesK (ev.take (k + 1)) = max (linesK (ev.take k)) (ev[k].2.1 + 1) := by
  unfold linesK; rw [List.take_succ_eq_append_getElem h, List.foldl_append]; rfl
theorem linesK_of {L : Nat} (h1 : 1 ≤ L) {ev : List (Int × Int × Int)} (hb : ∀ e ∈ ev, 0 ≤ e.2.1 ∧ e.2.1 < (L : Int)) (ha : ∀ k : Nat, k < L → ((1 : Int), (k : Int), (0 : Int)) ∈ ev) : linesK ev = L := by
  have key : ∀ (u : List (Int × Int × Int)) (c : Int), (∀ e ∈ u, 0 ≤ e.2.1 ∧ e.2.1 < (L : Int)) → 0 ≤ c → c ≤ L → (u.foldl (fun c e => max c (e.2.1 + 1)) c ≤ L ∧ c ≤ u.foldl (fun c e => max c (e.2.1 + 1)) c ∧ ∀ e ∈ u, e.2.1 + 1 ≤ u.foldl (fun c e => max c (e.2.1 + 1)) c) := by
    intro u
    induction u with
    | nil => intro c _ h0 h1; exact ⟨h1, Int.le_refl _, by simp⟩
    | cons x u ih =>
      intro c hu h0 h1
      have hx := hu x (by simp)
      obtain ⟨i1, i2, i3⟩ := ih (max c (x.2.1 + 1)) (fun e he => hu e (by simp [he])) (by omega) (by omega)
      rw [List.foldl_cons]
      refine ⟨i1, by omega, fun e he => ?_⟩
      rcases List.mem_cons.1 he with rfl | he
      · omega
      · exact i3 e he
  obtain ⟨k1, _, k3⟩ := key ev 0 hb (by omega) (by omega)
  have := k3 _ (ha (L - 1) (by omega))
  unfold linesK
  simp only at this
  omega
theorem linesK_range {ev : List (Int × Int × Int)} (hb : ∀ e ∈ ev, 0 ≤ e.2.1 ∧ e.2.1 < 16) : ∀ k, k ≤ ev.length → 0 ≤ linesK (ev.take k) ∧ linesK (ev.take k) ≤ 16 := fun k => by
  induction k with
  | zero => intro _; simp [linesK]
  | succ k ih =>
    intro hk
    have h1 := ih (by omega)
    have h2 := hb ev[k] (List.getElem_mem (by omega))
    rw [linesK_snoc (by omega)]
    omega
end RP
namespace Go.Proofs.Ytaongejpbgjbiaa
open Go.RowKit RP
attribute [local go_sem ↓] Go.wp_at_zero Go.wp_at_succ

set_option maxRecDepth 100000 in
set_option maxHeartbeats 2000000 in
theorem refIdx_any (x y z : Int) (T : Int) (E : Option Addr) (cE : Nat) (A : Option Addr) (n cA : Nat) (l : List Evt) (w : World) (hl : Lst encE 3 w w.heap.size E l) (hn : l.length ≤ 9223372036854775807) :
    Calls Try.prog 22 #[netV T E l.length cE A n cA, .agg #[.int .i64 x, .int .i64 y, .int .i64 z]] w fun e w' => e = .returned (.int .i64 (fidx (fun a => decide (a = (x, y, z))) l)) ∧ Below w.heap.size w w' := by
  have ba := belA w (.cells #[.int .i64 T, .slice E l.length cE, .slice A n cA] 43)
  have h0 := heap_alloc_new w (.cells #[.int .i64 T, .slice E l.length cE, .slice A n cA] 43)
  have z0 : (w.alloc (.cells #[.int .i64 T, .slice E l.length cE, .slice A n cA] 43)).heap.size = w.heap.size + 1 := by simp
  have bb := belA (w.alloc (.cells #[.int .i64 T, .slice E l.length cE, .slice A n cA] 43)) (.cells #[.int .i64 x, .int .i64 y, .int .i64 z] 54)
  have hnew := heap_alloc_new (w.alloc (.cells #[.int .i64 T, .slice E l.length cE, .slice A n cA] 43)) (.cells #[.int .i64 x, .int .i64 y, .int .i64 z] 54)
  have hl0 := (hl.belowMore ba ba.size).belowMore bb bb.size
  have h0' := (bb.block w.heap.size (by omega)).trans h0
  rw [z0] at hnew
  have HB := Lib.hid (ba.trans (bb.mono ba.size))
  clear ba bb z0 h0 hl
  go_enter Try.func22, Try.ntmps22
  go_wp2_with fail
  generalize (w.alloc (.cells #[.int .i64 T, .slice E l.length cE, .slice A n cA] 43)).alloc (.cells #[.int .i64 x, .int .i64 y, .int .i64 z] 54) = w0 at *
  have n1 : w0.cell? ⟨w.heap.size, 1, none⟩ = some (.slice E l.length cE) := by rw [cell_of_row w0 _ 1 _ _ _ h0']; rfl
  have c0 : w0.cell? ⟨w.heap.size + 1, 0, none⟩ = some (.int .i64 x) := by rw [cell_of_row w0 _ 0 _ _ _ hnew]; rfl
  have c1 : w0.cell? ⟨w.heap.size + 1, 1, none⟩ = some (.int .i64 y) := by rw [cell_of_row w0 _ 1 _ _ _ hnew]; rfl
  have c2 : w0.cell? ⟨w.heap.size + 1, 2, none⟩ = some (.int .i64 z) := by rw [cell_of_row w0 _ 2 _ _ _ hnew]; rfl
  clear h0' hnew
  go_loopg [5] l.length (fun g s5 wr => ∃ k n : Nat, k ≤ l.length ∧ g = l.length - k ∧ s5 = .int .i64 k ∧ (l.take k).any (fun a => decide (a = (x, y, z))) = false ∧ wr = w0.drewN n)
  case atStart => exact ⟨0, 0, by omega, by omega, rfl, rfl, rfl⟩
  case round =>
    obtain ⟨k, n, hk, hg', rfl, hv, rfl⟩ := hrel
    have HV := Lib.hid hv
    clear hv
    by_cases hlt : k < l.length
    · obtain ⟨b, off, rfl, hbb, a0, a1, a2⟩ := hl0.ev k hlt
      have HNO := Lib.hid (fun h => any_snoc_no (p := fun a : Evt => decide (a = (x, y, z))) hlt HV.out h)
      have HYES := Lib.hid (fun h => fidx_hit (p := fun a : Evt => decide (a = (x, y, z))) hlt HV.out h)
      generalize l[k] = a at *
      obtain ⟨p, q, r⟩ := a
      simp only at a0 a1 a2
      have hq := run_eql_evt p q r x y z
      obtain ⟨an, han⟩ : ∃ an, (p == x && (q == y && r == z)) = an := ⟨_, rfl⟩
      rw [han] at hq
      have HAN := Lib.hid (show decide ((p, q, r) = (x, y, z)) = an by
        rw [← han]
        rw [Bool.eq_iff_iff]
        simp only [decide_eq_true_eq, Bool.and_eq_true, beq_iff_eq, Prod.mk.injEq])
      have i0 : (0 : Int) ≤ (k : Int) := by omega
      have i1 : (k : Int) < (l.length : Int) := by omega
      clear han
      go_wp2_with fail
      go_quiet (fail)
      cases an with
      | true =>
        go_wp2_with fail
        go_ret
        exact ⟨ret_int (HYES.out HAN.out).symm, below_drewN (below_drewN HB.out _) _⟩
      | false =>
        go_wp2_with fail
        go_roundg (l.length - (k + 1))
        case measure => omega
        case rel => exact ⟨k + 1, _, by omega, rfl, by go_num, HNO.out HAN.out, rfl⟩
    · have HN := Lib.hid (fidx_none (p := fun a : Evt => decide (a = (x, y, z))) (l := l) (by have := HV.out; rwa [List.take_of_length_le (by omega)] at this))
      go_wp2_with fail
      go_ret
      exact ⟨ret_int HN.out.symm, below_drewN HB.out _⟩

set_option maxRecDepth 100000 in
set_option maxHeartbeats 2000000 in
theorem linesK_any (T : Int) (E : Option Addr) (cE : Nat) (A : Option Addr) (n cA : Nat) (l : List Evt) (w : World) (hl : Lst encE 3 w w.heap.size E l) (hn : l.length ≤ 9223372036854775807) (hb : ∀ e ∈ l, 0 ≤ e.2.1 ∧ e.2.1 < 16) :
    Calls Try.prog 20 #[netV T E l.length cE A n cA] w fun e w' => e = .returned (.int .i64 (linesK l)) ∧ Below w.heap.size w w' := by
  have ba := belA w (.cells #[.int .i64 T, .slice E l.length cE, .slice A n cA] 43)
  have h0 := heap_alloc_new w (.cells #[.int .i64 T, .slice E l.length cE, .slice A n cA] 43)
  have hl0 := hl.belowMore ba ba.size
  have HR := Lib.hid (linesK_range hb)
  have HBD := Lib.hid hb
  clear hl hb
  go_enter Try.func20, Try.ntmps20
  go_wp2_with fail
  generalize w.alloc (.cells #[.int .i64 T, .slice E l.length cE, .slice A n cA] 43) = w0 at *
  have n1 : w0.cell? ⟨w.heap.size, 1, none⟩ = some (.slice E l.length cE) := by rw [cell_of_row w0 _ 1 _ _ _ h0]; rfl
  clear h0
  go_wp2_with fail
  go_loopg [3, 5, 9] l.length (fun g s3 s5 s9 wr => ∃ k : Nat, k ≤ l.length ∧ g = l.length - k ∧ s9 = .int .i64 k ∧ s3 = .int .i64 (linesK (l.take k)) ∧ Below w0.heap.size w0 wr)
  case atStart => exact ⟨0, by omega, by omega, rfl, rfl, Below.refl _ _⟩
  case round =>
    obtain ⟨k, hk, hg', rfl, rfl, hb⟩ := hrel
    have hr := HR.out k hk
    by_cases hlt : k < l.length
    · obtain ⟨b, off, rfl, hbb, a0, a1, a2⟩ := (hl0.belowMore hb hb.size).ev k hlt
      have HS := Lib.hid (linesK_snoc hlt)
      have hbd := HBD.out l[k] (List.getElem_mem hlt)
      generalize l[k] = a at *
      obtain ⟨p, q, r⟩ := a
      simp only at a0 a1 a2 hbd HS
      generalize linesK (l.take k) = c at *
      have i0 : (0 : Int) ≤ (k : Int) := by omega
      have i1 : (k : Int) < (l.length : Int) := by omega
      have HB := Lib.hid (hb.trans ((belA wr (.cells #[.int .i64 p, .int .i64 q, .int .i64 r] 54)).mono hb.size))
      clear hb
      go_wp2_with fail
      all_goals
        go_roundg (l.length - (k + 1))
        case measure => omega
        case rel => exact ⟨k + 1, by omega, rfl, by go_num, by rw [HS.out]; exact congrArg _ (by omega), HB.out⟩
    · have HN := Lib.hid (show linesK (l.take k) = linesK l by rw [List.take_of_length_le (by omega)])
      go_wp2_with fail
      go_ret
      exact ⟨ret_int HN.out, ba.trans (hb.mono ba.size)⟩
end Go.Proofs.Ytaongejpbgjbiaa
