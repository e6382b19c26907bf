/-
  Contracts of the reference's Lines and activity (chapter 24).
  Plain: what the reference's pattern and starts hold (chapter 24).
  Contract of the reference's pattern (chapter 24).
-/
import Derived.Test.YtaongejpbgjbiaaCalD
import Derived.Test.YtaongejpbgjbiaaTimP
import Derived.Test.YtaongejpbgjbiaaRIdx
import Derived.Test.YtaongejpbgjbiaaStp
set_option linter.unusedVariables false
set_option linter.unusedSimpArgs false
namespace Go.Proofs.Ytaongejpbgjbiaa
open Go.RowKit RP
attribute [local go_sem ↓] Go.wp_at_zero Go.wp_at_succ

set_option maxHeartbeats 2000000 in
theorem refLines_any (T : Int) (E : Option Addr) (cE : Nat) (A : Option Addr) (n cA : Nat) (l : List Evt) (w : World) (hl : Lst encE 3 w w.heap.size E l) (hn : l.length ≤ 9223372036854775807) (hr : ∀ e ∈ l, R64 e.2.1) :
    Calls Try.prog 58 #[netV T E l.length cE A n cA] w fun e w' => e = .returned (.int .i64 (linesP l)) ∧ Below w.heap.size w w' := by
  have ba := belA w (.cells #[.int .i64 T, .slice E l.length cE, .slice A n cA] 43)
  have hnew := heap_alloc_new w (.cells #[.int .i64 T, .slice E l.length cE, .slice A n cA] 43)
  have hl0 := hl.belowMore ba ba.size
  go_enter Try.func58, Try.ntmps58
  go_wp2_with fail
  generalize w.alloc (.cells #[.int .i64 T, .slice E l.length cE, .slice A n cA] 43) = w0 at *
  have n1 : w0.cell? ⟨w.heap.size, 1, none⟩ = some (.slice E l.length cE) := by rw [cell_of_row _ _ 1 _ _ _ hnew]; rfl
  clear hnew
  go_wp2_with fail
  go_loop [3, 4, 8] (fun s3 s4 s8 => ∃ k : Nat, k ≤ l.length ∧ s8 = .int .i64 k ∧ s3 = .int .i64 (linesP (l.take k))) (fun _ _ s8 => l.length - (intOf s8).toNat)
  case atStart => exact ⟨0, by omega, rfl, rfl⟩
  case round =>
    obtain ⟨k, hk, rfl, rfl⟩ := hrel
    have hlr := linesP_range (l.take k)
    by_cases hlt : k < l.length
    · obtain ⟨b, off, rfl, hbb, a0, a1, a2⟩ := hl0.ev k hlt
      have HSN := Lib.hid (linesP_snoc hlt)
      have hrk := hr l[k] (List.getElem_mem hlt)
      have h1 := hrk.1
      have h2 := hrk.2
      generalize l[k] = a at *
      obtain ⟨p, q, r⟩ := a
      simp only at a0 a1 a2 h1 h2 HSN
      generalize linesP (l.take k) = c at *
      have i0 : (0 : Int) ≤ (k : Int) := by omega
      have i1 : (k : Int) < (l.length : Int) := by omega
      have m1 : -9223372036854775808 ≤ min q 16 := by omega
      have m2 : min q 16 ≤ 16 := by omega
      clear hrk
      go_wp2_with fail
      all_goals
        go_round
        case rel => exact ⟨k + 1, by omega, by go_num, by rw [HSN.out] <;> exact congrArg _ (by omega)⟩
        case measure => simp [intOf] <;> omega
    · have HL := Lib.hid (show linesP (l.take k) = linesP l by rw [List.take_of_length_le (by omega)])
      clear hlr
      go_wp2_with fail
      go_ret
      exact ⟨ret_int HL.out, ba⟩

set_option maxRecDepth 100000 in
set_option maxHeartbeats 4000000 in
theorem refAct_any (T : Int) (E : Option Addr) (m cE : Nat) (A : Option Addr) (cA : Nat) (l : List Acy) (kind src dst : Int) (w : World) (hl : Lst encA 6 w w.heap.size A l) (hn : l.length ≤ 9223372036854775807) :
    Calls Try.prog 73 #[netV T E m cE A l.length cA, .int .i64 kind, .int .i64 src, .int .i64 dst] w fun e w' => e = .returned (.int .i64 (fidx (isA kind src dst) l)) ∧ Below w.heap.size w w' := by
  have ba := belA w (.cells #[.int .i64 T, .slice E m cE, .slice A l.length cA] 43)
  have hnew := heap_alloc_new w (.cells #[.int .i64 T, .slice E m cE, .slice A l.length cA] 43)
  have hla := hl.belowMore ba ba.size
  clear hl
  go_enter Try.func73, Try.ntmps73
  go_wp2_with fail
  generalize w.alloc (.cells #[.int .i64 T, .slice E m cE, .slice A l.length cA] 43) = w0 at *
  have n2 : w0.cell? ⟨w.heap.size, 2, none⟩ = some (.slice A l.length cA) := by rw [cell_of_row _ _ 2 _ _ _ hnew]; rfl
  clear hnew
  go_wp2_with fail
  go_loopg [9, 10, 14] l.length (fun g s9 s10 s14 wr => ∃ k : Nat, k ≤ l.length ∧ g = l.length - k ∧ s14 = .int .i64 k ∧ (l.take k).any (isA kind src dst) = false ∧ Below w0.heap.size w0 wr)
  case atStart => exact ⟨0, by omega, by omega, rfl, rfl, Below.refl _ _⟩
  case round =>
    obtain ⟨k, hk, hg', rfl, hv, hb⟩ := hrel
    have HV := Lib.hid hv
    clear hv
    by_cases hlt : k < l.length
    · obtain ⟨b, off, rfl, hbb, a0, a1, a2, a3, a4, a5⟩ := (hla.belowMore hb hb.size).ac k hlt
      have HNO := Lib.hid (fun h => any_snoc_no (p := isA kind src dst) hlt HV.out h)
      have HYES := Lib.hid (fun h => fidx_hit (p := isA kind src dst) hlt HV.out h)
      have HBX := Lib.hid (hb.trans ((belA wr (.cells #[.int .i64 l[k].kind, .int .i64 l[k].src, .int .i64 l[k].dst, .int .i64 l[k].lo, .int .i64 l[k].hi, .int .i64 l[k].wt] 60)).mono hb.size))
      have i0 : (0 : Int) ≤ (k : Int) := by omega
      have i1 : (k : Int) < (l.length : Int) := by omega
      generalize l[k] = y at *
      obtain ⟨ki, sr, ds, lo, hi, wt⟩ := y
      simp only at a0 a1 a2 a3 a4 a5 HNO HYES HBX
      clear hb
      by_cases e1 : ki = kind
      · have d1 : (ki == kind) = true := by simp [e1]
        by_cases e2 : sr = src
        · have d2 : (sr == src) = true := by simp [e2]
          by_cases e3 : ds = dst
          · have d3 : (ds == dst) = true := by simp [e3]
            have HY := Lib.hid (HYES.out (by simp [isA, e1, e2, e3]))
            clear e1 e2 e3
            go_wp2_with fail
            go_ret
            exact ⟨ret_int HY.out.symm, ba.trans (HBX.out.mono ba.size)⟩
          · have d3 : (ds == dst) = false := by simp [e3]
            clear e2
            have e2 := e3
            have HH := Lib.hid (HNO.out (by simp [isA, e3]))
            clear e1
            go_wp2_with fail
            go_roundg (l.length - (k + 1))
            case measure => omega
            case rel => exact ⟨k + 1, by omega, rfl, by go_num, HH.out, HBX.out⟩
        · have d2 : (sr == src) = false := by simp [e2]
          have HH := Lib.hid (HNO.out (by simp [isA, e2]))
          clear e1
          go_wp2_with fail
          go_roundg (l.length - (k + 1))
          case measure => omega
          case rel => exact ⟨k + 1, by omega, rfl, by go_num, HH.out, HBX.out⟩
      · have d1 : (ki == kind) = false := by simp [e1]
        have HH := Lib.hid (HNO.out (by simp [isA, e1]))
        clear e1
        go_wp2_with fail
        go_roundg (l.length - (k + 1))
        case measure => omega
        case rel => exact ⟨k + 1, by omega, rfl, by go_num, HH.out, HBX.out⟩
    · have HN := Lib.hid (fidx_none (p := isA kind src dst) (l := l) (by have := HV.out; rwa [List.take_of_length_le (by omega)] at this))
      go_wp2_with fail
      go_ret
      exact ⟨ret_int HN.out.symm, ba.trans (hb.mono ba.size)⟩
end Go.Proofs.Ytaongejpbgjbiaa

namespace RP
theorem nodup_subset_length {α : Type} [BEq α] [LawfulBEq α] : ∀ {l m : List α}, l.Nodup → (∀ x ∈ l, x ∈ m) → l.length ≤ m.length
  | [], _, _, _ => Nat.zero_le _
  | a :: t, m, hn, hs => by
    have ha := hs a (by simp)
    rw [List.nodup_cons] at hn
    have := nodup_subset_length (l := t) (m := m.erase a) hn.2 fun x hx => (List.mem_erase_of_ne (by rintro rfl; exact hn.1 hx)).2 (hs x (by simp [hx]))
    rw [List.length_erase_of_mem ha] at this
    have := List.length_pos_of_mem ha
    simp only [List.length_cons]
    omega
theorem patok_le {T : Nat} {ts : List Int} {ev : List (Int × Int × Int)} {l : List Acy} {line : Int} {R : Nat} {P Q : Nat → Nat} {D W : Nat → Int} (h : PatOk T ts ev l line R P Q D W) : R ≤ ev.length := by
  have := nodup_subset_length (l := (List.range R).map fun r : Nat => ((1 : Int), line, (r : Int))) (m := ev) (by
    unfold List.Nodup
    rw [List.pairwise_map]
    refine List.pairwise_lt_range.imp ?_
    intro a b hab q
    simp only [Prod.mk.injEq, true_and] at q
    omega) (by
    intro x hx
    obtain ⟨r, hr, rfl⟩ := List.mem_map.1 hx
    rw [List.mem_range] at hr
    have h1 := h.dep r hr
    rcases fidx_find (p := fun e => decide (e = ((1 : Int), line, (r : Int)))) ev with ⟨e1, _⟩ | ⟨j, hj, e1, _, e3, _⟩
    · rw [h1] at e1; omega
    · rw [decide_eq_true_eq] at e3
      rw [← e3]; exact List.getElem_mem hj)
  simpa using this
/-- The numbers of the activities of the first r rides of a line: run, dwell, run .. -/
def patL (l : List Acy) (P Q : Nat → Nat) : Nat → List Int
  | 0 => []
  | r + 1 => patL l P Q r ++ (if r = 0 then [] else [fidx (isA 2 (Q (r - 1)) (P r)) l]) ++ [fidx (isA 1 (P r) (Q r)) l]
theorem patL_succ (l : List Acy) (P Q : Nat → Nat) (r : Nat) : patL l P Q (r + 1) = patL l P Q r ++ (if r = 0 then [] else [fidx (isA 2 (Q (r - 1)) (P r)) l]) ++ [fidx (isA 1 (P r) (Q r)) l] := rfl
theorem patL_len (l : List Acy) (P Q : Nat → Nat) : ∀ r, (patL l P Q r).length = 2 * r - 1
  | 0 => rfl
  | r + 1 => by
    simp only [patL, List.length_append, patL_len l P Q r, List.length_cons, List.length_nil]
    split <;> simp <;> omega
theorem fidx_some {l : List Acy} {p : Acy → Bool} {a : Acy} (h : l.find? p = some a) : ∃ k : Nat, fidx p l = k ∧ l[k]? = some a := by
  rcases fidx_find (p := p) l with ⟨_, e2⟩ | ⟨k, hk, e1, e2, _⟩
  · rw [h] at e2; cases e2
  · rw [h] at e2; injection e2 with e2
    exact ⟨k, e1, by rw [List.getElem?_eq_getElem hk, e2]⟩
section
variable {T : Nat} {ts : List Int} {ev : List (Int × Int × Int)} {l : List Acy} {line : Int} {R : Nat} {P Q : Nat → Nat} {D W : Nat → Int} (h : PatOk T ts ev l line R P Q D W)
include h
/-- The activity at an even place is a run. -/
theorem PatOk.even : ∀ {n : Nat}, n ≤ R → ∀ r, r < n → ∃ k : Nat, (patL l P Q n)[2 * r]? = some (k : Int) ∧ ∃ a, l[k]? = some a ∧ a.lo + overI T ts a = W r
  | n + 1, hn, r, hr => by
    have hlen := patL_len l P Q n
    by_cases e : r = n
    · subst e
      obtain ⟨a, ha, hw⟩ := h.run r (by omega)
      obtain ⟨k, hk, hl⟩ := fidx_some ha
      refine ⟨k, ?_, a, hl, hw⟩
      rw [patL_succ]
      rw [List.getElem?_append_right (by rw [List.length_append, hlen]; split <;> simp <;> omega)]
      have : 2 * r - (patL l P Q r ++ (if r = 0 then [] else [fidx (isA 2 (Q (r - 1)) (P r)) l])).length = 0 := by rw [List.length_append, hlen]; split <;> simp <;> omega
      rw [this, hk]; rfl
    · obtain ⟨k, hk, q⟩ := PatOk.even (n := n) (by omega) r (by omega)
      refine ⟨k, ?_, q⟩
      rw [patL_succ]
      rw [List.append_assoc, List.getElem?_append_left (by rw [hlen]; omega), hk]
/-- The activity at an odd place is a dwell. -/
theorem PatOk.odd : ∀ {n : Nat}, n ≤ R → ∀ r, r + 1 < n → ∃ k : Nat, (patL l P Q n)[2 * r + 1]? = some (k : Int) ∧ ∃ a, l[k]? = some a ∧ a.lo + overI T ts a = D (r + 1)
  | n + 1, hn, r, hr => by
    have hlen := patL_len l P Q n
    by_cases e : r + 1 = n
    · subst e
      obtain ⟨a, ha, hw⟩ := h.dwell r (by omega)
      obtain ⟨k, hk, hl⟩ := fidx_some ha
      refine ⟨k, ?_, a, hl, hw⟩
      rw [patL_succ]
      rw [List.append_assoc, List.getElem?_append_right (by rw [hlen]; omega), hlen, if_neg (by omega), Nat.add_sub_cancel]
      have : 2 * r + 1 - (2 * (r + 1) - 1) = 0 := by omega
      rw [this, hk]; rfl
    · obtain ⟨k, hk, q⟩ := PatOk.odd (n := n) (by omega) r (by omega)
      refine ⟨k, ?_, q⟩
      rw [patL_succ]
      rw [List.append_assoc, List.getElem?_append_left (by rw [hlen]; omega), hk]
end
/-- The seconds of a service on a day, of the first k, that have the residue. -/
def secL (T : Nat) (base res : Int) : Nat → List Int
  | 0 => []
  | k + 1 => secL T base res k ++ (if (base + k) % (T : Int) = res then [base + (k : Int)] else [])
theorem secL_len (T : Nat) (base res : Int) : ∀ k, (secL T base res k).length ≤ k
  | 0 => Nat.le_refl _
  | k + 1 => by
    have := secL_len T base res k
    simp only [secL, List.length_append]
    split <;> simp <;> omega
/-- They follow one another in the distance of the period. -/
theorem secL_eq {T : Nat} (h1 : 1 ≤ T) {base res : Int} (r0 : 0 ≤ res) (r1 : res < T) : ∀ k : Nat, ∃ n : Nat, secL T base res k = (List.range n).map (fun i : Nat => base + (res - base) % T + i * T) ∧ base + k ≤ base + (res - base) % T + n * T ∧ (0 < n → base + (res - base) % T + ((n : Int) - 1) * T < base + k)
  | 0 => ⟨0, rfl, by have := Int.emod_nonneg (res - base) (show (T : Int) ≠ 0 by omega); simp; omega, by omega⟩
  | k + 1 => by
    obtain ⟨n, e, a, b⟩ := secL_eq h1 r0 r1 k
    have hf : (base + (res - base) % (T : Int)) % (T : Int) = res := by
      rw [Int.add_emod_emod]
      have : base + (res - base) = res := by omega
      rw [this]; exact Int.emod_eq_of_lt r0 r1
    have hfT : base + (res - base) % (T : Int) < base + T := by have := Int.emod_lt_of_pos (res - base) (show (0 : Int) < T by omega); omega
    generalize base + (res - base) % (T : Int) = f at *
    by_cases hk : (base + k) % (T : Int) = res
    · have hd : (base + k - f) % (T : Int) = 0 := by rw [Int.sub_emod, hk, hf, Int.sub_self]; rfl
      have hq := Int.mul_ediv_add_emod (base + k - f) T
      rw [hd, Int.add_zero] at hq
      have hn : (base + k - f) / (T : Int) = n := by
        have t1 : (T : Int) * ((base + k - f) / T) ≤ (T : Int) * n := by rw [hq, Int.mul_comm (T : Int)]; omega
        have t2 : (base + k - f) / (T : Int) ≤ n := Int.le_of_mul_le_mul_left t1 (by omega)
        by_cases hn0 : 0 < n
        · have b' := b hn0
          have t3 : (T : Int) * ((n : Int) - 1) < (T : Int) * ((base + k - f) / T) := by rw [hq, Int.mul_comm (T : Int)]; omega
          have t4 := Int.lt_of_mul_lt_mul_left t3 (by omega)
          omega
        · have hn1 : n = 0 := by omega
          subst hn1
          simp only [Int.natCast_zero, Int.zero_mul, Int.add_zero] at a
          have hff : ∀ j : Int, j < 0 → True := fun _ _ => trivial
          by_cases hneg : (base + k - f) / (T : Int) < 0
          · exfalso
            -- f is the first second from base on with the residue
            have hkk : (0 : Int) ≤ k := by omega
            have t5 : base + k < f := by
              have : (T : Int) * ((base + k - f) / T) < 0 := Int.mul_neg_of_pos_of_neg (by omega) hneg
              omega
            have t6 : (base + k - f) ≤ -(T : Int) := by
              have : (base + k - f) / (T : Int) ≤ -1 := by omega
              have := Int.mul_le_mul_of_nonneg_left this (show (0 : Int) ≤ T by omega)
              rw [hq] at this; omega
            omega
          · omega
      refine ⟨n + 1, ?_, ?_, ?_⟩
      · simp only [secL]
        rw [if_pos hk, e, List.range_succ, List.map_append]
        congr 1
        simp only [List.map_cons, List.map_nil, List.cons.injEq, and_true]
        rw [hn] at hq
        rw [Int.mul_comm] at hq
        omega
      · rw [hn] at hq
        rw [Int.mul_comm] at hq
        have : ((n + 1 : Nat) : Int) * T = n * T + T := by rw [Int.natCast_add, Int.add_mul]; simp
        omega
      · intro _
        rw [hn] at hq
        rw [Int.mul_comm] at hq
        have : ((n + 1 : Nat) : Int) - 1 = n := by omega
        rw [this]; omega
    · refine ⟨n, by simp only [secL]; rw [if_neg hk, e, List.append_nil], ?_, fun hn0 => by have := b hn0; omega⟩
      have : base + (k : Int) ≠ f + n * T := fun q => hk (by rw [q, Int.add_mul_emod_self_right]; exact hf)
      omega
end RP

namespace Go.Proofs.Ytaongejpbgjbiaa
open Go.RowKit RP
attribute [local go_sem ↓] Go.wp_at_zero Go.wp_at_succ

theorem idx_run {T : Nat} {ts : List Int} {ev : List (Int × Int × Int)} {l : List Acy} {line : Int} {R : Nat} {P Q : Nat → Nat} {D W : Nat → Int} (h : PatOk T ts ev l line R P Q D W) (r : Nat) (hr : r < R) : ∃ k : Nat, fidx (isA 1 (P r) (Q r)) l = k := by
  obtain ⟨a, ha, _⟩ := h.run r hr
  obtain ⟨k, hk, _⟩ := fidx_some ha
  exact ⟨k, hk⟩
theorem idx_dwell {T : Nat} {ts : List Int} {ev : List (Int × Int × Int)} {l : List Acy} {line : Int} {R : Nat} {P Q : Nat → Nat} {D W : Nat → Int} (h : PatOk T ts ev l line R P Q D W) (r : Nat) (hr : r + 1 < R) : ∃ k : Nat, fidx (isA 2 (Q r) (P (r + 1))) l = k := by
  obtain ⟨a, ha, _⟩ := h.dwell r hr
  obtain ⟨k, hk, _⟩ := fidx_some ha
  exact ⟨k, hk⟩
theorem idx_dwell' {T : Nat} {ts : List Int} {ev : List (Int × Int × Int)} {l : List Acy} {line : Int} {R : Nat} {P Q : Nat → Nat} {D W : Nat → Int} (h : PatOk T ts ev l line R P Q D W) (r : Nat) (h0 : 0 < r) (hr : r < R) : ∃ k : Nat, fidx (isA 2 (Q (r - 1)) (P r)) l = k := by
  obtain ⟨k, hk⟩ := idx_dwell h (r - 1) (by omega)
  rw [show r - 1 + 1 = r by omega] at hk
  exact ⟨k, hk⟩
/-- The box of the network, which is only read. -/
structure BxN (w : World) (g : Nat) (T : Int) (E : Option Addr) (m cE : Nat) (A : Option Addr) (n cA : Nat) : Prop where
  blk : w.heap[g]? = some (.cells #[.int .i64 T, .slice E m cE, .slice A n cA] 43 (0, 0))
theorem BxN.cells {w : World} {g : Nat} {T : Int} {E : Option Addr} {m cE : Nat} {A : Option Addr} {n cA : Nat} (h : BxN w g T E m cE A n cA) : w.cell? ⟨g, 0, none⟩ = some (.int .i64 T) ∧ w.cell? ⟨g, 1, none⟩ = some (.slice E m cE) ∧ w.cell? ⟨g, 2, none⟩ = some (.slice A n cA) ∧ g < w.heap.size :=
  ⟨by rw [cell_of_row w _ 0 _ _ _ h.blk]; rfl, by rw [cell_of_row w _ 1 _ _ _ h.blk]; rfl, by rw [cell_of_row w _ 2 _ _ _ h.blk]; rfl, (Array.getElem?_eq_some_iff.1 h.blk).1⟩
theorem BxN.below {w w' : World} {B g : Nat} {T : Int} {E : Option Addr} {m cE : Nat} {A : Option Addr} {n cA : Nat} (h : BxN w g T E m cE A n cA) (hb : Below B w w') (hg : g < B) : BxN w' g T E m cE A n cA := ⟨(hb.block g hg).trans h.blk⟩

set_option maxRecDepth 100000 in
set_option maxHeartbeats 8000000 in
theorem refPat_any (T : Nat) (E : Option Addr) (cE : Nat) (A : Option Addr) (cA : Nat) (ev : List Evt) (l : List Acy) (line : Int) (ts : List Int) (R : Nat) (P Q : Nat → Nat) (D W : Nat → Int) (w : World) (he : Lst encE 3 w w.heap.size E ev) (hl : Lst encA 6 w w.heap.size A l) (hP : PatOk T ts ev l line R P Q D W) (hev : ev.length ≤ 48) (hll : l.length ≤ 512) :
    Calls Try.prog 55 #[netV T E ev.length cE A l.length cA, .int .i64 line] w fun e w' => ∃ v, e = .returned (.tuple #[v, .bool true]) ∧ OwnN w' w.heap.size v (patL l P Q R) ∧ Below w.heap.size w w' := by
  have hRle := patok_le hP
  have hR1 := hP.pos
  have HPK := Lib.hid hP
  have ba := belA w (.cells #[.int .i64 T, .slice E ev.length cE, .slice A l.length cA] 43)
  have hn := heap_alloc_new w (.cells #[.int .i64 T, .slice E ev.length cE, .slice A l.length cA] 43)
  have hg0 : w.heap.size < (w.alloc (.cells #[.int .i64 T, .slice E ev.length cE, .slice A l.length cA] 43)).heap.size := by simp
  have HE := Lib.hid (he.belowMore ba ba.size)
  have HL := Lib.hid (hl.belowMore ba ba.size)
  have HBA := Lib.hid ba
  have HN := Lib.hid (BxN.mk hn)
  clear he hl hP ba hn
  go_enter Try.func55, Try.ntmps55
  go_wp2_with fail
  generalize w.alloc (.cells #[.int .i64 T, .slice E ev.length cE, .slice A l.length cA] 43) = w0 at *
  generalize hgz : w.heap.size = gz at *
  have HGZ := Lib.hid hgz
  clear hgz
  go_loopg [6, 7, 8, 9, 10, 11, 12] R (fun g s6 s7 s8 s9 s10 s11 s12 wr => ∃ r : Nat, r ≤ R ∧ g = R - r ∧ s8 = .int .i64 r ∧ (0 < r → s7 = .int .i64 (Q (r - 1))) ∧ OwnN wr w0.heap.size s6 (patL l P Q r) ∧ Below w0.heap.size w0 wr)
  case atStart => exact ⟨0, by omega, by omega, rfl, fun h => absurd h (by omega), Own.nil _ _ _ _ _, Below.refl _ _⟩
  case round =>
    obtain ⟨r, hr, hg, rfl, hq, ho, hb⟩ := hrel
    have HO_wr := Lib.hid ho
    have HB_wr := Lib.hid hb
    have z_wr := hb.size
    have he_wr := HE.out.belowMore hb hb.size
    have hl_wr := HL.out.belowMore hb hb.size
    obtain ⟨n0, n1, n2, ng⟩ := (HN.out.below hb hg0).cells
    have hpl := patL_len l P Q r
    have hrle : (r : Int) ≤ (ev.length : Int) := by omega
    have hi1 := refIdx_any 1 line r T E cE A l.length cA ev wr he_wr (by omega)
    by_cases hlt : r < R
    · rw [HPK.out.dep r hlt] at hi1
      rcases Nat.eq_zero_or_pos r with hz | hz
      · have HPS := Lib.hid (show patL l P Q (r + 1) = [] ++ [fidx (isA 1 (P r) (Q r)) l] by rw [patL_succ, hz]; rfl)
        have hol : OwnN wr w0.heap.size u6 [] := by rw [hz] at ho; exact ho
        replace HO_wr := Lib.hid hol
        have g1 : decide (0 < r) = false := by simp; omega
        have g2 : decide ((0 : Int) < (r : Int)) = false := by simp; omega
        have HZ := Lib.hid hz
        clear ho hb hol hq hpl hz
        go_wp2_with fail
        refine hi1.mono ?_
        rintro e wa ⟨rfl, hba⟩
        have HO_wa := Lib.hid (HO_wr.out.below' hba)
        have HB_wa := Lib.hid (HB_wr.out.trans (hba.mono HB_wr.out.size))
        obtain ⟨n0, n1, n2, ng⟩ := (HN.out.below HB_wa.out hg0).cells
        have z_wa := HB_wa.out.size
        have he_wa := HE.out.belowMore HB_wa.out HB_wa.out.size
        have hl_wa := HL.out.belowMore HB_wa.out HB_wa.out.size
        clear hi1 hba HO_wr HB_wr he_wr hl_wr z_wr
        have hi2 := refIdx_any 2 line r T E cE A l.length cA ev wa he_wa (by omega)
        rw [HPK.out.arr r (by omega)] at hi2
        go_wp2_with fail
        refine hi2.mono ?_
        rintro e wb ⟨rfl, hbb⟩
        have HO_wb := Lib.hid (HO_wa.out.below' hbb)
        have HB_wb := Lib.hid (HB_wa.out.trans (hbb.mono HB_wa.out.size))
        obtain ⟨n0, n1, n2, ng⟩ := (HN.out.below HB_wb.out hg0).cells
        have z_wb := HB_wb.out.size
        have he_wb := HE.out.belowMore HB_wb.out HB_wb.out.size
        have hl_wb := HL.out.belowMore HB_wb.out HB_wb.out.size
        clear hi2 hbb HO_wa HB_wa he_wa hl_wa z_wa
        have hac := refAct_any T E ev.length cE A cA l 1 (P r) (Q r) wb hl_wb (by omega)
        obtain ⟨kr, hkr⟩ := idx_run HPK.out r (by omega)
        rw [hkr] at hac
        have HKR := Lib.hid hkr
        clear hkr
        go_wp2_with fail
        refine hac.mono ?_
        rintro e wd ⟨rfl, hbd⟩
        have HO_wd := Lib.hid (HO_wb.out.below' hbd)
        have HB_wd := Lib.hid (HB_wb.out.trans (hbd.mono HB_wb.out.size))
        obtain ⟨n0, n1, n2, ng⟩ := (HN.out.below HB_wd.out hg0).cells
        have z_wd := HB_wd.out.size
        have he_wd := HE.out.belowMore HB_wd.out HB_wd.out.size
        have hl_wd := HL.out.belowMore HB_wd.out HB_wd.out.size
        clear hac hbd HO_wb HB_wb he_wb hl_wb z_wb
        go_wp2_with (at_builtin; refine Stp.put ?_)
        refine Stp.out ?_
        refine wpList_append_rec rfl _ _ 29 rfl w0.heap.size 3 8 Try.underlying29 elemN _ ([] : List Int) rfl HO_wd.out [(kr : Int)] _ rfl 1 1 rfl rfl (by simp only [Go.maxLen, List.length_cons, List.length_nil]; omega) (by simp only [List.length_cons, List.length_nil]; omega) z_wd ?_
        intro v_we we ho_we hg_we hat_we
        have HO_we := Lib.hid ho_we
        have HB_we := Lib.hid (HB_wd.out.grown hg_we z_wd (fun q e => (World.ownsRow.lt HO_wd.out q e).1))
        obtain ⟨n0, n1, n2, ng⟩ := (HN.out.below HB_we.out hg0).cells
        have z_we := HB_we.out.size
        have he_we := HE.out.belowMore HB_we.out HB_we.out.size
        have hl_we := HL.out.belowMore HB_we.out HB_we.out.size
        clear ho_we hg_we hat_we HO_wd HB_wd he_wd hl_wd z_wd
        go_wp2_with fail
        go_roundg (R - (r + 1))
        case measure => omega
        case rel => exact ⟨r + 1, by omega, rfl, by go_num, fun _ => by rw [Nat.add_sub_cancel], by rw [HPS.out, HKR.out]; exact HO_we.out, HB_we.out⟩
      · have h7 : u7 = .int .i64 (Q (r - 1)) := hq (by omega)
        generalize hq1 : Q (r - 1) = q1 at *
        subst h7
        obtain ⟨kd, hkd⟩ := idx_dwell' HPK.out r hz hlt
        rw [hq1] at hkd
        have HPS := Lib.hid (show patL l P Q (r + 1) = (patL l P Q r ++ [(kd : Int)]) ++ [fidx (isA 1 (P r) (Q r)) l] by rw [patL_succ, if_neg (by omega), hq1, hkd])
        have HKD := Lib.hid hkd
        have hpl2 : (patL l P Q r).length ≤ 100 := by omega
        have g1 : decide (0 < r) = true := by simp; omega
        have g2 : decide ((0 : Int) < (r : Int)) = true := by simp; omega
        have HQ1 := Lib.hid hq1
        clear ho hb hq hpl hkd hq1
        go_wp2_with fail
        refine hi1.mono ?_
        rintro e wa ⟨rfl, hba⟩
        have HO_wa := Lib.hid (HO_wr.out.below' hba)
        have HB_wa := Lib.hid (HB_wr.out.trans (hba.mono HB_wr.out.size))
        obtain ⟨n0, n1, n2, ng⟩ := (HN.out.below HB_wa.out hg0).cells
        have z_wa := HB_wa.out.size
        have he_wa := HE.out.belowMore HB_wa.out HB_wa.out.size
        have hl_wa := HL.out.belowMore HB_wa.out HB_wa.out.size
        clear hi1 hba HO_wr HB_wr he_wr hl_wr z_wr
        have hac := refAct_any T E ev.length cE A cA l 2 q1 (P r) wa hl_wa (by omega)
        rw [HKD.out] at hac
        go_wp2_with fail
        refine hac.mono ?_
        rintro e wf ⟨rfl, hbf⟩
        have HO_wf := Lib.hid (HO_wa.out.below' hbf)
        have HB_wf := Lib.hid (HB_wa.out.trans (hbf.mono HB_wa.out.size))
        obtain ⟨n0, n1, n2, ng⟩ := (HN.out.below HB_wf.out hg0).cells
        have z_wf := HB_wf.out.size
        have he_wf := HE.out.belowMore HB_wf.out HB_wf.out.size
        have hl_wf := HL.out.belowMore HB_wf.out HB_wf.out.size
        clear hac hbf HO_wa HB_wa he_wa hl_wa z_wa
        go_wp2_with (at_builtin; refine Stp.put ?_)
        refine Stp.out ?_
        refine wpList_append_rec rfl _ _ 29 rfl w0.heap.size 3 8 Try.underlying29 elemN _ (patL l P Q r) rfl HO_wf.out [(kd : Int)] _ rfl 1 1 rfl rfl (by simp only [Go.maxLen, List.length_cons, List.length_nil]; omega) (by simp only [List.length_cons, List.length_nil]; omega) z_wf ?_
        intro v_wh wh ho_wh hg_wh hat_wh
        have HO_wh := Lib.hid ho_wh
        have HB_wh := Lib.hid (HB_wf.out.grown hg_wh z_wf (fun q e => (World.ownsRow.lt HO_wf.out q e).1))
        obtain ⟨n0, n1, n2, ng⟩ := (HN.out.below HB_wh.out hg0).cells
        have z_wh := HB_wh.out.size
        have he_wh := HE.out.belowMore HB_wh.out HB_wh.out.size
        have hl_wh := HL.out.belowMore HB_wh.out HB_wh.out.size
        clear ho_wh hg_wh hat_wh HO_wf HB_wf he_wf hl_wf z_wf
        have hpl3 : (patL l P Q r ++ [(kd : Int)]).length ≤ 101 := by simp; omega
        generalize patL l P Q r ++ [(kd : Int)] = pl at *
        have hi2 := refIdx_any 2 line r T E cE A l.length cA ev wh he_wh (by omega)
        rw [HPK.out.arr r (by omega)] at hi2
        go_wp2_with fail
        refine hi2.mono ?_
        rintro e wb ⟨rfl, hbb⟩
        have HO_wb := Lib.hid (HO_wh.out.below' hbb)
        have HB_wb := Lib.hid (HB_wh.out.trans (hbb.mono HB_wh.out.size))
        obtain ⟨n0, n1, n2, ng⟩ := (HN.out.below HB_wb.out hg0).cells
        have z_wb := HB_wb.out.size
        have he_wb := HE.out.belowMore HB_wb.out HB_wb.out.size
        have hl_wb := HL.out.belowMore HB_wb.out HB_wb.out.size
        clear hi2 hbb HO_wh HB_wh he_wh hl_wh z_wh
        have hac := refAct_any T E ev.length cE A cA l 1 (P r) (Q r) wb hl_wb (by omega)
        obtain ⟨kr, hkr⟩ := idx_run HPK.out r (by omega)
        rw [hkr] at hac
        have HKR := Lib.hid hkr
        clear hkr
        go_wp2_with fail
        refine hac.mono ?_
        rintro e wd ⟨rfl, hbd⟩
        have HO_wd := Lib.hid (HO_wb.out.below' hbd)
        have HB_wd := Lib.hid (HB_wb.out.trans (hbd.mono HB_wb.out.size))
        obtain ⟨n0, n1, n2, ng⟩ := (HN.out.below HB_wd.out hg0).cells
        have z_wd := HB_wd.out.size
        have he_wd := HE.out.belowMore HB_wd.out HB_wd.out.size
        have hl_wd := HL.out.belowMore HB_wd.out HB_wd.out.size
        clear hac hbd HO_wb HB_wb he_wb hl_wb z_wb
        go_wp2_with (at_builtin; refine Stp.put ?_)
        refine Stp.out ?_
        refine wpList_append_rec rfl _ _ 29 rfl w0.heap.size 3 8 Try.underlying29 elemN _ pl rfl HO_wd.out [(kr : Int)] _ rfl 1 1 rfl rfl (by simp only [Go.maxLen, List.length_cons, List.length_nil]; omega) (by simp only [List.length_cons, List.length_nil]; omega) z_wd ?_
        intro v_we we ho_we hg_we hat_we
        have HO_we := Lib.hid ho_we
        have HB_we := Lib.hid (HB_wd.out.grown hg_we z_wd (fun q e => (World.ownsRow.lt HO_wd.out q e).1))
        obtain ⟨n0, n1, n2, ng⟩ := (HN.out.below HB_we.out hg0).cells
        have z_we := HB_we.out.size
        have he_we := HE.out.belowMore HB_we.out HB_we.out.size
        have hl_we := HL.out.belowMore HB_we.out HB_we.out.size
        clear ho_we hg_we hat_we HO_wd HB_wd he_wd hl_wd z_wd
        go_wp2_with fail
        go_roundg (R - (r + 1))
        case measure => omega
        case rel => exact ⟨r + 1, by omega, rfl, by go_num, fun _ => by rw [Nat.add_sub_cancel], by rw [HPS.out, HKR.out]; exact HO_we.out, HB_we.out⟩
    · have hrR : r = R := by omega
      subst hrR
      have hst := HPK.out.stop
      rw [hst] at hi1
      clear hq ho hb hst
      go_wp2_with fail
      refine hi1.mono ?_
      rintro e wa ⟨rfl, hba⟩
      have hO := HO_wr.out.below' hba
      have hB := HB_wr.out.trans (hba.mono HB_wr.out.size)
      have HF := Lib.hid (And.intro (hO.rebase (b' := gz) (by omega)) (HBA.out.trans (hB.mono (Nat.le_of_lt hg0))))
      clear hi1 hba hO hB
      have hr1 : (0 : Int) < (r : Int) := by omega
      have hr2 : decide ((0 : Int) < (r : Int)) = true := by simp; omega
      have hr3 : decide (0 < r) = true := by simp; omega
      go_wp2_with fail
      go_ret2
      refine ⟨_, rfl, ?_, ?_⟩
      · rw [HGZ.out]; exact HF.out.1
      · rw [HGZ.out]; exact HF.out.2
end Go.Proofs.Ytaongejpbgjbiaa
