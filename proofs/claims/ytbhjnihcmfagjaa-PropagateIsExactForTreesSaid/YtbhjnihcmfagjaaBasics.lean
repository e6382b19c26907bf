/-
  Contract of appendArc: the spans of an arc are appended to a row of the caller's own.
  Contract of Same at spans: it answers whether two lists are equal.
  Contracts of the reference's helpers bad and spans, and of Make of both packages.
  Contract of the reference's spans: the set of the marked residues.
  Contract of the reference's Make: it returns the same set and error as Make.
  Contract of the reference's marks: for each residue, whether a valid set contains it.
-/
import Derived.Test.YtbhjnihcmfagjaaValid
import Derived.Test.YtbhjnihcmfagjaaPlain
import Derived.Deep.OwnRows
set_option linter.unusedVariables false
set_option linter.unusedSimpArgs false
namespace Go.Proofs.Ytbhjnihcmfagjaa
open Go.RowKit RP

theorem own_at {a b : Option Nat} {n : Nat} (h : a = b ∨ a = some (n + 1)) : ∀ g, a = some g → b = some g ∨ n ≤ g := fun g hg => by
  rcases h with h | h
  · exact .inl (by rw [← h, hg])
  · rw [h] at hg; injection hg with hg; exact .inr (by omega)

set_option maxHeartbeats 1000000 in
theorem appendArc_at (base : Nat) (v : Value) (l : List Sp) (t f n : Int) (w : World) (hown : OwnS w base v l) (hbase : base ≤ w.heap.size) (hl : l.length ≤ 4294967296)
    (t1 : 1 ≤ t) (t2 : t ≤ 7200) (f1 : 0 ≤ f) (f2 : f < t) (n2 : n ≤ 9223372036854775807) :
    Calls Try.prog 75 #[v, .int .i64 t, .int .i64 f, .int .i64 n] w fun e w' =>
      ∃ v', e = .returned v' ∧ OwnS w' base v' (l ++ arc t f n) ∧ w.grownBy w' v.ownBlock ∧ ∀ g, v'.ownBlock = some g → v.ownBlock = some g ∨ w.heap.size ≤ g := by
  obtain ⟨A, c, rfl⟩ := hown.form
  by_cases c1 : n < 1
  · have H := Lib.hid (show arc t f n = [] by simp [arc, c1])
    go_enter Try.func75, Try.ntmps75
    go_wp2
    go_ret
    exact ⟨_, rfl, by rw [H.out, List.append_nil]; exact hown, ⟨rfl, rfl, rfl, Nat.le_refl _, fun _ _ _ => rfl⟩, fun g hg => .inl hg⟩
  · by_cases c2 : t ≤ n
    · have H := Lib.hid (show arc t f n = [(0, t)] by simp [arc, c1, c2])
      go_enter Try.func75, Try.ntmps75
      go_wp2_with (at_builtin; refine wpList_append_rec rfl _ _ 40 rfl base 46 16 Try.underlying40 elemS _ l rfl hown [(0, t)] _ rfl 1 1 rfl rfl (by simp only [maxLen, List.length_cons, List.length_nil]; omega) (by simp only [List.length_cons, List.length_nil]; omega) hbase ?_; intro v1 w1 ho1 hg1 hat1)
      go_ret
      exact ⟨_, rfl, by rw [H.out]; exact ho1, hg1, own_at hat1⟩
    · by_cases c3 : f + n ≤ t
      · have H := Lib.hid (show arc t f n = [(f, f + n)] by simp [arc, c1, c2, c3])
        go_enter Try.func75, Try.ntmps75
        go_wp2_with (at_builtin; refine wpList_append_rec rfl _ _ 40 rfl base 46 16 Try.underlying40 elemS _ l rfl hown [(f, f + n)] _ rfl 1 1 rfl rfl (by simp only [maxLen, List.length_cons, List.length_nil]; omega) (by simp only [List.length_cons, List.length_nil]; omega) hbase ?_; intro v1 w1 ho1 hg1 hat1)
        go_ret
        exact ⟨_, rfl, by rw [H.out]; exact ho1, hg1, own_at hat1⟩
      · have H := Lib.hid (show arc t f n = [(0, f + n - t), (f, t)] by simp [arc, c1, c2, c3])
        go_enter Try.func75, Try.ntmps75
        go_wp2_with (at_builtin; refine wpList_append_rec rfl _ _ 40 rfl base 46 16 Try.underlying40 elemS _ l rfl hown [(0, f + n - t), (f, t)] _ rfl 2 2 rfl rfl (by simp only [maxLen, List.length_cons, List.length_nil]; omega) (by simp only [List.length_cons, List.length_nil]; omega) hbase ?_; intro v1 w1 ho1 hg1 hat1)
        go_ret
        exact ⟨_, rfl, by rw [H.out]; exact ho1, hg1, own_at hat1⟩

theorem appendArc_any (base : Nat) (v : Value) (l : List Sp) (t f n : Int) (w : World) (hown : OwnS w base v l) (hbase : base ≤ w.heap.size) (hl : l.length ≤ 4294967296)
    (t1 : 1 ≤ t) (t2 : t ≤ 7200) (f1 : 0 ≤ f) (f2 : f < t) (n2 : n ≤ 9223372036854775807) :
    Calls Try.prog 75 #[v, .int .i64 t, .int .i64 f, .int .i64 n] w fun e w' =>
      ∃ v', e = .returned v' ∧ OwnS w' base v' (l ++ arc t f n) ∧ w.grownBy w' v.ownBlock :=
  (appendArc_at base v l t f n w hown hbase hl t1 t2 f1 f2 n2).mono fun _ _ ⟨v', h1, h2, h3, _⟩ => ⟨v', h1, h2, h3⟩

end Go.Proofs.Ytbhjnihcmfagjaa

namespace Go.Proofs.Ytbhjnihcmfagjaa
open Go.RowKit RP

theorem spanS : Try.prog.underlying 46 = some (.struct (Try.prog.fieldsOf 46)) := by kernel_rfl
theorem spanH : Try.prog.stoodInHeld 46 = false := by kernel_rfl
theorem spanG : Try.prog.eqGuardType Try.prog.depth 46 = false := by kernel_rfl

theorem run_neq_span (a b c d : Int) (w : World) : (binOp .neq 46 (.agg #[.int .i64 a, .int .i64 b]) (.agg #[.int .i64 c, .int .i64 d])).run Try.prog w = .ok (.bool (!(a == c && b == d))) w := by
  have u3 := Try.underlying3
  have a3 := Try.isAgg3
  have z3 := Try.sizeOf3
  rw [run_neq_struct, show (10000 : Nat) = 9999 + 1 from rfl, run_equalIn_agg w 9999 46 _ _ spanS spanH]
  simp only [Program.fieldsOf, Try.underlying46]
  go_simp
  by_cases h1 : a = c <;> by_cases h2 : b = d <;> simp [h1, h2]

theorem list_ne_at {α : Type} {a b : List α} {k : Nat} (ha : k < a.length) (hb : k < b.length) (h : a[k] ≠ b[k]) : a ≠ b := by
  rintro rfl; exact h rfl
theorem take_eq_snoc {α : Type} {a b : List α} {k : Nat} (ha : k < a.length) (hb : k < b.length) (h : a.take k = b.take k) (h' : a[k] = b[k]) : a.take (k + 1) = b.take (k + 1) := by
  rw [List.take_succ_eq_append_getElem ha, List.take_succ_eq_append_getElem hb, h, h']

set_option maxHeartbeats 1000000 in
theorem same_any (A B : Option Addr) (c d : Nat) (l m : List Sp) (w : World) (hl : Lst encS 2 w w.heap.size A l) (hm : Lst encS 2 w w.heap.size B m) (hn : l.length ≤ 9223372036854775807) (hn' : m.length ≤ 9223372036854775807) :
    Calls Try.prog 20 #[.slice A l.length c, .slice B m.length d] w fun e w' => e = .returned (.bool (decide (l = m))) ∧ Below w.heap.size w w' := by
  by_cases hlen : l.length = m.length
  · have hne : ((l.length : Int) != (m.length : Int)) = false := by simp [hlen]
    have HL := Lib.hid hlen
    have hle : m.length ≤ l.length := by omega
    have hle' : l.length ≤ m.length := by omega
    clear hlen
    go_enter Try.func20, Try.ntmps20
    go_wp2
    go_loopg [5, 13] l.length (fun g s5 s13 wr => ∃ k : Nat, k ≤ l.length ∧ g = l.length - k ∧ s13 = .int .i64 k ∧ l.take k = m.take k ∧ Below w.heap.size w wr)
    case atStart => exact ⟨0, by omega, by omega, rfl, rfl, Below.refl _ _⟩
    case round =>
      obtain ⟨k, hk, hg, rfl, ht, hb⟩ := hrel
      have HT := Lib.hid ht
      clear ht
      by_cases hlt : k < l.length
      · have hlt' : k < m.length := by omega
        obtain ⟨b, off, rfl, hbw, c0, c1⟩ := (hl.below hb).sp k hlt
        obtain ⟨b', off', rfl, hbw', c0', c1'⟩ := (hm.below hb).sp k hlt'
        have HX := Lib.hid (fun h => take_eq_snoc hlt hlt' HT.out h)
        have HY := Lib.hid (fun h => list_ne_at hlt hlt' h)
        generalize l[k] = x at *
        generalize m[k] = y at *
        obtain ⟨x1, x2⟩ := x
        obtain ⟨y1, y2⟩ := y
        have hq := run_neq_span x1 x2 y1 y2
        go_wp2_with fail
        go_quiet (fail)
        go_wp2_with fail
        · have h : (!x1 == y1) = true ∨ (!x2 == y2) = true := by assumption
          have hne' : ((x1, x2) : Sp) ≠ (y1, y2) := by
            intro e
            injection e with e1 e2
            subst e1 e2
            simp at h
          go_ret
          exact ⟨ret_bool (by have := HY.out hne'; simp [this]), below_drewN hb _⟩
        · have h : (!x1 == y1) = false ∧ (!x2 == y2) = false := by assumption
          simp at h
          go_roundg (l.length - (k + 1))
          case measure => omega
          case rel => exact ⟨k + 1, by omega, rfl, by go_num, HX.out (by rw [h.1, h.2]), below_drewN hb _⟩
      · go_wp2
        go_ret
        have ht := HT.out
        rw [List.take_of_length_le (by omega), List.take_of_length_le (by omega)] at ht
        exact ⟨ret_bool (by simp [ht]), hb⟩
  · have hne : ((l.length : Int) != (m.length : Int)) = true := by rw [bne_iff_ne]; omega
    go_enter Try.func20, Try.ntmps20
    go_wp2
    go_ret
    exact ⟨ret_bool (by have : l ≠ m := (fun h => hlen (by rw [h])); simp [this]), Below.refl _ _⟩

end Go.Proofs.Ytbhjnihcmfagjaa

namespace Go.Proofs.Ytbhjnihcmfagjaa
open Go.RowKit RP

def makeL (t f n : Int) : List Sp := if inRange t then arc t (modI f t) n else []
def rangeErr (t : Int) : Int := if inRange t then 0 else 4

set_option maxHeartbeats 1000000 in
theorem make_any (t f n : Int) (w : World) (t1 : -9223372036854775808 ≤ t) (t2 : t ≤ 9223372036854775807) (n2 : n ≤ 9223372036854775807) :
    Calls Try.prog 64 #[.int .i64 t, .int .i64 f, .int .i64 n] w fun e w' =>
      ∃ v, e = .returned (.tuple #[v, .int .i64 (rangeErr t)]) ∧ OwnS w' w.heap.size v (makeL t f n) ∧ Below w.heap.size w w' := by
  cases hr : inRange t with
  | false =>
    have H := Lib.hid hr
    have hcon := fun W => inRange_any t W
    rw [hr] at hcon
    clear hr
    go_enter Try.func64, Try.ntmps64
    go_wp2_with (go_at_call 74; refine (hcon _).mono ?_; rintro e w' ⟨rfl, rfl⟩)
    go_ret2
    exact ⟨_, by simp only [rangeErr, H.out]; rfl, by simp only [makeL, H.out]; exact Own.nil _ _ _ _ _, Below.refl _ _⟩
  | true =>
    have H := Lib.hid hr
    have hcon := fun W => inRange_any t W
    rw [hr] at hcon
    have hb : 1 ≤ t ∧ t ≤ 7200 := by simpa [inRange] using hr
    clear hr
    have hm := modI_range f t hb.1
    generalize hq : modI f t = q at hm
    have hmod := fun W => mod_any f t W t1 t2
    rw [hq] at hmod
    have HQ := Lib.hid hq
    clear hq
    go_enter Try.func64, Try.ntmps64
    go_wp2_with (first
      | (go_at_call 74; refine (hcon _).mono ?_; rintro e w' ⟨rfl, rfl⟩)
      | (go_at_call 76; refine (hmod _).mono ?_; rintro e w' ⟨rfl, rfl⟩)
      | (go_at_call 75; refine (appendArc_any w.heap.size _ [] t q n w (Own.nil _ _ _ _ _) (Nat.le_refl _) (by simp) hb.1 hb.2 hm.1 hm.2 n2).mono ?_; rintro e w' ⟨v', rfl, ho, hg⟩))
    go_ret2
    exact ⟨_, by simp only [rangeErr, H.out]; rfl, by simp only [makeL, H.out, HQ.out]; exact ho, below_of_grownBy hg (Nat.le_refl _) (by simp [Value.ownBlock])⟩

/-- What bad answers. -/
def badI (t : Int) (a b : List Sp) : Int := if inRange t then (if validL t a && validL t b then 0 else 1) else 4

set_option maxHeartbeats 1000000 in
theorem bad_any (t : Int) (A B : Option Addr) (c d : Nat) (l m : List Sp) (w : World) (hl : Lst encS 2 w w.heap.size A l) (hm : Lst encS 2 w w.heap.size B m) (hn : l.length ≤ 9223372036854775807) (hn' : m.length ≤ 9223372036854775807) :
    Calls Try.prog 46 #[.int .i64 t, .slice A l.length c, .slice B m.length d] w fun e w' => e = .returned (.int .i64 (badI t l m)) ∧ Below w.heap.size w w' := by
  by_cases hr : 1 ≤ t ∧ t ≤ 7200
  · obtain ⟨hr1, hr2⟩ := hr
    have H := Lib.hid (show inRange t = true by simp [inRange, hr1, hr2])
    have hv := validSpans_any t A c l w hl hn
    cases h1 : validL t l with
    | false =>
      rw [h1] at hv
      have H1 := Lib.hid h1
      clear h1
      go_enter Try.func46, Try.ntmps46
      go_wp2_with (go_at_call 43; refine hv.mono ?_; rintro e w' ⟨rfl, hb⟩)
      go_ret
      exact ⟨ret_int (by simp [badI, H.out, H1.out]), hb⟩
    | true =>
      rw [h1] at hv
      have H1 := Lib.hid h1
      clear h1
      cases h2 : validL t m with
      | false =>
        have H2 := Lib.hid h2
        have hv2 : ∀ W, Below w.heap.size w W → Calls Try.prog 43 #[.int .i64 t, .slice B m.length d] W fun e w' => e = .returned (.bool false) ∧ Below w.heap.size w w' := fun W hW => by
          rw [← h2]
          exact (validSpans_any t B d m W (hm.belowMore hW hW.size) hn').mono fun e w' ⟨he, hb⟩ => ⟨he, hW.trans (hb.mono hW.size)⟩
        clear h2
        go_enter Try.func46, Try.ntmps46
        go_wp2_with fail
        refine hv.mono ?_; rintro e w1 ⟨rfl, hb1⟩
        go_wp2_with fail
        refine (hv2 _ hb1).mono ?_; rintro e w2 ⟨rfl, hb2⟩
        go_wp2_with fail
        go_ret
        exact ⟨ret_int (by simp [badI, H.out, H1.out, H2.out]), hb2⟩
      | true =>
        have H2 := Lib.hid h2
        have hv2 : ∀ W, Below w.heap.size w W → Calls Try.prog 43 #[.int .i64 t, .slice B m.length d] W fun e w' => e = .returned (.bool true) ∧ Below w.heap.size w w' := fun W hW => by
          rw [← h2]
          exact (validSpans_any t B d m W (hm.belowMore hW hW.size) hn').mono fun e w' ⟨he, hb⟩ => ⟨he, hW.trans (hb.mono hW.size)⟩
        clear h2
        go_enter Try.func46, Try.ntmps46
        go_wp2_with fail
        refine hv.mono ?_; rintro e w1 ⟨rfl, hb1⟩
        go_wp2_with fail
        refine (hv2 _ hb1).mono ?_; rintro e w2 ⟨rfl, hb2⟩
        go_wp2_with fail
        go_ret
        exact ⟨ret_int (by simp [badI, H.out, H1.out, H2.out]), hb2⟩
  · have H := Lib.hid (show inRange t = false by simp [inRange]; omega)
    go_enter Try.func46, Try.ntmps46
    go_wp2_with fail
    all_goals go_ret
    all_goals exact ⟨ret_int (by simp [badI, H.out]), Below.refl _ _⟩

end Go.Proofs.Ytbhjnihcmfagjaa

namespace Go.Proofs.Ytbhjnihcmfagjaa
open Go.RowKit RP

theorem Lst.bo {w : World} {B : Nat} {A : Option Addr} {l : List Bool} (h : Lst encB 1 w B A l) (i : Nat) (hi : i < l.length) :
    ∃ b off, A = some ⟨b, off, none⟩ ∧ b < B ∧ w.cell? ⟨b, off + i, none⟩ = some (.bool l[i]) := by
  obtain ⟨b, off, e, hb, hc⟩ := h (by intro h0; subst h0; simp at hi)
  have := hc i l[i] (List.getElem?_eq_getElem hi) 0 _ rfl
  rw [Nat.mul_one, Nat.add_zero] at this
  exact ⟨b, off, e, hb, this⟩

def bitAt (l : List Bool) (i : Nat) : Bool := l.getD i false
theorem bitAt_get {l : List Bool} {i : Nat} (h : i < l.length) : bitAt l i = l[i] := by simp [bitAt, h]

theorem runs_no {P : Nat → Bool} {k : Nat} (h : P k = false) : runs P (k + 1) = runs P k := by simp [runs, h]
theorem runs_first {P : Nat → Bool} {k : Nat} (h : P k = true) (h0 : runs P k = []) : runs P (k + 1) = [] ++ [((k : Int), (k : Int) + 1)] := by simp [runs, h, h0, stepRun]
theorem runs_far {P : Nat → Bool} {k : Nat} (h : P k = true) {r : List Sp} {s : Sp} (h0 : runs P k = r ++ [s]) (h1 : s.2 ≠ k) : runs P (k + 1) = (r ++ [s]) ++ [((k : Int), (k : Int) + 1)] := by simp [runs, h, h0, stepRun, h1]
theorem runs_near {P : Nat → Bool} {k : Nat} (h : P k = true) {r : List Sp} {s : Sp} (h0 : runs P k = r ++ [s]) (h1 : s.2 = k) : runs P (k + 1) = (r ++ [s]).set r.length (s.1, (k : Int) + 1) := by
  simp [runs, h, h0, stepRun, h1]
theorem runs_len (P : Nat → Bool) : ∀ k, (runs P k).length ≤ k
  | 0 => by simp [runs]
  | k + 1 => by
    have ih := runs_len P k
    simp only [runs]
    split
    · unfold stepRun
      split
      · split
        · simp; omega
        · simp; omega
      · simp
    · omega

set_option maxHeartbeats 2000000 in
theorem spans_any (A : Option Addr) (c : Nat) (l : List Bool) (w : World) (hl : Lst encB 1 w w.heap.size A l) (hn : l.length ≤ 4294967296) :
    Calls Try.prog 47 #[.slice A l.length c] w fun e w' => ∃ v, e = .returned v ∧ OwnS w' w.heap.size v (runs (bitAt l) l.length) ∧ Below w.heap.size w w' := by
  go_enter Try.func47, Try.ntmps47
  go_wp2
  go_loopg [3, 4] l.length (fun g s3 s4 wr => ∃ k : Nat, k ≤ l.length ∧ g = l.length - k ∧ s4 = .int .i64 k ∧ OwnS wr w.heap.size s3 (runs (bitAt l) k) ∧ Below w.heap.size w wr)
  case atStart => exact ⟨0, by omega, by omega, rfl, Own.nil _ _ _ _ _, Below.refl _ _⟩
  case round =>
    obtain ⟨k, hk, hg, rfl, ho, hb⟩ := hrel
    by_cases hlt : k < l.length
    · obtain ⟨b, off, rfl, hbw, c0⟩ := (hl.below hb).bo k hlt
      have hbit := bitAt_get hlt
      cases hx : l[k] with
      | false =>
        rw [hx] at c0 hbit
        have H := Lib.hid (runs_no hbit)
        clear hbit hx
        go_wp2
        go_roundg (l.length - (k + 1))
        case measure => omega
        case rel => exact ⟨k + 1, by omega, rfl, by go_num, by rw [H.out]; exact ho, hb⟩
      | true =>
        rw [hx] at c0 hbit
        have hrl := runs_len (bitAt l) k
        rcases snoc_cases (runs (bitAt l) k) with h0 | ⟨r, s, h0⟩
        · have H := Lib.hid (runs_first hbit h0)
          clear hbit hx
          rw [h0] at ho hrl
          clear h0
          obtain ⟨A', c', rfl⟩ := ho.form
          go_wp2_with (at_builtin; refine wpList_append_rec rfl _ _ 40 rfl w.heap.size 46 16 Try.underlying40 elemS _ [] rfl ho [((k : Int), (k : Int) + 1)] _ rfl 1 1 rfl rfl (by simp only [maxLen, List.length_cons, List.length_nil]; omega) (by simp only [List.length_cons, List.length_nil]; omega) hb.size ?_; intro v1 w1 ho1 hg1 hat1)
          go_roundg (l.length - (k + 1))
          case measure => omega
          case rel => exact ⟨k + 1, by omega, rfl, by go_num, by rw [H.out]; exact ho1, hb.grown hg1 hb.size (ho.le (Nat.le_refl _))⟩
        · rw [h0] at ho hrl
          obtain ⟨g, c', rfl, hge, hgl, hcc, hcell, hfz⟩ := ho.at_ encS_len (by simp)
          have hr1 : r.length + 1 ≤ 4294967296 := by simp at hrl; omega
          have cl := hcell r.length s (by simp) 1 (.int .i64 s.2) rfl
          have fz := hfz (r.length * 2 + 1)
          by_cases h1 : s.2 = k
          · have H := Lib.hid (runs_near hbit h0 h1)
            have hst := ho.stored encS_len r.length 1 (.int .i64 ((k : Int) + 1)) (s.1, (k : Int) + 1) (by simp) (by omega) (by simp [encS])
            have HS := Lib.hid hst
            have hbe : (s.2 == (k : Int)) = true := by simp [h1]
            clear hbit hx h0 h1 hst hcell hfz hrl
            go_wp2
            go_roundg (l.length - (k + 1))
            case measure => omega
            case rel =>
              have hs := HS.out
              exact ⟨k + 1, by omega, rfl, by go_num, by rw [H.out]; simpa using hs.1, hb.setCell hge _⟩
          · have H := Lib.hid (runs_far hbit h0 h1)
            have hbe : (s.2 == (k : Int)) = false := by simp [h1]
            clear hbit hx h0 h1 hcell hfz hrl
            go_wp2_with (at_builtin; refine wpList_append_rec rfl _ _ 40 rfl w.heap.size 46 16 Try.underlying40 elemS _ (r ++ [s]) rfl ho [((k : Int), (k : Int) + 1)] _ rfl 1 1 rfl rfl (by simp only [maxLen, List.length_cons, List.length_nil, List.length_append]; omega) (by simp only [List.length_cons, List.length_nil, List.length_append]; omega) hb.size ?_; intro v1 w1 ho1 hg1 hat1)
            go_roundg (l.length - (k + 1))
            case measure => omega
            case rel => exact ⟨k + 1, by omega, rfl, by go_num, by rw [H.out]; exact ho1, hb.grown hg1 hb.size (ho.le (Nat.le_refl _))⟩
    · go_wp2
      go_ret
      obtain rfl : k = l.length := by omega
      exact ⟨_, rfl, ho, hb⟩

end Go.Proofs.Ytbhjnihcmfagjaa

namespace Go.Proofs.Ytbhjnihcmfagjaa
open Go.RowKit RP

theorem bitAt_bitsOf {t : Nat} {P : Nat → Bool} {i : Nat} (h : i < t) : bitAt (bitsOf t P) i = P i := by simp [bitAt, bitsOf, h]
theorem runs_bits (t : Nat) (P : Nat → Bool) : runs (bitAt (bitsOf t P)) (bitsOf t P).length = runs P t := by
  rw [bitsOf_length]
  exact runs_congr fun x hx => bitAt_bitsOf hx

theorem infoBool : (Try.prog.info? 4).map (fun i => (i.zero, i.size, i.bytes)) = some (some (.bool false), 1, 1) := by kernel_rfl

/-- make([]bool, t). -/
theorem makeBools (t : Nat) (h : t ≤ 4294967296) : ∀ w : World, (Instr.makeSlice 70 (.int .i64 (t : Int)) (.int .i64 (t : Int))).run Try.prog w =
    .ok (.slice (some ⟨w.heap.size, 0, none⟩) t t) (w.alloc (.cells (madeCells #[.bool false] t) 4)) :=
  fun w => run_make_row' 70 4 (.bool false) 1 Try.underlying70 infoBool rfl .i64 .i64 t (by omega) (by omega) w

theorem flat_bools : ∀ t : Nat, (List.replicate t false).flatMap encB = List.replicate t (.bool false)
  | 0 => rfl
  | t + 1 => by rw [List.replicate_succ, List.flatMap_cons, flat_bools t, List.replicate_succ]; rfl

theorem Own.bools (w : World) (t : Nat) (h : t ≤ 4294967296) : Own encB 1 4 (w.alloc (.cells (madeCells #[.bool false] t) 4)) w.heap.size (.slice (some ⟨w.heap.size, 0, none⟩) t t) (bitsOf t fun _ => false) := by
  refine Own.lit w _ _ _ _ _ (by rw [bitsOf_length]) encB_len ?_ (Nat.le_refl _) (by rw [bitsOf_length]; simp only [Go.maxLen]; omega)
  rw [madeCells_toList, ← bitsOf_false, flat_bools]

/-- A row of bools: a cell, that it may be written, and the row behind the store. -/
theorem Own.boAt {w : World} {base g n c : Nat} {l : List Bool} (h : Own encB 1 4 w base (.slice (some ⟨g, 0, none⟩) n c) l) (i : Nat) (hi : i < l.length) (b : Bool) :
    w.cell? ⟨g, i, none⟩ = some (.bool l[i]) ∧ w.frozen? ⟨g, i, none⟩ = false ∧ Own encB 1 4 (w.setCell ⟨g, i, none⟩ (.bool b)) base (.slice (some ⟨g, 0, none⟩) n c) (l.set i b) := by
  obtain ⟨g', c', hv, _, _, _, hc, hf⟩ := h.at_ encB_len (by intro h0; subst h0; simp at hi)
  injection hv with hv
  simp only [Option.some.injEq, Addr.mk.injEq, and_true] at hv
  subst hv
  have h1 := hc i l[i] (List.getElem?_eq_getElem hi) 0 _ rfl
  have h2 := (h.stored encB_len i 0 (.bool b) b hi (by omega) rfl).1
  rw [Nat.mul_one, Nat.add_zero] at h1 h2
  exact ⟨h1, hf i, h2⟩

theorem makeL_eq {t : Nat} {f n : Int} (h1 : 1 ≤ t) (h2 : t ≤ 7200) : makeL t f n = runs (arcB t (modI f t) n) t := by
  have hr : inRange (t : Int) = true := by simp [inRange]; omega
  have := modI_range f t (by omega)
  rw [makeL, hr, if_pos rfl]
  exact arc_eq n h1 this.1 this.2

/-- spans at a row of marks of the caller's own. -/
theorem spans_bits (W : World) (base g c : Nat) (T : Nat) (P : Nat → Bool) (hT : T ≤ 4294967296) (ho : Own encB 1 4 W base (.slice (some ⟨g, 0, none⟩) T c) (bitsOf T P)) :
    Calls Try.prog 47 #[.slice (some ⟨g, 0, none⟩) T c] W fun e w' => ∃ v, e = .returned v ∧ OwnS w' W.heap.size v (runs P T) ∧ Below W.heap.size W w' := by
  have h := spans_any (some ⟨g, 0, none⟩) c (bitsOf T P) W (ho.lst encB_len) (by rw [bitsOf_length]; exact hT)
  rw [runs_bits, bitsOf_length] at h
  exact h

end Go.Proofs.Ytbhjnihcmfagjaa

namespace Go.Proofs.Ytbhjnihcmfagjaa
open Go.RowKit RP

/-- The marks while a span is being marked. -/
def mk (r : List Sp) (f x : Int) (y : Nat) : Bool := mem r y || (decide (f ≤ (y : Int)) && decide ((y : Int) < x))
def memN (l : List Sp) (y : Nat) : Bool := mem l y

theorem mk_set {T : Nat} {r : List Sp} {f : Int} {X : Nat} (h : f ≤ X) : (bitsOf T (mk r f X)).set X true = bitsOf T (mk r f ((X : Int) + 1)) := by
  rw [bitsOf_set]
  refine bitsOf_congr fun y hy => ?_
  unfold mk
  by_cases e : y = X
  · subst e
    rw [if_pos rfl]
    symm
    simp
    right
    omega
  · rw [if_neg e]
    congr 2
    simp
    omega
theorem mk_first {T : Nat} (r : List Sp) (f : Int) : bitsOf T (mk r f f) = bitsOf T (memN r) :=
  bitsOf_congr fun y _ => by
    unfold mk memN
    have : (decide (f ≤ (y : Int)) && decide ((y : Int) < f)) = false := by simp
    rw [this, Bool.or_false]
theorem mk_last {T : Nat} (r : List Sp) (s : Sp) : bitsOf T (mk r s.1 s.2) = bitsOf T (memN (r ++ [s])) :=
  bitsOf_congr fun y _ => by simp [mk, memN, mem, List.any_append]

theorem valid_at {t p : Int} {l : List Sp} (hv : validFrom t p l = true) {k : Nat} (hk : k < l.length) (hp : -1 ≤ p) : 0 ≤ l[k].1 ∧ l[k].1 < l[k].2 ∧ l[k].2 ≤ t := by
  induction l generalizing p k with
  | nil => simp at hk
  | cons s r ih =>
    obtain ⟨h1, h2, h3, h4⟩ := validFrom_cons.1 hv
    cases k with
    | zero => simp only [List.getElem_cons_zero]; omega
    | succ k => simp only [List.getElem_cons_succ]; exact ih h4 (by simpa using hk) (by omega)

set_option maxHeartbeats 2000000 in
theorem marks_any (T : Nat) (A : Option Addr) (c : Nat) (l : List Sp) (w : World) (hl : Lst encS 2 w w.heap.size A l) (h1 : 1 ≤ T) (h2 : T ≤ 7200) (hv : validFrom T (-1) l = true) :
    Calls Try.prog 48 #[.int .i64 T, .slice A l.length c] w fun e w' =>
      ∃ g, e = .returned (.slice (some ⟨g, 0, none⟩) T T) ∧ w.heap.size ≤ g ∧ Own encB 1 4 w' w.heap.size (.slice (some ⟨g, 0, none⟩) T T) (bitsOf T (memN l)) ∧ Below w.heap.size w w' := by
  have hln := valid_length hv (by omega)
  have HV := Lib.hid hv
  clear hv
  have hmk := makeBools T (by omega)
  have hown0 := Own.bools w T (by omega)
  go_enter Try.func48, Try.ntmps48
  go_wp2
  go_loopg [6, 7] l.length (fun g s6 s7 wr => ∃ k : Nat, k ≤ l.length ∧ g = l.length - k ∧ s6 = .int .i64 k ∧
    Own encB 1 4 wr w.heap.size (.slice (some ⟨w.heap.size, 0, none⟩) T T) (bitsOf T (memN (l.take k))) ∧ Below w.heap.size w wr)
  case atStart => exact ⟨0, by omega, by omega, rfl, hown0, (Below.refl _ _).alloc (Nat.le_refl _) _⟩
  case round =>
    obtain ⟨k, hk, hg, rfl, ho, hb⟩ := hrel
    by_cases hlt : k < l.length
    · obtain ⟨b, off, rfl, hbw, c0, c1⟩ := (hl.below hb).sp k hlt
      obtain ⟨v1, v2, v3⟩ := valid_at HV.out hlt (by omega)
      have HT := Lib.hid (take_snoc l k hlt)
      generalize l[k] = s at *
      obtain ⟨f, e⟩ := s
      simp only at c0 c1 v1 v2 v3
      obtain ⟨F, rfl⟩ := Int.eq_ofNat_of_zero_le v1
      rw [← mk_first (l.take k) (F : Int)] at ho
      obtain ⟨wo, rfl⟩ : ∃ wo : World, wo = wr := ⟨_, rfl⟩
      go_wp2
      go_loopg [7] (e - F).toNat (fun g s7 wr => ∃ X : Nat, F ≤ X ∧ (X : Int) ≤ e ∧ g = (e - X).toNat ∧ s7 = .int .i64 X ∧
        Own encB 1 4 wr w.heap.size (.slice (some ⟨w.heap.size, 0, none⟩) T T) (bitsOf T (mk (l.take k) F X)) ∧ Below w.heap.size w wr)
      case atStart => exact ⟨F, by omega, by omega, rfl, rfl, ho, hb⟩
      case round =>
        obtain ⟨X, hX, hXe, hg', rfl, ho', hb'⟩ := hrel
        have c0' := (hb'.cell (p := ⟨b, off + k * 2, none⟩) hbw).trans ((hb.cell (p := ⟨b, off + k * 2, none⟩) hbw).symm.trans c0)
        have c1' := (hb'.cell (p := ⟨b, off + k * 2 + 1, none⟩) hbw).trans ((hb.cell (p := ⟨b, off + k * 2 + 1, none⟩) hbw).symm.trans c1)
        clear c0 c1
        by_cases hlt' : (X : Int) < e
        · obtain ⟨cx, fx, hox⟩ := ho'.boAt X (by rw [bitsOf_length]; omega) true
          rw [mk_set (by omega)] at hox
          go_wp2
          go_roundg (e - ((X + 1 : Nat) : Int)).toNat
          case measure => omega
          case rel => exact ⟨X + 1, by omega, by omega, rfl, by go_num, hox, hb'.setCell (Nat.le_refl _) _⟩
        · obtain rfl : e = (X : Int) := by omega
          go_wp2
          go_roundg (l.length - (k + 1))
          case measure => omega
          case rel =>
            refine ⟨k + 1, by omega, rfl, by go_num, ?_, hb'⟩
            rw [HT.out, ← mk_last]
            exact ho'
    · go_wp2
      go_ret
      rw [List.take_of_length_le (by omega)] at ho
      exact ⟨_, rfl, Nat.le_refl _, ho, hb⟩

end Go.Proofs.Ytbhjnihcmfagjaa
