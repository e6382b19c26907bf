/-
  Plain: services, exceptions, patterns, trips (chapter 24).
-/
import Derived.Test.YtaongejpbgjbiaaFea
set_option linter.unusedVariables false
set_option linter.unusedSimpArgs false
namespace RP
structure Svc where
  line : Int
  days : Int
  fst : Int
  lst : Int
deriving DecidableEq
structure Exc where
  line : Int
  day : Int
  runs : Bool
deriving DecidableEq
/-- The bit of a day. -/
def bitB (days : Int) (day : Nat) : Bool := decide (days / 2 ^ day % 2 = 1)
/-- The first element with a property, as the program counts it. -/
def fidx {α : Type} (p : α → Bool) (l : List α) : Int := if l.any p then (l.findIdx p : Nat) else -1
section
variable {α : Type} {p : α → Bool} {l : List α} {k : Nat}
theorem any_snoc_no (h : k < l.length) (h0 : (l.take k).any p = false) (h1 : p l[k] = false) : (l.take (k + 1)).any p = false := by
  rw [List.take_succ_eq_append_getElem h, List.any_append, h0]; simp [h1]
theorem fidx_none (h : l.any p = false) : fidx p l = -1 := by unfold fidx; rw [h]; rfl
theorem fidx_hit (h : k < l.length) (h0 : (l.take k).any p = false) (h1 : p l[k] = true) : fidx p l = k := by
  have ha : l.any p = true := by rw [List.any_eq_true]; exact ⟨l[k], List.getElem_mem h, h1⟩
  unfold fidx
  rw [if_pos ha]
  have : l.findIdx p = k := by
    rw [List.findIdx_eq h]
    refine ⟨h1, fun j hj => ?_⟩
    rw [List.any_eq_false] at h0
    have := h0 l[j] (List.mem_take_iff_getElem.2 ⟨j, by omega, rfl⟩)
    simpa using this
  rw [this]
theorem fidx_find (l : List α) : (fidx p l = -1 ∧ l.find? p = none) ∨ ∃ (k : Nat) (h : k < l.length), fidx p l = k ∧ l.find? p = some l[k] ∧ p l[k] = true ∧ (l.take k).any p = false := by
  cases ha : l.any p with
  | false =>
    refine .inl ⟨fidx_none ha, ?_⟩
    rw [List.find?_eq_none]
    rw [List.any_eq_false] at ha
    exact ha
  | true =>
    have hk : l.findIdx p < l.length := by
      rw [List.findIdx_lt_length]
      rw [List.any_eq_true] at ha
      exact ha
    have h1 : p l[l.findIdx p] = true := List.findIdx_getElem
    have h0 : (l.take (l.findIdx p)).any p = false := by
      rw [List.any_eq_false]
      intro x hx
      obtain ⟨j, hj, rfl⟩ := List.mem_take_iff_getElem.1 hx
      have := List.not_of_lt_findIdx (p := p) (xs := l) (i := j) (by omega)
      simpa using this
    refine .inr ⟨l.findIdx p, hk, by unfold fidx; rw [ha]; rfl, ?_, h1, h0⟩
    rw [List.find?_eq_some_iff_getElem]
    refine ⟨h1, l.findIdx p, hk, rfl, fun j hj => ?_⟩
    have := List.not_of_lt_findIdx (p := p) (xs := l) (i := j) hj
    simpa using this
end
/-- Whether a line runs on a day. -/
def runsB (s : List Svc) (x : List Exc) (line day : Int) : Bool :=
  decide (0 ≤ day ∧ day < 31) && match s.find? (fun a => decide (a.line = line)) with
    | none => false
    | some a => match x.find? (fun e => decide (e.line = line) && decide (e.day = day)) with
      | some e => e.runs
      | none => bitB a.days day.toNat
end RP
namespace Go.Proofs.Ytaongejpbgjbiaa
open Go.RowKit RP

def encV (x : Svc) : List Value := [.int .i64 x.line, .int .i64 x.days, .int .i64 x.fst, .int .i64 x.lst]
theorem encV_len (x : Svc) : (encV x).length = 4 := rfl
theorem encV_one (x : Svc) : ∀ u ∈ encV x, u.oneCell' = true := by
  intro u hu
  simp only [encV, List.mem_cons, List.not_mem_nil, or_false] at hu
  rcases hu with rfl | rfl | rfl | rfl <;> rfl
def encX (x : Exc) : List Value := [.int .i64 x.line, .int .i64 x.day, .bool x.runs]
theorem encX_len (x : Exc) : (encX x).length = 3 := rfl
theorem encX_one (x : Exc) : ∀ u ∈ encX x, u.oneCell' = true := by
  intro u hu
  simp only [encX, List.mem_cons, List.not_mem_nil, or_false] at hu
  rcases hu with rfl | rfl | rfl <;> rfl
theorem Lst.sv {w : World} {B : Nat} {A : Option Addr} {l : List Svc} (h : Lst encV 4 w B A l) (i : Nat) (hi : i < l.length) :
    ∃ b off, A = some ⟨b, off, none⟩ ∧ b < B ∧ w.cell? ⟨b, off + i * 4, none⟩ = some (.int .i64 l[i].line) ∧ w.cell? ⟨b, off + i * 4 + 1, none⟩ = some (.int .i64 l[i].days) ∧ w.cell? ⟨b, off + i * 4 + 2, none⟩ = some (.int .i64 l[i].fst) ∧ w.cell? ⟨b, off + i * 4 + 3, none⟩ = some (.int .i64 l[i].lst) := by
  obtain ⟨b, off, e, hb, hc⟩ := h (by intro h0; subst h0; simp at hi)
  have hg := hc i l[i] (List.getElem?_eq_getElem hi)
  exact ⟨b, off, e, hb, hg 0 _ rfl, hg 1 _ rfl, hg 2 _ rfl, hg 3 _ rfl⟩
theorem Lst.ex {w : World} {B : Nat} {A : Option Addr} {l : List Exc} (h : Lst encX 3 w B A l) (i : Nat) (hi : i < l.length) :
    ∃ b off, A = some ⟨b, off, none⟩ ∧ b < B ∧ w.cell? ⟨b, off + i * 3, none⟩ = some (.int .i64 l[i].line) ∧ w.cell? ⟨b, off + i * 3 + 1, none⟩ = some (.int .i64 l[i].day) ∧ w.cell? ⟨b, off + i * 3 + 2, none⟩ = some (.bool l[i].runs) := by
  obtain ⟨b, off, e, hb, hc⟩ := h (by intro h0; subst h0; simp at hi)
  have hg := hc i l[i] (List.getElem?_eq_getElem hi)
  exact ⟨b, off, e, hb, hg 0 _ rfl, hg 1 _ rfl, hg 2 _ rfl⟩

theorem bit_and_one (z : Int) : bits BinOp.and IntKind.i64 z 1 = z % 2 := by
  have h : (BitVec.ofInt 64 z &&& BitVec.ofInt 64 1).toNat = (z % 2).toNat := by
    rw [BitVec.toNat_and, BitVec.toNat_ofInt, BitVec.toNat_ofInt]
    have e1 : ((1 : Int) % ((2 ^ 64 : Nat) : Int)).toNat = 1 := by decide
    have e2 : ((2 ^ 64 : Nat) : Int) = 18446744073709551616 := by decide
    rw [e1, Nat.and_one_is_mod, e2]; omega
  show IntKind.i64.wrap ((BitVec.ofInt 64 z &&& BitVec.ofInt 64 1).toNat : Int) = _
  rw [h, IntWalk.i64_in _ (by omega)]; omega
theorem bit_day (dy : Int) (day : Nat) : (bits BinOp.and IntKind.i64 (dy / 2 ^ day) 1 == 1) = bitB dy day := by
  rw [bit_and_one, bitB]; rfl

/-- The closure of Runs. -/
theorem runsC_any (a : Svc) (line : Int) (g : Nat) (w : World) (hg : w.cell? ⟨g, 0, none⟩ = some (.int .i64 line)) :
    Calls Try.prog 36 #[.agg #[.int .i64 a.line, .int .i64 a.days, .int .i64 a.fst, .int .i64 a.lst], .pointer (some ⟨g, 0, none⟩)] w fun e w' => e = .returned (.bool (decide (a.line = line))) ∧ Below w.heap.size w w' := by
  have h1 : (w.alloc (.cells #[.int .i64 a.line, .int .i64 a.days, .int .i64 a.fst, .int .i64 a.lst] 34)).cell? ⟨g, 0, none⟩ = some (.int .i64 line) := by
    rw [← hg]; exact (belA w _).cell (p := ⟨g, 0, none⟩) (cell_lt hg)
  go_enter Try.func36, Try.ntmps36
  go_wp2_with fail
  go_ret
  exact ⟨rfl, belA w _⟩
end Go.Proofs.Ytaongejpbgjbiaa
