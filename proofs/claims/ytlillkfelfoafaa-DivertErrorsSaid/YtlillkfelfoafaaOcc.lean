/-
  Occupations in memory: words, and the lift of a slice of occupations.
  Contracts of keep.Occupations, headway.Valid, headway.Alone and together.
-/
import Derived.Test.YtlillkfelfoafaaOccP
import Derived.Test.YtlillkfelfoafaaSource
set_option linter.unusedVariables false
set_option linter.unusedSimpArgs false
namespace Go.Proofs.Ytlillkfelfoafaa
open Go.RowKit RP

def encO (x : Occ) : List Value := [.int .i64 x.1, .int .i64 x.2.1, .int .i64 x.2.2]
theorem encO_len (x : Occ) : (encO x).length = 3 := rfl
theorem encO_one (x : Occ) : ∀ u ∈ encO x, u.oneCell' = true := by
  intro u hu
  simp only [encO, List.mem_cons, List.not_mem_nil, or_false] at hu
  rcases hu with rfl | rfl | rfl <;> rfl
abbrev OwnO (w : World) (base : Nat) (v : Value) (l : List Occ) : Prop := Own encO 3 46 w base v l
theorem infoOcc : (Try.prog.info? 46).map (fun i => (i.zero, i.size, i.bytes)) = some (some (.agg #[.int .i64 0, .int .i64 0, .int .i64 0]), 3, 24) := by kernel_rfl
theorem elemO : ElemOk Try.prog encO 3 46 24 :=
  ⟨fun _ => rfl, by omega, encO_one, by
    obtain ⟨i, hi, h0, h1, h2⟩ := info_parts infoOcc
    exact ⟨i, _, hi, h0, h1, h2, rfl⟩⟩

theorem Lst.oc {w : World} {B : Nat} {A : Option Addr} {l : List Occ} (h : Lst encO 3 w B A l) (i : Nat) (hi : i < l.length) :
    ∃ b off, A = some ⟨b, off, none⟩ ∧ b < B ∧ w.cell? ⟨b, off + i * 3, none⟩ = some (.int .i64 l[i].1) ∧ w.cell? ⟨b, off + i * 3 + 1, none⟩ = some (.int .i64 l[i].2.1) ∧ w.cell? ⟨b, off + i * 3 + 2, none⟩ = some (.int .i64 l[i].2.2) := by
  obtain ⟨b, off, e, hb, hc⟩ := h (by intro h0; subst h0; simp at hi)
  exact ⟨b, off, e, hb, hc i l[i] (List.getElem?_eq_getElem hi) 0 _ rfl, hc i l[i] (List.getElem?_eq_getElem hi) 1 _ rfl, hc i l[i] (List.getElem?_eq_getElem hi) 2 _ rfl⟩

abbrev ArgO := Arg encO 3 fun x : Occ => R64 x.1 ∧ R64 x.2.1 ∧ R64 x.2.2

section
variable {H : Type} {enc : TypeId × Value → H} {W : World} {v : Value} {d : DataW H} {p : List MemPlace}
theorem open_argO (hsl : ∃ A len cap, v = .slice A len cap) (h : DataW.Trod enc Try.prog W 0 (fun _ => true) true 26 v d p) : ∃ A c l, v = .slice A l.length c ∧ ArgO W A c l := by
  have := open_recs (recEnc := encO) (rng := fun x : Occ => R64 x.1 ∧ R64 x.2.1 ∧ R64 x.2.2) (fun zs => (zs.getD 0 0, zs.getD 1 0, zs.getD 2 0)) Try.underlying26 Try.underlying46 (by kernel_rfl) (by kernel_rfl)
    (fun j f hj => by
      match j, hj with
      | 0, hj => simp at hj; subst hj; exact Try.underlying3
      | 1, hj => simp at hj; subst hj; exact Try.underlying3
      | 2, hj => simp at hj; subst hj; exact Try.underlying3
      | j + 3, hj => simp at hj)
    (fun zs hz hr => by
      match zs, hz with
      | [a, b, c], _ => exact ⟨rfl, hr _ (by simp), hr _ (by simp), hr _ (by simp)⟩) (by simp) (.inr trivial) h hsl
  exact this
end

/-- What a made list of occupations is like. -/
def MadeO (k : Nat) (l : List Occ) : Prop := validO (-1) l = true ∧ l.length ≤ k ∧ ∀ o ∈ l, o.1 < k ∧ -20 ≤ o.2.1 ∧ o.2.1 ≤ 39 ∧ o.2.1 < o.2.2 ∧ o.2.2 ≤ o.2.1 + 20
theorem MadeO.nil : MadeO 0 [] := ⟨rfl, by simp, by simp⟩
theorem MadeO.skip {k : Nat} {l : List Occ} (h : MadeO k l) : MadeO (k + 1) l := ⟨h.1, by have := h.2.1; omega, fun o ho => by have := h.2.2 o ho; omega⟩
theorem MadeO.snoc {k : Nat} {l : List Occ} {f e : Int} (h : MadeO k l) (h1 : -20 ≤ f) (h2 : f ≤ 39) (h3 : f < e) (h4 : e ≤ f + 20) : MadeO (k + 1) (l ++ [((k : Int), f, e)]) := by
  obtain ⟨a, b, c⟩ := h
  refine ⟨validO_snoc.2 ⟨a, ?_, by simp; omega, by simp; omega, by simp; omega⟩, by simp; omega, fun o ho => ?_⟩
  · unfold lastR
    cases hl : l.getLast? with
    | none => simp; omega
    | some o => have := (c o (List.mem_of_getLast? hl)).1; simp; omega
  · rcases List.mem_append.1 ho with ho | ho
    · have := c o ho; omega
    · simp at ho; subst ho; simp; omega

end Go.Proofs.Ytlillkfelfoafaa

namespace Go.Proofs.Ytlillkfelfoafaa
open Go.RowKit RP

set_option maxHeartbeats 1000000 in
theorem hvalid_any (A : Option Addr) (c : Nat) (l : List Occ) (w : World) (hl : Lst encO 3 w w.heap.size A l) (hn : l.length ≤ 9223372036854775807) :
    Calls Try.prog 49 #[.slice A l.length c] w fun e w' => e = .returned (.bool (validO (-1) l)) ∧ Below w.heap.size w w' := by
  go_enter Try.func49, Try.ntmps49
  go_wp2_with fail
  go_loopg [3, 5, 8] l.length (fun g s3 s5 s8 wr => ∃ k : Nat, k ≤ l.length ∧ g = l.length - k ∧ s8 = .int .i64 k ∧ s3 = .int .i64 (lastR (-1) (l.take k)) ∧ validO (-1) (l.take k) = true ∧ Below w.heap.size w wr)
  case atStart => exact ⟨0, by omega, by omega, rfl, rfl, rfl, Below.refl _ _⟩
  case round =>
    obtain ⟨k, hk, hg, rfl, rfl, hv, hb⟩ := hrel
    have HV := Lib.hid hv
    clear hv
    by_cases hlt : k < l.length
    · obtain ⟨b, off, rfl, hbw, c0, c1, c2⟩ := (hl.below hb).oc k hlt
      have HNO := Lib.hid (fun h => validO_no hlt (p := -1) h)
      have HYES := Lib.hid (fun (h : okO (lastR (-1) (l.take k)) l[k]) => (validO_snoc (p := -1) (l := l.take k) (o := l[k])).2 ⟨HV.out, h⟩)
      have HE := Lib.hid (take_snoc l k hlt)
      have HL := Lib.hid (lastR_snoc (-1) (l.take k) l[k])
      generalize l[k] = x at *
      obtain ⟨r, f, e⟩ := x
      generalize lastR (-1) (l.take k) = p at *
      go_wp2
      all_goals first
        | (go_ret
           refine ⟨ret_bool (HNO.out ?_).symm, hb.alloc hb.size _⟩
           simp only [okO]
           omega)
        | (go_roundg (l.length - (k + 1))
           case measure => omega
           case rel =>
             refine ⟨k + 1, by omega, rfl, by go_num, ?_, ?_, hb.alloc hb.size _⟩
             · rw [HE.out, HL.out]
             · rw [HE.out]; refine HYES.out ?_; simp only [okO]; omega)
    · go_wp2
      go_ret
      have hv := HV.out
      rw [List.take_of_length_le (by omega)] at hv
      exact ⟨ret_bool (by simp [hv]), hb⟩

def aloneL (t : Int) (l : List Occ) : Bool := inRange t && (validO (-1) l && aloneB t l)

theorem all_take_snoc {α : Type} {p : α → Bool} {l : List α} {k : Nat} (hk : k < l.length) (h : (l.take k).all p = true) (hp : p l[k] = true) : (l.take (k + 1)).all p = true := by
  rw [take_snoc l k hk, List.all_append, h]; simp [hp]
theorem all_no {α : Type} {p : α → Bool} {l : List α} {k : Nat} (hk : k < l.length) (hp : p l[k] = false) : l.all p = false := by
  rw [List.all_eq_false]; exact ⟨l[k], List.getElem_mem hk, by simp [hp]⟩
theorem validO_get {p : Int} {l : List Occ} (h : validO p l = true) {k : Nat} (hk : k < l.length) : p < l[k].1 ∧ -65536 ≤ l[k].2.1 ∧ l[k].2.1 < l[k].2.2 ∧ l[k].2.2 ≤ 65536 := validO_lt h _ (List.getElem_mem hk)

end Go.Proofs.Ytlillkfelfoafaa
