/-
  Contracts of slices.Clone at events and at activities.
-/
import Derived.Test.YtaongejpbgjbiaaNet
import Derived.Test.YtaongejpbgjbiaaStp
set_option linter.unusedVariables false
set_option linter.unusedSimpArgs false
namespace Go.Proofs.Ytaongejpbgjbiaa
open Go.RowKit RP

/-- An event: kind, line, ride. -/
abbrev Evt := Int × Int × Int
def encE (x : Evt) : List Value := [.int .i64 x.1, .int .i64 x.2.1, .int .i64 x.2.2]
theorem encE_len (x : Evt) : (encE x).length = 3 := rfl
theorem encE_one (x : Evt) : ∀ u ∈ encE x, u.oneCell' = true := by
  intro u hu
  simp only [encE, List.mem_cons, List.not_mem_nil, or_false] at hu
  rcases hu with rfl | rfl | rfl <;> rfl
abbrev OwnE (w : World) (base : Nat) (v : Value) (l : List Evt) : Prop := Own encE 3 54 w base v l
theorem infoEvt : (Try.prog.info? 54).map (fun i => (i.zero, i.size, i.bytes)) = some (some (.agg #[.int .i64 0, .int .i64 0, .int .i64 0]), 3, 24) := by kernel_rfl
theorem elemE : ElemOk Try.prog encE 3 54 24 :=
  ⟨fun _ => rfl, by omega, encE_one, by
    obtain ⟨i, hi, h0, h1, h2⟩ := info_parts infoEvt
    exact ⟨i, _, hi, h0, h1, h2, rfl⟩⟩
abbrev OwnA (w : World) (base : Nat) (v : Value) (l : List Acy) : Prop := Own encA 6 60 w base v l
theorem infoAct : (Try.prog.info? 60).map (fun i => (i.zero, i.size, i.bytes)) = some (some (.agg #[.int .i64 0, .int .i64 0, .int .i64 0, .int .i64 0, .int .i64 0, .int .i64 0]), 6, 48) := by kernel_rfl
theorem elemA : ElemOk Try.prog encA 6 60 48 :=
  ⟨fun _ => rfl, by omega, encA_one, by
    obtain ⟨i, hi, h0, h1, h2⟩ := info_parts infoAct
    exact ⟨i, _, hi, h0, h1, h2, rfl⟩⟩

end Go.Proofs.Ytaongejpbgjbiaa
