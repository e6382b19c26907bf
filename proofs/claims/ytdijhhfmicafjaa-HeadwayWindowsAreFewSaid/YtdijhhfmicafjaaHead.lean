/-
  Contracts of together, of common with the closure of Least, of Least and of awake.
-/
import Derived.Test.YtdijhhfmicafjaaOccW
import Derived.Test.YtdijhhfmicafjaaOff
import Derived.RegionTactic
set_option linter.unusedVariables false
set_option linter.unusedSimpArgs false
namespace Go.Proofs.Ytdijhhfmicafjaa
open Go.RowKit RP

theorem any_take_snoc {α : Type} {p : α → Bool} {l : List α} {k : Nat} (hk : k < l.length) (h : (l.take k).any p = false) (hp : p l[k] = false) : (l.take (k + 1)).any p = false := by
  rw [take_snoc l k hk, List.any_append, h]; simp [hp]
theorem any_yes {α : Type} {p : α → Bool} {l : List α} {k : Nat} (hk : k < l.length) (hp : p l[k] = true) : l.any p = true := by
  rw [List.any_eq_true]; exact ⟨l[k], List.getElem_mem hk, hp⟩

/-- The bounds under which no sum wraps. -/
def NearO (l : List Occ) : Prop := ∀ o ∈ l, -1000000000 ≤ o.2.1 ∧ o.2.1 ≤ 1000000000 ∧ -1000000000 ≤ o.2.2 ∧ o.2.2 ≤ 1000000000
theorem NearO.get {l : List Occ} (h : NearO l) {k : Nat} (hk : k < l.length) : -1000000000 ≤ l[k].2.1 ∧ l[k].2.1 ≤ 1000000000 ∧ -1000000000 ≤ l[k].2.2 ∧ l[k].2.2 ≤ 1000000000 := h l[k] (List.getElem_mem hk)
theorem NearO.of_valid {p : Int} {l : List Occ} (h : validO p l = true) : NearO l := fun o ho => by have := validO_lt h o ho; omega

set_option maxHeartbeats 4000000 in
theorem together_any (A B : Option Addr) (c d : Nat) (a b : List Occ) (x : Int) (w : World) (ha : Lst encO 3 w w.heap.size A a) (hb : Lst encO 3 w w.heap.size B b) (hn : a.length ≤ 9223372036854775807) (hn' : b.length ≤ 9223372036854775807)
    (na : NearO a) (nb : NearO b) (x1 : -1000000000 ≤ x) (x2 : x ≤ 1000000000) :
    Calls Try.prog 15 #[.slice A a.length c, .slice B b.length d, .int .i64 x] w fun e w' => e = .returned (.bool (togB a b x)) ∧ Below w.heap.size w w' := by
  go_enter Try.func15, Try.ntmps15
  go_wp2_with fail
  go_loopg [7, 8, 11] a.length (fun g s7 s8 s11 wr => ∃ k : Nat, k ≤ a.length ∧ g = a.length - k ∧ s11 = .int .i64 k ∧ (a.take k).any (fun u => b.any fun v => meetO x u v) = false ∧ Below w.heap.size w wr)
  case atStart => exact ⟨0, by omega, by omega, rfl, rfl, Below.refl _ _⟩
  case round =>
    obtain ⟨i, hi, hg, rfl, hv, hbw⟩ := hrel
    have HV := Lib.hid hv
    clear hv
    by_cases hlt : i < a.length
    · obtain ⟨ab, aoff, rfl, habw, a0, a1, a2⟩ := (ha.below hbw).oc i hlt
      obtain ⟨n1, n2, n3, n4⟩ := na.get hlt
      have HYES := Lib.hid (fun h => any_yes (p := fun u => b.any fun v => meetO x u v) hlt h)
      have HNO := Lib.hid (fun h => any_take_snoc (p := fun u => b.any fun v => meetO x u v) hlt HV.out h)
      generalize a[i] = u at *
      obtain ⟨r, f, e⟩ := u
      simp only at n1 n2 n3 n4 a0 a1 a2
      go_wp2_with fail
      obtain ⟨wo, rfl⟩ : ∃ wo : World, wo = wr := ⟨_, rfl⟩
      go_loopg [8, 16] b.length (fun g' s8 s16 wr => ∃ k : Nat, k ≤ b.length ∧ g' = b.length - k ∧ s16 = .int .i64 k ∧ (b.take k).any (fun v => meetO x (r, f, e) v) = false ∧ Below w.heap.size wo wr)
      case atStart => exact ⟨0, by omega, by omega, rfl, rfl, Below.refl _ _⟩
      case round =>
        obtain ⟨k, hk, hg', rfl, hv', hbo⟩ := hrel
        have HV' := Lib.hid hv'
        clear hv'
        have hbw' := hbw.trans hbo
        replace a0 := (hbo.cell (p := ⟨ab, aoff + i * 3, none⟩) habw).trans a0
        replace a1 := (hbo.cell (p := ⟨ab, aoff + i * 3 + 1, none⟩) habw).trans a1
        replace a2 := (hbo.cell (p := ⟨ab, aoff + i * 3 + 2, none⟩) habw).trans a2
        by_cases hlt' : k < b.length
        · obtain ⟨bb, boff, rfl, hbbw, b0, b1, b2⟩ := (hb.below hbw').oc k hlt'
          obtain ⟨m1, m2, m3, m4⟩ := nb.get hlt'
          have HY := Lib.hid (fun h => any_yes (p := fun v => meetO x (r, f, e) v) hlt' h)
          have HN := Lib.hid (fun h => any_take_snoc (p := fun v => meetO x (r, f, e) v) hlt' HV'.out h)
          generalize b[k] = v at *
          obtain ⟨r', f', e'⟩ := v
          simp only at m1 m2 m3 m4 b0 b1 b2
          have s1 : IntKind.i64.wrap (e' + x) = e' + x := IntWalk.i64_in _ (by omega)
          have s2 : IntKind.i64.wrap (f' + x) = f' + x := IntWalk.i64_in _ (by omega)
          have i1 : (0 : Int) ≤ (i : Int) := by omega
          have i2 : (i : Int) < (a.length : Int) := by omega
          have k1 : (0 : Int) ≤ (k : Int) := by omega
          have k2 : (k : Int) < (b.length : Int) := by omega
          by_cases q1 : r = r'
          · have d1 : (r == r') = true := by simp [q1]
            by_cases q2 : f < e' + x
            · by_cases q3 : f' + x < e
              · have HT := Lib.hid (HYES.out (HY.out (by simp [meetO, q1, q2, q3])))
                clear q1
                have d2 : decide (f < e' + x) = true := by simpa using q2
                have d3 : decide (f' + x < e) = true := by simpa using q3
                go_wp2_with fail
                go_quiet (fail)
                go_wp2_with fail
                go_ret
                exact ⟨ret_bool (by rw [togB, HT.out]), below_drewN hbw' _⟩
              · have HT := Lib.hid (HN.out (by simp [meetO, q3]))
                clear q1
                have d2 : decide (f < e' + x) = true := by simpa using q2
                have d3 : decide (f' + x < e) = false := by simpa using q3
                go_wp2_with fail
                go_quiet (fail)
                clear s1 s2
                go_wp2_with fail
                go_roundg (b.length - (k + 1))
                case measure => omega
                case rel => exact ⟨k + 1, by omega, rfl, by go_num, HT.out, below_drewN hbo _⟩
            · have HT := Lib.hid (HN.out (by simp [meetO, q2]))
              clear q1
              have d2 : decide (f < e' + x) = false := by simpa using q2
              go_wp2_with fail
              go_quiet (fail)
              clear s1 s2
              go_wp2_with fail
              go_roundg (b.length - (k + 1))
              case measure => omega
              case rel => exact ⟨k + 1, by omega, rfl, by go_num, HT.out, below_drewN hbo _⟩
          · have HT := Lib.hid (HN.out (by simp [meetO, q1]))
            have d1 : (r == r') = false := by simp [q1]
            clear q1
            go_wp2_with fail
            go_quiet (fail)
            clear s1 s2
            go_wp2_with fail
            go_roundg (b.length - (k + 1))
            case measure => omega
            case rel => exact ⟨k + 1, by omega, rfl, by go_num, HT.out, below_drewN hbo _⟩
        · have HT := Lib.hid (HNO.out (by have := HV'.out; rw [List.take_of_length_le (by omega)] at this; exact this))
          go_wp2_with fail
          go_roundg (a.length - (i + 1))
          case measure => omega
          case rel => exact ⟨i + 1, by omega, rfl, by go_num, HT.out, hbw'⟩
    · go_wp2_with fail
      go_ret
      have hv := HV.out
      rw [List.take_of_length_le (by omega)] at hv
      exact ⟨ret_bool (by rw [togB, hv]), hbw⟩

end Go.Proofs.Ytdijhhfmicafjaa
