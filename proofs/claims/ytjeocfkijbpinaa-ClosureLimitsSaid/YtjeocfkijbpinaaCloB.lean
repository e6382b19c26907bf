/-
  Contracts of the reference's Next, Enters and Earliest.
-/
import Derived.Test.YtjeocfkijbpinaaCloA
set_option linter.unusedVariables false
set_option linter.unusedSimpArgs false
namespace Go.Proofs.Ytjeocfkijbpinaa
open Go.RowKit RP

def NextPostC (l : List Clo) (r x : Int) (w : World) (e : Ending) (w' : World) : Prop := ∃ n, e = .returned (.int .i64 n) ∧ NextC l r x n ∧ Below w.heap.size w w'
def CovAt (l : List Clo) (r x : Int) (v : Value) : Prop := (∃ (k : Nat) (h : k < l.length), v = .int .i64 k ∧ covC r x l[k] = true) ∨ (v = .int .i64 (-1) ∧ coverC l r x = false)

set_option maxHeartbeats 1000000 in
theorem refNext_any (A : Option Addr) (c : Nat) (l : List Clo) (r x : Int) (w : World) (hl : Lst encO 3 w w.heap.size A l) (hn : l.length ≤ 9223372036854775807) :
    Calls Try.prog 25 #[.slice A l.length c, .int .i64 r, .int .i64 x] w (NextPostC l r x w) := by
  go_enter Try.func25, Try.ntmps25
  go_wp2_with fail
  refine (covering_any A c l r x w hl hn).mono ?_
  rintro e w1 ⟨h, hb⟩
  obtain ⟨v, rfl, hv⟩ : ∃ v, e = .returned v ∧ CovAt l r x v := by
    rcases h with ⟨k, hk, rfl, hc⟩ | ⟨rfl, hc⟩
    · exact ⟨_, rfl, .inl ⟨k, hk, rfl, hc⟩⟩
    · exact ⟨_, rfl, .inr ⟨rfl, hc⟩⟩
  clear h
  go_wp2_with fail
  go_loopg [2, 7] (laterN l x) (fun g s2 s7 wr => ∃ y : Int, g = laterN l y ∧ s2 = .int .i64 y ∧ CovAt l r y s7 ∧ x ≤ y ∧ (∀ z, x ≤ z → z < y → coverC l r z = true) ∧ Below w.heap.size w wr)
  case atStart => exact ⟨x, rfl, rfl, hv, Int.le_refl _, fun z h1 h2 => by omega, hb⟩
  case round =>
    obtain ⟨y, hg, rfl, hc, hxy, hall, hbw⟩ := hrel
    have HALL := Lib.hid hall
    clear hall
    have hz := hbw.size
    rcases hc with ⟨k, hk, rfl, hc⟩ | ⟨rfl, hc⟩
    · obtain ⟨b, off, rfl, hbb, c0, c1, c2⟩ := (hl.below hbw).oc k hk
      obtain ⟨q1, q2, q3⟩ := cov_iff.1 hc
      have HLT := Lib.hid (later_lt (List.getElem_mem hk) q3)
      have HN : Hid (∀ z, x ≤ z → z < l[k].2.2 → coverC l r z = true) := fun z h1 h2 => by
        rcases Int.lt_or_le z y with h | h
        · exact HALL.out z h1 h
        · exact cover_iff.2 ⟨l[k], List.getElem_mem hk, q1, by omega, h2⟩
      clear hc q1 q2
      generalize l[k] = q at *
      obtain ⟨r', f, e⟩ := q
      simp only at c0 c1 c2 q3 HLT HN
      go_wp2_with fail
      refine (covering_any _ c l r e wr (hl.belowMore hbw hz) hn).mono ?_
      rintro e0 w2 ⟨h, hb2⟩
      obtain ⟨v2, rfl, hv2⟩ : ∃ v, e0 = .returned v ∧ CovAt l r e v := by
        rcases h with ⟨k, hk, rfl, hc⟩ | ⟨rfl, hc⟩
        · exact ⟨_, rfl, .inl ⟨k, hk, rfl, hc⟩⟩
        · exact ⟨_, rfl, .inr ⟨rfl, hc⟩⟩
      clear h
      go_wp2_with fail
      go_roundg (laterN l e)
      case measure => rw [hg]; exact HLT.out
      case rel => exact ⟨e, rfl, rfl, hv2, by omega, HN.out, hbw.trans (hb2.mono hz)⟩
    · have HC := Lib.hid hc
      clear hc
      go_wp2_with fail
      go_ret
      exact ⟨y, rfl, ⟨hxy, HC.out, HALL.out⟩, hbw⟩

theorem smallC_iff {x : Int} : smallC x = true ↔ -1099511627776 ≤ x ∧ x ≤ 1099511627776 := by simp [smallC]

set_option maxHeartbeats 2000000 in
theorem refEnters_any (A B : Option Addr) (c d : Nat) (l : List Clo) (occ : List Occ) (s : Int) (w : World) (hl : Lst encO 3 w w.heap.size A l) (ho : Lst encO 3 w w.heap.size B occ) (hn : l.length ≤ 9223372036854775807) (hn' : occ.length ≤ 9223372036854775807) :
    Calls Try.prog 23 #[.slice A l.length c, .slice B occ.length d, .int .i64 s] w fun e w' => e = .returned (.bool (entersC l occ s)) ∧ Below w.heap.size w w' := by
  have hmo := fun W => moderate_any s W
  cases hs : smallC s with
  | false =>
    rw [hs] at hmo
    have H := Lib.hid (show entersC l occ s = false by simp [entersC, hs])
    clear hs
    go_enter Try.func23, Try.ntmps23
    go_wp2_with (go_at_call 37; refine (hmo _).mono ?_; rintro e w' ⟨rfl, rfl⟩)
    go_ret
    exact ⟨ret_bool H.out.symm, Below.refl _ _⟩
  | true =>
    rw [hs] at hmo
    have HS := Lib.hid hs
    obtain ⟨s1, s2⟩ := smallC_iff.1 hs
    clear hs
    have HMO := Lib.hid hmo
    clear hmo
    go_enter Try.func23, Try.ntmps23
    go_wp2_with fail
    refine (HMO.out _).mono ?_
    rintro e w' ⟨rfl, rfl⟩
    clear HMO
    go_wp2_with fail
    go_loopg [8, 14] occ.length (fun g s8 s14 wr => ∃ k : Nat, k ≤ occ.length ∧ g = occ.length - k ∧ s14 = .int .i64 k ∧ (occ.take k).all (fun o => smallC o.2.1 && !coverC l o.1 (s + o.2.1)) = true ∧ Below w.heap.size w wr)
    case atStart => exact ⟨0, by omega, by omega, rfl, rfl, Below.refl _ _⟩
    case round =>
      obtain ⟨k, hk, hg, rfl, hv, hb⟩ := hrel
      have HV := Lib.hid hv
      clear hv
      have hz := hb.size
      by_cases hlt : k < occ.length
      · obtain ⟨b, off, rfl, hbw, c0, c1, c2⟩ := (ho.below hb).oc k hlt
        have HNO := Lib.hid (fun h => all_no (p := fun o : Occ => smallC o.2.1 && !coverC l o.1 (s + o.2.1)) hlt h)
        have HYES := Lib.hid (fun h => all_take_snoc (p := fun o : Occ => smallC o.2.1 && !coverC l o.1 (s + o.2.1)) hlt HV.out h)
        generalize occ[k] = q at *
        obtain ⟨r, f, e⟩ := q
        simp only at c0 c1 c2
        have hbW := hb.alloc hz (.cells #[.int .i64 r, .int .i64 f, .int .i64 e] 39)
        have k0 : (wr.alloc (.cells #[.int .i64 r, .int .i64 f, .int .i64 e] 39)).cell? ⟨wr.heap.size, 0, none⟩ = some (.int .i64 r) := by rw [World.cell?_alloc_at _ _ _ _ rfl]; rfl
        have k1 : (wr.alloc (.cells #[.int .i64 r, .int .i64 f, .int .i64 e] 39)).cell? ⟨wr.heap.size, 1, none⟩ = some (.int .i64 f) := by rw [World.cell?_alloc_at _ _ _ _ rfl]; rfl
        have hmf := fun W => moderate_any f W
        cases hf : smallC f with
        | false =>
          rw [hf] at hmf
          have HF := Lib.hid (HNO.out (by simp [hf]))
          clear hf
          go_wp2_with (go_at_call 37; refine (hmf _).mono ?_; rintro e w' ⟨rfl, rfl⟩)
          go_ret
          exact ⟨ret_bool (by rw [entersC, HF.out, Bool.and_false]), hbW⟩
        | true =>
          rw [hf] at hmf
          obtain ⟨f1, f2⟩ := smallC_iff.1 hf
          have HF := Lib.hid hf
          clear hf
          go_wp2_with fail
          refine (hmf _).mono ?_
          rintro e w' ⟨rfl, rfl⟩
          clear hmf
          generalize wr.alloc (.cells #[.int .i64 r, .int .i64 f, .int .i64 e] 39) = W at *
          have hzW := hbW.size
          have hop := refOpen_any A c l r (s + f) W (hl.belowMore hbW hzW) hn
          cases hcv : coverC l r (s + f) with
          | true =>
            rw [hcv] at hop
            have HF := Lib.hid (HNO.out (by simp [hcv]))
            clear hcv
            go_wp2_with (go_at_call 18; refine hop.mono ?_; rintro e w2 ⟨rfl, hb2⟩)
            go_ret
            exact ⟨ret_bool (by rw [entersC, HF.out, Bool.and_false]), hbW.trans (hb2.mono hzW)⟩
          | false =>
            rw [hcv] at hop
            have HT := Lib.hid (HYES.out (by simp [hcv, HF.out]))
            clear hcv
            go_wp2_with (go_at_call 18; refine hop.mono ?_; rintro e w2 ⟨rfl, hb2⟩)
            go_roundg (occ.length - (k + 1))
            case measure => omega
            case rel => exact ⟨k + 1, by omega, rfl, by go_num, HT.out, hbW.trans (hb2.mono hzW)⟩
      · go_wp2_with fail
        go_ret
        have hv := HV.out
        rw [List.take_of_length_le (by omega)] at hv
        exact ⟨ret_bool (by rw [entersC, HS.out, hv]; rfl), hb⟩

def EarlPost (l : List Clo) (occ : List Occ) (s m : Int) (w : World) (e : Ending) (w' : World) : Prop := ∃ d ok, e = .returned (.tuple #[.int .i64 d, .bool ok]) ∧ EarlC l occ s m d ok ∧ Below w.heap.size w w'

set_option maxHeartbeats 2000000 in
theorem refEarliest_any (A B : Option Addr) (c d : Nat) (l : List Clo) (occ : List Occ) (s m : Int) (w : World) (hl : Lst encO 3 w w.heap.size A l) (ho : Lst encO 3 w w.heap.size B occ) (hn : l.length ≤ 9223372036854775807) (hn' : occ.length ≤ 9223372036854775807) :
    Calls Try.prog 26 #[.slice A l.length c, .slice B occ.length d, .int .i64 s, .int .i64 m] w (EarlPost l occ s m w) := by
  by_cases m0 : m < 0
  · have HE : Hid (EarlC l occ s m 0 false) := .inr ⟨rfl, rfl, .inl m0⟩
    go_enter Try.func26, Try.ntmps26
    go_wp2_with fail
    go_ret2
    exact ⟨0, false, rfl, HE.out, Below.refl _ _⟩
  · by_cases m1 : 3600 < m
    · have HE : Hid (EarlC l occ s m 0 false) := .inr ⟨rfl, rfl, .inr (.inl m1)⟩
      go_enter Try.func26, Try.ntmps26
      go_wp2_with fail
      go_ret2
      exact ⟨0, false, rfl, HE.out, Below.refl _ _⟩
    · have hmo := fun W => moderate_any s W
      cases hs : smallC s with
      | false =>
        rw [hs] at hmo
        have HE : Hid (EarlC l occ s m 0 false) := .inr ⟨rfl, rfl, .inr (.inr (.inl hs))⟩
        clear hs
        go_enter Try.func26, Try.ntmps26
        go_wp2_with (go_at_call 37; refine (hmo _).mono ?_; rintro e w' ⟨rfl, rfl⟩)
        go_ret2
        exact ⟨0, false, rfl, HE.out, Below.refl _ _⟩
      | true =>
        rw [hs] at hmo
        have HS := Lib.hid hs
        obtain ⟨s1, s2⟩ := smallC_iff.1 hs
        clear hs
        go_enter Try.func26, Try.ntmps26
        go_wp2_with (go_at_call 37; refine (hmo _).mono ?_; rintro e w' ⟨rfl, rfl⟩)
        clear hmo
        obtain ⟨M, rfl⟩ := Int.eq_ofNat_of_zero_le (show 0 ≤ m by omega)
        go_loopg [10] (M + 1) (fun g s10 wr => ∃ k : Nat, k ≤ M + 1 ∧ g = M + 1 - k ∧ s10 = .int .i64 k ∧ (∀ e : Int, 0 ≤ e → e < k → entersC l occ (s + e) = false) ∧ Below w.heap.size w wr)
        case atStart => exact ⟨0, by omega, rfl, rfl, fun e h1 h2 => by omega, Below.refl _ _⟩
        case round =>
          obtain ⟨k, hk, hg, rfl, hv, hb⟩ := hrel
          have HV := Lib.hid hv
          clear hv
          have hz := hb.size
          by_cases hlt : k < M + 1
          · have hen := refEnters_any A B c d l occ (s + k) wr (hl.belowMore hb hz) (ho.belowMore hb hz) hn hn'
            cases he : entersC l occ (s + k) with
            | true =>
              rw [he] at hen
              have HE : Hid (EarlC l occ s M k true) := .inl ⟨rfl, by omega, by omega, by omega, HS.out, he, HV.out⟩
              clear he
              go_wp2_with (go_at_call 23; refine hen.mono ?_; rintro e w2 ⟨rfl, hb2⟩)
              go_ret2
              exact ⟨_, true, rfl, HE.out, hb.trans (hb2.mono hz)⟩
            | false =>
              rw [he] at hen
              have HE := Lib.hid he
              clear he
              go_wp2_with (go_at_call 23; refine hen.mono ?_; rintro e w2 ⟨rfl, hb2⟩)
              go_roundg (M + 1 - (k + 1))
              case measure => omega
              case rel =>
                refine ⟨k + 1, by omega, rfl, by go_num, fun e h1 h2 => ?_, hb.trans (hb2.mono hz)⟩
                by_cases q : e = k
                · subst q; exact HE.out
                · exact HV.out e h1 (by omega)
          · have HE : Hid (EarlC l occ s M 0 false) := .inr ⟨rfl, rfl, .inr (.inr (.inr fun e h1 h2 => HV.out e h1 (by omega)))⟩
            go_wp2_with fail
            go_ret2
            exact ⟨0, false, rfl, HE.out, hb⟩

end Go.Proofs.Ytjeocfkijbpinaa
