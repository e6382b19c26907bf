/-
  Contract of closure.Earliest.
-/
import Derived.Test.YtjeocfkijbpinaaCloE
set_option linter.unusedVariables false
set_option linter.unusedSimpArgs false
namespace Go.Proofs.Ytjeocfkijbpinaa
open Go.RowKit RP

/-- While the occupations are gone through: y is no greater than any delay from d on that suffices. -/
def LaterInv (l : List Clo) (occ : List Occ) (s d : Int) (k : Nat) (y : Int) : Prop :=
  d ≤ y ∧ (∀ e, d ≤ e → entersC l occ (s + e) = true → y ≤ e) ∧ (y = d → (occ.take k).all (fun o => !coverC l o.1 (s + d + o.2.1)) = true)
theorem LaterInv.start (l : List Clo) (occ : List Occ) (s d : Int) : LaterInv l occ s d 0 d := ⟨Int.le_refl _, fun e h _ => h, fun _ => rfl⟩
theorem LaterInv.bound {l : List Clo} {occ : List Occ} {s d y : Int} {k : Nat} (h : LaterInv l occ s d k y) (hk : k < occ.length) {m : Int} (hm : NextC l occ[k].1 (s + y + occ[k].2.1) m) :
    ∀ e, d ≤ e → entersC l occ (s + e) = true → y + (m - (s + y + occ[k].2.1)) ≤ e := by
  intro e h1 h2
  have h3 := h.2.1 e h1 h2
  have h4 : coverC l occ[k].1 (s + e + occ[k].2.1) = false := by
    have := (Bool.and_eq_true _ _).mp h2
    have := List.all_eq_true.1 this.2 occ[k] (List.getElem_mem hk)
    simp at this
    exact this.2
  rcases Int.lt_or_le (s + e + occ[k].2.1) m with q | q
  · have := hm.2.2 _ (by omega) q; rw [h4] at this; cases this
  · omega
theorem LaterInv.step {l : List Clo} {occ : List Occ} {s d y : Int} {k : Nat} (h : LaterInv l occ s d k y) (hk : k < occ.length) {m : Int} (hm : NextC l occ[k].1 (s + y + occ[k].2.1) m) :
    LaterInv l occ s d (k + 1) (y + (m - (s + y + occ[k].2.1))) := by
  have hb := h.bound hk hm
  refine ⟨by have := h.1; have := hm.1; omega, hb, fun e => ?_⟩
  have e1 : y = d := by have := h.1; have := hm.1; omega
  have e2 : m = s + y + occ[k].2.1 := by omega
  have h1 := h.2.2 e1
  have h2 := hm.open_iff.1 e2
  subst e1
  exact all_take_snoc hk h1 (by simp [h2])

theorem enters_of {l : List Clo} {occ : List Occ} {s d : Int} (h1 : smallC (s + d) = true) (h2 : ∀ o ∈ occ, smallC o.2.1 = true) (h3 : occ.all (fun o => !coverC l o.1 (s + d + o.2.1)) = true) : entersC l occ (s + d) = true := by
  rw [entersC, h1, Bool.true_and, List.all_eq_true]
  intro o ho
  rw [h2 o ho, Bool.true_and]
  exact List.all_eq_true.1 h3 o ho
theorem enters_not {l : List Clo} {occ : List Occ} {s : Int} {o : Occ} (ho : o ∈ occ) (h : smallC o.2.1 = false) : entersC l occ s = false := by
  cases q : entersC l occ s with
  | false => rfl
  | true =>
    have := (Bool.and_eq_true _ _).mp q
    have := List.all_eq_true.1 this.2 o ho
    rw [h] at this; cases this
theorem enters_far {l : List Clo} {occ : List Occ} {s : Int} (h : smallC s = false) : entersC l occ s = false := by rw [entersC, h]; rfl

theorem small_of_take {occ : List Occ} {k : Nat} (hk : k < occ.length) (h : (occ.take k).all (fun o => smallC o.2.1) = true) (h' : smallC occ[k].2.1 = true) : (occ.take (k + 1)).all (fun o => smallC o.2.1) = true := all_take_snoc hk h h'

set_option maxHeartbeats 8000000 in
theorem earliest_any (A B : Option Addr) (c d : Nat) (l : List Clo) (occ : List Occ) (s m : Int) (w : World) (hl : Lst encO 3 w w.heap.size A l) (ho : Lst encO 3 w w.heap.size B occ) (hn : l.length * 24 ≤ 140737488355328) (hn' : occ.length * 24 ≤ 140737488355328)
    (hrng : ∀ x ∈ l, R64 x.1 ∧ R64 x.2.1 ∧ R64 x.2.2) (hro : ∀ x ∈ occ, R64 x.1) :
    Calls Try.prog 22 #[.slice A l.length c, .slice B occ.length d, .int .i64 s, .int .i64 m] w (EarlPost l occ s m w) := by
  by_cases m0 : m < 0
  · have HE : Hid (EarlC l occ s m 0 false) := .inr ⟨rfl, rfl, .inl m0⟩
    go_enter Try.func22, Try.ntmps22
    go_wp2_with fail
    go_ret2
    exact ⟨0, false, rfl, HE.out, Below.refl _ _⟩
  · by_cases m1 : 3600 < m
    · have HE : Hid (EarlC l occ s m 0 false) := .inr ⟨rfl, rfl, .inr (.inl m1)⟩
      go_enter Try.func22, Try.ntmps22
      go_wp2_with fail
      go_ret2
      exact ⟨0, false, rfl, HE.out, Below.refl _ _⟩
    · have hmo := fun W => small_any s W
      cases hs : smallC s with
      | false =>
        rw [hs] at hmo
        have HE : Hid (EarlC l occ s m 0 false) := .inr ⟨rfl, rfl, .inr (.inr (.inl hs))⟩
        clear hs
        go_enter Try.func22, Try.ntmps22
        go_wp2_with (go_at_call 36; refine (hmo _).mono ?_; rintro e w' ⟨rfl, rfl⟩)
        go_ret2
        exact ⟨0, false, rfl, HE.out, Below.refl _ _⟩
      | true =>
        rw [hs] at hmo
        have HS := Lib.hid hs
        obtain ⟨s1, s2⟩ := smallC_iff.1 hs
        clear hs
        have HRO := Lib.hid hro
        have HRN := Lib.hid hrng
        clear hro hrng
        go_enter Try.func22, Try.ntmps22
        go_wp2_with (go_at_call 36; refine (hmo _).mono ?_; rintro e w' ⟨rfl, rfl⟩)
        clear hmo
        go_loopg [11, 32] occ.length (fun g s11 s32 wr => ∃ k : Nat, k ≤ occ.length ∧ g = occ.length - k ∧ s32 = .int .i64 k ∧ (occ.take k).all (fun o => smallC o.2.1) = true ∧ Below w.heap.size w wr)
        case atStart => exact ⟨0, by omega, by omega, rfl, rfl, Below.refl _ _⟩
        case round =>
          obtain ⟨k, hk, hg, rfl, hv, hb⟩ := hrel
          have HV := Lib.hid hv
          clear hv
          have hz := hb.size
          by_cases hlt : k < occ.length
          · obtain ⟨b, off, rfl, hbw, c0, c1, c2⟩ := (ho.below hb).oc k hlt
            have HNO := Lib.hid (fun h => fun e => enters_not (l := l) (s := e) (List.getElem_mem hlt) h)
            have HYES := Lib.hid (fun h => small_of_take hlt HV.out h)
            generalize occ[k] = q at *
            obtain ⟨r, f, e⟩ := q
            simp only at c0 c1 c2 HNO HYES
            have hmf := fun W => small_any f W
            cases hf : smallC f with
            | false =>
              rw [hf] at hmf
              have HE : Hid (EarlC l occ s m 0 false) := .inr ⟨rfl, rfl, .inr (.inr (.inr fun e _ _ => HNO.out hf _))⟩
              clear hf
              go_wp2_with (go_at_call 36; refine (hmf _).mono ?_; rintro e w' ⟨rfl, rfl⟩)
              go_ret2
              exact ⟨0, false, rfl, HE.out, hb.alloc hz _⟩
            | true =>
              rw [hf] at hmf
              have HF := Lib.hid (HYES.out hf)
              clear hf
              go_wp2_with (go_at_call 36; refine (hmf _).mono ?_; rintro e w' ⟨rfl, rfl⟩)
              go_roundg (occ.length - (k + 1))
              case measure => omega
              case rel => exact ⟨k + 1, by omega, rfl, by go_num, HF.out, hb.alloc hz _⟩
          · have HSM : Hid (∀ o ∈ occ, smallC o.2.1 = true) := by
              have := HV.out
              rw [List.take_of_length_le (by omega)] at this
              exact List.all_eq_true.1 this
            clear HV
            go_wp2_with fail
            refine (newIndex_any A c l wr (hl.belowMore hb hz) hn HRN.out).mono ?_
            rintro e w1 ⟨gm, n, S, rfl, hp, hsr, hi, hgm, hb1⟩
            have HIX := Lib.hid (fun r => idx_ok hp hsr r)
            have HLEN : Hid (∀ r, (idxOf S r).length ≤ 4611686018427387903) := fun r => by have := idx_len S r; have := hp.length_eq; omega
            clear hp hsr
            have hbw1 := hb.trans (hb1.mono hz)
            have z1 := hbw1.size
            replace ho := ho.belowMore hbw1 z1
            clear hb hb1 hz hgm
            obtain ⟨M, rfl⟩ := Int.eq_ofNat_of_zero_le (show 0 ≤ m by omega)
            go_wp2_with fail
            go_loopg [13, 14, 16, 17, 18] (M + 1) (fun g s13 s14 s16 s17 s18 wr => ∃ y : Nat, g = M + 1 - y ∧ s13 = .int .i64 y ∧ (y : Int) ≤ 3600 + 3600 * (occ.length : Int) ∧ (∀ e : Int, 0 ≤ e → e < y → entersC l occ (s + e) = false) ∧ Below w1.heap.size w1 wr)
            case atStart => exact ⟨0, rfl, rfl, by omega, fun e h1 h2 => by omega, Below.refl _ _⟩
            case round =>
              obtain ⟨y, hg, rfl, hyb, hno, hbr⟩ := hrel
              have HNO := Lib.hid hno
              clear hno
              have hzr := hbr.size
              by_cases hym : y ≤ M
              · have hms := fun W => small_any (s + y) W
                cases hsy : smallC (s + y) with
                | false =>
                  rw [hsy] at hms
                  have HE : Hid (EarlC l occ s M 0 false) := .inr ⟨rfl, rfl, .inr (.inr (.inr fun e h1 h2 => by
                    by_cases q : e < y
                    · exact HNO.out e h1 q
                    · refine enters_far ?_
                      simp only [smallC, Bool.and_eq_false_iff, decide_eq_false_iff_not] at hsy ⊢
                      omega))⟩
                  clear hsy
                  go_wp2_with (go_at_call 36; refine (hms _).mono ?_; rintro e w' ⟨rfl, rfl⟩)
                  go_ret2
                  exact ⟨0, false, rfl, HE.out, hbw1.trans (hbr.mono z1)⟩
                | true =>
                  rw [hsy] at hms
                  have HSY := Lib.hid hsy
                  clear hsy
                  have HMS := Lib.hid hms
                  clear hms
                  go_wp2_with fail
                  refine (HMS.out _).mono ?_
                  rintro e w' ⟨rfl, rfl⟩
                  obtain ⟨wo, rfl⟩ : ∃ wo : World, wo = wr := ⟨_, rfl⟩
                  go_wp2_with fail
                  go_loopg [14, 16, 17, 18, 55] occ.length (fun g' s14 s16 s17 s18 s55 wr => ∃ (k : Nat) (z : Int), k ≤ occ.length ∧ g' = occ.length - k ∧ s55 = .int .i64 k ∧ s14 = .int .i64 z ∧ LaterInv l occ s y k z ∧ z ≤ y + 3600 * (k : Int) ∧ Below w1.heap.size w1 wr)
                  case atStart => exact ⟨0, y, by omega, by omega, rfl, rfl, LaterInv.start l occ s y, by omega, hbr⟩
                  case round =>
                    obtain ⟨k', z, hk', hg', rfl, rfl, hinv, hzb, hbx⟩ := hrel
                    have hyz := hinv.1
                    have HINV := Lib.hid hinv
                    clear hinv
                    have hzx := hbx.size
                    by_cases hlt' : k' < occ.length
                    · obtain ⟨b, off, rfl, hbw, c0, c1, c2⟩ := (ho.below hbx).oc k' hlt'
                      have r1 := HRO.out occ[k'] (List.getElem_mem hlt')
                      have fs := smallC_iff.1 (HSM.out occ[k'] (List.getElem_mem hlt'))
                      have HST := Lib.hid (fun m hm => HINV.out.step hlt' (m := m) hm)
                      have HBD := Lib.hid (fun m hm => HINV.out.bound hlt' (m := m) hm)
                      generalize occ[k'] = q at *
                      obtain ⟨r, f, e⟩ := q
                      simp only at c0 c1 c2 r1 fs HST HBD
                      obtain ⟨f1, f2⟩ := fs
                      obtain ⟨SEP, COV⟩ := HIX.out r
                      have HCOV := Lib.hid COV
                      have hlen := HLEN.out r
                      clear COV
                      have hbW := hbx.alloc hzx (.cells #[.int .i64 r, .int .i64 f, .int .i64 e] 39)
                      have k0 : (wr.alloc (.cells #[.int .i64 r, .int .i64 f, .int .i64 e] 39)).cell? ⟨wr.heap.size, 0, none⟩ = some (.int .i64 r) := by rw [World.cell?_alloc_at _ _ _ _ rfl]; rfl
                      have k1 : (wr.alloc (.cells #[.int .i64 r, .int .i64 f, .int .i64 e] 39)).cell? ⟨wr.heap.size, 1, none⟩ = some (.int .i64 f) := by rw [World.cell?_alloc_at _ _ _ _ rfl]; rfl
                      have hzW : wr.heap.size < (wr.alloc (.cells #[.int .i64 r, .int .i64 f, .int .i64 e] 39)).heap.size := by simp
                      go_upto_region 16 with fail
                      generalize wr.alloc (.cells #[.int .i64 r, .int .i64 f, .int .i64 e] 39) = W at *
                      generalize wr.heap.size = gc at *
                      have hnx := inext_any (gm + 1) gm n (idxOf S) r (s + z + f) W (hi.below hbW) r1 SEP hlen
                      clear c0 c1 c2 SEP
                      go_wp2_with fail
                      refine hnx.mono ?_
                      rintro e0 w4 ⟨p, rfl, hp, hb4⟩
                      clear hnx
                      have hp' := hp.of_cover HCOV.out
                      have hp1 := hp'.1
                      have HST2 := Lib.hid (HST.out p hp')
                      have HBD2 := Lib.hid (HBD.out p hp')
                      clear hp hp'
                      have HB4 := Lib.hid (hbW.trans (hb4.mono (by omega)))
                      by_cases hfar : p ≤ s + z + f + M
                      · go_wp2_with fail
                        go_roundg (occ.length - (k' + 1))
                        case measure => omega
                        case rel => exact ⟨k' + 1, z + (p - (s + z + f)), by omega, rfl, by go_num, rfl, HST2.out, by omega, HB4.out⟩
                      · have HE : Hid (EarlC l occ s M 0 false) := .inr ⟨rfl, rfl, .inr (.inr (.inr fun e h1 h2 => by
                          by_cases q : e < y
                          · exact HNO.out e h1 q
                          · cases qe : entersC l occ (s + e) with
                            | false => rfl
                            | true => have := HBD2.out e (by omega) qe; omega))⟩
                        go_wp2_with fail
                        go_ret2
                        exact ⟨0, false, rfl, HE.out, hbw1.trans (HB4.out.mono z1)⟩
                    · have hInv := HINV.out
                      by_cases hzy : z = y
                      · subst hzy
                        have HEN := Lib.hid (enters_of (l := l) HSY.out HSM.out (by have := hInv.2.2 rfl; rw [List.take_of_length_le (by omega)] at this; exact this))
                        have HE : Hid (EarlC l occ s M y true) := .inl ⟨rfl, by omega, by omega, by omega, HS.out, HEN.out, HNO.out⟩
                        clear hInv
                        have dd : ((y : Int) == (y : Int)) = true := by simp
                        go_wp2_with fail
                        go_ret2
                        exact ⟨y, true, rfl, HE.out, hbw1.trans (hbx.mono z1)⟩
                      · have dd : (z == (y : Int)) = false := by simp [hzy]
                        have HN2 : Hid (∀ e : Int, 0 ≤ e → e < z → entersC l occ (s + e) = false) := fun e h1 h2 => by
                          by_cases q : e < y
                          · exact HNO.out e h1 q
                          · cases qe : entersC l occ (s + e) with
                            | false => rfl
                            | true => have := hInv.2.1 e (by omega) qe; omega
                        clear hInv
                        obtain ⟨Z, rfl⟩ := Int.eq_ofNat_of_zero_le (show 0 ≤ z by omega)
                        have hzy2 : y < Z := by omega
                        clear hzy
                        go_wp2_with fail
                        go_roundg (M + 1 - Z)
                        case measure => omega
                        case rel => exact ⟨Z, rfl, rfl, by omega, HN2.out, hbx⟩
              · have HE : Hid (EarlC l occ s M 0 false) := .inr ⟨rfl, rfl, .inr (.inr (.inr fun e h1 h2 => HNO.out e h1 (by omega)))⟩
                go_wp2_with fail
                go_ret2
                exact ⟨0, false, rfl, HE.out, hbw1.trans (hbr.mono z1)⟩

end Go.Proofs.Ytjeocfkijbpinaa
