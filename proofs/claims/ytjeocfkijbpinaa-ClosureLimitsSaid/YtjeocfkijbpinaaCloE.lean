/-
  Contract of closure.Enters.
-/
import Derived.Test.YtjeocfkijbpinaaCloN
import Derived.Deep.RegionHeld3
set_option linter.unusedVariables false
set_option linter.unusedSimpArgs false
namespace Go.Proofs.Ytjeocfkijbpinaa
open Go.RowKit RP

set_option maxHeartbeats 4000000 in
theorem enters_any (A B : Option Addr) (c d : Nat) (l : List Clo) (occ : List Occ) (s : Int) (w : World) (hl : Lst encO 3 w w.heap.size A l) (ho : Lst encO 3 w w.heap.size B occ) (hn : l.length * 24 ≤ 140737488355328) (hn' : occ.length ≤ 9223372036854775807)
    (hrng : ∀ x ∈ l, R64 x.1 ∧ R64 x.2.1 ∧ R64 x.2.2) (hro : ∀ x ∈ occ, R64 x.1) :
    Calls Try.prog 21 #[.slice A l.length c, .slice B occ.length d, .int .i64 s] w fun e w' => e = .returned (.bool (entersC l occ s)) ∧ Below w.heap.size w w' := by
  have hmo := fun W => small_any s W
  cases hs : smallC s with
  | false =>
    rw [hs] at hmo
    have H := Lib.hid (show entersC l occ s = false by simp [entersC, hs])
    clear hs
    go_enter Try.func21, Try.ntmps21
    go_wp2_with (go_at_call 36; refine (hmo _).mono ?_; rintro e w' ⟨rfl, rfl⟩)
    go_ret
    exact ⟨ret_bool H.out.symm, Below.refl _ _⟩
  | true =>
    rw [hs] at hmo
    have HS := Lib.hid hs
    obtain ⟨s1, s2⟩ := smallC_iff.1 hs
    clear hs
    have HMO := Lib.hid hmo
    clear hmo
    go_enter Try.func21, Try.ntmps21
    go_wp2_with fail
    refine (HMO.out _).mono ?_
    rintro e w' ⟨rfl, rfl⟩
    clear HMO
    go_wp2_with fail
    refine (newIndex_any A c l w hl hn hrng).mono ?_
    rintro e w1 ⟨gm, n, S, rfl, hp, hsr, hi, hgm, hb1⟩
    have HIX := Lib.hid (fun r => idx_ok hp hsr r)
    have HLEN : Hid (∀ r, (idxOf S r).length ≤ 4611686018427387903) := fun r => by have := idx_len S r; have := hp.length_eq; omega
    clear hp hsr hrng
    have HRO := Lib.hid hro
    clear hro
    go_wp2_with fail
    go_loopg [9, 17] occ.length (fun g s9 s17 wr => ∃ k : Nat, k ≤ occ.length ∧ g = occ.length - k ∧ s17 = .int .i64 k ∧ (occ.take k).all (fun o => smallC o.2.1 && !coverC l o.1 (s + o.2.1)) = true ∧ Below w1.heap.size w1 wr)
    case atStart => exact ⟨0, by omega, by omega, rfl, rfl, Below.refl _ _⟩
    case round =>
      obtain ⟨k, hk, hg, rfl, hv, hb⟩ := hrel
      have HV := Lib.hid hv
      clear hv
      have hz := hb.size
      have z1 := hb1.size
      by_cases hlt : k < occ.length
      · obtain ⟨b, off, rfl, hbw, c0, c1, c2⟩ := ((ho.belowMore hb1 z1).below hb).oc k hlt
        have r1 := HRO.out occ[k] (List.getElem_mem hlt)
        have HNO := Lib.hid (fun h => all_no (p := fun o : Occ => smallC o.2.1 && !coverC l o.1 (s + o.2.1)) hlt h)
        have HYES := Lib.hid (fun h => all_take_snoc (p := fun o : Occ => smallC o.2.1 && !coverC l o.1 (s + o.2.1)) hlt HV.out h)
        generalize occ[k] = q at *
        obtain ⟨r, f, e⟩ := q
        simp only at c0 c1 c2 r1
        have hbW := hb.alloc hz (.cells #[.int .i64 r, .int .i64 f, .int .i64 e] 39)
        have k0 : (wr.alloc (.cells #[.int .i64 r, .int .i64 f, .int .i64 e] 39)).cell? ⟨wr.heap.size, 0, none⟩ = some (.int .i64 r) := by rw [World.cell?_alloc_at _ _ _ _ rfl]; rfl
        have k1 : (wr.alloc (.cells #[.int .i64 r, .int .i64 f, .int .i64 e] 39)).cell? ⟨wr.heap.size, 1, none⟩ = some (.int .i64 f) := by rw [World.cell?_alloc_at _ _ _ _ rfl]; rfl
        have hzW : wr.heap.size < (wr.alloc (.cells #[.int .i64 r, .int .i64 f, .int .i64 e] 39)).heap.size := by simp
        have hmf := fun W => small_any f W
        cases hf : smallC f with
        | false =>
          rw [hf] at hmf
          have HF := Lib.hid (HNO.out (by simp [hf]))
          clear hf
          go_upto_region 7 with fail
          generalize wr.alloc (.cells #[.int .i64 r, .int .i64 f, .int .i64 e] 39) = W at *
          go_quiet ((go_at_call 36; exact quiet_left (hmf _)))
          go_wp2_with fail
          go_ret
          exact ⟨ret_bool (by rw [entersC, HF.out, Bool.and_false]), hb1.trans (below_drewN (hbW.mono z1) _)⟩
        | true =>
          rw [hf] at hmf
          obtain ⟨f1, f2⟩ := smallC_iff.1 hf
          have HF := Lib.hid hf
          clear hf
          obtain ⟨SEP, COV⟩ := HIX.out r
          have HCOV := Lib.hid COV
          have hlen := HLEN.out r
          clear COV
          go_upto_region 7 with fail
          generalize wr.alloc (.cells #[.int .i64 r, .int .i64 f, .int .i64 e] 39) = W at *
          generalize wr.heap.size = gc at *
          have hW : Below W.heap.size W W.drew := (Below.refl _ _).drew
          have hiW : Idx W (gm + 1) gm n (idxOf S) := hi.below hbW
          have hnx := fun W' (h : Below W.heap.size W W') => inext_any (gm + 1) gm n (idxOf S) r (s + f) W' (hiW.below h) r1 SEP hlen
          have HNX := Lib.hid hnx
          have HMF := Lib.hid hmf
          clear hnx hmf hi hiW SEP c0 c1 c2
          have t1 : IntKind.i64.wrap (s + f) = s + f := IntWalk.i64_in _ (by omega)
          go_region_held3 (fun w' => w'.cell? ⟨gc, 0, none⟩ = some (.int .i64 r) ∧ w'.cell? ⟨gc, 1, none⟩ = some (.int .i64 f))
            (exact ⟨(hW.cell (p := ⟨gc, 0, none⟩) hzW).trans k0, (hW.cell (p := ⟨gc, 1, none⟩) hzW).trans k1⟩)
            (first
              | (go_at_call 36; refine (HMF.out _).mono ?_; rintro e w' ⟨rfl, rfl⟩)
              | (go_at_call 35; refine (HNX.out _ hW).mono ?_; rintro e wx ⟨m, rfl, hm, hbx⟩; replace hW := hW.trans (hbx.mono hW.size)))
          clear t1
          have HM := Lib.hid ((hm.of_cover HCOV.out).open_iff)
          clear hm
          by_cases hq : m = s + f
          · have dq : (m != s + f) = false := by simp [hq]
            have HT := Lib.hid (HYES.out (by simp [HF.out, HM.out.1 hq]))
            clear hq
            go_wp2_with fail
            go_roundg (occ.length - (k + 1))
            case measure => omega
            case rel => exact ⟨k + 1, by omega, rfl, by go_num, HT.out, hbW.trans (hW.mono (by omega))⟩
          · have dq : (m != s + f) = true := by simp [hq]
            have HT := Lib.hid (HNO.out (by cases q : coverC l r (s + f) with | true => simp | false => exact absurd (HM.out.2 q) hq))
            clear hq
            go_wp2_with fail
            go_ret
            exact ⟨ret_bool (by rw [entersC, HT.out, Bool.and_false]), hb1.trans ((hbW.trans (hW.mono (by omega))).mono z1)⟩
      · go_wp2_with fail
        go_ret
        have hv := HV.out
        rw [List.take_of_length_le (by omega)] at hv
        exact ⟨ret_bool (by rw [entersC, HS.out, hv]; rfl), hb1.trans (hb.mono z1)⟩

end Go.Proofs.Ytjeocfkijbpinaa
