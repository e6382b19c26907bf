/-
  Contract of the reference's CheckServices.
-/
import Derived.Test.YtaongejpbgjbiaaCalK
set_option linter.unusedVariables false
set_option linter.unusedSimpArgs false
namespace Go.Proofs.Ytaongejpbgjbiaa
open Go.RowKit RP



set_option maxRecDepth 100000 in
set_option maxHeartbeats 8000000 in
theorem refCheck_any (lines days : Int) (A : Option Addr) (c : Nat) (s : List Svc) (B : Option Addr) (d : Nat) (x : List Exc) (w : World) (hl : Lst encV 4 w w.heap.size A s) (hn : s.length ≤ 9223372036854775807) (hc : s.length ≤ c) (hc2 : c ≤ 9223372036854775807) (hx : Lst encX 3 w w.heap.size B x) (hm : x.length ≤ 9223372036854775807) (hd : x.length ≤ d) (hd2 : d ≤ 9223372036854775807)
    (_ : R64 lines) (_ : R64 days) :
    Calls Try.prog 15 #[.int .i64 lines, .int .i64 days, .slice A s.length c, .slice B x.length d] w fun e w' => e = .returned (.int .i64 (checkS lines days s x)) ∧ Below w.heap.size w w' := by
  by_cases h0 : lines < 0 ∨ 16 < lines ∨ days < 1 ∨ 31 < days
  · have HR := Lib.hid (show checkS lines days s x = 4 by unfold checkS; rw [if_pos h0])
    by_cases h1 : lines < 0
    · clear h0
      go_enter Try.func15, Try.ntmps15
      go_wp2_with fail
      go_ret
      exact ⟨ret_int HR.out.symm, Below.refl _ _⟩
    · by_cases h2 : 16 < lines
      · clear h0
        go_enter Try.func15, Try.ntmps15
        go_wp2_with fail
        go_ret
        exact ⟨ret_int HR.out.symm, Below.refl _ _⟩
      · by_cases h3 : days < 1
        · clear h0
          go_enter Try.func15, Try.ntmps15
          go_wp2_with fail
          go_ret
          exact ⟨ret_int HR.out.symm, Below.refl _ _⟩
        · have h4 : 31 < days := by omega
          clear h0
          go_enter Try.func15, Try.ntmps15
          go_wp2_with fail
          go_ret
          exact ⟨ret_int HR.out.symm, Below.refl _ _⟩
  · obtain ⟨L, rfl⟩ := Int.eq_ofNat_of_zero_le (show 0 ≤ lines by omega)
    obtain ⟨dn, rfl⟩ := Int.eq_ofNat_of_zero_le (show 0 ≤ days by omega)
    have l1 : L ≤ 16 := by omega
    have l2 : 1 ≤ dn := by omega
    have l3 : dn ≤ 31 := by omega
    have HR := Lib.hid (show checkS L dn s x = _ by unfold checkS; rw [if_neg h0])
    have hpow : (2 : Int) ^ dn ≤ 2147483648 := by
      have h1 := Nat.pow_le_pow_right (n := 2) (by omega) l3
      have h2 : (2 : Nat) ^ 31 = 2147483648 := rfl
      have h3 : (2 : Int) ^ dn = ((2 ^ dn : Nat) : Int) := by simp
      omega
    have hpow0 : (0 : Int) < 2 ^ dn := Int.pow_pos (by omega)
    have sw : IntKind.i64.wrap ((2 : Int) ^ dn) = 2 ^ dn := IntWalk.i64_in _ (by omega)
    clear h0
    go_enter Try.func15, Try.ntmps15
    go_wp2_with fail
    generalize hgs : w.heap.size = gs at *
    have HGS := Lib.hid hgs
    clear hgs
    go_loopg [9, 10, 33] s.length (fun g s9 s10 s33 wr => ∃ k : Nat, k ≤ s.length ∧ g = s.length - k ∧ s33 = .int .i64 k ∧ firstE (svcE L dn) [] s = firstE (svcE L dn) (s.take k) (s.drop k) ∧ Below gs w wr)
    case atStart => exact ⟨0, by omega, by omega, rfl, rfl, HGS.out ▸ Below.refl _ _⟩
    case round =>
      obtain ⟨k, hk, hg, rfl, hf, hb⟩ := hrel
      have HF := Lib.hid hf
      have hzr := hb.size
      rw [HGS.out] at hzr
      clear hf
      by_cases hlt : k < s.length
      · obtain ⟨b, off, rfl, hbb, a0, a1, a2, a3⟩ := (hl.below hb).sv k hlt
        have hst := firstE_step (svcE L dn) hlt
        rw [← HF.out] at hst
        have HBAD := Lib.hid (show svcBad L dn s[k] = true → checkS L dn s x = 4 from fun h => by
          have e : svcE L dn (s.take k) s[k] = 4 := by unfold svcE; rw [if_pos h]
          rw [e, if_pos (by decide)] at hst
          rw [HR.out, hst]; rfl)
        have HDUP := Lib.hid (show svcBad L dn s[k] = false → (s.take k).any (fun b => decide (b.line = s[k].line)) = true → checkS L dn s x = 5 from fun h h' => by
          have e : svcE L dn (s.take k) s[k] = 5 := by unfold svcE; rw [if_neg (by rw [h]; decide), if_pos h']
          rw [e, if_pos (by decide)] at hst
          rw [HR.out, hst]; rfl)
        have HOK := Lib.hid (show svcBad L dn s[k] = false → (s.take k).any (fun b => decide (b.line = s[k].line)) = false → firstE (svcE L dn) [] s = firstE (svcE L dn) (s.take (k + 1)) (s.drop (k + 1)) from fun h h' => by
          have e : svcE L dn (s.take k) s[k] = 0 := by unfold svcE; rw [if_neg (by rw [h]; decide), if_neg (by rw [h']; decide)]
          rw [e, if_neg (by decide)] at hst
          exact hst)
        have HBX := Lib.hid (hb.trans ((belA wr (.cells #[.int .i64 s[k].line, .int .i64 s[k].days, .int .i64 s[k].fst, .int .i64 s[k].lst] 34)).mono (by omega)))
        have HCX := Lib.hid (show (wr.alloc (.cells #[.int .i64 s[k].line, .int .i64 s[k].days, .int .i64 s[k].fst, .int .i64 s[k].lst] 34)).cell? ⟨wr.heap.size, 0, none⟩ = some (.int .i64 s[k].line) by rw [World.cell?_alloc_at _ _ _ _ rfl]; rfl)
        have i0 : (0 : Int) ≤ (k : Int) := by omega
        have i1 : (k : Int) < (s.length : Int) := by omega
        clear hst
        obtain ⟨a, ha⟩ : ∃ a, s[k] = a := ⟨_, rfl⟩
        rw [ha] at a0 a1 a2 a3 HBAD HDUP HOK HBX HCX
        clear ha
        obtain ⟨li, dy, fs, ls⟩ := a
        simp only at a0 a1 a2 a3 HBAD HDUP HOK HBX HCX
        clear hb
        by_cases q1 : li < 0
        · go_wp2_with fail
          go_quiet (fail)
          go_wp2_with fail
          go_ret
          exact ⟨ret_int (HBAD.out (by unfold svcBad; simp; omega)).symm, by rw [HGS.out]; exact below_drewN HBX.out _⟩
        · by_cases q2 : (L : Int) ≤ li
          · go_wp2_with fail
            go_quiet (fail)
            go_wp2_with fail
            go_ret
            exact ⟨ret_int (HBAD.out (by unfold svcBad; simp; omega)).symm, by rw [HGS.out]; exact below_drewN HBX.out _⟩
          · by_cases q3 : dy < 0
            · go_wp2_with fail
              go_quiet (fail)
              go_wp2_with fail
              go_ret
              exact ⟨ret_int (HBAD.out (by unfold svcBad; simp; omega)).symm, by rw [HGS.out]; exact below_drewN HBX.out _⟩
            · by_cases q4 : (2 : Int) ^ dn ≤ dy
              · go_wp2_with fail
                go_quiet (fail)
                go_wp2_with fail
                go_ret
                exact ⟨ret_int (HBAD.out (by unfold svcBad; simp; omega)).symm, by rw [HGS.out]; exact below_drewN HBX.out _⟩
              · by_cases q5 : fs < 0
                · go_wp2_with fail
                  go_quiet (fail)
                  go_wp2_with fail
                  go_ret
                  exact ⟨ret_int (HBAD.out (by unfold svcBad; simp; omega)).symm, by rw [HGS.out]; exact below_drewN HBX.out _⟩
                · by_cases q6 : ls < fs
                  · go_wp2_with fail
                    go_quiet (fail)
                    go_wp2_with fail
                    go_ret
                    exact ⟨ret_int (HBAD.out (by unfold svcBad; simp; omega)).symm, by rw [HGS.out]; exact below_drewN HBX.out _⟩
                  · by_cases q7 : 86400 ≤ ls
                    · go_wp2_with fail
                      go_quiet (fail)
                      go_wp2_with fail
                      go_ret
                      exact ⟨ret_int (HBAD.out (by unfold svcBad; simp; omega)).symm, by rw [HGS.out]; exact below_drewN HBX.out _⟩
                    · have hgood : svcBad L dn ⟨li, dy, fs, ls⟩ = false := by unfold svcBad; simp; omega
                      have HDUP' := Lib.hid (HDUP.out hgood)
                      have HOK' := Lib.hid (HOK.out hgood)
                      clear HDUP HOK HBAD hgood
                      have hkc : (k : Int) ≤ (c : Int) := by omega
                      have k0 : (wr.alloc (.cells #[.int .i64 li, .int .i64 dy, .int .i64 fs, .int .i64 ls] 34)).cell? ⟨wr.heap.size, 0, none⟩ = some (.int .i64 li) := by rw [World.cell?_alloc_at _ _ _ _ rfl]; rfl
                      have k1 : (wr.alloc (.cells #[.int .i64 li, .int .i64 dy, .int .i64 fs, .int .i64 ls] 34)).cell? ⟨wr.heap.size, 1, none⟩ = some (.int .i64 dy) := by rw [World.cell?_alloc_at _ _ _ _ rfl]; rfl
                      have k2 : (wr.alloc (.cells #[.int .i64 li, .int .i64 dy, .int .i64 fs, .int .i64 ls] 34)).cell? ⟨wr.heap.size, 2, none⟩ = some (.int .i64 fs) := by rw [World.cell?_alloc_at _ _ _ _ rfl]; rfl
                      have k3 : (wr.alloc (.cells #[.int .i64 li, .int .i64 dy, .int .i64 fs, .int .i64 ls] 34)).cell? ⟨wr.heap.size, 3, none⟩ = some (.int .i64 ls) := by rw [World.cell?_alloc_at _ _ _ _ rfl]; rfl
                      go_wp2_with fail
                      generalize wr.alloc (.cells #[.int .i64 li, .int .i64 dy, .int .i64 fs, .int .i64 ls] 34) = W0 at *
                      generalize hgk : wr.heap.size = gk at *
                      clear hgk hzr
                      go_quiet (fail)
                      clear k0 k1 k2 k3
                      go_wp2_with fail
                      go_loopg [12, 80] k (fun g s12 s80 wr => ∃ m : Nat, m ≤ k ∧ g = k - m ∧ s80 = .int .i64 m ∧ (s.take m).any (fun b => decide (b.line = li)) = false ∧ wr.cell? ⟨gk, 0, none⟩ = some (.int .i64 li) ∧ Below gs w wr)
                      case atStart => exact ⟨0, by omega, by omega, rfl, rfl, HCX.out, below_drewN HBX.out _⟩
                      case round =>
                        obtain ⟨m, hm', hg2, rfl, hv, hcx, hb⟩ := hrel
                        have HV := Lib.hid hv
                        clear hv
                        by_cases hlt2 : m < k
                        · obtain ⟨b, off, e9, hbb2, c0, c1, c2, c3⟩ := (hl.below hb).sv m (by omega)
                          injection e9 with e9
                          injection e9 with e9 e10
                          subst e9
                          subst e10
                          have HTK := Lib.hid (show s.take (m + 1) = s.take m ++ [s[m]'(by omega)] from List.take_succ_eq_append_getElem (by omega))
                          have HYES := Lib.hid (show (s[m]'(by omega)).line = li → (s.take k).any (fun b => decide (b.line = li)) = true from fun h => by
                            rw [List.any_eq_true]
                            exact ⟨s[m]'(by omega), List.mem_take_iff_getElem.2 ⟨m, by omega, rfl⟩, decide_eq_true h⟩)
                          have HBY := Lib.hid (hb.trans ((belA wr (.cells #[.int .i64 (s[m]'(by omega)).line, .int .i64 (s[m]'(by omega)).days, .int .i64 (s[m]'(by omega)).fst, .int .i64 (s[m]'(by omega)).lst] 34)).mono (by have := hb.size; rw [HGS.out] at this; exact this)))
                          have j0 : (0 : Int) ≤ (m : Int) := by omega
                          have j1 : (m : Int) < (k : Int) := by omega
                          obtain ⟨u, hu⟩ : ∃ u, s[m]'(by omega) = u := ⟨_, rfl⟩
                          rw [hu] at c0 c1 c2 c3 HTK HYES HBY
                          have HNX := Lib.hid (show ¬ u.line = li → (s.take (m + 1)).any (fun b => decide (b.line = li)) = false from fun h => by rw [HTK.out, List.any_append, HV.out]; simp [h])
                          have HCY := Lib.hid ((belA wr (.cells #[.int .i64 u.line, .int .i64 u.days, .int .i64 u.fst, .int .i64 u.lst] 34)).cell (cell_lt hcx) |>.trans hcx)
                          clear hu HTK
                          obtain ⟨li2, dy2, fs2, ls2⟩ := u
                          simp only at c0 c1 c2 c3 HYES HBY HNX HCY
                          clear hb
                          have gkl := cell_lt hcx
                          by_cases q8 : li = li2
                          · have e1 : (li == li2) = true := by simp [q8]
                            have HE := Lib.hid (HDUP'.out (HYES.out q8.symm))
                            clear q8
                            go_wp2_with fail
                            go_ret
                            exact ⟨ret_int HE.out.symm, by rw [HGS.out]; exact HBY.out⟩
                          · have e1 : (li == li2) = false := by simp [q8]
                            have HE := Lib.hid (HNX.out (fun h => q8 h.symm))
                            clear q8
                            go_wp2_with fail
                            go_roundg (k - (m + 1))
                            case measure => omega
                            case rel => exact ⟨m + 1, by omega, rfl, by go_num, HE.out, HCY.out, HBY.out⟩
                        · have HNO := Lib.hid (show (s.take k).any (fun b => decide (b.line = li)) = false by have := HV.out; rwa [show m = k by omega] at this)
                          have HE := Lib.hid (HOK'.out HNO.out)
                          go_wp2_with fail
                          go_roundg (s.length - (k + 1))
                          case measure => omega
                          case rel => exact ⟨k + 1, by omega, rfl, by go_num, HE.out, hb⟩
      · have hend := HF.out
        rw [firstE_end _ (by omega)] at hend
        have HCH := Lib.hid (show checkS L dn s x = firstE (excE L dn s) [] x by rw [HR.out, hend]; rfl)
        have HB0 := Lib.hid hb
        clear hend hb
        go_wp2_with fail
        generalize wr = W9 at *
        go_loopg [13, 14, 93] x.length (fun g s13 s14 s93 wr => ∃ j : Nat, j ≤ x.length ∧ g = x.length - j ∧ s93 = .int .i64 j ∧ firstE (excE L dn s) [] x = firstE (excE L dn s) (x.take j) (x.drop j) ∧ Below gs w wr)
        case atStart => exact ⟨0, by omega, by omega, rfl, rfl, HB0.out⟩
        case round =>
          obtain ⟨j, hj, hg', rfl, hf, hb⟩ := hrel
          have HF2 := Lib.hid hf
          clear hf HF HR
          by_cases hlt2 : j < x.length
          · obtain ⟨b, off, rfl, hbb, a0, a1, a2⟩ := (hx.below hb).ex j hlt2
            have hst := firstE_step (excE L dn s) hlt2
            rw [← HF2.out] at hst
            have HBAD := Lib.hid (show excBad L dn x[j] = true → checkS L dn s x = 4 from fun h => by
              have e : excE L dn s (x.take j) x[j] = 4 := by unfold excE; rw [if_pos h]
              rw [e, if_pos (by decide)] at hst
              rw [HCH.out, hst])
            have HNONE := Lib.hid (show excBad L dn x[j] = false → s.any (fun b => decide (b.line = x[j].line)) = false → checkS L dn s x = 6 from fun h h' => by
              have e : excE L dn s (x.take j) x[j] = 6 := by unfold excE; rw [if_neg (by rw [h]; decide), if_pos (by rw [h']; rfl)]
              rw [e, if_pos (by decide)] at hst
              rw [HCH.out, hst])
            have HDUP := Lib.hid (show excBad L dn x[j] = false → s.any (fun b => decide (b.line = x[j].line)) = true → excF (x.take j) x[j].line x[j].day = true → checkS L dn s x = 5 from fun h h' h'' => by
              have e : excE L dn s (x.take j) x[j] = 5 := by unfold excE; rw [if_neg (by rw [h]; decide), if_neg (by rw [h']; decide)]; exact if_pos h''
              rw [e, if_pos (by decide)] at hst
              rw [HCH.out, hst])
            have HOK := Lib.hid (show excBad L dn x[j] = false → s.any (fun b => decide (b.line = x[j].line)) = true → excF (x.take j) x[j].line x[j].day = false → firstE (excE L dn s) [] x = firstE (excE L dn s) (x.take (j + 1)) (x.drop (j + 1)) from fun h h' h'' => by
              have e : excE L dn s (x.take j) x[j] = 0 := by unfold excE; rw [if_neg (by rw [h]; decide), if_neg (by rw [h']; decide)]; exact if_neg (by unfold excF at h''; rw [h'']; decide)
              rw [e, if_neg (by decide)] at hst
              exact hst)
            have HBX := Lib.hid (hb.trans ((belA wr (.cells #[.int .i64 x[j].line, .int .i64 x[j].day, .bool x[j].runs] 36)).mono (by have := hb.size; rw [HGS.out] at this; exact this)))
            have i0 : (0 : Int) ≤ (j : Int) := by omega
            have i1 : (j : Int) < (x.length : Int) := by omega
            clear hst
            have k0 : (wr.alloc (.cells #[.int .i64 x[j].line, .int .i64 x[j].day, .bool x[j].runs] 36)).cell? ⟨wr.heap.size, 0, none⟩ = some (.int .i64 x[j].line) := by rw [World.cell?_alloc_at _ _ _ _ rfl]; rfl
            have k1 : (wr.alloc (.cells #[.int .i64 x[j].line, .int .i64 x[j].day, .bool x[j].runs] 36)).cell? ⟨wr.heap.size, 1, none⟩ = some (.int .i64 x[j].day) := by rw [World.cell?_alloc_at _ _ _ _ rfl]; rfl
            obtain ⟨e, he⟩ : ∃ e, x[j] = e := ⟨_, rfl⟩
            rw [he] at a0 a1 a2 HBAD HNONE HDUP HOK HBX k0 k1
            clear he
            obtain ⟨li, da, ru⟩ := e
            simp only at a0 a1 a2 HBAD HNONE HDUP HOK HBX k0 k1
            clear hb
            by_cases q1 : li < 0
            · go_wp2_with fail
              go_ret
              exact ⟨ret_int (HBAD.out (by unfold excBad; simp; omega)).symm, by rw [HGS.out]; exact HBX.out⟩
            · by_cases q2 : (L : Int) ≤ li
              · go_wp2_with fail
                go_ret
                exact ⟨ret_int (HBAD.out (by unfold excBad; simp; omega)).symm, by rw [HGS.out]; exact HBX.out⟩
              · by_cases q3 : da < 0
                · go_wp2_with fail
                  go_ret
                  exact ⟨ret_int (HBAD.out (by unfold excBad; simp; omega)).symm, by rw [HGS.out]; exact HBX.out⟩
                · by_cases q4 : (dn : Int) ≤ da
                  · go_wp2_with fail
                    go_ret
                    exact ⟨ret_int (HBAD.out (by unfold excBad; simp; omega)).symm, by rw [HGS.out]; exact HBX.out⟩
                  · have hgood : excBad L dn ⟨li, da, ru⟩ = false := by unfold excBad; simp; omega
                    have HNONE' := Lib.hid (HNONE.out hgood)
                    have HDUP' := Lib.hid (HDUP.out hgood)
                    have HOK' := Lib.hid (HOK.out hgood)
                    clear HNONE HDUP HOK HBAD hgood
                    have hls := hl.belowMore HBX.out (by have := HBX.out.size; rw [HGS.out] at this; exact this)
                    go_wp2_with fail
                    generalize wr.alloc (.cells #[.int .i64 li, .int .i64 da, .bool ru] 36) = W0 at *
                    generalize hgk : wr.heap.size = gk at *
                    clear hgk
                    refine (svcOf_any li A c s W0 hls hn).mono ?_
                    rintro e w' ⟨rfl, rfl⟩
                    rcases fidx_find (p := fun a : Svc => decide (a.line = li)) s with ⟨e1, e2⟩ | ⟨m, hm5, e1, e2, e3, e4⟩
                    · rw [e1]
                      have HE := Lib.hid (HNONE'.out (by rw [List.find?_eq_none] at e2; rw [List.any_eq_false]; exact e2))
                      clear e1 e2
                      go_wp2_with fail
                      go_ret
                      exact ⟨ret_int HE.out.symm, by rw [HGS.out]; exact HBX.out⟩
                    · rw [e1]
                      have hany : s.any (fun b => decide (b.line = li)) = true := List.any_eq_true.2 ⟨s[m], List.getElem_mem hm5, e3⟩
                      have HDUP2 := Lib.hid (HDUP'.out hany)
                      have HOK2 := Lib.hid (HOK'.out hany)
                      have hkc : (j : Int) ≤ (d : Int) := by omega
                      have HK0 := Lib.hid k0
                      have HK1 := Lib.hid k1
                      clear e1 e2 e3 e4 hany HDUP' HOK' HNONE' k0 k1 hls
                      go_wp2_with fail
                      go_loopg [16, 127] j (fun g s16 s127 wr => ∃ m : Nat, m ≤ j ∧ g = j - m ∧ s127 = .int .i64 m ∧ excF (x.take m) li da = false ∧ wr.cell? ⟨gk, 0, none⟩ = some (.int .i64 li) ∧ wr.cell? ⟨gk, 1, none⟩ = some (.int .i64 da) ∧ Below gs w wr)
                      case atStart => exact ⟨0, by omega, by omega, rfl, rfl, HK0.out, HK1.out, HBX.out⟩
                      case round =>
                        obtain ⟨m, hm', hg2, rfl, hv, k0, k1, hb⟩ := hrel
                        have HV := Lib.hid hv
                        clear hv
                        by_cases hlt3 : m < j
                        · obtain ⟨b9, off9, e9, hbb2, c0, c1, c2⟩ := (hx.below hb).ex m (by omega)
                          injection e9 with e9
                          injection e9 with e9 e10
                          subst e9
                          subst e10
                          have HTK := Lib.hid (show x.take (m + 1) = x.take m ++ [x[m]'(by omega)] from List.take_succ_eq_append_getElem (by omega))
                          have HYES := Lib.hid (show (x[m]'(by omega)).line = li → (x[m]'(by omega)).day = da → excF (x.take j) li da = true from fun h h' => by
                            unfold excF
                            rw [List.any_eq_true]
                            exact ⟨x[m]'(by omega), List.mem_take_iff_getElem.2 ⟨m, by omega, rfl⟩, by simp [h, h']⟩)
                          have HBY := Lib.hid (hb.trans ((belA wr (.cells #[.int .i64 (x[m]'(by omega)).line, .int .i64 (x[m]'(by omega)).day, .bool (x[m]'(by omega)).runs] 36)).mono (by have := hb.size; rw [HGS.out] at this; exact this)))
                          have j0 : (0 : Int) ≤ (m : Int) := by omega
                          have j1 : (m : Int) < (j : Int) := by omega
                          obtain ⟨u, hu⟩ : ∃ u, x[m]'(by omega) = u := ⟨_, rfl⟩
                          rw [hu] at c0 c1 c2 HTK HYES HBY
                          have HNX := Lib.hid (show ¬ (u.line = li ∧ u.day = da) → excF (x.take (m + 1)) li da = false from fun h => by
                            have hv := HV.out
                            unfold excF at hv ⊢
                            rw [HTK.out, List.any_append, hv]
                            simp only [List.any_cons, List.any_nil, Bool.or_false, Bool.false_or, Bool.and_eq_false_iff, decide_eq_false_iff_not]
                            by_cases h1 : u.line = li
                            · exact .inr fun h2 => h ⟨h1, h2⟩
                            · exact .inl h1)
                          have HCY := Lib.hid ((belA wr (.cells #[.int .i64 u.line, .int .i64 u.day, .bool u.runs] 36)).cell (cell_lt k0) |>.trans k0)
                          have HCZ := Lib.hid ((belA wr (.cells #[.int .i64 u.line, .int .i64 u.day, .bool u.runs] 36)).cell (cell_lt k1) |>.trans k1)
                          clear hu HTK
                          obtain ⟨li2, da2, ru2⟩ := u
                          simp only at c0 c1 c2 HYES HBY HNX HCY HCZ
                          clear hb
                          have gkl := cell_lt k0
                          by_cases q8 : li = li2
                          · have e1 : (li == li2) = true := by simp [q8]
                            by_cases q9 : da = da2
                            · have e2 : (da == da2) = true := by simp [q9]
                              have HE := Lib.hid (HDUP2.out (HYES.out q8.symm q9.symm))
                              clear q8 q9
                              go_wp2_with fail
                              go_ret
                              exact ⟨ret_int HE.out.symm, by rw [HGS.out]; exact HBY.out⟩
                            · have e2 : (da == da2) = false := by simp [q9]
                              have HE := Lib.hid (HNX.out (fun h => q9 h.2.symm))
                              clear q8 q9
                              go_wp2_with fail
                              go_roundg (j - (m + 1))
                              case measure => omega
                              case rel => exact ⟨m + 1, by omega, rfl, by go_num, HE.out, HCY.out, HCZ.out, HBY.out⟩
                          · have e1 : (li == li2) = false := by simp [q8]
                            have HE := Lib.hid (HNX.out (fun h => q8 h.1.symm))
                            clear q8
                            go_wp2_with fail
                            go_roundg (j - (m + 1))
                            case measure => omega
                            case rel => exact ⟨m + 1, by omega, rfl, by go_num, HE.out, HCY.out, HCZ.out, HBY.out⟩
                        · have HNO := Lib.hid (show excF (x.take j) li da = false by have := HV.out; rwa [show m = j by omega] at this)
                          have HE := Lib.hid (HOK2.out HNO.out)
                          go_wp2_with fail
                          go_roundg (x.length - (j + 1))
                          case measure => omega
                          case rel => exact ⟨j + 1, by omega, rfl, by go_num, HE.out, hb⟩
          · have hend := HF2.out
            rw [firstE_end _ (by omega)] at hend
            have HE := Lib.hid (HCH.out.trans hend)
            clear hend
            go_wp2_with fail
            go_ret
            exact ⟨ret_int HE.out.symm, by rw [HGS.out]; exact hb⟩

end Go.Proofs.Ytaongejpbgjbiaa
