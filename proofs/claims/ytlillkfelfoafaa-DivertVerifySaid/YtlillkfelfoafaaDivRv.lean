/-
  Contract of the reference's VerifyChoices.
-/
import Derived.Test.YtlillkfelfoafaaDivAa
import Derived.Test.YtlillkfelfoafaaDivRp
set_option linter.unusedVariables false
set_option linter.unusedSimpArgs false
namespace Go.Proofs.Ytlillkfelfoafaa
open Go.RowKit Go.Shelf RP

set_option maxRecDepth 100000 in
set_option maxHeartbeats 16000000 in
theorem rVerify_any (A : Option Addr) (c : Nat) (L : List JobM) (CA : Option Addr) (cc : Nat) (cl : List Clo) (WA : Option Addr) (wc : Nat) (ow : List OWy) (KA : Option Addr) (kc : Nat) (ch : List Cho) (w : World)
    (hj : Jbs w w.heap.size A L) (hcl : Lst encO 3 w w.heap.size CA cl) (how : Lst encW 4 w w.heap.size WA ow) (hch : Lst encK 2 w w.heap.size KA ch) (hcn : cl.length ≤ 9223372036854775807) (hwn : ow.length ≤ 9223372036854775807) (hkc : ch.length ≤ kc ∧ kc ≤ 9223372036854775807) :
    Calls Try.prog 30 #[.slice A L.length c, .slice CA cl.length cc, .slice WA ow.length wc, .slice KA ch.length kc] w fun e w' => e = .returned (.bool (verB (L.map JobM.p) cl ow ch)) ∧ Below w.heap.size w w' := by
  have hck := rcheck_any A c L w hj
  have HJ := Lib.hid hj
  have HCL := Lib.hid hcl
  have HOW := Lib.hid how
  have HCH := Lib.hid hch
  have hjl := hj.len
  clear hj hcl how hch
  cases hcj : checkJ (L.map JobM.p) with
  | false =>
    have HV := Lib.hid (show verB (L.map JobM.p) cl ow ch = false by unfold verB; rw [hcj]; rfl)
    rw [hcj] at hck
    clear hcj
    go_enter Try.func30, Try.ntmps30
    go_wp2_with (go_at_call 15; refine hck.mono ?_; rintro e w1 ⟨rfl, hb1⟩)
    go_ret
    exact ⟨ret_bool HV.out.symm, hb1⟩
  | true =>
    rw [hcj] at hck
    by_cases hlen : ch.length = L.length
    · have hne : ((ch.length : Int) != (L.length : Int)) = false := by simp [hlen]
      have HCJ := Lib.hid hcj
      have HLE := Lib.hid hlen
      have hle : ch.length ≤ L.length := by omega
      clear hcj hlen
      go_enter Try.func30, Try.ntmps30
      go_wp2_with (go_at_call 15; refine hck.mono ?_; rintro e w1 ⟨rfl, hb1⟩)
      have HB1 := Lib.hid hb1
      clear hck hb1 hne
      go_loopg [25] ch.length (fun g s25 wr => ∃ i : Nat, i ≤ ch.length ∧ g = ch.length - i ∧ s25 = .int .i64 i ∧ (∀ x, x < i → chosenB (L.map JobM.p) cl ow ch x = true) ∧ Below w.heap.size w wr)
      case atStart => exact ⟨0, by omega, by omega, rfl, fun x hx => by omega, HB1.out⟩
      case round =>
        obtain ⟨i, hi, hg, rfl, hall, hb⟩ := hrel
        have HALL := Lib.hid hall
        have HB := Lib.hid hb
        clear hall
        by_cases hlt : i < ch.length
        · obtain ⟨kb, ko, x, y, rfl, hgd, d0, d1⟩ := (HCH.out.belowMore hb hb.size).ch_at hlt
          have HGD := Lib.hid hgd
          have HNO := Lib.hid (fun h => ver_no (jobs := L.map JobM.p) (cl := cl) (ow := ow) hlt h)
          have hiL : i < L.length := by omega
          have i0 : (0 : Int) ≤ (i : Int) := by omega
          have i1 : (i : Int) < (ch.length : Int) := by omega
          have i2 : (i : Int) < (L.length : Int) := by omega
          clear hgd
          by_cases hs : x = -1 ∧ y = 0
          · obtain ⟨rfl, rfl⟩ := hs
            have hq : ∀ W, (binOp .eql 55 (.agg #[.int .i64 (-1), .int .i64 0]) (.agg #[.int .i64 (-1), .int .i64 0])).run Try.prog W = .ok (.bool true) W := fun W => run_eql_cho _ _ _ _ W
            have HS := Lib.hid (chosen_skip (jobs := L.map JobM.p) (cl := cl) (ow := ow) HGD.out)
            have HB2 := Lib.hid (hb.trans ((belA wr (.cells #[.int .i64 (-1), .int .i64 0] 55)).mono hb.size))
            clear hb
            go_wp2_with fail
            go_roundg (ch.length - (i + 1))
            case measure => omega
            case rel => exact ⟨i + 1, by omega, rfl, by go_num, fun z hz => by
              by_cases e : z = i
              · subst e; exact HS.out
              · exact HALL.out z (by omega), HB2.out⟩
          · have hq : ∀ W, (binOp .eql 55 (.agg #[.int .i64 x, .int .i64 y]) (.agg #[.int .i64 (-1), .int .i64 0])).run Try.prog W = .ok (.bool false) W := fun W => by
              rw [run_eql_cho]
              have : ((x == -1) && (y == 0)) = false := by
                rw [← Bool.not_eq_true]; simp; exact fun h1 h2 => hs ⟨h1, h2⟩
              rw [this]
            have HS := Lib.hid hs
            clear hs
            have hjw := HJ.out.belowMore hb hb.size
            obtain ⟨jb, jo, va, n, jvc, s, rfl, hn, hs0, a0, a1⟩ := hjw.job_at hiL
            have HBAD := Lib.hid (show (x < 0 ∨ (n : Int) ≤ x ∨ y < s) → chosenB (L.map JobM.p) cl ow ch i = false from fun h => chosen_bad HGD.out HS.out (by rw [← hn, ← hs0]; exact h))
            have HNS := Lib.hid (And.intro hn hs0)
            have hbx := belA wr (.cells #[.int .i64 x, .int .i64 y] 55)
            have hnx := heap_alloc_new wr (.cells #[.int .i64 x, .int .i64 y] 55)
            have a0' := (hbx.cell (p := ⟨jb, jo + i * 2, none⟩) (cell_lt a0)).trans a0
            have a1' := (hbx.cell (p := ⟨jb, jo + i * 2 + 1, none⟩) (cell_lt a1)).trans a1
            have HJ3 := Lib.hid (hjw.belowMore hbx hbx.size)
            have HB3 := Lib.hid (hb.trans (hbx.mono hb.size))
            clear hn hs0 hjw a0 a1
            go_upto_region 7 with fail
            clear hq d0 d1 hbx hb
            generalize wr.alloc (.cells #[.int .i64 x, .int .i64 y] 55) = w3 at *
            generalize wr.heap.size = gd at *
            have c0 : w3.cell? ⟨gd, 0, none⟩ = some (.int .i64 x) := by rw [cell_of_row w3 _ 0 _ _ _ hnx]; rfl
            have c1 : w3.cell? ⟨gd, 1, none⟩ = some (.int .i64 y) := by rw [cell_of_row w3 _ 1 _ _ _ hnx]; rfl
            clear hnx
            by_cases r0 : x < 0
            · have HF := Lib.hid (HNO.out (HBAD.out (.inl r0)))
              have hd0 : decide (x < 0) = true := decide_eq_true r0
              clear r0
              go_quiet (fail)
              go_wp2_with fail
              go_ret
              exact ⟨ret_bool HF.out.symm, below_drewN HB3.out _⟩
            · by_cases r1 : (n : Int) ≤ x
              · have HF := Lib.hid (HNO.out (HBAD.out (.inr (.inl r1))))
                have hd0 : decide (x < 0) = false := decide_eq_false r0
                have hd1 : decide ((n : Int) ≤ x) = true := decide_eq_true r1
                clear r0 r1
                go_quiet (fail)
                go_wp2_with fail
                go_ret
                exact ⟨ret_bool HF.out.symm, below_drewN HB3.out _⟩
              · by_cases r2 : y < s
                · have HF := Lib.hid (HNO.out (HBAD.out (.inr (.inr r2))))
                  have hd0 : decide (x < 0) = false := decide_eq_false r0
                  have hd1 : decide ((n : Int) ≤ x) = false := decide_eq_false r1
                  have hd2 : decide (y < s) = true := decide_eq_true r2
                  clear r0 r1 r2
                  go_quiet (fail)
                  go_wp2_with fail
                  go_ret
                  exact ⟨ret_bool HF.out.symm, below_drewN HB3.out _⟩
                · obtain ⟨kk, rfl⟩ : ∃ kk : Nat, x = kk := ⟨x.toNat, by omega⟩
                  have hkk : kk < (jobAt (L.map JobM.p) i).opts.length := by have := HNS.out.1; omega
                  obtain ⟨jb2, jo2, ob, oo, nk, jvk, s1, uA, ucp, ust, vA, vcp, uos, hJ1, hnk, hs1, ho1, _, hin⟩ := HJ3.out.opt_in hiL hkk
                  injection hJ1 with hJ1; injection hJ1 with e1 e2 _
                  subst e1 e2
                  obtain ⟨_, b0, b1, b2, b3, hol⟩ := hin
                  have HOP := Lib.hid (show optAt (jobAt (L.map JobM.p) i) ((kk : Nat) : Int).toNat = ⟨ust, uos⟩ by rw [Int.toNat_natCast]; exact ho1)
                  have HIN := Lib.hid (show ((kk : Nat) : Int) < ((jobAt (L.map JobM.p) i).opts.length : Int) ∧ (jobAt (L.map JobM.p) i).start ≤ y by rw [← HNS.out.2]; omega)
                  obtain rfl : nk = n := by rw [hnk, HNS.out.1]
                  obtain rfl : s1 = s := by rw [hs1, HNS.out.2]
                  have j0 : (0 : Int) ≤ (kk : Int) := by omega
                  have j1 : (kk : Int) < (nk : Int) := by omega
                  have hd0 : decide ((kk : Int) < 0) = false := decide_eq_false r0
                  have hd1 : decide ((nk : Int) ≤ (kk : Int)) = false := decide_eq_false r1
                  have hd2 : decide (y < s1) = false := decide_eq_false r2
                  have HOL := Lib.hid hol
                  have hB0 : Below w3.heap.size w3 w3.drew := (Below.refl _ _).drew
                  have HAD := Lib.hid (fun V (b : Below w3.heap.size w3 V) => refAdmits_any CA cc cl WA wc ow uA ucp ust vA vcp uos y V (HCL.out.belowMore (HB3.out.trans (b.mono HB3.out.size)) (HB3.out.trans (b.mono HB3.out.size)).size) hcn (HOW.out.belowMore (HB3.out.trans (b.mono HB3.out.size)) (HB3.out.trans (b.mono HB3.out.size)).size) hwn
                    (HOL.out.st.belowMore b b.size) (HOL.out.oc.belowMore b b.size) HOL.out.sm HOL.out.om)
                  clear hnk hs1 ho1 hol r0 r1 r2 hkk HBAD a0' a1'
                  go_cut [73] (fun s73 wx => s73 = .bool (!(admitsB cl ow ⟨ust, uos⟩ y)) ∧ Below w3.heap.size w3 wx)
                  case first =>
                    have h0 : Below w3.heap.size w3 w3.drew ∧ w3.drew.cell? ⟨gd, 0, none⟩ = some (.int .i64 kk) ∧ w3.drew.cell? ⟨gd, 1, none⟩ = some (.int .i64 y) ∧ w3.drew.cell? ⟨jb, jo + i * 2, none⟩ = some (.int .i64 s1) ∧ w3.drew.cell? ⟨jb, jo + i * 2 + 1, none⟩ = some (.slice (some ⟨ob, oo, none⟩) nk jvk) ∧ w3.drew.cell? ⟨ob, oo + kk * 2, none⟩ = some (.slice uA ust.length ucp) ∧ w3.drew.cell? ⟨ob, oo + kk * 2 + 1, none⟩ = some (.slice vA uos.length vcp) := ⟨hB0, c0, c1, b0, b1, b2, b3⟩
                    refine wp_region_held_drew (S := fun w' => Below w3.heap.size w3 w' ∧ w'.cell? ⟨gd, 0, none⟩ = some (.int .i64 kk) ∧ w'.cell? ⟨gd, 1, none⟩ = some (.int .i64 y) ∧ w'.cell? ⟨jb, jo + i * 2, none⟩ = some (.int .i64 s1) ∧ w'.cell? ⟨jb, jo + i * 2 + 1, none⟩ = some (.slice (some ⟨ob, oo, none⟩) nk jvk) ∧ w'.cell? ⟨ob, oo + kk * 2, none⟩ = some (.slice uA ust.length ucp) ∧ w'.cell? ⟨ob, oo + kk * 2 + 1, none⟩ = some (.slice vA uos.length vcp)) (by kernel_rfl) h0 (fun _ => ?_)
                    refine wpAnyH_takeL (i := 0) (v := ?_) rfl (by kernel_rfl) (by kernel_rfl) (by kernel_rfl) (fun _ _ _ h => h) (Or.inl ⟨by rfl, ?_⟩) h0 ?_
                    rotate_left
                    · intro u hSu
                      obtain ⟨_, q0, q1, q2, q3, q4, q5⟩ := hSu
                      go_simp
                      try rfl
                    simp only [Act.put, List.setIfInBounds_toArray, List.set_cons_zero, List.set_cons_succ]
                    refine wpAnyH_takeL (i := 1) (v := ?_) rfl (by kernel_rfl) (by kernel_rfl) (by kernel_rfl) (fun _ _ _ h => h) (Or.inl ⟨by rfl, ?_⟩) h0 ?_
                    rotate_left
                    · intro u hSu
                      obtain ⟨_, q0, q1, q2, q3, q4, q5⟩ := hSu
                      go_simp
                      try rfl
                    simp only [Act.put, List.setIfInBounds_toArray, List.set_cons_zero, List.set_cons_succ]
                    refine wpAnyH_takeL (i := 2) (v := .bool false) rfl (by kernel_rfl) (by kernel_rfl) (by kernel_rfl) (fun _ _ _ h => h) (Or.inl ⟨by rfl, ?_⟩) h0 ?_
                    · intro u hSu
                      obtain ⟨_, q0, q1, q2, q3, q4, q5⟩ := hSu
                      go_simp
                      try (first | rfl | (simp only [hd0]; done) | (simp only [hd1]; done) | (simp only [hd2]; done) | (simp; done) | (simp; omega))
                    simp only [Act.put, List.setIfInBounds_toArray, List.set_cons_zero, List.set_cons_succ]
                    refine wpAnyH_takeL (i := 3) (v := ?_) rfl (by kernel_rfl) (by kernel_rfl) (by kernel_rfl) (fun _ _ _ h => h) (Or.inl ⟨by rfl, ?_⟩) h0 ?_
                    rotate_left
                    · intro u hSu
                      obtain ⟨_, q0, q1, q2, q3, q4, q5⟩ := hSu
                      go_simp
                      try rfl
                    simp only [Act.put, List.setIfInBounds_toArray, List.set_cons_zero, List.set_cons_succ]
                    refine wpAnyH_takeL (i := 4) (v := ?_) rfl (by kernel_rfl) (by kernel_rfl) (by kernel_rfl) (fun _ _ _ h => h) (Or.inl ⟨by rfl, ?_⟩) h0 ?_
                    rotate_left
                    · intro u hSu
                      obtain ⟨_, q0, q1, q2, q3, q4, q5⟩ := hSu
                      go_simp
                      try rfl
                    simp only [Act.put, List.setIfInBounds_toArray, List.set_cons_zero, List.set_cons_succ]
                    refine wpAnyH_takeL (i := 5) (v := ?_) rfl (by kernel_rfl) (by kernel_rfl) (by kernel_rfl) (fun _ _ _ h => h) (Or.inl ⟨by rfl, ?_⟩) h0 ?_
                    rotate_left
                    · intro u hSu
                      obtain ⟨_, q0, q1, q2, q3, q4, q5⟩ := hSu
                      go_simp
                      try rfl
                    simp only [Act.put, List.setIfInBounds_toArray, List.set_cons_zero, List.set_cons_succ]
                    refine wpAnyH_takeL (i := 6) (v := ?_) rfl (by kernel_rfl) (by kernel_rfl) (by kernel_rfl) (fun _ _ _ h => h) (Or.inl ⟨by rfl, ?_⟩) h0 ?_
                    rotate_left
                    · intro u hSu
                      obtain ⟨_, q0, q1, q2, q3, q4, q5⟩ := hSu
                      go_simp
                      try rfl
                    simp only [Act.put, List.setIfInBounds_toArray, List.set_cons_zero, List.set_cons_succ]
                    refine wpAnyH_takeL (i := 7) (v := ?_) rfl (by kernel_rfl) (by kernel_rfl) (by kernel_rfl) (fun _ _ _ h => h) (Or.inl ⟨by rfl, ?_⟩) h0 ?_
                    rotate_left
                    · intro u hSu
                      obtain ⟨_, q0, q1, q2, q3, q4, q5⟩ := hSu
                      go_simp
                      try rfl
                    simp only [Act.put, List.setIfInBounds_toArray, List.set_cons_zero, List.set_cons_succ]
                    refine wpAnyH_takeL (i := 8) (v := ?_) rfl (by kernel_rfl) (by kernel_rfl) (by kernel_rfl) (fun _ _ _ h => h) (Or.inl ⟨by rfl, ?_⟩) h0 ?_
                    rotate_left
                    · intro u hSu
                      obtain ⟨_, q0, q1, q2, q3, q4, q5⟩ := hSu
                      go_simp
                      try rfl
                    simp only [Act.put, List.setIfInBounds_toArray, List.set_cons_zero, List.set_cons_succ]
                    refine wpAnyH_takeL (i := 9) (v := ?_) rfl (by kernel_rfl) (by kernel_rfl) (by kernel_rfl) (fun _ _ _ h => h) (Or.inl ⟨by rfl, ?_⟩) h0 ?_
                    rotate_left
                    · intro u hSu
                      obtain ⟨_, q0, q1, q2, q3, q4, q5⟩ := hSu
                      go_simp
                      try rfl
                    simp only [Act.put, List.setIfInBounds_toArray, List.set_cons_zero, List.set_cons_succ]
                    refine wpAnyH_takeL (i := 10) (v := ?_) rfl (by kernel_rfl) (by kernel_rfl) (by kernel_rfl) (fun _ _ _ h => h) (Or.inl ⟨by rfl, ?_⟩) h0 ?_
                    rotate_left
                    · intro u hSu
                      obtain ⟨_, q0, q1, q2, q3, q4, q5⟩ := hSu
                      go_simp
                      try rfl
                    simp only [Act.put, List.setIfInBounds_toArray, List.set_cons_zero, List.set_cons_succ]
                    refine wpAnyH_takeL (i := 11) (v := ?_) rfl (by kernel_rfl) (by kernel_rfl) (by kernel_rfl) (fun _ _ _ h => h) (Or.inl ⟨by rfl, ?_⟩) h0 ?_
                    rotate_left
                    · intro u hSu
                      obtain ⟨_, q0, q1, q2, q3, q4, q5⟩ := hSu
                      go_simp
                      try rfl
                    simp only [Act.put, List.setIfInBounds_toArray, List.set_cons_zero, List.set_cons_succ]
                    refine wpAnyH_takeL (i := 12) (v := .bool false) rfl (by kernel_rfl) (by kernel_rfl) (by kernel_rfl) (fun _ _ _ h => h) (Or.inl ⟨by rfl, ?_⟩) h0 ?_
                    · intro u hSu
                      obtain ⟨_, q0, q1, q2, q3, q4, q5⟩ := hSu
                      go_simp
                      try (first | rfl | (simp only [hd0]; done) | (simp only [hd1]; done) | (simp only [hd2]; done) | (simp; done) | (simp; omega))
                    simp only [Act.put, List.setIfInBounds_toArray, List.set_cons_zero, List.set_cons_succ]
                    refine wpAnyH_takeL (i := 13) (v := ?_) rfl (by kernel_rfl) (by kernel_rfl) (by kernel_rfl) (fun _ _ _ h => h) (Or.inl ⟨by rfl, ?_⟩) h0 ?_
                    rotate_left
                    · intro u hSu
                      obtain ⟨_, q0, q1, q2, q3, q4, q5⟩ := hSu
                      go_simp
                      try rfl
                    simp only [Act.put, List.setIfInBounds_toArray, List.set_cons_zero, List.set_cons_succ]
                    refine wpAnyH_takeL (i := 14) (v := ?_) rfl (by kernel_rfl) (by kernel_rfl) (by kernel_rfl) (fun _ _ _ h => h) (Or.inl ⟨by rfl, ?_⟩) h0 ?_
                    rotate_left
                    · intro u hSu
                      obtain ⟨_, q0, q1, q2, q3, q4, q5⟩ := hSu
                      go_simp
                      try rfl
                    simp only [Act.put, List.setIfInBounds_toArray, List.set_cons_zero, List.set_cons_succ]
                    refine wpAnyH_takeL (i := 15) (v := ?_) rfl (by kernel_rfl) (by kernel_rfl) (by kernel_rfl) (fun _ _ _ h => h) (Or.inl ⟨by rfl, ?_⟩) h0 ?_
                    rotate_left
                    · intro u hSu
                      obtain ⟨_, q0, q1, q2, q3, q4, q5⟩ := hSu
                      go_simp
                      try rfl
                    simp only [Act.put, List.setIfInBounds_toArray, List.set_cons_zero, List.set_cons_succ]
                    refine wpAnyH_takeL (i := 16) (v := ?_) rfl (by kernel_rfl) (by kernel_rfl) (by kernel_rfl) (fun _ _ _ h => h) (Or.inl ⟨by rfl, ?_⟩) h0 ?_
                    rotate_left
                    · intro u hSu
                      obtain ⟨_, q0, q1, q2, q3, q4, q5⟩ := hSu
                      go_simp
                      try rfl
                    simp only [Act.put, List.setIfInBounds_toArray, List.set_cons_zero, List.set_cons_succ]
                    refine wpAnyH_takeL (i := 17) (v := ?_) rfl (by kernel_rfl) (by kernel_rfl) (by kernel_rfl) (fun _ _ _ h => h) (Or.inl ⟨by rfl, ?_⟩) h0 ?_
                    rotate_left
                    · intro u hSu
                      obtain ⟨_, q0, q1, q2, q3, q4, q5⟩ := hSu
                      go_simp
                      try rfl
                    simp only [Act.put, List.setIfInBounds_toArray, List.set_cons_zero, List.set_cons_succ]
                    refine wpAnyH_takeL (i := 18) (v := ?_) rfl (by kernel_rfl) (by kernel_rfl) (by kernel_rfl) (fun _ _ _ h => h) (Or.inl ⟨by rfl, ?_⟩) h0 ?_
                    rotate_left
                    · intro u hSu
                      obtain ⟨_, q0, q1, q2, q3, q4, q5⟩ := hSu
                      go_simp
                      try rfl
                    simp only [Act.put, List.setIfInBounds_toArray, List.set_cons_zero, List.set_cons_succ]
                    refine wpAnyH_takeL (i := 19) (v := ?_) rfl (by kernel_rfl) (by kernel_rfl) (by kernel_rfl) (fun _ _ _ h => h) (Or.inl ⟨by rfl, ?_⟩) h0 ?_
                    rotate_left
                    · intro u hSu
                      obtain ⟨_, q0, q1, q2, q3, q4, q5⟩ := hSu
                      go_simp
                      try rfl
                    simp only [Act.put, List.setIfInBounds_toArray, List.set_cons_zero, List.set_cons_succ]
                    refine wpAnyH_takeL (i := 20) (v := ?_) rfl (by kernel_rfl) (by kernel_rfl) (by kernel_rfl) (fun _ _ _ h => h) (Or.inl ⟨by rfl, ?_⟩) h0 ?_
                    rotate_left
                    · intro u hSu
                      obtain ⟨_, q0, q1, q2, q3, q4, q5⟩ := hSu
                      go_simp
                      try rfl
                    simp only [Act.put, List.setIfInBounds_toArray, List.set_cons_zero, List.set_cons_succ]
                    refine wpAnyH_takeL (i := 21) (v := ?_) rfl (by kernel_rfl) (by kernel_rfl) (by kernel_rfl) (fun _ _ _ h => h) (Or.inl ⟨by rfl, ?_⟩) h0 ?_
                    rotate_left
                    · intro u hSu
                      obtain ⟨_, q0, q1, q2, q3, q4, q5⟩ := hSu
                      go_simp
                      try rfl
                    simp only [Act.put, List.setIfInBounds_toArray, List.set_cons_zero, List.set_cons_succ]
                    refine wpAnyH_takeL (i := 22) (v := .bool false) rfl (by kernel_rfl) (by kernel_rfl) (by kernel_rfl) (fun _ _ _ h => h) (Or.inl ⟨by rfl, ?_⟩) h0 ?_
                    · intro u hSu
                      obtain ⟨_, q0, q1, q2, q3, q4, q5⟩ := hSu
                      go_simp
                      try (first | rfl | (simp only [hd0]; done) | (simp only [hd1]; done) | (simp only [hd2]; done) | (simp; done) | (simp; omega))
                    simp only [Act.put, List.setIfInBounds_toArray, List.set_cons_zero, List.set_cons_succ]
                    refine wpAnyH_takeL (i := 23) (v := ?_) rfl (by kernel_rfl) (by kernel_rfl) (by kernel_rfl) (fun _ _ _ h => h) (Or.inl ⟨by rfl, ?_⟩) h0 ?_
                    rotate_left
                    · intro u hSu
                      obtain ⟨_, q0, q1, q2, q3, q4, q5⟩ := hSu
                      go_simp
                      try rfl
                    simp only [Act.put, List.setIfInBounds_toArray, List.set_cons_zero, List.set_cons_succ]
                    refine wpAnyH_takeL (i := 24) (v := ?_) rfl (by kernel_rfl) (by kernel_rfl) (by kernel_rfl) (fun _ _ _ h => h) (Or.inl ⟨by rfl, ?_⟩) h0 ?_
                    rotate_left
                    · intro u hSu
                      obtain ⟨_, q0, q1, q2, q3, q4, q5⟩ := hSu
                      go_simp
                      try rfl
                    simp only [Act.put, List.setIfInBounds_toArray, List.set_cons_zero, List.set_cons_succ]
                    refine wpAnyH_takeL (i := 25) (v := ?_) rfl (by kernel_rfl) (by kernel_rfl) (by kernel_rfl) (fun _ _ _ h => h) (Or.inl ⟨by rfl, ?_⟩) h0 ?_
                    rotate_left
                    · intro u hSu
                      obtain ⟨_, q0, q1, q2, q3, q4, q5⟩ := hSu
                      go_simp
                      try rfl
                    simp only [Act.put, List.setIfInBounds_toArray, List.set_cons_zero, List.set_cons_succ]
                    refine wpAnyH_takeL (i := 26) (v := ?_) rfl (by kernel_rfl) (by kernel_rfl) (by kernel_rfl) (fun _ _ _ h => h) (Or.inl ⟨by rfl, ?_⟩) h0 ?_
                    rotate_left
                    · intro u hSu
                      obtain ⟨_, q0, q1, q2, q3, q4, q5⟩ := hSu
                      go_simp
                      try rfl
                    simp only [Act.put, List.setIfInBounds_toArray, List.set_cons_zero, List.set_cons_succ]
                    refine wpAnyH_takeL (i := 27) (v := ?_) rfl (by kernel_rfl) (by kernel_rfl) (by kernel_rfl) (fun _ _ _ h => h) (Or.inl ⟨by rfl, ?_⟩) h0 ?_
                    rotate_left
                    · intro u hSu
                      obtain ⟨_, q0, q1, q2, q3, q4, q5⟩ := hSu
                      go_simp
                      try rfl
                    simp only [Act.put, List.setIfInBounds_toArray, List.set_cons_zero, List.set_cons_succ]
                    refine wpAnyH_takeL (i := 28) (v := ?_) rfl (by kernel_rfl) (by kernel_rfl) (by kernel_rfl) (fun _ _ _ h => h) (Or.inl ⟨by rfl, ?_⟩) h0 ?_
                    rotate_left
                    · intro u hSu
                      obtain ⟨_, q0, q1, q2, q3, q4, q5⟩ := hSu
                      go_simp
                      try rfl
                    simp only [Act.put, List.setIfInBounds_toArray, List.set_cons_zero, List.set_cons_succ]
                    refine wpAnyH_takeL (i := 29) (v := ?_) rfl (by kernel_rfl) (by kernel_rfl) (by kernel_rfl) (fun _ _ _ h => h) (Or.inl ⟨by rfl, ?_⟩) h0 ?_
                    rotate_left
                    · intro u hSu
                      obtain ⟨_, q0, q1, q2, q3, q4, q5⟩ := hSu
                      go_simp
                      try rfl
                    simp only [Act.put, List.setIfInBounds_toArray, List.set_cons_zero, List.set_cons_succ]
                    refine wpAnyH_takeL (i := 30) (v := ?_) rfl (by kernel_rfl) (by kernel_rfl) (by kernel_rfl) (fun _ _ _ h => h) (Or.inl ⟨by rfl, ?_⟩) h0 ?_
                    rotate_left
                    · intro u hSu
                      obtain ⟨_, q0, q1, q2, q3, q4, q5⟩ := hSu
                      go_simp
                      try rfl
                    simp only [Act.put, List.setIfInBounds_toArray, List.set_cons_zero, List.set_cons_succ]
                    refine wpAnyH_takeL (i := 31) (v := ?_) rfl (by kernel_rfl) (by kernel_rfl) (by kernel_rfl) (fun _ _ _ h => h) (Or.inl ⟨by rfl, ?_⟩) h0 ?_
                    rotate_left
                    · intro u hSu
                      obtain ⟨_, q0, q1, q2, q3, q4, q5⟩ := hSu
                      go_simp
                      try rfl
                    simp only [Act.put, List.setIfInBounds_toArray, List.set_cons_zero, List.set_cons_succ]
                    refine wpAnyH_takeL (i := 32) (v := ?_) rfl (by kernel_rfl) (by kernel_rfl) (by kernel_rfl) (fun _ _ _ h => h) (Or.inl ⟨by rfl, ?_⟩) h0 ?_
                    rotate_left
                    · intro u hSu
                      obtain ⟨_, q0, q1, q2, q3, q4, q5⟩ := hSu
                      go_simp
                      try rfl
                    simp only [Act.put, List.setIfInBounds_toArray, List.set_cons_zero, List.set_cons_succ]
                    refine wpAnyH_takeL (i := 33) (v := ?_) rfl (by kernel_rfl) (by kernel_rfl) (by kernel_rfl) (fun _ _ _ h => h) (Or.inl ⟨by rfl, ?_⟩) h0 ?_
                    rotate_left
                    · intro u hSu
                      obtain ⟨_, q0, q1, q2, q3, q4, q5⟩ := hSu
                      go_simp
                      try rfl
                    simp only [Act.put, List.setIfInBounds_toArray, List.set_cons_zero, List.set_cons_succ]
                    refine wpAnyH_takeL (i := 34) (v := ?_) rfl (by kernel_rfl) (by kernel_rfl) (by kernel_rfl) (fun _ _ _ h => h) (Or.inl ⟨by rfl, ?_⟩) h0 ?_
                    rotate_left
                    · intro u hSu
                      obtain ⟨_, q0, q1, q2, q3, q4, q5⟩ := hSu
                      go_simp
                      try rfl
                    simp only [Act.put, List.setIfInBounds_toArray, List.set_cons_zero, List.set_cons_succ]
                    refine wpAnyH_takeL (i := 35) (v := ?_) rfl (by kernel_rfl) (by kernel_rfl) (by kernel_rfl) (fun _ _ _ h => h) (Or.inl ⟨by rfl, ?_⟩) h0 ?_
                    rotate_left
                    · intro u hSu
                      obtain ⟨_, q0, q1, q2, q3, q4, q5⟩ := hSu
                      go_simp
                      try rfl
                    simp only [Act.put, List.setIfInBounds_toArray, List.set_cons_zero, List.set_cons_succ]
                    refine wpAnyH_takeL (i := 36) (v := ?_) rfl (by kernel_rfl) (by kernel_rfl) (by kernel_rfl) (fun _ _ _ h => h) (Or.inl ⟨by rfl, ?_⟩) h0 ?_
                    rotate_left
                    · intro u hSu
                      obtain ⟨_, q0, q1, q2, q3, q4, q5⟩ := hSu
                      go_simp
                      try rfl
                    simp only [Act.put, List.setIfInBounds_toArray, List.set_cons_zero, List.set_cons_succ]
                    refine wpAnyH_takeL (i := 37) (v := ?_) rfl (by kernel_rfl) (by kernel_rfl) (by kernel_rfl) (fun _ _ _ h => h) (Or.inl ⟨by rfl, ?_⟩) h0 ?_
                    rotate_left
                    · intro u hSu
                      obtain ⟨_, q0, q1, q2, q3, q4, q5⟩ := hSu
                      go_simp
                      try rfl
                    simp only [Act.put, List.setIfInBounds_toArray, List.set_cons_zero, List.set_cons_succ]
                    refine wpAnyH_ready (rs := [38]) (by kernel_rfl) (by simp) ?_
                    refine readyL rfl (fun K hK => ?_) AllReadyH.nil
                    go_simp
                    refine (HAD.out _ h0.1).mono ?_
                    rintro e w' ⟨rfl, hb'⟩
                    obtain ⟨hB1, q0, q1, q2, q3, q4, q5⟩ := h0
                    have h1 := And.intro (hB1.trans (hb'.mono hB1.size)) (And.intro ((hb'.cell (p := ⟨gd, 0, none⟩) (cell_lt q0)).trans q0) (And.intro ((hb'.cell (p := ⟨gd, 1, none⟩) (cell_lt q1)).trans q1) (And.intro ((hb'.cell (p := ⟨jb, jo + i * 2, none⟩) (cell_lt q2)).trans q2) (And.intro ((hb'.cell (p := ⟨jb, jo + i * 2 + 1, none⟩) (cell_lt q3)).trans q3) (And.intro ((hb'.cell (p := ⟨ob, oo + kk * 2, none⟩) (cell_lt q4)).trans q4) ((hb'.cell (p := ⟨ob, oo + kk * 2 + 1, none⟩) (cell_lt q5)).trans q5))))))
                    refine hK.out _ _ h1 (fun _ => ?_)
                    clear hK K q0 q1 q2 q3 q4 q5
                    have h0 := h1
                    clear h1
                    try simp only [Act.put, List.setIfInBounds_toArray, List.set_cons_zero, List.set_cons_succ]
                    refine wpAnyH_takeL (i := 39) (v := ?_) rfl (by kernel_rfl) (by kernel_rfl) (by kernel_rfl) (fun _ _ _ h => h) (Or.inl ⟨by rfl, ?_⟩) h0 ?_
                    rotate_left
                    · intro u hSu
                      obtain ⟨_, q0, q1, q2, q3, q4, q5⟩ := hSu
                      go_simp
                      try rfl
                    simp only [Act.put, List.setIfInBounds_toArray, List.set_cons_zero, List.set_cons_succ]
                    refine wpAnyH_takeL (i := 40) (v := ?_) rfl (by kernel_rfl) (by kernel_rfl) (by kernel_rfl) (fun _ _ _ h => h) (Or.inl ⟨by rfl, ?_⟩) h0 ?_
                    rotate_left
                    · intro u hSu
                      obtain ⟨_, q0, q1, q2, q3, q4, q5⟩ := hSu
                      go_simp
                      try rfl
                    simp only [Act.put, List.setIfInBounds_toArray, List.set_cons_zero, List.set_cons_succ]
                    refine wpAnyH_done (by kernel_rfl) ?_ _
                    go_wp2_with fail
                    go_meet
                    exact ⟨rfl, h0.1⟩
                  case rest =>
                    obtain ⟨rfl, hbc⟩ := hcut
                    obtain ⟨Wc, rfl⟩ : ∃ W : World, W = wc := ⟨_, rfl⟩
                    have HBW := Lib.hid (HB3.out.trans (hbc.mono HB3.out.size))
                    cases had : admitsB cl ow ⟨ust, uos⟩ y with
                    | false =>
                      have HF := Lib.hid (HNO.out (chosen_adm HGD.out HS.out (by rw [HOP.out]; exact had)))
                      clear had hbc hB0 HAD
                      go_wp2_with fail
                      go_ret
                      exact ⟨ret_bool HF.out.symm, HBW.out⟩
                    | true =>
                      have HADM := Lib.hid had
                      have i3 : (i : Int) ≤ (kc : Int) := by omega
                      replace c0 := (hbc.cell (p := ⟨gd, 0, none⟩) (cell_lt c0)).trans c0
                      replace c1 := (hbc.cell (p := ⟨gd, 1, none⟩) (cell_lt c1)).trans c1
                      replace b1 := (hbc.cell (p := ⟨jb, jo + i * 2 + 1, none⟩) (cell_lt b1)).trans b1
                      replace b2 := (hbc.cell (p := ⟨ob, oo + kk * 2, none⟩) (cell_lt b2)).trans b2
                      replace b3 := (hbc.cell (p := ⟨ob, oo + kk * 2 + 1, none⟩) (cell_lt b3)).trans b3
                      have HOC := Lib.hid (HOL.out.belowMore hbc hbc.size)
                      clear had hbc hB0 HAD b0 hd0 hd1 hd2
                      go_wp2_with fail
                      go_loopg [78] i (fun g s78 wr2 => ∃ k : Nat, k ≤ i ∧ g = i - k ∧ s78 = .int .i64 k ∧ (∀ z, z < k → clearB (L.map JobM.p) ch i z = true) ∧ Below Wc.heap.size Wc wr2)
                      case atStart => exact ⟨0, by omega, by omega, rfl, fun z hz => by omega, Below.refl _ _⟩
                      case round =>
                        obtain ⟨k, hk, hg2, rfl, hcl2, hb2⟩ := hrel
                        have HC2 := Lib.hid hcl2
                        clear hcl2
                        by_cases hlt2 : k < i
                        · have hbk := HBW.out.trans (hb2.mono HBW.out.size)
                          obtain ⟨kb', ko', dx, dy, hKA, hgk, f0, f1⟩ := (HCH.out.belowMore hbk hbk.size).ch_at (i := k) (by omega)
                          injection hKA with hKA; injection hKA with hK1 hK2 _
                          subst hK1 hK2
                          have hrng := chosen_range (HALL.out k hlt2)
                          rw [hgk] at hrng
                          have HGK := Lib.hid hgk
                          clear hgk
                          have k0 : (0 : Int) ≤ (k : Int) := by omega
                          have k1 : (k : Int) < (i : Int) := by omega
                          have hbx := belA wr (.cells #[.int .i64 dx, .int .i64 dy] 55)
                          have hnx := heap_alloc_new wr (.cells #[.int .i64 dx, .int .i64 dy] 55)
                          have hB5 := hb2.trans (hbx.mono hb2.size)
                          have HB5 := Lib.hid hB5
                          by_cases hneg : dx < 0
                          · have HCK := Lib.hid (show clearB (L.map JobM.p) ch i k = true by unfold clearB; rw [HGK.out, decide_eq_true (show ((dx, dy) : Cho).1 < 0 from hneg)]; rfl)
                            have hd : decide ((0 : Int) ≤ dx) = false := decide_eq_false (by omega)
                            clear hneg hrng
                            go_upto_region 12 with fail
                            generalize wr.alloc (.cells #[.int .i64 dx, .int .i64 dy] 55) = w5 at *
                            generalize wr.heap.size = g5 at *
                            have h50 : w5.cell? ⟨g5, 0, none⟩ = some (.int .i64 dx) := by rw [cell_of_row w5 _ 0 _ _ _ hnx]; rfl
                            clear hnx hbx hB5 f0 f1
                            go_quiet (fail)
                            go_wp2_with fail
                            go_roundg (i - (k + 1))
                            case measure => omega
                            case rel => exact ⟨k + 1, by omega, rfl, by go_num, fun z hz => by
                              by_cases e : z = k
                              · subst e; exact HCK.out
                              · exact HC2.out z (by omega), below_drewN HB5.out _⟩
                          · obtain ⟨k2, hk2, hk2l⟩ := hrng.resolve_left hneg
                            simp only at hk2
                            subst hk2
                            obtain ⟨jb2, jo2, pb, po, nk2, jvk2, s2, xA, xcp, xst, yA, ycp, yos, hJ2, hnk2, _, ho2, _, hin2⟩ := (HJ.out.belowMore hbk hbk.size).opt_in (i := k) (by omega) hk2l
                            injection hJ2 with hJ2; injection hJ2 with e1 e2 _
                            subst e1 e2
                            have HUP := Lib.hid (show optAt (jobAt (L.map JobM.p) k) ((k2 : Nat) : Int).toNat = ⟨xst, yos⟩ by rw [Int.toNat_natCast]; exact ho2)
                            obtain ⟨hkn2, _, p1, p2, p3, hol2⟩ := hin2.below hbx (Nat.le_refl _) hbx _ hbx.size
                            have l0 : (0 : Int) ≤ (k2 : Int) := by omega
                            have l1 : (k2 : Int) < (nk2 : Int) := by omega
                            have l2 : (k : Int) < (L.length : Int) := by omega
                            have hd : decide ((0 : Int) ≤ (k2 : Int)) = true := decide_eq_true l0
                            have hOx := HOC.out.belowMore hB5 hB5.size
                            have v3 := (hB5.cell (p := ⟨gd, 0, none⟩) (cell_lt c0)).trans c0
                            have v4 := (hB5.cell (p := ⟨gd, 1, none⟩) (cell_lt c1)).trans c1
                            have v5 := (hB5.cell (p := ⟨jb, jo + i * 2 + 1, none⟩) (cell_lt b1)).trans b1
                            have v6 := (hB5.cell (p := ⟨ob, oo + kk * 2, none⟩) (cell_lt b2)).trans b2
                            have v7 := (hB5.cell (p := ⟨ob, oo + kk * 2 + 1, none⟩) (cell_lt b3)).trans b3
                            clear hrng hneg hk2l hnk2 ho2 hin2 hkn2
                            go_upto_region 12 with fail
                            clear f0 f1 hbx hb2 hB5 hbk
                            generalize wr.alloc (.cells #[.int .i64 k2, .int .i64 dy] 55) = w5 at *
                            generalize wr.heap.size = g5 at *
                            have v8 : w5.cell? ⟨g5, 0, none⟩ = some (.int .i64 k2) := by rw [cell_of_row w5 _ 0 _ _ _ hnx]; rfl
                            have v9 : w5.cell? ⟨g5, 1, none⟩ = some (.int .i64 dy) := by rw [cell_of_row w5 _ 1 _ _ _ hnx]; rfl
                            have HMT := Lib.hid (fun V (b : Below w5.heap.size w5 V) => refMeets_any xA xcp xst yA ycp yos dy uA ucp ust vA vcp uos y V (hol2.st.belowMore b b.size) (hol2.oc.belowMore b b.size) hol2.sm hol2.om (hOx.st.belowMore b b.size) (hOx.oc.belowMore b b.size) hOx.sm hOx.om)
                            have hB0 : Below w5.heap.size w5 w5.drew := (Below.refl _ _).drew
                            clear hnx hOx hol2
                            go_cut [110] (fun s110 wx => s110 = .bool (meetB ⟨xst, yos⟩ dy ⟨ust, uos⟩ y) ∧ Below w5.heap.size w5 wx)
                            case first =>
                              refine wp_region_held_drew (S := fun w' => Below w5.heap.size w5 w' ∧ w'.cell? ⟨gd, 0, none⟩ = some (.int .i64 kk) ∧ w'.cell? ⟨gd, 1, none⟩ = some (.int .i64 y) ∧ w'.cell? ⟨jb, jo + i * 2 + 1, none⟩ = some (.slice (some ⟨ob, oo, none⟩) nk jvk) ∧ w'.cell? ⟨ob, oo + kk * 2, none⟩ = some (.slice uA ust.length ucp) ∧ w'.cell? ⟨ob, oo + kk * 2 + 1, none⟩ = some (.slice vA uos.length vcp) ∧ w'.cell? ⟨jb, jo + k * 2 + 1, none⟩ = some (.slice (some ⟨pb, po, none⟩) nk2 jvk2) ∧ w'.cell? ⟨pb, po + k2 * 2, none⟩ = some (.slice xA xst.length xcp) ∧ w'.cell? ⟨pb, po + k2 * 2 + 1, none⟩ = some (.slice yA yos.length ycp) ∧ w'.cell? ⟨g5, 0, none⟩ = some (.int .i64 k2) ∧ w'.cell? ⟨g5, 1, none⟩ = some (.int .i64 dy)) (by kernel_rfl) ⟨hB0, v3, v4, v5, v6, v7, p1, p2, p3, v8, v9⟩ (fun h0 => ?_)
                              refine wpAnyH_takeL (i := 0) (v := ?_) rfl (by kernel_rfl) (by kernel_rfl) (by kernel_rfl) (fun _ _ _ h => h) (Or.inl ⟨by rfl, ?_⟩) h0 ?_
                              rotate_left
                              · intro u hSu
                                obtain ⟨_, q0, q1, q2, q3, q4, q5, q6, q7, q8, q9⟩ := hSu
                                go_simp
                                try rfl
                              simp only [Act.put, List.setIfInBounds_toArray, List.set_cons_zero, List.set_cons_succ]
                              refine wpAnyH_takeL (i := 1) (v := ?_) rfl (by kernel_rfl) (by kernel_rfl) (by kernel_rfl) (fun _ _ _ h => h) (Or.inl ⟨by rfl, ?_⟩) h0 ?_
                              rotate_left
                              · intro u hSu
                                obtain ⟨_, q0, q1, q2, q3, q4, q5, q6, q7, q8, q9⟩ := hSu
                                go_simp
                                try rfl
                              simp only [Act.put, List.setIfInBounds_toArray, List.set_cons_zero, List.set_cons_succ]
                              refine wpAnyH_takeL (i := 2) (v := ?_) rfl (by kernel_rfl) (by kernel_rfl) (by kernel_rfl) (fun _ _ _ h => h) (Or.inl ⟨by rfl, ?_⟩) h0 ?_
                              rotate_left
                              · intro u hSu
                                obtain ⟨_, q0, q1, q2, q3, q4, q5, q6, q7, q8, q9⟩ := hSu
                                go_simp
                                try rfl
                              simp only [Act.put, List.setIfInBounds_toArray, List.set_cons_zero, List.set_cons_succ]
                              refine wpAnyH_takeL (i := 3) (v := ?_) rfl (by kernel_rfl) (by kernel_rfl) (by kernel_rfl) (fun _ _ _ h => h) (Or.inl ⟨by rfl, ?_⟩) h0 ?_
                              rotate_left
                              · intro u hSu
                                obtain ⟨_, q0, q1, q2, q3, q4, q5, q6, q7, q8, q9⟩ := hSu
                                go_simp
                                try rfl
                              simp only [Act.put, List.setIfInBounds_toArray, List.set_cons_zero, List.set_cons_succ]
                              refine wpAnyH_takeL (i := 4) (v := ?_) rfl (by kernel_rfl) (by kernel_rfl) (by kernel_rfl) (fun _ _ _ h => h) (Or.inl ⟨by rfl, ?_⟩) h0 ?_
                              rotate_left
                              · intro u hSu
                                obtain ⟨_, q0, q1, q2, q3, q4, q5, q6, q7, q8, q9⟩ := hSu
                                go_simp
                                try rfl
                              simp only [Act.put, List.setIfInBounds_toArray, List.set_cons_zero, List.set_cons_succ]
                              refine wpAnyH_takeL (i := 5) (v := ?_) rfl (by kernel_rfl) (by kernel_rfl) (by kernel_rfl) (fun _ _ _ h => h) (Or.inl ⟨by rfl, ?_⟩) h0 ?_
                              rotate_left
                              · intro u hSu
                                obtain ⟨_, q0, q1, q2, q3, q4, q5, q6, q7, q8, q9⟩ := hSu
                                go_simp
                                try rfl
                              simp only [Act.put, List.setIfInBounds_toArray, List.set_cons_zero, List.set_cons_succ]
                              refine wpAnyH_takeL (i := 6) (v := ?_) rfl (by kernel_rfl) (by kernel_rfl) (by kernel_rfl) (fun _ _ _ h => h) (Or.inl ⟨by rfl, ?_⟩) h0 ?_
                              rotate_left
                              · intro u hSu
                                obtain ⟨_, q0, q1, q2, q3, q4, q5, q6, q7, q8, q9⟩ := hSu
                                go_simp
                                try rfl
                              simp only [Act.put, List.setIfInBounds_toArray, List.set_cons_zero, List.set_cons_succ]
                              refine wpAnyH_takeL (i := 7) (v := ?_) rfl (by kernel_rfl) (by kernel_rfl) (by kernel_rfl) (fun _ _ _ h => h) (Or.inl ⟨by rfl, ?_⟩) h0 ?_
                              rotate_left
                              · intro u hSu
                                obtain ⟨_, q0, q1, q2, q3, q4, q5, q6, q7, q8, q9⟩ := hSu
                                go_simp
                                try rfl
                              simp only [Act.put, List.setIfInBounds_toArray, List.set_cons_zero, List.set_cons_succ]
                              refine wpAnyH_takeL (i := 8) (v := ?_) rfl (by kernel_rfl) (by kernel_rfl) (by kernel_rfl) (fun _ _ _ h => h) (Or.inl ⟨by rfl, ?_⟩) h0 ?_
                              rotate_left
                              · intro u hSu
                                obtain ⟨_, q0, q1, q2, q3, q4, q5, q6, q7, q8, q9⟩ := hSu
                                go_simp
                                try rfl
                              simp only [Act.put, List.setIfInBounds_toArray, List.set_cons_zero, List.set_cons_succ]
                              refine wpAnyH_takeL (i := 9) (v := ?_) rfl (by kernel_rfl) (by kernel_rfl) (by kernel_rfl) (fun _ _ _ h => h) (Or.inl ⟨by rfl, ?_⟩) h0 ?_
                              rotate_left
                              · intro u hSu
                                obtain ⟨_, q0, q1, q2, q3, q4, q5, q6, q7, q8, q9⟩ := hSu
                                go_simp
                                try rfl
                              simp only [Act.put, List.setIfInBounds_toArray, List.set_cons_zero, List.set_cons_succ]
                              refine wpAnyH_takeL (i := 10) (v := ?_) rfl (by kernel_rfl) (by kernel_rfl) (by kernel_rfl) (fun _ _ _ h => h) (Or.inl ⟨by rfl, ?_⟩) h0 ?_
                              rotate_left
                              · intro u hSu
                                obtain ⟨_, q0, q1, q2, q3, q4, q5, q6, q7, q8, q9⟩ := hSu
                                go_simp
                                try rfl
                              simp only [Act.put, List.setIfInBounds_toArray, List.set_cons_zero, List.set_cons_succ]
                              refine wpAnyH_takeL (i := 11) (v := ?_) rfl (by kernel_rfl) (by kernel_rfl) (by kernel_rfl) (fun _ _ _ h => h) (Or.inl ⟨by rfl, ?_⟩) h0 ?_
                              rotate_left
                              · intro u hSu
                                obtain ⟨_, q0, q1, q2, q3, q4, q5, q6, q7, q8, q9⟩ := hSu
                                go_simp
                                try rfl
                              simp only [Act.put, List.setIfInBounds_toArray, List.set_cons_zero, List.set_cons_succ]
                              refine wpAnyH_takeL (i := 12) (v := ?_) rfl (by kernel_rfl) (by kernel_rfl) (by kernel_rfl) (fun _ _ _ h => h) (Or.inl ⟨by rfl, ?_⟩) h0 ?_
                              rotate_left
                              · intro u hSu
                                obtain ⟨_, q0, q1, q2, q3, q4, q5, q6, q7, q8, q9⟩ := hSu
                                go_simp
                                try rfl
                              simp only [Act.put, List.setIfInBounds_toArray, List.set_cons_zero, List.set_cons_succ]
                              refine wpAnyH_takeL (i := 13) (v := ?_) rfl (by kernel_rfl) (by kernel_rfl) (by kernel_rfl) (fun _ _ _ h => h) (Or.inl ⟨by rfl, ?_⟩) h0 ?_
                              rotate_left
                              · intro u hSu
                                obtain ⟨_, q0, q1, q2, q3, q4, q5, q6, q7, q8, q9⟩ := hSu
                                go_simp
                                try rfl
                              simp only [Act.put, List.setIfInBounds_toArray, List.set_cons_zero, List.set_cons_succ]
                              refine wpAnyH_takeL (i := 14) (v := ?_) rfl (by kernel_rfl) (by kernel_rfl) (by kernel_rfl) (fun _ _ _ h => h) (Or.inl ⟨by rfl, ?_⟩) h0 ?_
                              rotate_left
                              · intro u hSu
                                obtain ⟨_, q0, q1, q2, q3, q4, q5, q6, q7, q8, q9⟩ := hSu
                                go_simp
                                try rfl
                              simp only [Act.put, List.setIfInBounds_toArray, List.set_cons_zero, List.set_cons_succ]
                              refine wpAnyH_takeL (i := 15) (v := ?_) rfl (by kernel_rfl) (by kernel_rfl) (by kernel_rfl) (fun _ _ _ h => h) (Or.inl ⟨by rfl, ?_⟩) h0 ?_
                              rotate_left
                              · intro u hSu
                                obtain ⟨_, q0, q1, q2, q3, q4, q5, q6, q7, q8, q9⟩ := hSu
                                go_simp
                                try rfl
                              simp only [Act.put, List.setIfInBounds_toArray, List.set_cons_zero, List.set_cons_succ]
                              refine wpAnyH_takeL (i := 16) (v := ?_) rfl (by kernel_rfl) (by kernel_rfl) (by kernel_rfl) (fun _ _ _ h => h) (Or.inl ⟨by rfl, ?_⟩) h0 ?_
                              rotate_left
                              · intro u hSu
                                obtain ⟨_, q0, q1, q2, q3, q4, q5, q6, q7, q8, q9⟩ := hSu
                                go_simp
                                try rfl
                              simp only [Act.put, List.setIfInBounds_toArray, List.set_cons_zero, List.set_cons_succ]
                              refine wpAnyH_takeL (i := 17) (v := ?_) rfl (by kernel_rfl) (by kernel_rfl) (by kernel_rfl) (fun _ _ _ h => h) (Or.inl ⟨by rfl, ?_⟩) h0 ?_
                              rotate_left
                              · intro u hSu
                                obtain ⟨_, q0, q1, q2, q3, q4, q5, q6, q7, q8, q9⟩ := hSu
                                go_simp
                                try rfl
                              simp only [Act.put, List.setIfInBounds_toArray, List.set_cons_zero, List.set_cons_succ]
                              refine wpAnyH_takeL (i := 18) (v := ?_) rfl (by kernel_rfl) (by kernel_rfl) (by kernel_rfl) (fun _ _ _ h => h) (Or.inl ⟨by rfl, ?_⟩) h0 ?_
                              rotate_left
                              · intro u hSu
                                obtain ⟨_, q0, q1, q2, q3, q4, q5, q6, q7, q8, q9⟩ := hSu
                                go_simp
                                try rfl
                              simp only [Act.put, List.setIfInBounds_toArray, List.set_cons_zero, List.set_cons_succ]
                              refine wpAnyH_takeL (i := 19) (v := ?_) rfl (by kernel_rfl) (by kernel_rfl) (by kernel_rfl) (fun _ _ _ h => h) (Or.inl ⟨by rfl, ?_⟩) h0 ?_
                              rotate_left
                              · intro u hSu
                                obtain ⟨_, q0, q1, q2, q3, q4, q5, q6, q7, q8, q9⟩ := hSu
                                go_simp
                                try rfl
                              simp only [Act.put, List.setIfInBounds_toArray, List.set_cons_zero, List.set_cons_succ]
                              refine wpAnyH_takeL (i := 20) (v := ?_) rfl (by kernel_rfl) (by kernel_rfl) (by kernel_rfl) (fun _ _ _ h => h) (Or.inl ⟨by rfl, ?_⟩) h0 ?_
                              rotate_left
                              · intro u hSu
                                obtain ⟨_, q0, q1, q2, q3, q4, q5, q6, q7, q8, q9⟩ := hSu
                                go_simp
                                try rfl
                              simp only [Act.put, List.setIfInBounds_toArray, List.set_cons_zero, List.set_cons_succ]
                              refine wpAnyH_takeL (i := 21) (v := ?_) rfl (by kernel_rfl) (by kernel_rfl) (by kernel_rfl) (fun _ _ _ h => h) (Or.inl ⟨by rfl, ?_⟩) h0 ?_
                              rotate_left
                              · intro u hSu
                                obtain ⟨_, q0, q1, q2, q3, q4, q5, q6, q7, q8, q9⟩ := hSu
                                go_simp
                                try rfl
                              simp only [Act.put, List.setIfInBounds_toArray, List.set_cons_zero, List.set_cons_succ]
                              refine wpAnyH_takeL (i := 22) (v := ?_) rfl (by kernel_rfl) (by kernel_rfl) (by kernel_rfl) (fun _ _ _ h => h) (Or.inl ⟨by rfl, ?_⟩) h0 ?_
                              rotate_left
                              · intro u hSu
                                obtain ⟨_, q0, q1, q2, q3, q4, q5, q6, q7, q8, q9⟩ := hSu
                                go_simp
                                try rfl
                              simp only [Act.put, List.setIfInBounds_toArray, List.set_cons_zero, List.set_cons_succ]
                              refine wpAnyH_takeL (i := 23) (v := ?_) rfl (by kernel_rfl) (by kernel_rfl) (by kernel_rfl) (fun _ _ _ h => h) (Or.inl ⟨by rfl, ?_⟩) h0 ?_
                              rotate_left
                              · intro u hSu
                                obtain ⟨_, q0, q1, q2, q3, q4, q5, q6, q7, q8, q9⟩ := hSu
                                go_simp
                                try rfl
                              simp only [Act.put, List.setIfInBounds_toArray, List.set_cons_zero, List.set_cons_succ]
                              refine wpAnyH_takeL (i := 24) (v := ?_) rfl (by kernel_rfl) (by kernel_rfl) (by kernel_rfl) (fun _ _ _ h => h) (Or.inl ⟨by rfl, ?_⟩) h0 ?_
                              rotate_left
                              · intro u hSu
                                obtain ⟨_, q0, q1, q2, q3, q4, q5, q6, q7, q8, q9⟩ := hSu
                                go_simp
                                try rfl
                              simp only [Act.put, List.setIfInBounds_toArray, List.set_cons_zero, List.set_cons_succ]
                              refine wpAnyH_takeL (i := 25) (v := ?_) rfl (by kernel_rfl) (by kernel_rfl) (by kernel_rfl) (fun _ _ _ h => h) (Or.inl ⟨by rfl, ?_⟩) h0 ?_
                              rotate_left
                              · intro u hSu
                                obtain ⟨_, q0, q1, q2, q3, q4, q5, q6, q7, q8, q9⟩ := hSu
                                go_simp
                                try rfl
                              simp only [Act.put, List.setIfInBounds_toArray, List.set_cons_zero, List.set_cons_succ]
                              refine wpAnyH_ready (rs := [26]) (by kernel_rfl) (by simp) ?_
                              refine readyL rfl (fun K hK => ?_) AllReadyH.nil
                              go_simp
                              refine (HMT.out _ h0.1).mono ?_
                              rintro e w' ⟨rfl, hb'⟩
                              obtain ⟨hB1, q0, q1, q2, q3, q4, q5, q6, q7, q8, q9⟩ := h0
                              have h1 := And.intro (hB1.trans (hb'.mono hB1.size)) (And.intro ((hb'.cell (p := ⟨gd, 0, none⟩) (cell_lt q0)).trans q0) (And.intro ((hb'.cell (p := ⟨gd, 1, none⟩) (cell_lt q1)).trans q1) (And.intro ((hb'.cell (p := ⟨jb, jo + i * 2 + 1, none⟩) (cell_lt q2)).trans q2) (And.intro ((hb'.cell (p := ⟨ob, oo + kk * 2, none⟩) (cell_lt q3)).trans q3) (And.intro ((hb'.cell (p := ⟨ob, oo + kk * 2 + 1, none⟩) (cell_lt q4)).trans q4) (And.intro ((hb'.cell (p := ⟨jb, jo + k * 2 + 1, none⟩) (cell_lt q5)).trans q5) (And.intro ((hb'.cell (p := ⟨pb, po + k2 * 2, none⟩) (cell_lt q6)).trans q6) (And.intro ((hb'.cell (p := ⟨pb, po + k2 * 2 + 1, none⟩) (cell_lt q7)).trans q7) (And.intro ((hb'.cell (p := ⟨g5, 0, none⟩) (cell_lt q8)).trans q8) ((hb'.cell (p := ⟨g5, 1, none⟩) (cell_lt q9)).trans q9))))))))))
                              refine hK.out _ _ h1 (fun _ => ?_)
                              clear hK K q0 q1 q2 q3 q4 q5 q6 q7 q8 q9
                              have h0 := h1
                              clear h1
                              try simp only [Act.put, List.setIfInBounds_toArray, List.set_cons_zero, List.set_cons_succ]
                              refine wpAnyH_takeL (i := 27) (v := ?_) rfl (by kernel_rfl) (by kernel_rfl) (by kernel_rfl) (fun _ _ _ h => h) (Or.inl ⟨by rfl, ?_⟩) h0 ?_
                              rotate_left
                              · intro u hSu
                                obtain ⟨_, q0, q1, q2, q3, q4, q5, q6, q7, q8, q9⟩ := hSu
                                go_simp
                                try rfl
                              simp only [Act.put, List.setIfInBounds_toArray, List.set_cons_zero, List.set_cons_succ]
                              refine wpAnyH_done (by kernel_rfl) ?_ _
                              go_wp2_with fail
                              go_meet
                              exact ⟨rfl, h0.1⟩
                            case rest =>
                              obtain ⟨rfl, hbc⟩ := hcut
                              have HB9 := Lib.hid (HB5.out.trans (hbc.mono HB5.out.size))
                              have HCL := Lib.hid (show clearB (L.map JobM.p) ch i k = !meetB ⟨xst, yos⟩ dy ⟨ust, uos⟩ y by
                                unfold clearB
                                rw [HGK.out, HGD.out]
                                show (decide ((k2 : Int) < 0) || !meetB (optAt (jobAt (L.map JobM.p) k) ((k2 : Nat) : Int).toNat) dy (optAt (jobAt (L.map JobM.p) i) ((kk : Nat) : Int).toNat) y) = _
                                rw [HUP.out, HOP.out, decide_eq_false (by omega), Bool.false_or])
                              clear hbc v3 v4 v5 v6 v7 v8 v9 p1 p2 p3 hB0 HMT
                              cases hmt : meetB ⟨xst, yos⟩ dy ⟨ust, uos⟩ y with
                              | true =>
                                rw [hmt] at HCL
                                have HF := Lib.hid (HNO.out (chosen_meet HGD.out HS.out hlt2 HCL.out))
                                have HB10 := Lib.hid (HBW.out.trans (HB9.out.mono HBW.out.size))
                                clear hmt
                                go_wp2_with fail
                                go_ret
                                exact ⟨ret_bool HF.out.symm, HB10.out⟩
                              | false =>
                                rw [hmt] at HCL
                                clear hmt
                                go_wp2_with fail
                                go_roundg (i - (k + 1))
                                case measure => omega
                                case rel => exact ⟨k + 1, by omega, rfl, by go_num, fun z hz => by
                                  by_cases e : z = k
                                  · subst e; exact HCL.out
                                  · exact HC2.out z (by omega), HB9.out⟩
                        · have HCO := Lib.hid (chosen_ok (cl := cl) (ow := ow) HGD.out (Int.natCast_nonneg _) HIN.out.1 HIN.out.2 (by rw [HOP.out]; exact HADM.out) (fun z hz => HC2.out z (by omega)))
                          have HB6 := Lib.hid (HBW.out.trans (hb2.mono HBW.out.size))
                          clear hb2
                          go_wp2_with fail
                          go_roundg (ch.length - (i + 1))
                          case measure => omega
                          case rel => exact ⟨i + 1, by omega, rfl, by go_num, fun z hz => by
                            by_cases e : z = i
                            · subst e; exact HCO.out
                            · exact HALL.out z (by omega), HB6.out⟩
        · have HV := Lib.hid (ver_yes HCJ.out (by rw [HLE.out, List.length_map]) (fun z hz => HALL.out z (by omega)))
          clear hb
          go_wp2_with fail
          go_ret
          exact ⟨ret_bool HV.out.symm, HB.out⟩
    · have hne : ((ch.length : Int) != (L.length : Int)) = true := by rw [bne_iff_ne]; omega
      have HV := Lib.hid (show verB (L.map JobM.p) cl ow ch = false by unfold verB; rw [List.length_map, decide_eq_false hlen]; simp)
      clear hcj hlen
      go_enter Try.func30, Try.ntmps30
      go_wp2_with (go_at_call 15; refine hck.mono ?_; rintro e w1 ⟨rfl, hb1⟩)
      go_ret
      exact ⟨ret_bool HV.out.symm, hb1⟩
end Go.Proofs.Ytlillkfelfoafaa
