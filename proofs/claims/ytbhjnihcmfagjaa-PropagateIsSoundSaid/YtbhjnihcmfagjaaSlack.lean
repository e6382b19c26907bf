/-
  Contract of keep.Slack.
-/
import Derived.Test.YtbhjnihcmfagjaaNetK
set_option linter.unusedVariables false
set_option linter.unusedSimpArgs false
namespace RP
def slackA (T : Nat) (a : Acy) : Acy := { a with hi := min (a.hi + (T : Int) / 2) (a.lo + T - 1) }
def slackL (T : Nat) (l : List Acy) (k : Nat) : List Acy := (l.take k).map (slackA T) ++ l.drop k
theorem slackL_len {T : Nat} {l : List Acy} {k : Nat} : (slackL T l k).length = l.length := by
  unfold slackL; rw [List.length_append, List.length_map, List.length_take, List.length_drop]; omega
theorem slackL_at {T : Nat} {l : List Acy} {k : Nat} (h : k < l.length) : (slackL T l k)[k]'(by rw [slackL_len]; exact h) = l[k] := by
  simp only [slackL]
  rw [List.getElem_append_right (by rw [List.length_map, List.length_take]; omega)]
  simp only [List.length_map, List.length_take, List.getElem_drop]
  congr 1; omega
theorem slackL_set {T : Nat} {l : List Acy} {k : Nat} (h : k < l.length) : (slackL T l k).set k (slackA T l[k]) = slackL T l (k + 1) := by
  simp only [slackL]
  have e : ((l.take k).map (slackA T)).length = k := by rw [List.length_map, List.length_take]; omega
  rw [List.set_append_right _ _ (by omega), e, Nat.sub_self, List.drop_eq_getElem_cons h, List.set_cons_zero, List.take_succ_eq_append_getElem h, List.map_append, List.append_assoc]
  rfl
theorem slackL_all {T : Nat} {l : List Acy} : slackL T l l.length = l.map (slackA T) := by simp [slackL]
theorem slack_ok {m T : Nat} {a : Acy} (h : okA m T a) (h2 : 2 ≤ T) (hi : a.hi ≤ 64) (hT : T ≤ 9) : okA m T (slackA T a) := by
  unfold okA at *; simp only [slackA]; omega
end RP
namespace Go.Proofs.Ytbhjnihcmfagjaa
open Go.RowKit RP
set_option maxRecDepth 100000 in
set_option maxHeartbeats 8000000 in
theorem slack_any (A : Option Addr) (c : Nat) (l : List Int) (w : World) (h : ArgI w A c l) : Calls Try.prog 25 #[.slice A l.length c] w (NetPost w) := by
  have ba := belA w (.cells #[.int .i64 0, .slice none 0 0, .slice none 0 0] 25)
  have hres := heap_alloc_new w (.cells #[.int .i64 0, .slice none 0 0, .slice none 0 0] 25)
  have h1 := h.below ba
  have zw : (w.alloc (.cells #[.int .i64 0, .slice none 0 0, .slice none 0 0] 25)).heap.size = w.heap.size + 1 := by simp
  generalize hB0 : w.heap.size = B at *
  go_enter Try.func25, Try.ntmps25
  go_wp2_with fail
  refine (networkS_any A c l _ h1).mono ?_
  rintro ex w1 ⟨T, m, E, cE, A', cA, ev, acts, rfl, hev, hoE, hoA, hmade, hb1, hsm⟩
  have hap := own_apart hoA hoE (by decide)
  have z1 := hb1.size
  have r1 := (hb1.block B (by omega)).trans hres
  have b1 : Below B w w1 := ba.trans (hb1.mono (by omega))
  have ba1 := belA w1 (.cells #[.int .i64 T, .slice E m cE, .slice A' acts.length cA] 25)
  have hnew := heap_alloc_new w1 (.cells #[.int .i64 T, .slice E m cE, .slice A' acts.length cA] 25)
  have hoE1 := hoE.alloc (.cells #[.int .i64 T, .slice E m cE, .slice A' acts.length cA] 25)
  have hoA1 := hoA.alloc (.cells #[.int .i64 T, .slice E m cE, .slice A' acts.length cA] 25)
  have r2 := (ba1.block B (by omega)).trans r1
  have b2 := b1.trans (ba1.mono (by omega))
  have hAb : ∀ q, (Value.slice A' acts.length cA).ownBlock = some q → q < w1.heap.size := fun q hq => (World.ownsRow.lt hoA q hq).2
  have HMD := Lib.hid hmade
  have HSM := Lib.hid hsm
  obtain ⟨_, t1, t2, m1, m2, la⟩ := hmade
  rw [zw] at z1 hoE1 hoA1
  have n2 : (w1.alloc (.cells #[.int .i64 T, .slice E m cE, .slice A' acts.length cA] 25)).cell? ⟨w1.heap.size, 2, none⟩ = some (.slice A' acts.length cA) := by rw [cell_of_row _ _ 2 _ _ _ hnew]; rfl
  have z2 : w1.heap.size < (w1.alloc (.cells #[.int .i64 T, .slice E m cE, .slice A' acts.length cA] 25)).heap.size := by simp
  have HB0 := Lib.hid hB0
  clear hB0 ba hres h1 zw h hoE hoA hsm r1 b1 ba1 hb1
  go_wp2_with fail
  generalize w1.alloc (.cells #[.int .i64 T, .slice E m cE, .slice A' acts.length cA] 25) = w2 at *
  generalize hgn : w1.heap.size = gn at *
  clear hgn
  clear n2
  go_loopg [4, 5, 11] acts.length (fun g s4 s5 s11 wr => ∃ k : Nat, k ≤ acts.length ∧ g = acts.length - k ∧ s11 = .int .i64 k ∧ OwnA wr (B + 1) (.slice A' acts.length cA) (slackL T acts k) ∧ OwnE wr (B + 1) (.slice E m cE) ev ∧ wr.heap[gn]? = some (.cells #[.int .i64 T, .slice E m cE, .slice A' acts.length cA] 25 (0, 0)) ∧ wr.heap[B]? = some (.cells #[.int .i64 0, .slice none 0 0, .slice none 0 0] 25 (0, 0)) ∧ Below B w wr)
  case atStart => exact ⟨0, by omega, by omega, rfl, hoA1, hoE1, hnew, r2, b2⟩
  case round =>
    obtain ⟨k, hk, hg, rfl, hA, hE, hn, hr, hb⟩ := hrel
    have gl := (Array.getElem?_eq_some_iff.1 hn).1
    have rl := (Array.getElem?_eq_some_iff.1 hr).1
    have n0 : wr.cell? ⟨gn, 0, none⟩ = some (.int .i64 T) := by rw [cell_of_row wr _ 0 _ _ _ hn]; rfl
    have n1 : wr.cell? ⟨gn, 1, none⟩ = some (.slice E m cE) := by rw [cell_of_row wr _ 1 _ _ _ hn]; rfl
    have n2 : wr.cell? ⟨gn, 2, none⟩ = some (.slice A' acts.length cA) := by rw [cell_of_row wr _ 2 _ _ _ hn]; rfl
    clear hoA1 hoE1 hnew r2 b2
    by_cases hlt : k < acts.length
    · have hAk := hA
      obtain ⟨ga, ca, hvA, hga1, hga2, hcap, hcell, hfz⟩ := hA.at_ encA_len (fun q => by have := congrArg List.length q; rw [slackL_len, List.length_nil] at this; omega)
      injection hvA with hvA1 hvA2 hvA3
      clear hvA2
      subst hvA1 hvA3
      have hgaw := hAb ga rfl
      have hce := hcell k acts[k] (by rw [List.getElem?_eq_getElem (by rw [slackL_len]; exact hlt), slackL_at hlt])
      have y3 := hce 3 _ rfl
      have y4 := hce 4 _ rfl
      have f4 := hfz (k * 6 + 4)
      have hok := (netB_iff.1 HMD.out.1).2 acts[k] (List.getElem_mem hlt)
      have hhi := HSM.out acts[k] (List.getElem_mem hlt)
      have HST := Lib.hid (Own.stored encA_len hAk k 4 (.int .i64 (min (acts[k].hi + (T : Int) / 2) (acts[k].lo + T - 1))) (slackA T acts[k]) (by rw [slackL_len]; exact hlt) (by omega) (by rw [slackL_at hlt]; rfl))
      have HSE := Lib.hid (slackL_set (T := T) hlt)
      unfold okA at hok
      have x1 := hok.2.2.2.2.2.1
      have x2 := hok.2.2.2.2.2.2.1
      have HAP := Lib.hid (hap ga rfl)
      have HE := Lib.hid hE
      have HN := Lib.hid hn
      have HR := Lib.hid hr
      have HBB := Lib.hid hb
      generalize acts[k].hi = hi at *
      generalize acts[k].lo = lo at *
      have i0 : (0 : Int) ≤ (k : Int) := by omega
      have i1 : (k : Int) < (acts.length : Int) := by omega
      clear hcell hce hfz hA hAk hap hAb hok hE hn hr hb
      go_upto_region 6 with fail
      refine wp_region_until (S := fun w' => w'.cell? ⟨gn, 0, none⟩ = some (.int .i64 T) ∧ w'.cell? ⟨ga, k * 6 + 3, none⟩ = some (.int .i64 lo) ∧ w'.cell? ⟨ga, k * 6 + 4, none⟩ = some (.int .i64 hi)) 20 (by kernel_rfl) ?_
      have h0 : wr.drew.cell? ⟨gn, 0, none⟩ = some (.int .i64 T) ∧ wr.drew.cell? ⟨ga, k * 6 + 3, none⟩ = some (.int .i64 lo) ∧ wr.drew.cell? ⟨ga, k * 6 + 4, none⟩ = some (.int .i64 hi) := ⟨n0, y3, y4⟩
      have f4d : wr.drew.frozen? ⟨ga, k * 6 + 4, none⟩ = false := f4
      have sw0 : IntKind.i64.wrap ((T : Int) / 2) = (T : Int) / 2 := IntWalk.i64_in _ (by omega)
      have sw1 : IntKind.i64.wrap (hi + (T : Int) / 2) = hi + (T : Int) / 2 := IntWalk.i64_in _ (by omega)
      have sw2 : IntKind.i64.wrap (lo + (T : Int)) = lo + (T : Int) := IntWalk.i64_in _ (by omega)
      have sw3 : IntKind.i64.wrap (lo + (T : Int) - 1) = lo + (T : Int) - 1 := IntWalk.i64_in _ (by omega)
      refine until_take (i := 0) (v := ?_) rfl (by kernel_rfl) (by kernel_rfl) (by kernel_rfl) (by kernel_rfl) (fun _ _ _ h => h) (Or.inl ⟨by rfl, ?_⟩) h0 ?_
      rotate_left
      · intro u hSu
        (try dsimp only at hSu)
        obtain ⟨hS1, hS2, hS3⟩ := hSu
        go_simp
        try rfl
      simp only [Act.put, List.setIfInBounds_toArray, List.set_cons_zero, List.set_cons_succ]
      refine until_take (i := 1) (v := ?_) rfl (by kernel_rfl) (by kernel_rfl) (by kernel_rfl) (by kernel_rfl) (fun _ _ _ h => h) (Or.inl ⟨by rfl, ?_⟩) h0 ?_
      rotate_left
      · intro u hSu
        (try dsimp only at hSu)
        obtain ⟨hS1, hS2, hS3⟩ := hSu
        go_simp
        try rfl
      simp only [Act.put, List.setIfInBounds_toArray, List.set_cons_zero, List.set_cons_succ]
      refine until_take (i := 2) (v := ?_) rfl (by kernel_rfl) (by kernel_rfl) (by kernel_rfl) (by kernel_rfl) (fun _ _ _ h => h) (Or.inl ⟨by rfl, ?_⟩) h0 ?_
      rotate_left
      · intro u hSu
        (try dsimp only at hSu)
        obtain ⟨hS1, hS2, hS3⟩ := hSu
        go_simp
        try rfl
      simp only [Act.put, List.setIfInBounds_toArray, List.set_cons_zero, List.set_cons_succ]
      refine until_take (i := 3) (v := ?_) rfl (by kernel_rfl) (by kernel_rfl) (by kernel_rfl) (by kernel_rfl) (fun _ _ _ h => h) (Or.inl ⟨by rfl, ?_⟩) h0 ?_
      rotate_left
      · intro u hSu
        (try dsimp only at hSu)
        obtain ⟨hS1, hS2, hS3⟩ := hSu
        go_simp
        try rfl
      simp only [Act.put, List.setIfInBounds_toArray, List.set_cons_zero, List.set_cons_succ]
      refine until_take (i := 4) (v := ?_) rfl (by kernel_rfl) (by kernel_rfl) (by kernel_rfl) (by kernel_rfl) (fun _ _ _ h => h) (Or.inl ⟨by rfl, ?_⟩) h0 ?_
      rotate_left
      · intro u hSu
        (try dsimp only at hSu)
        obtain ⟨hS1, hS2, hS3⟩ := hSu
        go_simp
        try rfl
      simp only [Act.put, List.setIfInBounds_toArray, List.set_cons_zero, List.set_cons_succ]
      refine until_take (i := 5) (v := ?_) rfl (by kernel_rfl) (by kernel_rfl) (by kernel_rfl) (by kernel_rfl) (fun _ _ _ h => h) (Or.inl ⟨by rfl, ?_⟩) h0 ?_
      rotate_left
      · intro u hSu
        (try dsimp only at hSu)
        obtain ⟨hS1, hS2, hS3⟩ := hSu
        go_simp
        try rfl
      simp only [Act.put, List.setIfInBounds_toArray, List.set_cons_zero, List.set_cons_succ]
      refine until_take (i := 6) (v := ?_) rfl (by kernel_rfl) (by kernel_rfl) (by kernel_rfl) (by kernel_rfl) (fun _ _ _ h => h) (Or.inl ⟨by rfl, ?_⟩) h0 ?_
      rotate_left
      · intro u hSu
        (try dsimp only at hSu)
        obtain ⟨hS1, hS2, hS3⟩ := hSu
        go_simp
        try rfl
      simp only [Act.put, List.setIfInBounds_toArray, List.set_cons_zero, List.set_cons_succ]
      refine until_take (i := 7) (v := ?_) rfl (by kernel_rfl) (by kernel_rfl) (by kernel_rfl) (by kernel_rfl) (fun _ _ _ h => h) (Or.inl ⟨by rfl, ?_⟩) h0 ?_
      rotate_left
      · intro u hSu
        (try dsimp only at hSu)
        obtain ⟨hS1, hS2, hS3⟩ := hSu
        go_simp
        try rfl
      simp only [Act.put, List.setIfInBounds_toArray, List.set_cons_zero, List.set_cons_succ]
      refine until_take (i := 8) (v := ?_) rfl (by kernel_rfl) (by kernel_rfl) (by kernel_rfl) (by kernel_rfl) (fun _ _ _ h => h) (Or.inl ⟨by rfl, ?_⟩) h0 ?_
      rotate_left
      · intro u hSu
        (try dsimp only at hSu)
        obtain ⟨hS1, hS2, hS3⟩ := hSu
        go_simp
        try rfl
      simp only [Act.put, List.setIfInBounds_toArray, List.set_cons_zero, List.set_cons_succ]
      refine until_take (i := 9) (v := ?_) rfl (by kernel_rfl) (by kernel_rfl) (by kernel_rfl) (by kernel_rfl) (fun _ _ _ h => h) (Or.inl ⟨by rfl, ?_⟩) h0 ?_
      rotate_left
      · intro u hSu
        (try dsimp only at hSu)
        obtain ⟨hS1, hS2, hS3⟩ := hSu
        go_simp
        try rfl
      simp only [Act.put, List.setIfInBounds_toArray, List.set_cons_zero, List.set_cons_succ]
      refine until_take (i := 10) (v := ?_) rfl (by kernel_rfl) (by kernel_rfl) (by kernel_rfl) (by kernel_rfl) (fun _ _ _ h => h) (Or.inl ⟨by rfl, ?_⟩) h0 ?_
      rotate_left
      · intro u hSu
        (try dsimp only at hSu)
        obtain ⟨hS1, hS2, hS3⟩ := hSu
        go_simp
        try rfl
      simp only [Act.put, List.setIfInBounds_toArray, List.set_cons_zero, List.set_cons_succ]
      refine until_take (i := 11) (v := ?_) rfl (by kernel_rfl) (by kernel_rfl) (by kernel_rfl) (by kernel_rfl) (fun _ _ _ h => h) (Or.inl ⟨by rfl, ?_⟩) h0 ?_
      rotate_left
      · intro u hSu
        (try dsimp only at hSu)
        obtain ⟨hS1, hS2, hS3⟩ := hSu
        go_simp
        try rfl
      simp only [Act.put, List.setIfInBounds_toArray, List.set_cons_zero, List.set_cons_succ]
      refine until_take (i := 12) (v := ?_) rfl (by kernel_rfl) (by kernel_rfl) (by kernel_rfl) (by kernel_rfl) (fun _ _ _ h => h) (Or.inl ⟨by rfl, ?_⟩) h0 ?_
      rotate_left
      · intro u hSu
        (try dsimp only at hSu)
        obtain ⟨hS1, hS2, hS3⟩ := hSu
        go_simp
        try rfl
      simp only [Act.put, List.setIfInBounds_toArray, List.set_cons_zero, List.set_cons_succ]
      refine until_take (i := 13) (v := ?_) rfl (by kernel_rfl) (by kernel_rfl) (by kernel_rfl) (by kernel_rfl) (fun _ _ _ h => h) (Or.inl ⟨by rfl, ?_⟩) h0 ?_
      rotate_left
      · intro u hSu
        (try dsimp only at hSu)
        obtain ⟨hS1, hS2, hS3⟩ := hSu
        go_simp
        try rfl
      simp only [Act.put, List.setIfInBounds_toArray, List.set_cons_zero, List.set_cons_succ]
      refine until_take (i := 14) (v := ?_) rfl (by kernel_rfl) (by kernel_rfl) (by kernel_rfl) (by kernel_rfl) (fun _ _ _ h => h) (Or.inl ⟨by rfl, ?_⟩) h0 ?_
      rotate_left
      · intro u hSu
        (try dsimp only at hSu)
        obtain ⟨hS1, hS2, hS3⟩ := hSu
        go_simp
        try rfl
      simp only [Act.put, List.setIfInBounds_toArray, List.set_cons_zero, List.set_cons_succ]
      refine until_take (i := 15) (v := ?_) rfl (by kernel_rfl) (by kernel_rfl) (by kernel_rfl) (by kernel_rfl) (fun _ _ _ h => h) (Or.inl ⟨by rfl, ?_⟩) h0 ?_
      rotate_left
      · intro u hSu
        (try dsimp only at hSu)
        obtain ⟨hS1, hS2, hS3⟩ := hSu
        go_simp
        try rfl
      simp only [Act.put, List.setIfInBounds_toArray, List.set_cons_zero, List.set_cons_succ]
      refine until_take (i := 16) (v := ?_) rfl (by kernel_rfl) (by kernel_rfl) (by kernel_rfl) (by kernel_rfl) (fun _ _ _ h => h) (Or.inl ⟨by rfl, ?_⟩) h0 ?_
      rotate_left
      · intro u hSu
        (try dsimp only at hSu)
        obtain ⟨hS1, hS2, hS3⟩ := hSu
        go_simp
        try rfl
      simp only [Act.put, List.setIfInBounds_toArray, List.set_cons_zero, List.set_cons_succ]
      clear sw0 sw1 sw2 sw3
      refine until_one (i := 17) rfl (by kernel_rfl) (fun K hK => ?_)
      go_simp
      have mn1 : min (hi + (T : Int) / 2) (lo + T - 1) ≤ 9223372036854775807 := by omega
      have mn2 : -9223372036854775808 ≤ min (hi + (T : Int) / 2) (lo + T - 1) := by omega
      generalize min (hi + (T : Int) / 2) (lo + T - 1) = mv at *
      refine hK.out _ _ (fun _ => h0) ?_
      clear hK K
      try simp only [Act.put, List.setIfInBounds_toArray, List.set_cons_zero, List.set_cons_succ]
      refine until_one (i := 18) rfl (by kernel_rfl) (fun K hK => ?_)
      go_simp
      refine hK.out _ _ (fun _ => h0) ?_
      clear hK K
      try simp only [Act.put, List.setIfInBounds_toArray, List.set_cons_zero, List.set_cons_succ]
      refine until_one (i := 19) rfl (by kernel_rfl) (fun K hK => ?_)
      go_simp
      refine hK.out _ _ (fun _ => h0) ?_
      clear hK K
      try simp only [Act.put, List.setIfInBounds_toArray, List.set_cons_zero, List.set_cons_succ]
      have y4d := h0.2.2
      have HS2 := Lib.hid (HST.out.2)
      have HS1 := Lib.hid (HSE.out ▸ HST.out.1)
      have kS : Kept [ga] wr (wr.setCell ⟨ga, k * 6 + 4, none⟩ (.int .i64 mv)) := (Kept.refl [ga] wr).setCell ga (k * 6 + 4) _ (.inl (by simp))
      have HN2 := Lib.hid ((kS.block gn gl (by simp; omega)).trans HN.out)
      have HR2 := Lib.hid ((kS.block B rl (by simp; omega)).trans HR.out)
      have HE2 := Lib.hid (HE.out.kept HS2.out (.inr HAP.out))
      have HB2 := Lib.hid (HBB.out.trans (kS.below (n₀ := B) (by simp; omega) (by omega)))
      clear kS
      refine until_one (i := 20) rfl (by kernel_rfl) (fun K hK => ?_)
      go_simp
      refine hK.out _ _ (fun q => absurd rfl q) ?_
      clear hK K
      refine until_done (by kernel_rfl) ?_ _
      go_wp2_with fail
      go_roundg (acts.length - (k + 1))
      case measure => omega
      case rel => exact ⟨k + 1, by omega, rfl, by go_num, HS1.out.drew, HE2.out.drew, HN2.out, HR2.out, HB2.out.drew⟩
    · have c0 : wr.cell? ⟨B, 0, none⟩ = some (.int .i64 0) := by rw [cell_of_row wr _ 0 _ _ _ hr]; rfl
      have c1 : wr.cell? ⟨B, 1, none⟩ = some (.slice none 0 0) := by rw [cell_of_row wr _ 1 _ _ _ hr]; rfl
      have c2 : wr.cell? ⟨B, 2, none⟩ = some (.slice none 0 0) := by rw [cell_of_row wr _ 2 _ _ _ hr]; rfl
      have g0 : wr.frozen? ⟨B, 0, none⟩ = false := by simp [World.frozen?, hr]
      have g1 : wr.frozen? ⟨B, 1, none⟩ = false := by simp [World.frozen?, hr]
      have g2 : wr.frozen? ⟨B, 2, none⟩ = false := by simp [World.frozen?, hr]
      have HRES := Lib.hid (set_block' (o := 2) (.slice A' acts.length cA) (set_block' (o := 1) (.slice E m cE) (set_block' (o := 0) (.int .i64 T) hr)))
      have hn1 := HMD.out
      have hkl : k = acts.length := by omega
      have hA' := hA
      rw [hkl, slackL_all] at hA'
      have HA := Lib.hid hA'
      clear hkl hA hA' hn1
      go_wp2_with fail
      refine bodyPost_ret (results_cell_row rfl _ _ B 25 _ _ _ rfl HRES.out Try.underlying25 rfl (by kernel_rfl)) rfl ?_
      have hnb := netB_iff.1 HMD.out.1
      refine ⟨T, m, E, cE, A', cA, ev, acts.map (slackA T), by rw [List.length_map]; rfl, hev, ?_, ?_, ⟨netB_iff.2 ⟨by rw [List.length_map]; exact hnb.1, fun x hx => by
        obtain ⟨y, hy, rfl⟩ := List.mem_map.1 hx
        exact slack_ok (hnb.2 y hy) t1 (HSM.out y hy) t2⟩, t1, t2, m1, m2, by rw [List.length_map]; exact la⟩, ?_⟩
      · rw [HB0.out]
        exact (((hE.setBelow (a := ⟨B, _, none⟩) (show B < B + 1 by omega) _).setBelow (a := ⟨B, _, none⟩) (show B < B + 1 by omega) _).setBelow (a := ⟨B, _, none⟩) (show B < B + 1 by omega) _).rebase (by omega)
      · rw [HB0.out, List.length_map]
        exact (((HA.out.setBelow (a := ⟨B, _, none⟩) (show B < B + 1 by omega) _).setBelow (a := ⟨B, _, none⟩) (show B < B + 1 by omega) _).setBelow (a := ⟨B, _, none⟩) (show B < B + 1 by omega) _).rebase (by omega)
      · rw [HB0.out]
        exact ((hb.setCell (p := ⟨B, _, none⟩) (Nat.le_refl B) _).setCell (p := ⟨B, _, none⟩) (Nat.le_refl B) _).setCell (p := ⟨B, _, none⟩) (Nat.le_refl B) _

end Go.Proofs.Ytbhjnihcmfagjaa
