/-
  Walk of PropagateIsExactForTrees.
-/
import Derived.Test.YtbhjnihcmfagjaaTreM
import Derived.Test.YtbhjnihcmfagjaaGood
import Derived.Test.YtbhjnihcmfagjaaSing
import Derived.Test.YtbhjnihcmfagjaaSource
set_option linter.unusedVariables false
set_option linter.unusedSimpArgs false
namespace RP
theorem sound_allow13 {m T : Nat} (h1 : 1 ≤ T) {l : List Acy} {D : Tab} {e : Bool} (hf : Fin13 m T (initT T l) D e) (hm : 1 ≤ m) {ts : List Int} (h : feasB T m l ts = true) : e = false ∧ Go.Proofs.Ytbhjnihcmfagjaa.allowB m T l D e ts = true := by
  obtain ⟨hg, hv⟩ := feas_iff.1 h
  have hok := (netB_iff.1 (goodB_iff.1 hg).1).2
  have hs := sing_great (t := fun i => ts.getD i 0) h1 hf.great hok (fun a ha => by have := hv a ha; show overI T ts a ≤ _; omega)
  have he : e = false := by
    cases e with
    | false => rfl
    | true =>
      have := hs 0 0 hm hm
      rw [(hf.emp rfl).2] at this
      cases this
  refine ⟨he, ?_⟩
  rw [Go.Proofs.Ytbhjnihcmfagjaa.allowB, hg, he, Bool.true_and, Bool.not_false, Bool.true_and, List.all_eq_true]
  intro i hi
  rw [List.all_eq_true]
  intro j hj
  exact hs i j (List.mem_range.1 hi) (List.mem_range.1 hj)
theorem acyc_feas {T m : Nat} {l : List Acy} (hnet : netB T m l = true) (hac : Acyc l) : ∃ ts, feasB T m l ts = true := by
  obtain ⟨p, hp⟩ := hac fun i => (actD l i).lo
  refine ⟨_, exact_feas hnet (p := p) (C := fun _ => 0) (v := fun i => (actD l i).lo) hp (fun i h => ?_) (fun _ _ => rfl) (fun u _ => rfl)⟩
  have e : actD l i = l[i] := by simp [actD, h]
  rw [e]
  have := (netB_iff.1 hnet).2 l[i] (List.getElem_mem h)
  exact ⟨Int.le_refl _, this.2.2.2.2.2.2.1⟩
/-- The activities of a list of indices. -/
def sel13 (l : List Acy) (tk : Nat → Bool) : List Acy := (tkL tk l.length).map (actD l)
theorem sel_net {T m : Nat} {l : List Acy} (h : netB T m l = true) (tk : Nat → Bool) : netB T m (sel13 l tk) = true := by
  obtain ⟨⟨t1, t2, t3, t4⟩, hok⟩ := netB_iff.1 h
  refine netB_iff.2 ⟨⟨t1, t2, t3, ?_⟩, some_ok hok tk⟩
  have := tkL_len tk l.length
  unfold sel13
  rw [List.length_map]; omega
/-- What the rest of the walk wants to know of the tree. -/
theorem sel_facts {T m : Nat} {acts : List Acy} {tk : Nat → Bool} {R : Nat → Int} (h : netB T m acts = true) (ht : TreI acts tk R) : ∃ (S : List Acy) (L : List Nat), netB T m S = true ∧ Acyc S ∧ S.length ≤ acts.length ∧ L.length = S.length ∧
    (tkL tk acts.length).map (fun i : Nat => (i : Int)) = L.map (fun i : Nat => (i : Int)) ∧ ∀ k (h1 : k < S.length), ∃ (h2 : k < L.length) (h3 : L[k] < acts.length), S[k] = acts[L[k]] := by
  refine ⟨(tkL tk acts.length).map (actD acts), tkL tk acts.length, sel_net h tk, ht.acyc, ?_, ?_, rfl, fun k h1 => ?_⟩
  · rw [List.length_map]; exact tkL_len tk _
  · rw [List.length_map]
  · have h2 : k < (tkL tk acts.length).length := by rwa [List.length_map] at h1
    have h3 := (tkL_mem (List.getElem_mem h2)).1
    refine ⟨h2, h3, ?_⟩
    rw [List.getElem_map]
    simp [actD, h3]
/-- Values between the limits. -/
def ValOk (l : List Acy) (k : Nat) (vs : List Int) : Prop := vs.length = k ∧ ∀ j (h : j < l.length), j < k → l[j].lo ≤ vs.getD j 0 ∧ vs.getD j 0 ≤ l[j].hi
theorem ValOk.start (l : List Acy) : ValOk l 0 [] := ⟨rfl, fun j _ h => by omega⟩
theorem ValOk.step {l : List Acy} {k : Nat} {vs : List Int} (h : ValOk l k vs) (hk : k < l.length) {z : Int} (h1 : l[k].lo ≤ z) (h2 : z ≤ l[k].hi) : ValOk l (k + 1) (vs ++ [z]) := by
  obtain ⟨a, b⟩ := h
  refine ⟨by rw [List.length_append, a]; rfl, fun j hj hjk => ?_⟩
  by_cases e : j = k
  · subst e
    rw [List.getD_eq_getElem?_getD, List.getElem?_append_right (by omega), a, Nat.sub_self]
    exact ⟨h1, h2⟩
  · have := b j hj (by omega)
    rw [List.getD_eq_getElem?_getD, List.getElem?_append_left (by omega), ← List.getD_eq_getElem?_getD]
    exact this
theorem ValOk.bound {T m : Nat} {l : List Acy} {vs : List Int} (h : ValOk l l.length vs) (hn : netB T m l = true) : ∀ v ∈ vs, -131072 ≤ v ∧ v ≤ 131072 := fun v hv => by
  obtain ⟨j, hj, rfl⟩ := List.getElem_of_mem hv
  have hj' : j < l.length := by rw [← h.1]; exact hj
  have h1 := h.2 j hj' hj'
  have h2 := (netB_iff.1 hn).2 l[j] (List.getElem_mem hj')
  obtain ⟨_, _, _, _, _, b1, b2, b3, _⟩ := h2
  rw [List.getD_eq_getElem?_getD, List.getElem?_eq_getElem hj, Option.getD_some] at h1
  omega
end RP
namespace Go.Proofs.Ytbhjnihcmfagjaa
open Go.RowKit Go.Shelf RP

theorem lst_of_rowN {w : World} {g m : Nat} {R : Nat → Int} (h : RowN w g m R) : Lst encI 1 w w.heap.size (some ⟨g, 0, none⟩) ((List.range m).map R) := fun _ => by
  refine ⟨g, 0, rfl, rowN_lt h, fun i x hx j v hv => ?_⟩
  have hi : i < m := by
    rcases Nat.lt_or_ge i m with q | q
    · exact q
    · rw [List.getElem?_eq_none (by simp; omega)] at hx; cases hx
  rw [List.getElem?_map, List.getElem?_range hi] at hx
  injection hx with hx
  subst hx
  cases j with
  | zero =>
    injection hv with hv
    subst hv
    rw [Nat.zero_add, Nat.mul_one, Nat.add_zero]
    exact (rowN_get h hi).1
  | succ j => simp [encI] at hv
theorem pickN13 (v : Int) (n : Nat) (h : 1 ≤ n) : ∃ k : Nat, k < n ∧ pickI v n = k := by
  have := pickI_range v n (by omega)
  exact ⟨(pickI v n).toNat, by omega, by omega⟩
theorem rngI_succ (k : Nat) : rngI (k + 1) = rngI k ++ [(k : Int)] := by simp [rngI, List.range_succ]

set_option maxRecDepth 100000 in
set_option maxHeartbeats 8000000 in
theorem walkPropagateIsExactForTrees (A : Option Addr) (c : Nat) (l : List Int) (A2 : Option Addr) (c2 : Nat) (l2 : List Int) (i j : Int) (w : World) (h : ArgI w A c l) (h2 : ArgI w A2 c2 l2) (_ : R64 i) (_ : R64 j) :
    Calls Try.prog 10 #[.slice A l.length c, .slice A2 l2.length c2, .int .i64 i, .int .i64 j] w fun e w' => e = .returned (.bool true) ∧ Below w.heap.size w w' := by
  go_enter Try.func10, Try.ntmps10
  go_wp2_with fail
  refine (network_any A c l w h).mono ?_
  rintro ex w1 ⟨T, m, E, cE, A', cA, ev, acts, rfl, hev, hoE, hoA, hmade, hb1⟩
  have HMD := Lib.hid hmade
  obtain ⟨_, t1, t2, m1, m2, la⟩ := hmade
  have HLE := Lib.hid (Own.lst encE_len hoE)
  have HLA := Lib.hid (Own.lst encA_len hoA)
  have HB1 := Lib.hid hb1
  have H2 := Lib.hid h2
  have z1 := hb1.size
  have ba := belA w1 (.cells #[.int .i64 T, .slice E m cE, .slice A' acts.length cA] 25)
  have hnew := heap_alloc_new w1 (.cells #[.int .i64 T, .slice E m cE, .slice A' acts.length cA] 25)
  have za : (w1.alloc (.cells #[.int .i64 T, .slice E m cE, .slice A' acts.length cA] 25)).heap.size = w1.heap.size + 1 := by simp
  have HEV := Lib.hid hev
  clear hoE hoA hb1 hev h2 h
  go_upto_region 2 with fail
  generalize w1.alloc (.cells #[.int .i64 T, .slice E m cE, .slice A' acts.length cA] 25) = w2 at *
  have n0 : w2.cell? ⟨w1.heap.size, 0, none⟩ = some (.int .i64 T) := by rw [cell_of_row _ _ 0 _ _ _ hnew]; rfl
  have n1 : w2.cell? ⟨w1.heap.size, 1, none⟩ = some (.slice E m cE) := by rw [cell_of_row _ _ 1 _ _ _ hnew]; rfl
  have n2 : w2.cell? ⟨w1.heap.size, 2, none⟩ = some (.slice A' acts.length cA) := by rw [cell_of_row _ _ 2 _ _ _ hnew]; rfl
  have HBA := Lib.hid ba
  clear ba
  go_wp2_with fail
  refine (tree13_any T E m cE A' cA acts w2 (HLA.out.belowMore HBA.out (by omega)) HMD.out.1).mono ?_
  rintro ex w3 ⟨va, ca, tk, R, rfl, hva, hti, hb3⟩
  obtain ⟨S, L, hSn, hSa, hSl, hLl, hLm, hSel⟩ := sel_facts HMD.out.1 hti
  have hkl : (tkI tk acts.length).length = S.length := by unfold tkI; rw [hLm, List.length_map, hLl]
  rw [hkl]
  unfold tkI at hva
  rw [hLm] at hva
  have z3 := hb3.size
  have HB3 := Lib.hid (HBA.out.trans (hb3.mono (by omega)))
  have HBK := Lib.hid ((hb3.block w1.heap.size (by omega)).trans hnew)
  replace n2 := (hb3.cell (p := ⟨w1.heap.size, 2, none⟩) (show w1.heap.size < w2.heap.size by omega)).trans n2
  have HVA := Lib.hid hva
  have HSN := Lib.hid hSn
  have HSA := Lib.hid hSa
  have HSE := Lib.hid hSel
  have HLL := Lib.hid hLl
  have hgn : w1.heap.size < w3.heap.size := by omega
  clear hb3 hva hti hSn hSa hLl hLm hSel hkl hnew n0 n1 HBA za z3
  go_wp2_with fail
  go_loopg [11, 12, 27] S.length (fun q s11 s12 s27 wx => ∃ k : Nat, k ≤ S.length ∧ q = S.length - k ∧ s27 = .int .i64 k ∧ OwnA wx w3.heap.size s11 (S.take k) ∧ Below w3.heap.size w3 wx)
  case atStart => exact ⟨0, by omega, by omega, rfl, Own.nil _ _ _ _ _, Below.refl _ _⟩
  case round =>
    obtain ⟨k, hk, hg, rfl, hown, hbx⟩ := hrel
    have HOW := Lib.hid hown
    have HBX := Lib.hid hbx
    have i0 : (0 : Int) ≤ (k : Int) := by omega
    by_cases hlt : k < S.length
    · have i1 : (k : Int) < (S.length : Int) := by omega
      obtain ⟨h2, h3, hs⟩ := HSE.out k hlt
      obtain ⟨vb, vo, rfl, hvb, c1⟩ := HVA.out.num13 k (by rw [List.length_map]; exact h2)
      rw [List.getElem_map] at c1
      replace c1 := (hbx.cell (p := ⟨vb, vo + k, none⟩) hvb).trans c1
      obtain ⟨ab, ao, rfl, hab, a0, a1, a2, a3, a4, a5⟩ := (HLA.out.below (HB3.out.trans (hbx.mono (by omega)))).ac L[k] h3
      have p2 := (hbx.cell (p := ⟨w1.heap.size, 2, none⟩) hgn).trans n2
      have j0 : (0 : Int) ≤ (L[k] : Int) := by omega
      have j1 : (L[k] : Int) < (acts.length : Int) := by omega
      have htk := List.take_succ_eq_append_getElem hlt
      rw [hs] at htk
      have HTK := Lib.hid htk
      clear htk hs
      generalize acts[L[k]] = x at *
      generalize L[k] = e at *
      obtain ⟨ki, sr, ds, lo, hi, wt⟩ := x
      simp only at a0 a1 a2 a3 a4 a5
      have hln : (S.take k).length = k := by rw [List.length_take]; omega
      have hzr := hbx.size
      have HLN := Lib.hid hln
      have hba := (belA wr (.cells #[.int .i64 ki, .int .i64 sr, .int .i64 ds, .int .i64 lo, .int .i64 hi, .int .i64 wt] 30)).drew
      have hb0 : Below w3.heap.size wr ((wr.alloc (.cells #[.int .i64 ki, .int .i64 sr, .int .i64 ds, .int .i64 lo, .int .i64 hi, .int .i64 wt] 30)).drew) := hba.mono hzr
      have HB0 := Lib.hid hb0
      have HOA := Lib.hid (hown.below' hba)
      have HKS := Lib.hid (fun (W : World) (hb : Below w3.heap.size wr W) => (⟨(hb.cell (p := ⟨w1.heap.size, 2, none⟩) hgn).trans p2, (hb.cell (p := ⟨vb, vo + k, none⟩) hvb).trans c1, (hb.cell (p := ⟨ab, ao + e * 6, none⟩) (show ab < w3.heap.size by omega)).trans a0, (hb.cell (p := ⟨ab, ao + e * 6 + 1, none⟩) (show ab < w3.heap.size by omega)).trans a1, (hb.cell (p := ⟨ab, ao + e * 6 + 2, none⟩) (show ab < w3.heap.size by omega)).trans a2, (hb.cell (p := ⟨ab, ao + e * 6 + 3, none⟩) (show ab < w3.heap.size by omega)).trans a3, (hb.cell (p := ⟨ab, ao + e * 6 + 4, none⟩) (show ab < w3.heap.size by omega)).trans a4, (hb.cell (p := ⟨ab, ao + e * 6 + 5, none⟩) (show ab < w3.heap.size by omega)).trans a5⟩ : (fun w' : World => w'.cell? ⟨w1.heap.size, 2, none⟩ = some (.slice (some ⟨ab, ao, none⟩) acts.length cA) ∧ w'.cell? ⟨vb, vo + k, none⟩ = some (.int .i64 e) ∧ w'.cell? ⟨ab, ao + e * 6, none⟩ = some (.int .i64 ki) ∧ w'.cell? ⟨ab, ao + e * 6 + 1, none⟩ = some (.int .i64 sr) ∧ w'.cell? ⟨ab, ao + e * 6 + 2, none⟩ = some (.int .i64 ds) ∧ w'.cell? ⟨ab, ao + e * 6 + 3, none⟩ = some (.int .i64 lo) ∧ w'.cell? ⟨ab, ao + e * 6 + 4, none⟩ = some (.int .i64 hi) ∧ w'.cell? ⟨ab, ao + e * 6 + 5, none⟩ = some (.int .i64 wt)) W))
      clear hown hbx hba hb0 hln
      go_upto_region 7 with fail
      go_region_held3 (fun w' => w'.cell? ⟨w1.heap.size, 2, none⟩ = some (.slice (some ⟨ab, ao, none⟩) acts.length cA) ∧ w'.cell? ⟨vb, vo + k, none⟩ = some (.int .i64 e) ∧ w'.cell? ⟨ab, ao + e * 6, none⟩ = some (.int .i64 ki) ∧ w'.cell? ⟨ab, ao + e * 6 + 1, none⟩ = some (.int .i64 sr) ∧ w'.cell? ⟨ab, ao + e * 6 + 2, none⟩ = some (.int .i64 ds) ∧ w'.cell? ⟨ab, ao + e * 6 + 3, none⟩ = some (.int .i64 lo) ∧ w'.cell? ⟨ab, ao + e * 6 + 4, none⟩ = some (.int .i64 hi) ∧ w'.cell? ⟨ab, ao + e * 6 + 5, none⟩ = some (.int .i64 wt)) (first | go_keep | exact HKS.out _ hb2)
        ((refine step_append_blk (by rfl) _ _ 23 (by rfl) w3.heap.size 30 48 Try.underlying23 elemA _ (S.take k) (by rfl) HOA.out [⟨ki, sr, ds, lo, hi, wt⟩] wr.heap.size 1 1 (by rfl) (by rfl) 30 (heap_alloc_new wr _) (by simp only [Go.maxLen, List.length_cons, List.length_nil, HLN.out]; omega) (by simp only [List.length_cons, List.length_nil, HLN.out]; omega) (by have := HB0.out.size; omega) ?_
          intro v2 w4 ho2 hg2 hat2
          have hb2 := HB0.out.grown hg2 (by have := HB0.out.size; omega) (fun q e => (World.ownsRow.lt HOA.out q e).1)
          clear hg2 hat2))
      all_goals
        rw [← HTK.out] at ho2
        have HO2 := Lib.hid ho2
        have HB2 := Lib.hid (HBX.out.trans hb2)
        clear ho2 hb2 a0 a1 a2 a3 a4 a5 p2 c1
        go_wp2_with fail
        go_roundg (S.length - (k + 1))
        case measure => omega
        case rel => exact ⟨k + 1, by omega, rfl, by go_num, HO2.out, HB2.out⟩
    · have hk' : ¬ (k : Int) < (S.length : Int) := by omega
      have hfull : S.take k = S := List.take_of_length_le (by omega)
      rw [hfull] at hown
      obtain ⟨AS, cS, rfl⟩ := hown.form
      clear HOW
      have HOW := Lib.hid hown
      have hb9 := (hbx.block w1.heap.size hgn).trans HBK.out
      have q2 : wr.cell? ⟨w1.heap.size, 2, none⟩ = some (.slice A' acts.length cA) := by rw [cell_of_row wr _ 2 _ _ _ hb9]; rfl
      have f2 : wr.frozen? ⟨w1.heap.size, 2, none⟩ = false := frozen_of_row wr w1.heap.size 2 _ _ hb9
      have hset := set_block (w := wr) (o := 2) (.slice AS S.length cS) hb9
      have hz9 := hbx.size
      clear hown hbx hfull
      go_upto_region 10 with fail
      have bs := (Below.refl w1.heap.size wr).setCell (p := ⟨w1.heap.size, 2, none⟩) (Nat.le_refl _) (.slice AS S.length cS)
      have HOS := Lib.hid (HOW.out.setBelow (a := ⟨w1.heap.size, 2, none⟩) hgn (.slice AS S.length cS))
      have HBS := Lib.hid ((HB3.out.trans (HBX.out.mono (by omega))).trans bs)
      have hzs := bs.size
      clear q2 f2 hb9 bs
      generalize wr.setCell ⟨w1.heap.size, 2, none⟩ (.slice AS S.length cS) = ws at *
      have n0 : ws.cell? ⟨w1.heap.size, 0, none⟩ = some (.int .i64 T) := by rw [cell_of_row _ _ 0 _ _ _ hset]; rfl
      have n1 : ws.cell? ⟨w1.heap.size, 1, none⟩ = some (.slice E m cE) := by rw [cell_of_row _ _ 1 _ _ _ hset]; rfl
      have n2' : ws.cell? ⟨w1.heap.size, 2, none⟩ = some (.slice AS S.length cS) := by rw [cell_of_row _ _ 2 _ _ _ hset]; rfl
      clear hset n2
      go_wp2_with fail
      refine (table_any T E m cE AS cS ev S ws (Own.lst encA_len HOS.out) (HLE.out.belowMore HBS.out (by omega)) HEV.out HSN.out).mono ?_
      rintro ex w4 ⟨gt, D, e, rfl, hSh, hb4⟩
      obtain ⟨ts0, hts0⟩ := acyc_feas HSN.out HSA.out
      have he := (sound_allow13 (by omega) hSh.fin m1 hts0).1
      subst he
      replace n0 := (hb4.cell (p := ⟨w1.heap.size, 0, none⟩) (show w1.heap.size < ws.heap.size by omega)).trans n0
      replace n1 := (hb4.cell (p := ⟨w1.heap.size, 1, none⟩) (show w1.heap.size < ws.heap.size by omega)).trans n1
      replace n2' := (hb4.cell (p := ⟨w1.heap.size, 2, none⟩) (show w1.heap.size < ws.heap.size by omega)).trans n2'
      have hz4 := hb4.size
      have HSH := Lib.hid hSh
      have HB4 := Lib.hid (HBS.out.trans (hb4.mono (by omega)))
      have HSL := Lib.hid ((Own.lst encA_len HOS.out).belowMore hb4 hb4.size)
      clear hSh hb4 hts0
      go_wp2_with fail
      refine (empty_any gt m T S D false w4 HSH.out).mono ?_
      rintro ex w5 ⟨rfl, rfl⟩
      go_wp2_with fail
      refine (from_any A2 c2 l2 w4 (H2.out.below (HB1.out.trans (HB4.out.mono z1)))).mono ?_
      rintro ex w6 ⟨rfl, hsrc, hb6⟩
      have hG := hsrc.lt
      have HSR := Lib.hid hsrc
      have HB6 := Lib.hid hb6
      clear hsrc hb6
      go_wp2_with fail
      obtain ⟨W6, hW6⟩ : ∃ W6, W6 = w6.heap.size := ⟨_, rfl⟩
      have hG6 : w4.heap.size < W6 := by omega
      have hW6' : W6 ≤ w6.heap.size := by omega
      clear hW6 hG
      go_loopg [15, 16, 17, 56] S.length (fun q s15 s16 s17 s56 wx => ∃ (k jj : Nat) (vs : List Int), k ≤ S.length ∧ q = S.length - k ∧ s56 = .int .i64 k ∧ OwnN wx W6 s15 (rngI k) ∧ OwnN wx W6 s16 vs ∧ (∀ g, s15.ownBlock = some g → s16.ownBlock ≠ some g) ∧ ValOk S k vs ∧ Src wx w4.heap.size A2 c2 l2 jj ∧ Below w4.heap.size w4 wx ∧ W6 ≤ wx.heap.size)
      case atStart => exact ⟨0, 0, [], by omega, by omega, rfl, Own.nil _ _ _ _ _, Own.nil _ _ _ _ _, (fun g h => by cases h), ValOk.start S, HSR.out, HB6.out, hW6'⟩
      case round =>
        obtain ⟨k, jj, vs, hk, hg, rfl, ho1, ho2, hap, hval, hsr, hbx, hzx⟩ := hrel
        have i0 : (0 : Int) ≤ (k : Int) := by omega
        have hrl : (rngI k).length = k := rngI_len k
        have hvl : vs.length = k := hval.1
        have HRL := Lib.hid hrl
        have HVL := Lib.hid hvl
        have HO1 := Lib.hid ho1
        have HO2 := Lib.hid ho2
        have HAP := Lib.hid hap
        have HVO := Lib.hid hval
        have HSR2 := Lib.hid hsr
        have HBX := Lib.hid hbx
        clear hrl hvl HSR HB6 hW6'
        by_cases hlt : k < S.length
        · have i1 : (k : Int) < (S.length : Int) := by omega
          obtain ⟨sb, so, rfl, hsb, a0, a1, a2, a3, a4, a5⟩ := HSL.out.ac k hlt
          have hokk := (netB_iff.1 HSN.out).2 S[k] (List.getElem_mem hlt)
          obtain ⟨_, _, _, _, _, b1, b2, b3, b4, _⟩ := hokk
          have HVS := Lib.hid (fun (z : Int) (h1 : S[k].lo ≤ z) (h2 : z ≤ S[k].hi) => HVO.out.step hlt h1 h2)
          generalize S[k].lo = lo at *
          generalize S[k].hi = hi at *
          clear a0 a1 a2 a5 ho1 ho2 hap hval hsr hbx
          go_wp2_with (at_builtin; refine Stp.put ?_)
          refine Stp.out ?_
          refine wpList_append_rec rfl _ _ 26 rfl W6 3 8 Try.underlying26 elem13 _ (rngI k) rfl HO1.out [(k : Int)] _ rfl 1 1 rfl rfl (by have := HRL.out; simp only [Go.maxLen, List.length_cons, List.length_nil]; omega) (by have := HRL.out; simp only [List.length_cons, List.length_nil]; omega) hzx ?_
          intro v8 w8 ho8 hg8 hat8
          have hg8' : wr.grownBy w8 u15.ownBlock := hg8
          have hat8' : v8.ownBlock = u15.ownBlock ∨ v8.ownBlock = some (wr.heap.size + 1) := hat8
          rw [← rngI_succ] at ho8
          have HO8 := Lib.hid ho8
          have HO2b := Lib.hid (HO2.out.kept hg8' (by
            cases h : u16.ownBlock with
            | none => exact .inl rfl
            | some g => exact .inr (fun e => HAP.out g e.symm h)))
          have HAP8 := Lib.hid (show ∀ g, v8.ownBlock = some g → u16.ownBlock ≠ some g from fun g h1 h2 => by
            rcases hat8' with q | q
            · exact HAP.out g (q ▸ h1) h2
            · rw [q] at h1
              injection h1 with h1
              have := (World.ownsRow.lt HO2.out g h2).2
              omega)
          have HSR8 := Lib.hid (HSR2.out.grown hg8' (fun g e => by have := (World.ownsRow.lt HO1.out g e).1; omega))
          have HB8 := Lib.hid (HBX.out.grown hg8' (by have := HBX.out.size; omega) (fun g e => by have := (World.ownsRow.lt HO1.out g e).1; omega))
          have hz8 : W6 ≤ w8.heap.size := by have := hg8'.size; omega
          clear ho8 hg8 hg8' hat8 hat8' HSR2 HBX HO1 HO2 HAP
          have x3 := (HB8.out.cell (p := ⟨sb, so + k * 6 + 3, none⟩) hsb).trans a3
          have x4 := (HB8.out.cell (p := ⟨sb, so + k * 6 + 4, none⟩) hsb).trans a4
          have HKS := Lib.hid (fun (W : World) (hb : Below w4.heap.size w8 W) => (⟨(hb.cell (p := ⟨sb, so + k * 6 + 3, none⟩) hsb).trans x3, (hb.cell (p := ⟨sb, so + k * 6 + 4, none⟩) hsb).trans x4⟩ : (fun w' : World => w'.cell? ⟨sb, so + k * 6 + 3, none⟩ = some (.int .i64 lo) ∧ w'.cell? ⟨sb, so + k * 6 + 4, none⟩ = some (.int .i64 hi)) W))
          have s1 : IntKind.i64.wrap (hi - lo) = hi - lo := IntWalk.i64_in _ (by omega)
          have s2 : IntKind.i64.wrap (hi - lo + 1) = hi - lo + 1 := IntWalk.i64_in _ (by omega)
          clear a3 a4
          have hbn : Below w4.heap.size w8 w8.drew := (Below.refl _ _).drew
          go_upto_region 19 with fail
          go_region_held3 (fun w' => w'.cell? ⟨sb, so + k * 6 + 3, none⟩ = some (.int .i64 lo) ∧ w'.cell? ⟨sb, so + k * 6 + 4, none⟩ = some (.int .i64 hi)) (first | go_keep | exact HKS.out _ hbn)
            ((first
              | (go_at_call 31; refine (next_any w4.heap.size A2 c2 l2 jj (hi - lo + 1) w8.drew (HSR8.out.below ((Below.refl _ w8).drew)) (by omega) (by omega)).mono ?_; rintro e w9 ⟨r, j', hr1, hr2, rfl, hs9, hg9⟩; replace hbn := hbn.grown hg9 (by have := hbn.size; omega) (fun g e => by injection e with e; omega); have s3 : IntKind.i64.wrap (lo + r) = lo + r := IntWalk.i64_in _ (by omega); have hown9 := (HO2b.out.drew).kept hg9 (.inr (fun e => by have := (World.ownsRow.lt HO2b.out _ e).1; omega)); have hz9 : w8.heap.size ≤ w9.heap.size := hg9.size)
              | (refine step_append_blk (by rfl) _ _ 26 (by rfl) W6 3 8 Try.underlying26 elem13 _ vs (by rfl) (hown9.alloc _) [lo + r] w9.heap.size 1 1 (by rfl) (by rfl) 3 (heap_alloc_new w9 _) (by have := HVL.out; simp only [Go.maxLen, List.length_cons, List.length_nil]; omega) (by have := HVL.out; simp only [List.length_cons, List.length_nil]; omega) (by simp; omega) ?_
                 intro v10 w10 ho10 hg10 hat10
                 replace hbn := (hbn.alloc (show w4.heap.size ≤ w9.heap.size by omega) (.cells #[.int .i64 (lo + r)] 3)).grown hg10 (by simp; omega) (fun g e => by have := (World.ownsRow.lt hown9 g e).1; omega))))
          all_goals
            have HVL10 := Lib.hid (HVS.out (lo + r) (by omega) (by omega))
            have HO10 := Lib.hid ho10
            have HO8c := Lib.hid ((((HO8.out.drew).kept hg9 (.inr (fun e => by have := (World.ownsRow.lt HO8.out _ e).1; omega))).alloc (.cells #[.int .i64 (lo + r)] 3)).kept hg10 (by
              cases h : v8.ownBlock with
              | none => exact .inl rfl
              | some g => exact .inr (fun e => HAP8.out g h e.symm)))
            have HAP10 := Lib.hid (show ∀ g, v8.ownBlock = some g → v10.ownBlock ≠ some g from fun g h1 h2 => by
              rcases hat10 with q | q
              · exact HAP8.out g h1 (q ▸ h2)
              · rw [q] at h2
                injection h2 with h2
                have := (World.ownsRow.lt HO8.out g h1).2
                rw [World.size_alloc] at h2
                omega)
            have HSR10 := Lib.hid ((hs9.below (belA w9 (.cells #[.int .i64 (lo + r)] 3))).grown hg10 (fun g e => by have := (World.ownsRow.lt hown9 g e).1; omega))
            have HB10 := Lib.hid (HB8.out.trans hbn)
            have hz10 : W6 ≤ w10.heap.size := by have := hbn.size; omega
            clear ho10 hg9 hg10 hat10 hbn hs9 hown9 x3 x4 s1 s2 s3
            go_wp2_with fail
            go_roundg (S.length - (k + 1))
            case measure => omega
            case rel => exact ⟨k + 1, j', vs ++ [lo + r], by omega, rfl, by go_num, HO8c.out, HO10.out, HAP10.out, HVL10.out, HSR10.out, HB10.out, hz10⟩
        · obtain rfl : k = S.length := by omega
          have hk' : ¬ (S.length : Int) < (S.length : Int) := by omega
          clear ho1 ho2 hap hval hsr HAP HSR2
          obtain ⟨A5, c5, rfl⟩ := HO1.out.form
          obtain ⟨A6, c6, rfl⟩ := HO2.out.form
          have hrl := HRL.out
          rw [hrl]
          have HLR := Lib.hid (Own.lst encI_len HO1.out)
          have HLV := Lib.hid (Own.lst encI_len HO2.out)
          have HBND := Lib.hid (HVO.out.bound HSN.out)
          replace n0 := (hbx.cell (p := ⟨w1.heap.size, 0, none⟩) (show w1.heap.size < w4.heap.size by omega)).trans n0
          replace n1 := (hbx.cell (p := ⟨w1.heap.size, 1, none⟩) (show w1.heap.size < w4.heap.size by omega)).trans n1
          replace n2' := (hbx.cell (p := ⟨w1.heap.size, 2, none⟩) (show w1.heap.size < w4.heap.size by omega)).trans n2'
          have hzr := hbx.size
          clear hbx hrl
          go_wp2_with fail
          refine (pot13_any T E m cE AS cS S A5 c5 A6 c6 vs wr (HSL.out.belowMore HBX.out HBX.out.size) HSN.out HSA.out HLR.out HLV.out HVL.out HBND.out).mono ?_
          rintro ex w11 ⟨gx, X, p, C, rfl, hgx, hrx, hX, hp, hC, hb11⟩
          have hfe := exact_feas HSN.out (v := fun i => vs.getD i 0) hp (fun i h => HVO.out.2 i h h) hC hX
          have hal := (sound_allow13 (by omega) HSH.out.fin m1 hfe).2
          have hLx := lst_of_rowN hrx
          have HXB := Lib.hid (show ∀ u, u < m → 0 ≤ X u ∧ X u < T from fun u hu => by
            rw [hX u hu]
            exact ⟨Int.emod_nonneg _ (by omega), Int.emod_lt_of_pos _ (by omega)⟩)
          have hgd := fun u (hu : u < m) => getD_map_range (m := m) (X := X) hu
          have hxl : ((List.range m).map X).length = m := by simp
          have HB11 := Lib.hid (HBX.out.trans (hb11.mono hzr))
          have HS11 := Lib.hid (HSH.out.below HB11.out)
          have HT11 := Lib.hid (HB1.out.trans ((HB4.out.trans (HB11.out.mono (by omega))).mono z1))
          replace n0 := (hb11.cell (p := ⟨w1.heap.size, 0, none⟩) (show w1.heap.size < wr.heap.size by omega)).trans n0
          replace n1 := (hb11.cell (p := ⟨w1.heap.size, 1, none⟩) (show w1.heap.size < wr.heap.size by omega)).trans n1
          have hz11 := hb11.size
          have HRX := Lib.hid hrx
          have hgxl := rowN_lt hrx
          clear hfe hX hp hC hb11 n2' hrx
          obtain ⟨I, hI, hqi⟩ := pickN13 i m (by omega)
          have hqi := fun W => (show pickI i m = I from hqi) ▸ pick_any i m W (by omega) (by omega)
          obtain ⟨J, hJ, hqj⟩ := pickN13 j m (by omega)
          have hqj := fun W => (show pickI j m = J from hqj) ▸ pick_any j m W (by omega) (by omega)
          have hDD : D I J (res T (X J - X I)) = true := by
            rw [allowB, Bool.and_eq_true, Bool.and_eq_true] at hal
            have := List.all_eq_true.1 (List.all_eq_true.1 hal.2.2 I (List.mem_range.2 hI)) J (List.mem_range.2 hJ)
            rw [hgd I hI, hgd J hJ] at this
            exact this
          have HAL := Lib.hid hal
          have HLX := Lib.hid hLx
          have HXL := Lib.hid hxl
          have hsz := HS11.out.size
          have hln := runs_len (D I J) T
          have HALL := Lib.hid (fun W (hb : Below w11.heap.size w11 W) => (by
            have := allows_any gt m T S D false (some ⟨gx, 0, none⟩) m ((List.range m).map X) W (HS11.out.below hb) (HLX.out.belowMore hb hb.size) (by have := HXL.out; omega)
            rw [HAL.out, HXL.out] at this
            exact this : Calls Try.prog 28 #[.pointer (some ⟨gt, 0, none⟩), .slice (some ⟨gx, 0, none⟩) m m] W fun ex w' => ex = .returned (.bool true) ∧ Below W.heap.size W w'))
          have HHAS := Lib.hid (fun W A c (hl : Lst encS 2 W W.heap.size A (runs (D I J) T)) => (by
            have := refHas_any T A c (runs (D I J) T) (X J - X I) W hl (by omega) (by omega) (by omega)
            rw [has_runs hsz.2.1 hsz.2.2, hDD] at this
            exact this : Calls Try.prog 17 #[.int .i64 T, .slice A (runs (D I J) T).length c, .int .i64 (X J - X I)] W fun e w' => e = .returned (.bool true) ∧ Below W.heap.size W w'))
          have hxi := HXB.out I hI
          have hxj := HXB.out J hJ
          clear hal hLx hxl hgd hDD
          go_wp2_with fail
          refine (hqi _).mono ?_
          rintro ex w' ⟨rfl, rfl⟩
          go_wp2_with fail
          refine (hqj _).mono ?_
          rintro ex w' ⟨rfl, rfl⟩
          obtain ⟨x1, _⟩ := rowN_get HRX.out hI
          obtain ⟨x2, _⟩ := rowN_get HRX.out hJ
          generalize X I = xi at *
          generalize X J = xj at *
          have sw : IntKind.i64.wrap (xj - xi) = xj - xi := IntWalk.i64_in _ (by omega)
          have I0 : (0 : Int) ≤ (I : Int) := by omega
          have I1 : (I : Int) < (m : Int) := by omega
          have J0 : (0 : Int) ≤ (J : Int) := by omega
          have J1 : (J : Int) < (m : Int) := by omega
          go_upto_region 24 with fail
          have hB : Below w11.heap.size w11 w11.drew := (Below.refl _ _).drew
          go_region_held3 (fun w' => w'.cell? ⟨w1.heap.size, 0, none⟩ = some (.int .i64 T) ∧ w'.cell? ⟨gx, I, none⟩ = some (.int .i64 xi) ∧ w'.cell? ⟨gx, J, none⟩ = some (.int .i64 xj))
            (exact ⟨(hB.cell (p := ⟨w1.heap.size, 0, none⟩) (show w1.heap.size < w11.heap.size by omega)).trans n0, (hB.cell (p := ⟨gx, I, none⟩) hgxl).trans x1, (hB.cell (p := ⟨gx, J, none⟩) hgxl).trans x2⟩)
            ((first
              | (go_at_call 28; (with_reducible refine (HALL.out _ hB).mono ?_); rintro ex w12 ⟨rfl, hb12⟩; replace hB := hB.trans (hb12.mono hB.size))
              | (go_at_call 18; (with_reducible refine (betweenIn_any gt m T S D false I J _ (HS11.out.below hB) hI hJ).mono ?_); rintro ex w13 ⟨v13, rfl, ho13, hb13⟩; obtain ⟨A13, c13, rfl⟩ := ho13.form; replace hB := hB.trans (hb13.mono hB.size))
              | (go_at_call 17; (with_reducible refine (HHAS.out _ A13 c13 (Own.lst encS_len ho13)).mono ?_); rintro ex w14 ⟨rfl, hb14⟩; replace hB := hB.trans (hb14.mono hB.size))))
          all_goals
            clear n0 n1 x1 x2 sw
            go_wp2_with fail
            go_ret
            exact ⟨rfl, HT11.out.trans (hB.mono (by have := HT11.out.size; omega))⟩
end Go.Proofs.Ytbhjnihcmfagjaa
