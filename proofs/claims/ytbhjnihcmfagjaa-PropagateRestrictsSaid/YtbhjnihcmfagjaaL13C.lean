/-
  Walk of PropagateRestricts.
-/
import Derived.Test.YtbhjnihcmfagjaaL13B
import Derived.Test.YtbhjnihcmfagjaaRefSet
import Derived.Test.YtbhjnihcmfagjaaStp
set_option linter.unusedVariables false
set_option linter.unusedSimpArgs false
namespace RP
theorem init_ini {m T : Nat} (h1 : 1 ≤ T) {l : List Acy} (hok : ∀ x ∈ l, okA m T x) : ∃ e, Ini m T (initT T l) e := by
  have : ∀ k, k ≤ l.length → ∃ e, Ini m T (initT T (l.take k)) e := fun k => by
    induction k with
    | zero => exact fun _ => ⟨false, Ini.base h1⟩
    | succ k ih =>
      intro hk
      obtain ⟨e, he⟩ := ih (by omega)
      rw [List.take_succ_eq_append_getElem (by omega), initT_snoc]
      have := hok l[k] (List.getElem_mem _)
      unfold okA at this
      exact ⟨_, he.step h1 (by omega) (by omega) (by omega)⟩
  have := this l.length (Nat.le_refl _)
  rwa [List.take_length] at this
theorem init_sub {m T : Nat} (h1 : 1 ≤ T) {l : List Acy} {a : Acy} (hok : ∀ x ∈ l, okA m T x) (ha : okA m T a) : SubT m T (initT T (l ++ [a])) (initT T l) := by
  obtain ⟨e, he⟩ := init_ini h1 hok
  rw [initT_snoc]
  unfold okA at ha
  exact resT_sub (by omega) (by omega) (by omega) he.sym
theorem great_mono {m T : Nat} {I I' D D' : Tab} (h : Great m T I D) (h' : Great m T I' D') (hs : SubT m T I' I) : SubT m T D' D := h.max D' (h'.sub.trans hs) h'.closed
end RP
namespace Go.Proofs.Ytbhjnihcmfagjaa
open Go.RowKit Go.Shelf RP

theorem sev {W w' : World} {B g h : Nat} {v0 v1 v2 v3 v4 v5 v6 : Value} (hb : Below B W w') (hg : g < B) (hh : h < B)
    (k : W.cell? ⟨g, 2, none⟩ = some v0 ∧ W.cell? ⟨h, 0, none⟩ = some v1 ∧ W.cell? ⟨h, 1, none⟩ = some v2 ∧ W.cell? ⟨h, 2, none⟩ = some v3 ∧ W.cell? ⟨h, 3, none⟩ = some v4 ∧ W.cell? ⟨h, 4, none⟩ = some v5 ∧ W.cell? ⟨h, 5, none⟩ = some v6) :
    w'.cell? ⟨g, 2, none⟩ = some v0 ∧ w'.cell? ⟨h, 0, none⟩ = some v1 ∧ w'.cell? ⟨h, 1, none⟩ = some v2 ∧ w'.cell? ⟨h, 2, none⟩ = some v3 ∧ w'.cell? ⟨h, 3, none⟩ = some v4 ∧ w'.cell? ⟨h, 4, none⟩ = some v5 ∧ w'.cell? ⟨h, 5, none⟩ = some v6 := by
  obtain ⟨a0, a1, a2, a3, a4, a5, a6⟩ := k
  exact ⟨(hb.cell (p := ⟨g, 2, none⟩) hg).trans a0, (hb.cell (p := ⟨h, 0, none⟩) hh).trans a1, (hb.cell (p := ⟨h, 1, none⟩) hh).trans a2, (hb.cell (p := ⟨h, 2, none⟩) hh).trans a3, (hb.cell (p := ⟨h, 3, none⟩) hh).trans a4, (hb.cell (p := ⟨h, 4, none⟩) hh).trans a5, (hb.cell (p := ⟨h, 5, none⟩) hh).trans a6⟩
theorem cntTo_mono {m T : Nat} {D D' : Tab} (h : SubT m T D' D) : ∀ k, k ≤ m * m → cntTo m T D' k ≤ cntTo m T D k
  | 0, _ => Nat.le_refl _
  | k + 1, hk => by
    have h0 : 0 < m := Nat.pos_of_ne_zero fun q => by subst q; simp at hk
    have h1 := cntTo_mono h k (by omega)
    have h2 := cnt_le (k := T) fun x hx => h (k / m) (k % m) (Nat.div_lt_of_lt_mul (by omega)) (Nat.mod_lt _ h0) x hx
    simp only [cntTo]; omega



set_option maxRecDepth 100000 in
set_option maxHeartbeats 8000000 in
theorem walkPropagateRestricts (A : Option Addr) (c : Nat) (l : List Int) (fr tt lo sp i j : Int) (w : World) (h : ArgI w A c l) (_ : R64 fr) (_ : R64 tt) (_ : R64 lo) (_ : R64 sp) (_ : R64 i) (_ : R64 j) :
    Calls Try.prog 7 #[.slice A l.length c, .int .i64 fr, .int .i64 tt, .int .i64 lo, .int .i64 sp, .int .i64 i, .int .i64 j] w fun e w' => e = .returned (.bool true) ∧ Below w.heap.size w w' := by
  go_enter Try.func7, Try.ntmps7
  go_wp2_with fail
  refine (network_any A c l w h).mono ?_
  rintro ex w1 ⟨T, m, E, cE, A', cA, ev, acts, rfl, hev, hoE, hoA, hmade, hb1⟩
  have HMD := Lib.hid hmade
  obtain ⟨_, t1, t2, m1, m2, la⟩ := hmade
  have lE := Own.lst encE_len hoE
  have lA := Own.lst encA_len hoA
  clear hoE hoA
  have z1 := hb1.size
  have ba := belA w1 (.cells #[.int .i64 T, .slice E m cE, .slice A' acts.length cA] 25)
  have hnew := heap_alloc_new w1 (.cells #[.int .i64 T, .slice E m cE, .slice A' acts.length cA] 25)
  have n0 : (w1.alloc (.cells #[.int .i64 T, .slice E m cE, .slice A' acts.length cA] 25)).cell? ⟨w1.heap.size, 0, none⟩ = some (.int .i64 T) := by rw [cell_of_row _ _ 0 _ _ _ hnew]; rfl
  have n1 : (w1.alloc (.cells #[.int .i64 T, .slice E m cE, .slice A' acts.length cA] 25)).cell? ⟨w1.heap.size, 1, none⟩ = some (.slice E m cE) := by rw [cell_of_row _ _ 1 _ _ _ hnew]; rfl
  have n2 : (w1.alloc (.cells #[.int .i64 T, .slice E m cE, .slice A' acts.length cA] 25)).cell? ⟨w1.heap.size, 2, none⟩ = some (.slice A' acts.length cA) := by rw [cell_of_row _ _ 2 _ _ _ hnew]; rfl
  have za : (w1.alloc (.cells #[.int .i64 T, .slice E m cE, .slice A' acts.length cA] 25)).heap.size = w1.heap.size + 1 := by simp
  have hbw := hb1.trans (ba.mono z1)
  have HLA0 := Lib.hid (lA.below ba)
  have HLE0 := Lib.hid (lE.below ba)
  replace lE := lE.belowMore ba (show w1.heap.size ≤ (w1.alloc (.cells #[.int .i64 T, .slice E m cE, .slice A' acts.length cA] 25)).heap.size by simp)
  replace lA := lA.belowMore ba (show w1.heap.size ≤ (w1.alloc (.cells #[.int .i64 T, .slice E m cE, .slice A' acts.length cA] 25)).heap.size by simp)
  have HBW := Lib.hid hbw
  have HLE := Lib.hid lE
  have HLA := Lib.hid lA
  have HEV := Lib.hid hev
  clear hb1 ba hnew hbw lE lA hev
  by_cases hm2 : m < 2
  · go_wp2_with fail
    generalize w1.alloc (.cells #[.int .i64 T, .slice E m cE, .slice A' acts.length cA] 25) = w2 at *
    refine (table_any T E m cE A' cA ev acts w2 HLA.out HLE.out HEV.out HMD.out.1).mono ?_
    rintro ex w3 ⟨gt, D, e, rfl, hS, hb3⟩
    have HB3 := Lib.hid (HBW.out.trans (hb3.mono HBW.out.size))
    clear hb3 hS
    go_wp2_with fail
    go_ret
    exact ⟨ret_bool (by simp), HB3.out⟩
  · obtain ⟨F, hF, hqf⟩ := pickN fr m (by omega)
    have hqf := fun W => (show pickI fr m = F from hqf) ▸ pick_any fr m W (by omega) (by omega)
    have eG : ((m - 1 : Nat) : Int) = (m : Int) - 1 := by omega
    obtain ⟨G, hG, hqt⟩ := pickN tt (m - 1) (by omega)
    rw [eG] at hqt
    have hqt := fun W => (show pickI tt ((m : Int) - 1) = G from hqt) ▸ pick_any tt ((m : Int) - 1) W (by omega) (by omega)
    obtain ⟨Lo, hLo, hql⟩ := pickN lo T (by omega)
    have hql := fun W => (show pickI lo T = Lo from hql) ▸ pick_any lo T W (by omega) (by omega)
    obtain ⟨Sp, hSp, hqs⟩ := pickN sp T (by omega)
    have hqs := fun W => (show pickI sp T = Sp from hqs) ▸ pick_any sp T W (by omega) (by omega)
    obtain ⟨I, hI, hqi⟩ := pickN i m (by omega)
    have hqi := fun W => (show pickI i m = I from hqi) ▸ pick_any i m W (by omega) (by omega)
    obtain ⟨J, hJ, hqj⟩ := pickN j m (by omega)
    have hqj := fun W => (show pickI j m = J from hqj) ▸ pick_any j m W (by omega) (by omega)
    go_wp2_with fail
    refine (hqf _).mono ?_
    rintro ex w' ⟨rfl, rfl⟩
    generalize w1.alloc (.cells #[.int .i64 T, .slice E m cE, .slice A' acts.length cA] 25) = w2 at *
    have sw1 : IntKind.i64.wrap ((F : Int) + 1) = (F : Int) + 1 := IntWalk.i64_in _ (by omega)
    have sw2 : IntKind.i64.wrap ((m : Int) - 1) = (m : Int) - 1 := IntWalk.i64_in _ (by omega)
    have sw3 : IntKind.i64.wrap ((F : Int) + 1 + G) = (F : Int) + 1 + G := IntWalk.i64_in _ (by omega)
    have hmz : ¬ m = 0 := by omega
    have hmy : (m == 0) = false := by simp; omega
    have hpk := pick_other (m := m) (sr := (F : Int)) (x := (G : Int)) (by omega) (by omega) (by omega) (by omega)
    rw [← Int.tmod_eq_emod_of_nonneg (by omega)] at hpk
    have hz1 : w1.heap.size < w2.heap.size := by omega
    go_upto_region 7 with fail
    have zx : w2.heap.size = w1.heap.size + 1 := za
    have ba := belA w2 (.cells #[.int .i64 T, .slice E m cE, .slice A' acts.length cA] 25)
    have hgx := heap_alloc_new w2 (.cells #[.int .i64 T, .slice E m cE, .slice A' acts.length cA] 25)
    rw [zx] at hgx
    have zV : (w2.alloc (.cells #[.int .i64 T, .slice E m cE, .slice A' acts.length cA] 25)).heap.size = w1.heap.size + 2 := by rw [World.size_alloc, zx]
    replace n0 := (ba.cell (p := ⟨w1.heap.size, 0, none⟩) hz1).trans n0
    replace n1 := (ba.cell (p := ⟨w1.heap.size, 1, none⟩) hz1).trans n1
    replace n2 := (ba.cell (p := ⟨w1.heap.size, 2, none⟩) hz1).trans n2
    have HBa := Lib.hid (ba.mono (show w1.heap.size ≤ w2.heap.size by omega))
    have HZB := Lib.hid z1
    have HLA2 := Lib.hid (HLA.out.belowMore ba ba.size)
    have HLE2 := Lib.hid (HLE.out.belowMore ba ba.size)
    have HBW2 := Lib.hid (HBW.out.trans (ba.mono HBW.out.size))
    have HGX := Lib.hid hgx
    generalize w2.alloc (.cells #[.int .i64 T, .slice E m cE, .slice A' acts.length cA] 25) = W0 at *
    clear ba hgx zx za HLA HLE
    generalize hgn : w1.heap.size = gn at *
    clear hgn hz1
    obtain ⟨tod, htd⟩ : ∃ q, ((F : Int) + 1 + G).tmod m = q := ⟨_, rfl⟩
    rw [htd] at hpk
    have n0d : W0.drew.cell? ⟨gn, 0, none⟩ = some (.int .i64 T) := n0
    go_cut [18] (fun s18 wx => s18 = .pointer (some ⟨gn + 2, 0, none⟩) ∧ wx = (W0.alloc (.cells #[.int .i64 0, .int .i64 F, .int .i64 tod, .int .i64 Lo, .int .i64 0, .int .i64 0] 30)).drew)
    case first =>
      go_region_held3 (fun w' => w'.cell? ⟨gn, 0, none⟩ = some (.int .i64 T))
        (first | exact n0d | exact al n0d | (exact (cell_far' (by omega)).trans (al n0d)) | go_keep)
        (first
          | (go_at_call 13; (with_reducible refine (hqt _).mono ?_); rintro e w' ⟨rfl, rfl⟩)
          | (go_at_call 13; (with_reducible refine (hql _).mono ?_); rintro e w' ⟨rfl, rfl⟩))
      all_goals
        go_wp2_with fail
        go_meet
        exact ⟨rfl, rfl⟩
    case rest =>
      obtain ⟨rfl, rfl⟩ := hcut
      have bA : Below W0.heap.size W0 (W0.alloc (.cells #[.int .i64 0, .int .i64 F, .int .i64 tod, .int .i64 Lo, .int .i64 0, .int .i64 0] 30)).drew := (belA W0 _).drew
      have hga : (W0.alloc (.cells #[.int .i64 0, .int .i64 F, .int .i64 tod, .int .i64 Lo, .int .i64 0, .int .i64 0] 30)).drew.heap[gn + 2]? = some (.cells #[.int .i64 0, .int .i64 F, .int .i64 tod, .int .i64 Lo, .int .i64 0, .int .i64 0] 30 (0, 0)) := by
        rw [← zV]; exact heap_alloc_new W0 _
      have zA : (W0.alloc (.cells #[.int .i64 0, .int .i64 F, .int .i64 tod, .int .i64 Lo, .int .i64 0, .int .i64 0] 30)).drew.heap.size = gn + 3 := by
        show (W0.alloc _).heap.size = _
        rw [World.size_alloc, zV]
      have hgn0 : gn < W0.heap.size := by omega
      have hgx0 : gn + 1 < W0.heap.size := by omega
      replace n0 := (bA.cell (p := ⟨gn, 0, none⟩) hgn0).trans n0
      replace n1 := (bA.cell (p := ⟨gn, 1, none⟩) hgn0).trans n1
      replace n2 := (bA.cell (p := ⟨gn, 2, none⟩) hgn0).trans n2
      have HGX1 := Lib.hid ((bA.block (gn + 1) hgx0).trans HGX.out)
      have HLA4 := Lib.hid ((HLA0.out.below (HBa.out)).below (bA.mono (show gn ≤ W0.heap.size by omega)))
      have HLE4 := Lib.hid ((HLE0.out.below (HBa.out)).below (bA.mono (show gn ≤ W0.heap.size by omega)))
      have HLA3 := Lib.hid (HLA2.out.belowMore bA bA.size)
      have HLE3 := Lib.hid (HLE2.out.belowMore bA bA.size)
      have HBW4 := Lib.hid (HBW2.out.trans (bA.mono HBW2.out.size))
      generalize (W0.alloc (.cells #[.int .i64 0, .int .i64 F, .int .i64 tod, .int .i64 Lo, .int .i64 0, .int .i64 0] 30)).drew = W1 at *
      have y3 : W1.cell? ⟨gn + 2, 3, none⟩ = some (.int .i64 Lo) := by rw [cell_of_row W1 _ 3 _ _ _ hga]; rfl
      have y4 : W1.cell? ⟨gn + 2, 4, none⟩ = some (.int .i64 0) := by rw [cell_of_row W1 _ 4 _ _ _ hga]; rfl
      have yf : W1.frozen? ⟨gn + 2, 4, none⟩ = false := by simp [World.frozen?, hga]
      have HGA := Lib.hid hga
      have sw4 : IntKind.i64.wrap ((Lo : Int) + Sp) = (Lo : Int) + Sp := IntWalk.i64_in _ (by omega)
      clear hga bA n0d sw1 sw2 sw3 HGX HLA2 HLE2 HBW2
      go_upto_region 8 with fail
      have n0d : W1.drew.cell? ⟨gn, 0, none⟩ = some (.int .i64 T) := n0
      have y3d : W1.drew.cell? ⟨gn + 2, 3, none⟩ = some (.int .i64 Lo) := y3
      go_cut [59] (fun s59 wx => wx = (W1.setCell ⟨gn + 2, 4, none⟩ (.int .i64 ((Lo : Int) + Sp))).drew)
      case first =>
        go_region_held3 (fun w' => w'.cell? ⟨gn, 0, none⟩ = some (.int .i64 T) ∧ w'.cell? ⟨gn + 2, 3, none⟩ = some (.int .i64 Lo))
          (first | exact ⟨n0d, y3d⟩ | exact ⟨(cell_far' (by omega)).trans n0d, (cell_off (by simp)).trans y3d⟩ | go_keep)
          ((go_at_call 13; (with_reducible refine (hqs _).mono ?_); rintro e w' ⟨rfl, rfl⟩))
        all_goals
          go_wp2_with fail
          go_meet
          first | rfl | (trace_state; sorry)
      case rest =>
        subst hcut
        have kS : Kept [gn + 2] W1 (W1.setCell ⟨gn + 2, 4, none⟩ (.int .i64 ((Lo : Int) + Sp))).drew := ((Kept.refl [gn + 2] W1).setCell (gn + 2) 4 _ (.inl (by simp))).drew
        have hga2 : (W1.setCell ⟨gn + 2, 4, none⟩ (.int .i64 ((Lo : Int) + Sp))).drew.heap[gn + 2]? = some (.cells #[.int .i64 0, .int .i64 F, .int .i64 tod, .int .i64 Lo, .int .i64 ((Lo : Int) + Sp), .int .i64 0] 30 (0, 0)) := set_block' (o := 4) (.int .i64 ((Lo : Int) + Sp)) HGA.out
        replace n0 := (kS.cell (b := gn) (o := 0) (by omega) (by simp)).trans n0
        replace n1 := (kS.cell (b := gn) (o := 1) (by omega) (by simp)).trans n1
        replace n2 := (kS.cell (b := gn) (o := 2) (by omega) (by simp)).trans n2
        have hgx2 := (kS.block (gn + 1) (by omega) (by simp)).trans HGX1.out
        have zS : (W1.setCell ⟨gn + 2, 4, none⟩ (.int .i64 ((Lo : Int) + Sp))).drew.heap.size = gn + 3 := by
          rw [show (W1.setCell ⟨gn + 2, 4, none⟩ (.int .i64 ((Lo : Int) + Sp))).drew.heap.size = W1.heap.size by simp [World.setCell], zA]
        have HLA5 := Lib.hid (HLA4.out.below (kS.below (n₀ := gn) (by simp) (by omega)))
        have HLE5 := Lib.hid (HLE4.out.below (kS.below (n₀ := gn) (by simp) (by omega)))
        have HBW5 := Lib.hid (HBW4.out.trans ((kS.below (n₀ := gn) (by simp) (by omega)).mono (by have := HZB.out; omega)))
        generalize (W1.setCell ⟨gn + 2, 4, none⟩ (.int .i64 ((Lo : Int) + Sp))).drew = W at *
        have k0 : W.cell? ⟨gn + 2, 0, none⟩ = some (.int .i64 0) := by rw [cell_of_row W _ 0 _ _ _ hga2]; rfl
        have k1 : W.cell? ⟨gn + 2, 1, none⟩ = some (.int .i64 F) := by rw [cell_of_row W _ 1 _ _ _ hga2]; rfl
        have k2 : W.cell? ⟨gn + 2, 2, none⟩ = some (.int .i64 tod) := by rw [cell_of_row W _ 2 _ _ _ hga2]; rfl
        have k3 : W.cell? ⟨gn + 2, 3, none⟩ = some (.int .i64 Lo) := by rw [cell_of_row W _ 3 _ _ _ hga2]; rfl
        have k4 : W.cell? ⟨gn + 2, 4, none⟩ = some (.int .i64 ((Lo : Int) + Sp)) := by rw [cell_of_row W _ 4 _ _ _ hga2]; rfl
        have k5 : W.cell? ⟨gn + 2, 5, none⟩ = some (.int .i64 0) := by rw [cell_of_row W _ 5 _ _ _ hga2]; rfl
        have x2 : W.cell? ⟨gn + 1, 2, none⟩ = some (.slice A' acts.length cA) := by rw [cell_of_row W _ 2 _ _ _ hgx2]; rfl
        have xf : W.frozen? ⟨gn + 1, 2, none⟩ = false := by simp [World.frozen?, hgx2]
        have HGX2 := Lib.hid hgx2
        clear kS hga2 hgx2 y3 y4 yf n0d y3d HGX1 HGA HLA4 HLE4 HBW4 sw4 HLA3 HLE3
        have hgW : gn < W.heap.size := by omega
        have hgW1 : gn + 1 < W.heap.size := by omega
        have hgW2 : gn + 2 < W.heap.size := by omega
        have hlen : acts.length ≤ 8 := la
        have HZS := Lib.hid zS
        have HZA := Lib.hid zA
        have HZV := Lib.hid zV
        clear zS zA zV
        go_upto_region 9 with fail
        have hbU : Below W.heap.size W (W.drew.alloc (.cells #[.int .i64 0, .int .i64 F, .int .i64 tod, .int .i64 Lo, .int .i64 ((Lo : Int) + Sp), .int .i64 0] 30)) := ((Below.refl W.heap.size W).drew).alloc (Nat.le_refl _) _
        have zU : W.heap.size < (W.drew.alloc (.cells #[.int .i64 0, .int .i64 F, .int .i64 tod, .int .i64 Lo, .int .i64 ((Lo : Int) + Sp), .int .i64 0] 30)).heap.size := by simp
        have hU : (W.drew.alloc (.cells #[.int .i64 0, .int .i64 F, .int .i64 tod, .int .i64 Lo, .int .i64 ((Lo : Int) + Sp), .int .i64 0] 30)).heap[W.heap.size]? = some (.cells #[.int .i64 0, .int .i64 F, .int .i64 tod, .int .i64 Lo, .int .i64 ((Lo : Int) + Sp), .int .i64 0] 30 (0, 0)) := heap_alloc_new W.drew _
        have HU := Lib.hid hU
        have ZU := Lib.hid zU
        have hlW := HLA5.out
        have hlU : Lst encA 6 (W.drew.alloc (.cells #[.int .i64 0, .int .i64 F, .int .i64 tod, .int .i64 Lo, .int .i64 ((Lo : Int) + Sp), .int .i64 0] 30)) gn A' acts := hlW.below (hbU.mono (by omega))
        clear hU zU
        go_cut [66] (fun s66 wx => ∃ A5 c5, wx.heap[gn + 1]? = some (.cells #[.int .i64 T, .slice E m cE, .slice A5 (acts.length + 1) c5] 25 (0, 0)) ∧ OwnA wx W.heap.size (.slice A5 (acts.length + 1) c5) (acts ++ [(Acy.mk 0 F tod Lo ((Lo : Int) + Sp) 0)]) ∧ Kept [gn + 1] W wx)
        case first =>
          go_region_held3 (fun w' => w'.cell? ⟨gn, 2, none⟩ = some (.slice A' acts.length cA) ∧ w'.cell? ⟨gn + 2, 0, none⟩ = some (.int .i64 0) ∧ w'.cell? ⟨gn + 2, 1, none⟩ = some (.int .i64 F) ∧ w'.cell? ⟨gn + 2, 2, none⟩ = some (.int .i64 tod) ∧ w'.cell? ⟨gn + 2, 3, none⟩ = some (.int .i64 Lo) ∧ w'.cell? ⟨gn + 2, 4, none⟩ = some (.int .i64 ((Lo : Int) + Sp)) ∧ w'.cell? ⟨gn + 2, 5, none⟩ = some (.int .i64 0))
            (first | exact ⟨n2, k0, k1, k2, k3, k4, k5⟩ | exact J7 | exact N7 | exact ⟨(cell_far' (by omega)).trans N7.1, (cell_far' (by omega)).trans N7.2.1, (cell_far' (by omega)).trans N7.2.2.1, (cell_far' (by omega)).trans N7.2.2.2.1, (cell_far' (by omega)).trans N7.2.2.2.2.1, (cell_far' (by omega)).trans N7.2.2.2.2.2.1, (cell_far' (by omega)).trans N7.2.2.2.2.2.2⟩ | go_keep)
            (first
              | (refine step_append_lst rfl _ _ 23 rfl W.heap.size 30 48 Try.underlying23 elemA (.slice none 0 0) [] rfl (Own.nil _ _ _ _ _) acts _ _ cA gn rfl rfl hlW (by simp only [Go.maxLen, List.length_nil]; omega) (by simp only [List.length_nil]; omega) (Nat.le_refl _) ?_
                 intro v4 w4 ho4 hg4 hat4
                 rw [List.nil_append] at ho4
                 have hb4 : Below W.heap.size W w4 := below_of_grownBy (w := W) ⟨hg4.os, hg4.tape, hg4.output, hg4.size, hg4.block⟩ (Nat.le_refl _) (fun k hk => by cases hk)
                 have z4 := hb4.size
                 have J7 := sev hb4 hgW hgW2 ⟨n2, k0, k1, k2, k3, k4, k5⟩
                 clear hg4 hat4)
              | (refine step_append_lst (W := W.drew.alloc (.cells #[.int .i64 0, .int .i64 F, .int .i64 tod, .int .i64 Lo, .int .i64 ((Lo : Int) + Sp), .int .i64 0] 30)) rfl _ _ 23 rfl W.heap.size 30 48 Try.underlying23 elemA (.slice none 0 0) [] rfl (Own.nil _ _ _ _ _) acts _ _ cA gn rfl rfl hlU (by simp only [Go.maxLen, List.length_nil]; omega) (by simp only [List.length_nil]; omega) (Nat.le_of_lt ZU.out) ?_
                 intro v4 w4 ho4 hg4 hat4
                 rw [List.nil_append] at ho4
                 have hb4 : Below W.heap.size W w4 := hbU.grown hg4 (Nat.le_of_lt ZU.out) (fun k hk => by cases hk)
                 have hk4 : w4.heap[W.heap.size]? = some (.cells #[.int .i64 0, .int .i64 F, .int .i64 tod, .int .i64 Lo, .int .i64 ((Lo : Int) + Sp), .int .i64 0] 30 (0, 0)) := (hg4.block W.heap.size ZU.out (by intro q; cases q)).trans HU.out
                 have HK4 := Lib.hid hk4
                 have z4 := hb4.size
                 have J7 := sev hb4 hgW hgW2 ⟨n2, k0, k1, k2, k3, k4, k5⟩
                 clear hg4 hat4 hk4)
              | (refine step_append_blk (by rfl) _ _ 23 (by rfl) W.heap.size 30 48 Try.underlying23 elemA v4 acts (by rfl) (ho4.alloc _) [(Acy.mk 0 F tod Lo ((Lo : Int) + Sp) 0)] w4.heap.size 1 1 (by rfl) (by rfl) 30 (heap_alloc_new w4 _) (by simp only [Go.maxLen, List.length_cons, List.length_nil]; omega) (by simp only [List.length_cons, List.length_nil]; omega) (by simp; omega) ?_
                 intro v5 w5 ho5 hg5 hat5
                 have hb5 : Below W.heap.size W w5 := (hb4.alloc z4 _).grown hg5 (by simp; omega) (fun g hg => (World.ownsRow.lt ho4 g hg).1)
                 have z5 := hb5.size
                 have N7 := sev hb5 hgW hgW2 ⟨n2, k0, k1, k2, k3, k4, k5⟩
                 obtain ⟨A5, c5, rfl⟩ := ho5.form
                 have q2 := (hb5.cell (p := ⟨gn + 1, 2, none⟩) hgW1).trans x2
                 have qf := (hb5.frozen (p := ⟨gn + 1, 2, none⟩) hgW1).trans xf
                 clear hg5 hat5 hb4 ho4)
              | (refine step_append_blk (by rfl) _ _ 23 (by rfl) W.heap.size 30 48 Try.underlying23 elemA v4 acts (by rfl) ho4 [(Acy.mk 0 F tod Lo ((Lo : Int) + Sp) 0)] W.heap.size 1 1 (by rfl) (by rfl) 30 HK4.out (by simp only [Go.maxLen, List.length_cons, List.length_nil]; omega) (by simp only [List.length_cons, List.length_nil]; omega) (by omega) ?_
                 intro v5 w5 ho5 hg5 hat5
                 have hb5 : Below W.heap.size W w5 := hb4.grown hg5 z4 (fun g hg => (World.ownsRow.lt ho4 g hg).1)
                 have z5 := hb5.size
                 have N7 := sev hb5 hgW hgW2 ⟨n2, k0, k1, k2, k3, k4, k5⟩
                 obtain ⟨A5, c5, rfl⟩ := ho5.form
                 have q2 := (hb5.cell (p := ⟨gn + 1, 2, none⟩) hgW1).trans x2
                 have qf := (hb5.frozen (p := ⟨gn + 1, 2, none⟩) hgW1).trans xf
                 clear hg5 hat5 hb4 ho4))
          all_goals
            rw [show (acts ++ [(Acy.mk 0 F tod Lo ((Lo : Int) + Sp) 0)]).length = acts.length + 1 by simp] at ho5
            have HO5 := Lib.hid (ho5.setBelow (a := ⟨gn + 1, 2, none⟩) hgW1 (.slice A5 (acts.length + 1) c5))
            have HX5 := Lib.hid (set_block' (o := 2) (.slice A5 (acts.length + 1) c5) ((hb5.block (gn + 1) hgW1).trans HGX2.out))
            have HK5 := Lib.hid ((Kept.of_below [gn + 1] hb5).setCell (gn + 1) 2 (.slice A5 (acts.length + 1) c5) (.inl (by simp)))
            go_wp2_with fail
            go_meet
            exact ⟨A5, c5, HX5.out, HO5.out, HK5.out⟩
        case rest =>
          obtain ⟨A5, c5, hX5, hO5, hK5⟩ := hcut
          have hzc := hK5.size
          replace n0 := (hK5.cell (b := gn) (o := 0) hgW (by simp)).trans n0
          replace n1 := (hK5.cell (b := gn) (o := 1) hgW (by simp)).trans n1
          replace n2 := (hK5.cell (b := gn) (o := 2) hgW (by simp)).trans n2
          have x0 : wc.cell? ⟨gn + 1, 0, none⟩ = some (.int .i64 T) := by rw [cell_of_row wc _ 0 _ _ _ hX5]; rfl
          have x1 : wc.cell? ⟨gn + 1, 1, none⟩ = some (.slice E m cE) := by rw [cell_of_row wc _ 1 _ _ _ hX5]; rfl
          have x2' : wc.cell? ⟨gn + 1, 2, none⟩ = some (.slice A5 (acts.length + 1) c5) := by rw [cell_of_row wc _ 2 _ _ _ hX5]; rfl
          have hbg : Below gn W wc := hK5.below (by simp) (by omega)
          have HLAc := Lib.hid ((HLA5.out.below hbg).more (show gn ≤ wc.heap.size by omega))
          have HLEc := Lib.hid ((HLE5.out.below hbg).more (show gn ≤ wc.heap.size by omega))
          have HLXc := Lib.hid (Own.lst encA_len hO5)
          have HBc := Lib.hid (HBW5.out.trans (hbg.mono (by have := HZB.out; omega)))
          have hokA : okA m T (Acy.mk 0 F tod Lo ((Lo : Int) + Sp) 0) := by simp only [okA]; omega
          have hall := (netB_iff.1 HMD.out.1).2
          have hnet2 : netB T m (acts ++ [(Acy.mk 0 F tod Lo ((Lo : Int) + Sp) 0)]) = true := netB_iff.2 ⟨⟨by omega, by omega, by omega, by simp; omega⟩, fun x hx => by
            rcases List.mem_append.1 hx with hx | hx
            · exact hall x hx
            · rw [List.mem_singleton.1 hx]; exact hokA⟩
          have HSUB := Lib.hid (init_sub (m := m) (T := T) (by omega) hall hokA)
          have HT1 := Lib.hid (fun W (hb : Below wc.heap.size wc W) => table_any T E m cE A' cA ev acts W (HLAc.out.belowMore hb hb.size) (HLEc.out.belowMore hb hb.size) HEV.out HMD.out.1)
          have HT2 := Lib.hid (show ∀ W, Below wc.heap.size wc W → Calls Try.prog 16 #[netV T E m cE A5 (acts.length + 1) c5] W fun ex w' => ∃ gt D e, ex = .returned (.pointer (some ⟨gt, 0, none⟩)) ∧ Shut13 w' gt m T (acts ++ [(Acy.mk 0 F tod Lo ((Lo : Int) + Sp) 0)]) D e ∧ Below W.heap.size W w' from fun W hb => by
            have := table_any T E m cE A5 c5 ev (acts ++ [(Acy.mk 0 F tod Lo ((Lo : Int) + Sp) 0)]) W (HLXc.out.belowMore hb hb.size) (HLEc.out.belowMore hb hb.size) HEV.out hnet2
            rw [show (acts ++ [(Acy.mk 0 F tod Lo ((Lo : Int) + Sp) 0)]).length = acts.length + 1 by simp] at this
            exact this)
          clear hX5 hO5 hK5 hbg hokA hall hnet2 x2 xf k0 k1 k2 k3 k4 k5 HLA5 HLE5 HBW5 HGX2 HLAc HLEc HLXc hlW hlU hbU HU ZU hgW1 hgW2
          have hgc : gn < wc.heap.size := by omega
          have hgc1 : gn + 1 < wc.heap.size := by have := HZS.out; omega
          go_upto_region 10 with fail
          have hB : Below wc.heap.size wc wc.drew := (Below.refl _ _).drew
          go_region_held3 (fun w' => w'.cell? ⟨gn, 0, none⟩ = some (.int .i64 T) ∧ w'.cell? ⟨gn, 1, none⟩ = some (.slice E m cE) ∧ w'.cell? ⟨gn, 2, none⟩ = some (.slice A' acts.length cA) ∧ w'.cell? ⟨gn + 1, 0, none⟩ = some (.int .i64 T) ∧ w'.cell? ⟨gn + 1, 1, none⟩ = some (.slice E m cE) ∧ w'.cell? ⟨gn + 1, 2, none⟩ = some (.slice A5 (acts.length + 1) c5))
            (exact ⟨(hB.cell (p := ⟨gn, 0, none⟩) hgc).trans n0, (hB.cell (p := ⟨gn, 1, none⟩) hgc).trans n1, (hB.cell (p := ⟨gn, 2, none⟩) hgc).trans n2, (hB.cell (p := ⟨gn + 1, 0, none⟩) hgc1).trans x0, (hB.cell (p := ⟨gn + 1, 1, none⟩) hgc1).trans x1, (hB.cell (p := ⟨gn + 1, 2, none⟩) hgc1).trans x2'⟩)
            (first
              | (go_at_call 16; (with_reducible refine (HT1.out _ hB).mono ?_); rintro ex w4 ⟨gt1, D1, e1, rfl, hS1, hb4⟩; replace hB := hB.trans (hb4.mono hB.size))
              | (go_at_call 16; (with_reducible refine (HT2.out _ hB).mono ?_); rintro ex w5 ⟨gt2, D2, e2, rfl, hS2, hb5⟩; replace hS1 := hS1.below hb5; replace hB := hB.trans (hb5.mono hB.size)))
          have m0 := (hB.cell (p := ⟨gn, 0, none⟩) hgc).trans n0
          have z5 := hB.size
          have HB5 := Lib.hid (HBc.out.trans (hB.mono HBc.out.size))
          have HS1 := Lib.hid hS1
          have HS2 := Lib.hid hS2
          have hsub := great_mono hS1.fin.great hS2.fin.great HSUB.out
          have hsz := hS1.size
          have h1 := hsz.2.1
          have h2 := hsz.2.2
          have hct := cntTo_mono hsub (m * m) (Nat.le_refl _)
          have hle1 := cntTo_le (m := m) (T := T) (D := D1) (m * m)
          have hle2 : m * m * T ≤ 2304 * 7200 := Nat.mul_le_mul (Nat.mul_le_mul hsz.1 hsz.1) hsz.2.2
          have HSS := Lib.hid hsub
          clear hS1 hS2 hb4 hb5 hB HT1 HT2 n0 n1 n2 x0 x1 x2' HSUB hsub HBc
          go_wp2_with fail
          refine (hqi _).mono ?_
          rintro ex w' ⟨rfl, rfl⟩
          go_wp2_with fail
          refine (hqj _).mono ?_
          rintro ex w' ⟨rfl, rfl⟩
          have ln1 := runs_len (D1 I J) T
          have ln2 := runs_len (D2 I J) T
          have HINT : ∀ W A c B d, Lst encS 2 W W.heap.size A (runs (D1 I J) T) → Lst encS 2 W W.heap.size B (runs (D2 I J) T) → Calls Try.prog 23 #[.int .i64 T, .slice A (runs (D1 I J) T).length c, .slice B (runs (D2 I J) T).length d] W fun e w' => ∃ A' c', e = .returned (.tuple #[.slice A' (runs (D2 I J) T).length c', .int .i64 0]) ∧ OwnS w' W.heap.size (.slice A' (runs (D2 I J) T).length c') (runs (D2 I J) T) ∧ Below W.heap.size W w' := fun W A c B d ha hb => by
            refine (refIntersect_any T A B c d (runs (D1 I J) T) (runs (D2 I J) T) W ha hb h1 h2 (by omega) (by omega)).mono ?_
            rintro e w' ⟨v, rfl, ho, hb⟩
            rw [← interI_nat, inter_runs h1 h2, runs_congr (Q := D2 I J) (fun x hx => by
              cases q : D2 I J x with
              | false => rw [Bool.and_false]
              | true => rw [HSS.out I J hI hJ x hx q]; rfl)] at ho
            rw [bad_runs h1 h2]
            obtain ⟨A', c', rfl⟩ := ho.form
            exact ⟨A', c', rfl, ho, hb⟩
          have HIN := Lib.hid HINT
          clear HINT
          go_upto_region 14 with fail
          have g5 : gn < w5.heap.size := by omega
          have hB : Below w5.heap.size w5 w5.drew := (Below.refl _ _).drew
          go_region_held3 (fun w' => w'.cell? ⟨gn, 0, none⟩ = some (.int .i64 T))
            (exact (hB.cell (p := ⟨gn, 0, none⟩) g5).trans m0)
            (first
              | (go_at_call 18; (with_reducible refine (betweenIn_any gt1 m T acts D1 e1 I J _ (HS1.out.below hB) hI hJ).mono ?_); rintro ex w6 ⟨v6, rfl, ho6, hb6⟩; obtain ⟨A6, c6, rfl⟩ := ho6.form; replace hB := hB.trans (hb6.mono hB.size))
              | (go_at_call 18; (with_reducible refine (betweenIn_any gt2 m T (acts ++ [(Acy.mk 0 F tod Lo ((Lo : Int) + Sp) 0)]) D2 e2 I J _ (HS2.out.below hB) hI hJ).mono ?_); rintro ex w7 ⟨v7, rfl, ho7, hb7⟩; obtain ⟨A7, c7, rfl⟩ := ho7.form; replace ho6 := ho6.below' hb7; replace hB := hB.trans (hb7.mono hB.size))
              | (go_at_call 23; (with_reducible refine (HIN.out _ A6 c6 A7 c7 (Own.lst encS_len ho6) (Own.lst encS_len ho7)).mono ?_); rintro ex w8 ⟨A8, c8, rfl, ho8, hb8⟩; replace hB := hB.trans (hb8.mono hB.size)))
          have HS18 := Lib.hid (HS1.out.below hB)
          have HS28 := Lib.hid (HS2.out.below hB)
          have HB8 := Lib.hid (HB5.out.trans (hB.mono HB5.out.size))
          have HO8 := Lib.hid (Own.lst encS_len ho8)
          clear ho6 hb6 ho7 hb7 ho8 hb8 hB m0 HIN
          go_wp2_with fail
          refine (betweenIn_any gt2 m T (acts ++ [(Acy.mk 0 F tod Lo ((Lo : Int) + Sp) 0)]) D2 e2 I J w8 HS28.out hI hJ).mono ?_
          rintro ex w9 ⟨v9, rfl, ho9, hb9⟩
          obtain ⟨A9, c9, rfl⟩ := ho9.form
          have HO8' := Lib.hid (HO8.out.belowMore hb9 hb9.size)
          have HB9 := Lib.hid (HB8.out.trans (hb9.mono HB8.out.size))
          have HS19 := Lib.hid (HS18.out.below hb9)
          have HS29 := Lib.hid (HS28.out.below hb9)
          have HO9 := Lib.hid (Own.lst encS_len ho9)
          clear ho9 hb9
          go_wp2_with fail
          refine (same_any A8 A9 c8 c9 (runs (D2 I J) T) (runs (D2 I J) T) w9 HO8'.out HO9.out (by omega) (by omega)).mono ?_
          rintro ex w10 ⟨rfl, hb10⟩
          rw [decide_eq_true rfl]
          have HB10 := Lib.hid (HB9.out.trans (hb10.mono HB9.out.size))
          have HS110 := Lib.hid (HS19.out.below hb10)
          have HS210 := Lib.hid (HS29.out.below hb10)
          clear hb10
          have hc2 := fun W => tcount_any gt2 m T (acts ++ [(Acy.mk 0 F tod Lo ((Lo : Int) + Sp) 0)]) D2 e2 W
          have hc1 := fun W => tcount_any gt1 m T acts D1 e1 W
          generalize cntTo m T D1 (m * m) = C1 at *
          generalize cntTo m T D2 (m * m) = C2 at *
          go_wp2_with fail
          refine (hc2 w10 HS210.out).mono ?_
          rintro ex w11 ⟨rfl, hb11⟩
          have HS111 := Lib.hid (HS110.out.below hb11)
          have HB11 := Lib.hid (HB10.out.trans (hb11.mono HB10.out.size))
          clear hb11
          go_wp2_with fail
          refine (hc1 w11 HS111.out).mono ?_
          rintro ex w12 ⟨rfl, hb12⟩
          have HB12 := Lib.hid (HB11.out.trans (hb12.mono HB11.out.size))
          clear hb12 hc1 hc2
          go_wp2_with fail
          go_ret
          exact ⟨ret_bool (by first | (simp; done) | (simp; omega)), HB12.out⟩

end Go.Proofs.Ytbhjnihcmfagjaa
