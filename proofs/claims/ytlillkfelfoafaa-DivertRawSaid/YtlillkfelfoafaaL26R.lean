/-
  Walk of DivertRaw.
-/
import Derived.Test.YtlillkfelfoafaaDivEz
import Derived.Test.YtlillkfelfoafaaDivC
import Derived.Test.YtlillkfelfoafaaDivF
import Derived.Test.YtlillkfelfoafaaDivA
set_option linter.unusedVariables false
set_option linter.unusedSimpArgs false
namespace Go.Proofs.Ytlillkfelfoafaa
open Go.RowKit RP

set_option maxRecDepth 100000 in
set_option maxHeartbeats 8000000 in
theorem walkDivertRaw0 (A : Option Addr) (c : Nat) (L : List JobM) (CA : Option Addr) (cc : Nat) (cl : List Clo) (WA : Option Addr) (wc : Nat) (ow : List OWy) (SA : Option Addr) (sc : Nat) (st : List Ste) (OA : Option Addr) (oc : Nat) (os : List Occ) (SB : Option Addr) (sd : Nat) (st' : List Ste) (OB : Option Addr) (od : Nat) (os' : List Occ) (x y : Int) (w : World)
    (hj : Jbs w w.heap.size A L) (hcl : Lst encO 3 w w.heap.size CA cl) (hcn : cl.length * 24 ≤ 140737488355328) (hcr : ∀ z ∈ cl, R64 z.1 ∧ R64 z.2.1 ∧ R64 z.2.2) (how : Lst encW 4 w w.heap.size WA ow) (hwn : ow.length ≤ 9223372036854775807)
    (hs : Lst encSte 2 w w.heap.size SA st) (ho : Lst encO 3 w w.heap.size OA os) (hn : st.length ≤ 9223372036854775807) (hn' : os.length ≤ 9223372036854775807) (hor : ∀ z ∈ os, R64 z.1)
    (hs' : Lst encSte 2 w w.heap.size SB st') (ho' : Lst encO 3 w w.heap.size OB os') (hm : st'.length ≤ 9223372036854775807) (hm' : os'.length ≤ 9223372036854775807) :
    Calls Try.prog 3 #[.slice A L.length c, .slice CA cl.length cc, .slice WA ow.length wc, .agg #[.slice SA st.length sc, .slice OA os.length oc], .agg #[.slice SB st'.length sd, .slice OB os'.length od], .int .i64 x, .int .i64 y] w fun e w' => e = .returned (.bool true) ∧ Below w.heap.size w w' := by
  have s1 : ∀ (W : World) (o : Obj), (W.alloc o).heap.size = W.heap.size + 1 := fun W o => by simp
  obtain ⟨w0, hw0⟩ : ∃ V, V = (w.alloc (.cells #[.slice SA st.length sc, .slice OA os.length oc] 28)).alloc (.cells #[.slice SB st'.length sd, .slice OB os'.length od] 28) := ⟨_, rfl⟩
  have hb : Below w.heap.size w w0 := by rw [hw0]; exact ((Below.refl _ w).alloc (Nat.le_refl _) _).alloc (by rw [s1]; omega) _
  have n0 : w0.heap[w.heap.size]? = some (.cells #[.slice SA st.length sc, .slice OA os.length oc] 28 (0, 0)) := by
    rw [hw0, Below.heap_alloc _ _ _ (by rw [s1]; omega)]; exact heap_alloc_new w _
  have n1 : w0.heap[w.heap.size + 1]? = some (.cells #[.slice SB st'.length sd, .slice OB os'.length od] 28 (0, 0)) := by
    have := heap_alloc_new (w.alloc (.cells #[.slice SA st.length sc, .slice OA os.length oc] 28)) (.cells #[.slice SB st'.length sd, .slice OB os'.length od] 28)
    rw [s1] at this; rw [hw0]; exact this
  have HC1 := Lib.hid (fun V (b : Below w.heap.size w V) => dcheck_any A c L V (hj.belowMore b b.size))
  have HC2 := Lib.hid (fun V (b : Below w.heap.size w V) => rcheck_any A c L V (hj.belowMore b b.size))
  have HA1 := Lib.hid (fun V (b : Below w.heap.size w V) => admits_any CA cc cl WA wc ow SA sc st OA oc os x V (hcl.belowMore b b.size) hcn hcr (how.belowMore b b.size) hwn (hs.belowMore b b.size) (ho.belowMore b b.size) hn hn' hor)
  have HA2 := Lib.hid (fun V (b : Below w.heap.size w V) => refAdmits_any CA cc cl WA wc ow SA sc st OA oc os x V (hcl.belowMore b b.size) (by omega) (how.belowMore b b.size) hwn (hs.belowMore b b.size) (ho.belowMore b b.size) hn hn')
  have HM1 := Lib.hid (fun V (b : Below w.heap.size w V) => dMeets_any SA sc st OA oc os x SB sd st' OB od os' y V (hs.belowMore b b.size) (ho.belowMore b b.size) hn hn' (hs'.belowMore b b.size) (ho'.belowMore b b.size) hm hm')
  have HM2 := Lib.hid (fun V (b : Below w.heap.size w V) => refMeets_any SA sc st OA oc os x SB sd st' OB od os' y V (hs.belowMore b b.size) (ho.belowMore b b.size) hn hn' (hs'.belowMore b b.size) (ho'.belowMore b b.size) hm hm')
  have HW0 := Lib.hid hw0
  clear hj hcl hcn hcr how hwn hs ho hn hn' hor hs' ho' hm hm' hw0 s1
  generalize checkJ (L.map JobM.p) = b1 at *
  generalize admitsB cl ow ⟨st, os⟩ x = b2 at *
  generalize meetB ⟨st, os⟩ x ⟨st', os'⟩ y = b3 at *
  go_enter Try.func3, Try.ntmps3
  go_upto_region 1 with fail
  rw [← HW0.out]
  clear HW0
  generalize hg1 : w.heap.size + 1 = g1 at *
  generalize hgz : w.heap.size = gz at *
  have HGZ := Lib.hid hgz
  clear hg1 hgz
  have m0 : w0.cell? ⟨gz, 0, none⟩ = some (.slice SA st.length sc) := by rw [cell_of_row w0 _ 0 _ _ _ n0]; rfl
  have m1 : w0.cell? ⟨gz, 1, none⟩ = some (.slice OA os.length oc) := by rw [cell_of_row w0 _ 1 _ _ _ n0]; rfl
  have m2 : w0.cell? ⟨g1, 0, none⟩ = some (.slice SB st'.length sd) := by rw [cell_of_row w0 _ 0 _ _ _ n1]; rfl
  have m3 : w0.cell? ⟨g1, 1, none⟩ = some (.slice OB os'.length od) := by rw [cell_of_row w0 _ 1 _ _ _ n1]; rfl
  have hB0 : Below w0.heap.size w0 w0.drew := (Below.refl _ _).drew
  have hBW : Below gz w w0.drew := hb.drew
  have HB := Lib.hid hb
  clear n0 n1 hb
  go_region_held3 (fun w' => w'.cell? ⟨gz, 0, none⟩ = some (.slice SA st.length sc) ∧ w'.cell? ⟨gz, 1, none⟩ = some (.slice OA os.length oc) ∧ w'.cell? ⟨g1, 0, none⟩ = some (.slice SB st'.length sd) ∧ w'.cell? ⟨g1, 1, none⟩ = some (.slice OB os'.length od))
    (exact ⟨(hB0.cell (p := ⟨gz, 0, none⟩) (cell_lt m0)).trans m0, (hB0.cell (p := ⟨gz, 1, none⟩) (cell_lt m1)).trans m1, (hB0.cell (p := ⟨g1, 0, none⟩) (cell_lt m2)).trans m2, (hB0.cell (p := ⟨g1, 1, none⟩) (cell_lt m3)).trans m3⟩)
    (first
      | (go_at_call 13; (with_reducible refine (awake26_any _).mono ?_); rintro e w' ⟨rfl, hb'⟩; replace hBW := hBW.trans (hb'.mono (by have := hBW.size; have := HGZ.out; omega)); replace hB0 := hB0.trans (hb'.mono hB0.size))
      | (go_at_call 14; (with_reducible refine (HC1.out _ hBW).mono ?_); rintro e w' ⟨rfl, hb'⟩; replace hBW := hBW.trans (hb'.mono (by have := hBW.size; have := HGZ.out; omega)); replace hB0 := hB0.trans (hb'.mono hB0.size))
      | (go_at_call 15; (with_reducible refine (HC2.out _ hBW).mono ?_); rintro e w' ⟨rfl, hb'⟩; replace hBW := hBW.trans (hb'.mono (by have := hBW.size; have := HGZ.out; omega)); replace hB0 := hB0.trans (hb'.mono hB0.size))
      | (go_at_call 16; (with_reducible refine (HA1.out _ hBW).mono ?_); rintro e w' ⟨rfl, hb'⟩; replace hBW := hBW.trans (hb'.mono (by have := hBW.size; have := HGZ.out; omega)); replace hB0 := hB0.trans (hb'.mono hB0.size))
      | (go_at_call 17; (with_reducible refine (HA2.out _ hBW).mono ?_); rintro e w' ⟨rfl, hb'⟩; replace hBW := hBW.trans (hb'.mono (by have := hBW.size; have := HGZ.out; omega)); replace hB0 := hB0.trans (hb'.mono hB0.size))
      | (go_at_call 18; (with_reducible refine (HM1.out _ hBW).mono ?_); rintro e w' ⟨rfl, hb'⟩; replace hBW := hBW.trans (hb'.mono (by have := hBW.size; have := HGZ.out; omega)); replace hB0 := hB0.trans (hb'.mono hB0.size))
      | (go_at_call 19; (with_reducible refine (HM2.out _ hBW).mono ?_); rintro e w' ⟨rfl, hb'⟩; replace hBW := hBW.trans (hb'.mono (by have := hBW.size; have := HGZ.out; omega)); replace hB0 := hB0.trans (hb'.mono hB0.size)))
  all_goals
    go_wp2_with fail
    go_ret
    exact ⟨ret_bool (by simp), by rw [HGZ.out]; exact hBW⟩
theorem walkDivertRaw (A : Option Addr) (c : Nat) (L : List JobM) (CA : Option Addr) (cc : Nat) (cl : List Clo) (WA : Option Addr) (wc : Nat) (ow : List OWy) (SA : Option Addr) (sc : Nat) (st : List Ste) (OA : Option Addr) (oc : Nat) (os : List Occ) (SB : Option Addr) (sd : Nat) (st' : List Ste) (OB : Option Addr) (od : Nat) (os' : List Occ) (x y : Int) (w : World)
    (hj : ArgJ w A c L) (hcl : ArgO w CA cc cl) (how : ArgW w WA wc ow) (hs : ArgSte w SA sc st) (ho : ArgO w OA oc os) (hs' : ArgSte w SB sd st') (ho' : ArgO w OB od os') (_ : R64 x) (_ : R64 y) (hcn : cl.length * 24 ≤ 140737488355328) :
    Calls Try.prog 3 #[.slice A L.length c, .slice CA cl.length cc, .slice WA ow.length wc, .agg #[.slice SA st.length sc, .slice OA os.length oc], .agg #[.slice SB st'.length sd, .slice OB os'.length od], .int .i64 x, .int .i64 y] w fun e w' => e = .returned (.bool true) ∧ Below w.heap.size w w' :=
  walkDivertRaw0 A c L CA cc cl WA wc ow SA sc st OA oc os SB sd st' OB od os' x y w hj.jbs hcl.lst hcn hcl.rng how.lst how.len hs.lst ho.lst hs.len ho.len (fun z hz => (ho.rng z hz).1) hs'.lst ho'.lst hs'.len ho'.len
end Go.Proofs.Ytlillkfelfoafaa
