/-
  The contract of calendar.Count.
-/
import Derived.Test.YtaongejpbgjbiaaCalY
set_option linter.unusedVariables false
set_option linter.unusedSimpArgs false
namespace Go.Proofs.Ytaongejpbgjbiaa
open Go.RowKit RP

set_option maxRecDepth 100000 in
set_option maxHeartbeats 16000000 in
theorem countAll_any (T : Nat) (E : Option Addr) (cE : Nat) (A : Option Addr) (cA : Nat) (ev : List Evt) (l : List Acy) (B' : Option Addr) (cB : Nat) (ts : List Int) (D : Nat) (S : Option Addr) (cS : Nat) (s : List Svc) (X : Option Addr) (cX : Nat) (x : List Exc) (pf : Int → PatP) (w : World)
    (he : Lst encE 3 w w.heap.size E ev) (hl : Lst encA 6 w w.heap.size A l) (ht : Lst encI 1 w w.heap.size B' ts) (hs : Lst encV 4 w w.heap.size S s) (hx : Lst encX 3 w w.heap.size X x) (hf : feasB T ev.length l ts = true) (hck : checkS (linesP ev) D s x = 0) (hp : ∀ a ∈ s, PatAt T ts ev l a.line (pf a.line))
    (hr : ∀ e ∈ ev, R64 e.2.1) (hD : D ≤ 31) (hns : s.length ≤ 16) (hnx : x.length ≤ 1000) (hok : ∀ a ∈ s, SvcOk T pf a) (hda : ∀ a ∈ s, R64 a.days) :
    Calls Try.prog 25 #[netV T E ev.length cE A l.length cA, .slice B' ts.length cB, .int .i64 D, .slice S s.length cS, .slice X x.length cX] w fun e w' => e = .returned (.tuple #[.int .i64 (cntS T s x pf D s), .int .i64 0]) ∧ Below w.heap.size w w' := by
  have hgd := (feas_iff.1 hf).1
  have hnb := (netB_iff.1 (goodB_iff.1 hgd).1).1
  have h2 : T ≤ 7200 := by omega
  have h1 : 1 ≤ T := by omega
  have ba := belA w (.cells #[.int .i64 T, .slice E ev.length cE, .slice A l.length cA] 43)
  have hnew := heap_alloc_new w (.cells #[.int .i64 T, .slice E ev.length cE, .slice A l.length cA] 43)
  have z0 : w.heap.size < (w.alloc (.cells #[.int .i64 T, .slice E ev.length cE, .slice A l.length cA] 43)).heap.size := by simp
  have hsA := hs.belowMore ba ba.size
  have hxA := hx.belowMore ba ba.size
  have hpt := patterns_any T E cE A cA ev l B' cB ts D S cS s X cX x pf _ (he.belowMore ba ba.size) (hl.belowMore ba ba.size) (ht.belowMore ba ba.size) hsA hxA hf hck hp hr ⟨by omega, by omega⟩ hns hnx
  have HPG := Lib.hid (fun a ha => patAt_good hgd (hp a ha))
  have HOK := Lib.hid hok
  have HDA := Lib.hid hda
  have HCR := Lib.hid (cntS_range (s := s) (x := x) (pf := pf) h1 D hD s hok)
  have hcr := HCR.out s.length (Nat.le_refl _)
  rw [List.take_length] at hcr
  have HAL := Lib.hid (allT_len (s := s) (x := x) (pf := pf) h1 D s hok)
  clear hgd hnb hf hck hp hr hok hda he hl ht
  go_enter Try.func25, Try.ntmps25
  go_wp2_with fail
  generalize w.alloc (.cells #[.int .i64 T, .slice E ev.length cE, .slice A l.length cA] 43) = w0 at *
  refine hpt.mono ?_
  rintro e w1 ⟨v, L, rfl, hPats, hL, hb1⟩
  obtain ⟨PA, pc, hvf⟩ := hPats.1.form
  subst hvf
  generalize hpl : L.length = pn at *
  have hpn : pn = s.length := by rw [← hpl]; have := congrArg List.length hL; simpa using this
  have HPL := Lib.hid hpl
  have HPN := Lib.hid hpn
  have hbw1 := ba.trans (hb1.mono ba.size)
  have hk1 := (hb1.block w.heap.size z0).trans hnew
  have n0 : w1.cell? ⟨w.heap.size, 0, none⟩ = some (.int .i64 T) := by rw [cell_of_row w1 _ 0 _ _ _ hk1]; rfl
  have z1 := hb1.size
  have hct := count_any T D S cS s X cX x PA pn pc L pf w0.heap.size w1 h1 h2 hD (hsA.belowMore hb1 hb1.size) (hxA.belowMore hb1 hb1.size) hPats hL hns hnx HOK.out HDA.out
  have HPATS := Lib.hid hPats
  have HL := Lib.hid hL
  have HB1 := Lib.hid hbw1
  have HK1 := Lib.hid hk1
  have HS1 := Lib.hid (hsA.belowMore hb1 hb1.size)
  have HX1 := Lib.hid (hxA.belowMore hb1 hb1.size)
  clear hpt hnew ba hb1 hPats hL hpl hpn hbw1 hk1 hsA hxA
  go_wp2_with fail
  refine hct.mono ?_
  rintro e w2 ⟨rfl, hb2⟩
  have z2 := hb2.size
  have HB2 := Lib.hid (HB1.out.trans (hb2.mono HB1.out.size))
  clear hct hb2 HPATS HB1 HK1 HS1 HX1 n0 hcr HCR
  go_wp2_with fail
  go_ret2
  exact ⟨rfl, HB2.out⟩

end Go.Proofs.Ytaongejpbgjbiaa
