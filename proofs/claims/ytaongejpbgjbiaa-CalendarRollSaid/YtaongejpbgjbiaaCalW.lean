/-
  Contract of patterns, where all is well.
-/
import Derived.Test.YtaongejpbgjbiaaCalT
import Derived.Test.YtaongejpbgjbiaaCalF
import Derived.Test.YtaongejpbgjbiaaCalV
set_option linter.unusedVariables false
set_option linter.unusedSimpArgs false
namespace RP
structure PatP where
  res : Int
  dep : List Int
  arr : List Int
/-- The pattern of a line. -/
def PatAt (T : Nat) (ts : List Int) (ev : List (Int × Int × Int)) (l : List Acy) (line : Int) (p : PatP) : Prop :=
  ∃ R P Q D W, PatOk T ts ev l line R P Q D W ∧ p = ⟨ts.getD (P 0) 0, depL D W R, arrL D W R⟩
end RP
namespace Go.Proofs.Ytaongejpbgjbiaa
open Go.RowKit RP

structure PatM where
  p : PatP
  dv : Sv
  av : Sv
def encP (m : PatM) : List Value := [.int .i64 m.p.res, m.dv.v, m.av.v]
theorem encP_len (m : PatM) : (encP m).length = 3 := rfl
theorem encP_one (t : PatM) : ∀ u ∈ encP t, u.oneCell' = true := by
  intro u hu
  simp only [encP, List.mem_cons, List.not_mem_nil, or_false] at hu
  rcases hu with rfl | rfl | rfl <;> rfl
theorem infoP : (Try.prog.info? 84).map (fun i => (i.zero, i.size, i.bytes)) = some (some (.agg #[.int .i64 0, .slice none 0 0, .slice none 0 0]), 3, 56) := by kernel_rfl
theorem elemP : ElemOk Try.prog encP 3 84 56 :=
  ⟨fun _ => rfl, by omega, encP_one, by
    obtain ⟨i, hi, h0, h1, h2⟩ := info_parts infoP
    exact ⟨i, _, hi, h0, h1, h2, rfl⟩⟩
theorem infoTr : (Try.prog.info? 51).map (fun i => (i.zero, i.size, i.bytes)) = some (some (.agg #[.int .i64 0, .int .i64 0, .slice none 0 0, .slice none 0 0]), 4, 64) := by kernel_rfl
theorem elemT : ElemOk Try.prog encT 4 51 64 :=
  ⟨fun _ => rfl, by omega, encT_one, by
    obtain ⟨i, hi, h0, h1, h2⟩ := info_parts infoTr
    exact ⟨i, _, hi, h0, h1, h2, rfl⟩⟩
structure POk (w : World) (base : Nat) (t : PatM) : Prop where
  dep : OwnN w base t.dv.v t.p.dep
  arr : OwnN w base t.av.v t.p.arr
abbrev OwnP (w : World) (base : Nat) (v : Value) (l : List PatM) : Prop := Own encP 3 84 w base v l
theorem POk.below {w w' : World} {base : Nat} {t : PatM} (h : POk w base t) (hb : Below w.heap.size w w') : POk w' base t := ⟨h.dep.below' hb, h.arr.below' hb⟩
theorem POk.rebase {w : World} {base b : Nat} {t : PatM} (h : POk w base t) (hb : b ≤ base) : POk w b t := ⟨h.dep.rebase hb, h.arr.rebase hb⟩
theorem POk.kept {w w' : World} {base b : Nat} {t : PatM} {v : Value} {l : List PatM} (h : POk w base t) (ho : OwnP w b v l) (hg : w.grownBy w' v.ownBlock) : POk w' base t :=
  ⟨h.dep.kept hg (by
    cases hb : t.dv.v.ownBlock with
    | none => exact .inl rfl
    | some q => exact .inr (fun e => own_apart h.dep ho (by decide) q hb e.symm)),
   h.arr.kept hg (by
    cases hb : t.av.v.ownBlock with
    | none => exact .inl rfl
    | some q => exact .inr (fun e => own_apart h.arr ho (by decide) q hb e.symm))⟩
/-- The list of patterns that patterns returns. -/
def PatsOk (w : World) (base : Nat) (v : Value) (L : List PatM) : Prop := OwnP w base v L ∧ ∀ t ∈ L, POk w base t
theorem PatsOk.below {w w' : World} {base : Nat} {v : Value} {L : List PatM} (h : PatsOk w base v L) (hb : Below w.heap.size w w') : PatsOk w' base v L := ⟨h.1.below' hb, fun t ht => (h.2 t ht).below hb⟩

set_option maxRecDepth 100000 in
set_option maxHeartbeats 8000000 in
theorem patterns_any (T : Nat) (E : Option Addr) (cE : Nat) (A : Option Addr) (cA : Nat) (ev : List Evt) (l : List Acy) (B' : Option Addr) (cB : Nat) (ts : List Int) (days : Int) (S : Option Addr) (cS : Nat) (s : List Svc) (X : Option Addr) (cX : Nat) (x : List Exc) (pf : Int → PatP) (w : World)
    (he : Lst encE 3 w w.heap.size E ev) (hl : Lst encA 6 w w.heap.size A l) (ht : Lst encI 1 w w.heap.size B' ts) (hs : Lst encV 4 w w.heap.size S s) (hx : Lst encX 3 w w.heap.size X x) (hf : feasB T ev.length l ts = true) (hck : checkS (linesP ev) days s x = 0) (hp : ∀ a ∈ s, PatAt T ts ev l a.line (pf a.line))
    (hr : ∀ e ∈ ev, R64 e.2.1) (hd : R64 days) (hns : s.length ≤ 16) (hnx : x.length ≤ 1000) :
    Calls Try.prog 37 #[netV T E ev.length cE A l.length cA, .slice B' ts.length cB, .int .i64 days, .slice S s.length cS, .slice X x.length cX] w fun e w' =>
      ∃ v L, e = .returned (.tuple #[v, .int .i64 0]) ∧ PatsOk w' w.heap.size v L ∧ L.map PatM.p = s.map (fun a => pf a.line) ∧ Below w.heap.size w w' := by
  have hg := (feas_iff.1 hf).1
  have hev : ev.length ≤ 48 := (netB_iff.1 (goodB_iff.1 hg).1).1.2.2.1
  have hll : l.length ≤ 512 := (netB_iff.1 (goodB_iff.1 hg).1).1.2.2.2
  have hts : ts.length ≤ 48 := by rw [(goodB_iff.1 hg).2.1]; exact hev
  have ba := belA w (.cells #[.int .i64 T, .slice E ev.length cE, .slice A l.length cA] 43)
  have hnew := heap_alloc_new w (.cells #[.int .i64 T, .slice E ev.length cE, .slice A l.length cA] 43)
  have z0 : (w.alloc (.cells #[.int .i64 T, .slice E ev.length cE, .slice A l.length cA] 43)).heap.size = w.heap.size + 1 := by simp
  have hfe := netFeas_any T E ev.length cE A cA l B' cB ts _ (hl.belowMore ba ba.size) (by omega) (ht.belowMore ba ba.size) (by omega)
  rw [hf] at hfe
  have HG := Lib.hid hg
  have HP := Lib.hid hp
  have HR := Lib.hid hr
  have HCK := Lib.hid hck
  clear hf hg hp hr hck
  go_enter Try.func37, Try.ntmps37
  go_wp2_with fail
  generalize w.alloc (.cells #[.int .i64 T, .slice E ev.length cE, .slice A l.length cA] 43) = w0 at *
  refine hfe.mono ?_
  rintro e w1 ⟨rfl, hb1⟩
  have hbw1 := ba.trans (hb1.mono ba.size)
  have hk1 := (hb1.block w.heap.size (by omega)).trans hnew
  have n0 : w1.cell? ⟨w.heap.size, 0, none⟩ = some (.int .i64 T) := by rw [cell_of_row w1 _ 0 _ _ _ hk1]; rfl
  have n1 : w1.cell? ⟨w.heap.size, 1, none⟩ = some (.slice E ev.length cE) := by rw [cell_of_row w1 _ 1 _ _ _ hk1]; rfl
  have n2 : w1.cell? ⟨w.heap.size, 2, none⟩ = some (.slice A l.length cA) := by rw [cell_of_row w1 _ 2 _ _ _ hk1]; rfl
  have hli := lines_any T E cE A l.length cA ev w1 (he.belowMore hbw1 hbw1.size) (by omega) HR.out
  have z1 := hb1.size
  have HB1 := Lib.hid hbw1
  have HK1 := Lib.hid hk1
  clear hfe hnew hk1 hbw1 hb1 ba
  go_wp2_with fail
  refine hli.mono ?_
  rintro e w2 ⟨rfl, hb2⟩
  have hbw2 := HB1.out.trans (hb2.mono HB1.out.size)
  have hk2 := (hb2.block w.heap.size (by omega)).trans HK1.out
  have z2 := hb2.size
  have hlr := linesP_range ev
  have hch := check_any (linesP ev) days S cS s X cX x w2 (hs.belowMore hbw2 hbw2.size) (by omega) (hx.belowMore hbw2 hbw2.size) (by omega) ⟨by omega, by omega⟩ hd
  rw [HCK.out] at hch
  have HB2 := Lib.hid hbw2
  have HK2 := Lib.hid hk2
  clear hli hb2 hbw2 hk2 n0 n1 n2 hlr HCK HK1
  go_wp2_with fail
  refine hch.mono ?_
  rintro e w3 ⟨rfl, hb3⟩
  have HB3 := Lib.hid (HB2.out.trans (hb3.mono HB2.out.size))
  have HK3 := Lib.hid ((hb3.block w.heap.size (by omega)).trans HK2.out)
  have z3 := hb3.size
  clear hch hb3 HK2
  go_wp2_with fail
  go_loopg [13, 15, 16, 17, 33, 37] s.length (fun g s13 s15 s16 s17 s33 s37 wr => ∃ (k : Nat) (L : List PatM), k ≤ s.length ∧ g = s.length - k ∧ s33 = .int .i64 k ∧ OwnP wr (w.heap.size + 1) s13 L ∧ (∀ t ∈ L, POk wr (w.heap.size + 1) t) ∧ L.map PatM.p = (s.take k).map (fun a => pf a.line) ∧ Below (w.heap.size + 1) w3 wr)
  case atStart => exact ⟨0, [], by omega, by omega, rfl, Own.nil _ _ _ _ _, by simp, rfl, Below.refl _ _⟩
  case round =>
    obtain ⟨k, L, hk, hg', rfl, ho, hok, hmap, hb⟩ := hrel
    have zr := hb.size
    have hbw := HB3.out.trans (hb.mono (by omega))
    have hkr := (hb.block w.heap.size (by omega)).trans HK3.out
    have HMAP := Lib.hid hmap
    have hLl : L.length ≤ 16 := by
      have := congrArg List.length hmap
      rw [List.length_map, List.length_map, List.length_take] at this
      omega
    clear hmap
    by_cases hlt : k < s.length
    · obtain ⟨b, off, rfl, hbb, a0, a1, a2, a3⟩ := (hs.below hbw).sv k hlt
      obtain ⟨R, P, Q, D, W, hPO, hpe⟩ := HP.out s[k] (List.getElem_mem hlt)
      have HTK := Lib.hid (show (s.take (k + 1)).map (fun a => pf a.line) = (s.take k).map (fun a => pf a.line) ++ [pf s[k].line] by rw [List.take_succ_eq_append_getElem hlt, List.map_append]; rfl)
      have bx := belA wr (.cells #[.int .i64 s[k].line, .int .i64 s[k].days, .int .i64 s[k].fst, .int .i64 s[k].lst] 34)
      have hkx := (bx.block w.heap.size (by omega)).trans hkr
      have hbx := hbw.trans (bx.mono (by omega))
      have hnx' := heap_alloc_new wr (.cells #[.int .i64 s[k].line, .int .i64 s[k].days, .int .i64 s[k].fst, .int .i64 s[k].lst] 34)
      have zx : (wr.alloc (.cells #[.int .i64 s[k].line, .int .i64 s[k].days, .int .i64 s[k].fst, .int .i64 s[k].lst] 34)).heap.size = wr.heap.size + 1 := by simp
      have hnp := newPat_any T E cE A cA ev l B' cB ts s[k].line R P Q D W (wr.alloc (.cells #[.int .i64 s[k].line, .int .i64 s[k].days, .int .i64 s[k].fst, .int .i64 s[k].lst] 34)) (he.belowMore hbx hbx.size) (hl.belowMore hbx hbx.size) (ht.belowMore hbx hbx.size) HG.out hPO
      have hox := ho.alloc (.cells #[.int .i64 s[k].line, .int .i64 s[k].days, .int .i64 s[k].fst, .int .i64 s[k].lst] 34)
      have hokx := fun t ht => (hok t ht).below bx
      obtain ⟨rs, hrs⟩ : ∃ q, ts.getD (P 0) 0 = q := ⟨_, rfl⟩
      rw [hrs] at hnp hpe
      clear hrs
      have HPE := Lib.hid hpe
      generalize s[k] = a at *
      obtain ⟨li, dy, fs, ls⟩ := a
      simp only at a0 a1 a2 a3 bx hkx hbx hnx' zx hnp hox hokx HTK HPE
      have HBX := Lib.hid ((hb.trans (bx.mono (show w.heap.size + 1 ≤ wr.heap.size by omega))))
      clear ho hok hb hbw hkr bx hbx hPO hpe
      have i0 : (0 : Int) ≤ (k : Int) := by omega
      have i1 : (k : Int) < (s.length : Int) := by omega
      go_upto_region 10 with fail
      generalize wr.alloc (.cells #[.int .i64 li, .int .i64 dy, .int .i64 fs, .int .i64 ls] 34) = wx at *
      have n0 : wx.cell? ⟨w.heap.size, 0, none⟩ = some (.int .i64 T) := by rw [cell_of_row wx _ 0 _ _ _ hkx]; rfl
      have n1 : wx.cell? ⟨w.heap.size, 1, none⟩ = some (.slice E ev.length cE) := by rw [cell_of_row wx _ 1 _ _ _ hkx]; rfl
      have n2 : wx.cell? ⟨w.heap.size, 2, none⟩ = some (.slice A l.length cA) := by rw [cell_of_row wx _ 2 _ _ _ hkx]; rfl
      have y0 : wx.cell? ⟨wr.heap.size, 0, none⟩ = some (.int .i64 li) := by rw [cell_of_row wx _ 0 _ _ _ hnx']; rfl
      clear hnx' hkx
      go_wp2_with fail
      refine hnp.mono ?_
      rintro e w5 ⟨dv, av, rfl, hd5, ha5, hsep, hb5⟩
      have ho5 := hox.below' hb5
      have hok5 := fun t ht => (hokx t ht).below hb5
      obtain ⟨DA, dc, rfl⟩ := hd5.form
      obtain ⟨AA, ac, rfl⟩ := ha5.form
      generalize (depL D W R).length = dn at *
      generalize (arrL D W R).length = an at *
      have z5 := hb5.size
      have HB5 := Lib.hid (HBX.out.trans (hb5.mono (show w.heap.size + 1 ≤ wx.heap.size by omega)))
      have hpk : POk w5 (w.heap.size + 1) ⟨pf li, ⟨DA, dn, dc⟩, ⟨AA, an, ac⟩⟩ := ⟨by rw [HPE.out]; exact hd5.rebase (by omega), by rw [HPE.out]; exact ha5.rebase (by omega)⟩
      have HRE := Lib.hid (show (pf li).res = rs by rw [HPE.out])
      have bz := belA w5 (.cells #[.int .i64 (rs), .slice DA dn dc, .slice AA an ac] 84)
      have zz : (w5.alloc (.cells #[.int .i64 (rs), .slice DA dn dc, .slice AA an ac] 84)).heap.size = w5.heap.size + 1 := by simp
      have ho6 := ho5.below' bz
      have HOK6 := Lib.hid (fun t ht => (hok5 t ht).below bz)
      have HPK6 := Lib.hid (hpk.below bz)
      have HB6 := Lib.hid (HB5.out.trans (bz.mono (show w.heap.size + 1 ≤ w5.heap.size by omega)))
      have HO6 := Lib.hid ho6
      clear ho5 hok5 hd5 ha5 hsep hb5 bz hpk ho6 hox hokx hnp y0 n0 n1 n2
      go_wp2_with (at_builtin; refine Stp.put ?_)
      refine Stp.out ?_
      generalize w5.alloc (.cells #[.int .i64 (rs), .slice DA dn dc, .slice AA an ac] 84) = w6 at *
      rw [← zz]
      refine wpList_append_rec rfl _ _ 77 rfl (w.heap.size + 1) 84 56 Try.underlying77 elemP _ L rfl HO6.out [⟨pf li, ⟨DA, dn, dc⟩, ⟨AA, an, ac⟩⟩] _ (by simp only [List.flatMap_cons, List.flatMap_nil, encP, HRE.out]; rfl) 1 1 rfl rfl (by simp only [Go.maxLen, List.length_cons, List.length_nil]; omega) (by simp only [List.length_cons, List.length_nil]; omega) (by omega) ?_
      intro v7 w7 ho7 hg7 hat7
      have HO7 := Lib.hid ho7
      have HK7 := Lib.hid (show ∀ t ∈ L ++ [⟨pf li, ⟨DA, dn, dc⟩, ⟨AA, an, ac⟩⟩], POk w7 (w.heap.size + 1) t from fun t ht => by
        rcases List.mem_append.1 ht with h | h
        · exact (HOK6.out t h).kept HO6.out hg7
        · rw [List.mem_singleton.1 h]; exact HPK6.out.kept HO6.out hg7)
      have HB7 := Lib.hid (HB6.out.grown hg7 (show w.heap.size + 1 ≤ w6.heap.size by omega) (fun q e => (World.ownsRow.lt HO6.out q e).1))
      clear ho7 hg7 hat7
      go_wp2_with fail
      go_roundg (s.length - (k + 1))
      case measure => omega
      case rel => exact ⟨k + 1, _, by omega, rfl, by go_num, HO7.out, HK7.out, by rw [List.map_append, HTK.out, HMAP.out]; rfl, HB7.out⟩
    · have hkn : k = s.length := by omega
      have HM := Lib.hid (show L.map PatM.p = s.map (fun a => pf a.line) by have := HMAP.out; rwa [hkn, List.take_length] at this)
      obtain ⟨A9, c9, rfl⟩ := ho.form
      have HO := Lib.hid ho
      clear hkn ho
      go_wp2_with fail
      go_ret2
      exact ⟨_, L, rfl, ⟨HO.out.rebase (by omega), fun t ht => (hok t ht).rebase (by omega)⟩, HM.out, hbw⟩

end Go.Proofs.Ytaongejpbgjbiaa
