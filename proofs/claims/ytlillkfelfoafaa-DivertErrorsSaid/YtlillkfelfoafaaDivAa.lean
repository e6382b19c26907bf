/-
  Contract of divert's Verify.
-/
import Derived.Test.YtlillkfelfoafaaSameK
import Derived.Test.YtlillkfelfoafaaDivP
import Derived.Test.YtlillkfelfoafaaDivV
set_option linter.unusedVariables false
set_option linter.unusedSimpArgs false
namespace Go.Proofs.Ytlillkfelfoafaa
open Go.RowKit Go.Shelf RP

theorem run_eql_cho (a b d e : Int) (w : World) : (binOp .eql 55 (.agg #[.int .i64 a, .int .i64 b]) (.agg #[.int .i64 d, .int .i64 e])).run Try.prog w = .ok (.bool (a == d && b == e)) w := by
  have u3 := Try.underlying3
  have a3 := Try.isAgg3
  have z3 := Try.sizeOf3
  rw [run_eql_struct, show (10000 : Nat) = 9999 + 1 from rfl, run_equalIn_agg w 9999 55 _ _ choTS choTH]
  simp only [Program.fieldsOf, Try.underlying55]
  go_simp
  by_cases h1 : a = d <;> by_cases h2 : b = e <;> simp [h1, h2]
section
variable {jobs : List JobP} {cl : List Clo} {ow : List OWy} {l : List Cho} {i : Nat}
theorem ver_no (hi : i < l.length) (h : chosenB jobs cl ow l i = false) : verB jobs cl ow l = false := by
  have : (List.range l.length).all (chosenB jobs cl ow l) = false := List.all_eq_false.2 ⟨i, List.mem_range.2 hi, by rw [h]; simp⟩
  unfold verB; rw [this]; simp
theorem ver_yes (hj : checkJ jobs = true) (hl : l.length = jobs.length) (h : ∀ i, i < l.length → chosenB jobs cl ow l i = true) : verB jobs cl ow l = true := by
  unfold verB
  rw [hj, decide_eq_true hl, List.all_eq_true.2 fun i hi => h i (List.mem_range.1 hi)]; rfl
theorem chosen_skip (h : l.getD i (0, 0) = (-1, 0)) : chosenB jobs cl ow l i = true := by unfold chosenB; rw [h]; rfl
theorem chosen_bad {x y : Int} (h : l.getD i (0, 0) = (x, y)) (hne : ¬ (x = -1 ∧ y = 0)) (hb : x < 0 ∨ ((jobAt jobs i).opts.length : Int) ≤ x ∨ y < (jobAt jobs i).start) : chosenB jobs cl ow l i = false := by
  unfold chosenB
  rw [h, decide_eq_false (show ¬ ((x, y) : Cho) = (-1, 0) from fun e => hne (by injection e with e1 e2; exact ⟨e1, e2⟩)), Bool.false_or]
  have : (decide (0 ≤ x) && (decide (x < ((jobAt jobs i).opts.length : Int)) && decide ((jobAt jobs i).start ≤ y))) = false := by
    rw [← Bool.not_eq_true]
    simp only [Bool.and_eq_true, decide_eq_true_eq]; omega
  rw [this]; rfl
theorem chosen_adm {x y : Int} (h : l.getD i (0, 0) = (x, y)) (hne : ¬ (x = -1 ∧ y = 0)) (ha : admitsB cl ow (optAt (jobAt jobs i) x.toNat) y = false) : chosenB jobs cl ow l i = false := by
  unfold chosenB
  rw [h, decide_eq_false (show ¬ ((x, y) : Cho) = (-1, 0) from fun e => hne (by injection e with e1 e2; exact ⟨e1, e2⟩)), Bool.false_or, ha]; simp
/-- Job i does not meet job k. -/
def clearB (jobs : List JobP) (l : List Cho) (i k : Nat) : Bool :=
  decide ((l.getD k (0, 0)).1 < 0) || !meetB (optAt (jobAt jobs k) (l.getD k (0, 0)).1.toNat) (l.getD k (0, 0)).2 (optAt (jobAt jobs i) (l.getD i (0, 0)).1.toNat) (l.getD i (0, 0)).2
theorem chosen_meet {x y : Int} (h : l.getD i (0, 0) = (x, y)) (hne : ¬ (x = -1 ∧ y = 0)) {k : Nat} (hk : k < i) (hm : clearB jobs l i k = false) : chosenB jobs cl ow l i = false := by
  have h2 : (List.range i).all (clearB jobs l i) = false := List.all_eq_false.2 ⟨k, List.mem_range.2 hk, by rw [hm]; simp⟩
  have h3 : chosenB jobs cl ow l i = (decide (l.getD i (0, 0) = (-1, 0)) || ((decide (0 ≤ (l.getD i (0, 0)).1) && (decide ((l.getD i (0, 0)).1 < (jobAt jobs i).opts.length) && decide ((jobAt jobs i).start ≤ (l.getD i (0, 0)).2))) &&
    (admitsB cl ow (optAt (jobAt jobs i) (l.getD i (0, 0)).1.toNat) (l.getD i (0, 0)).2 && (List.range i).all (clearB jobs l i)))) := rfl
  rw [h3, h2, h, decide_eq_false (show ¬ ((x, y) : Cho) = (-1, 0) from fun e => hne (by injection e with e1 e2; exact ⟨e1, e2⟩))]; simp
theorem chosen_ok {x y : Int} (h : l.getD i (0, 0) = (x, y)) (h1 : 0 ≤ x) (h2 : x < ((jobAt jobs i).opts.length : Int)) (h3 : (jobAt jobs i).start ≤ y) (ha : admitsB cl ow (optAt (jobAt jobs i) x.toNat) y = true) (hm : ∀ k, k < i → clearB jobs l i k = true) : chosenB jobs cl ow l i = true := by
  have h4 : chosenB jobs cl ow l i = (decide (l.getD i (0, 0) = (-1, 0)) || ((decide (0 ≤ (l.getD i (0, 0)).1) && (decide ((l.getD i (0, 0)).1 < (jobAt jobs i).opts.length) && decide ((jobAt jobs i).start ≤ (l.getD i (0, 0)).2))) &&
    (admitsB cl ow (optAt (jobAt jobs i) (l.getD i (0, 0)).1.toNat) (l.getD i (0, 0)).2 && (List.range i).all (clearB jobs l i)))) := rfl
  rw [h4, List.all_eq_true.2 fun k hk => hm k (List.mem_range.1 hk), h]
  simp only [ha, decide_eq_true h1, decide_eq_true h2, decide_eq_true h3]; simp
/-- What a permissible choice is. -/
theorem chosen_range (h : chosenB jobs cl ow l i = true) : (l.getD i (0, 0)).1 < 0 ∨ ∃ k : Nat, (l.getD i (0, 0)).1 = (k : Int) ∧ k < (jobAt jobs i).opts.length := by
  by_cases q : (l.getD i (0, 0)).1 < 0
  · exact .inl q
  · right
    unfold chosenB at h
    rw [Bool.or_eq_true, decide_eq_true_eq] at h
    rcases h with h | h
    · rw [h] at q; exact absurd (show (-1 : Int) < 0 by omega) q
    · simp only [Bool.and_eq_true, decide_eq_true_eq] at h
      refine ⟨(l.getD i (0, 0)).1.toNat, by omega, by omega⟩
end
set_option maxRecDepth 100000 in
set_option maxHeartbeats 16000000 in
theorem dVerify_any (A : Option Addr) (c : Nat) (L : List JobM) (CA : Option Addr) (cc : Nat) (cl : List Clo) (WA : Option Addr) (wc : Nat) (ow : List OWy) (KA : Option Addr) (kc : Nat) (ch : List Cho) (w : World)
    (hj : Jbs w w.heap.size A L) (hcl : Lst encO 3 w w.heap.size CA cl) (how : Lst encW 4 w w.heap.size WA ow) (hch : Lst encK 2 w w.heap.size KA ch) (hR : JobsR L) (hcn : cl.length * 24 ≤ 140737488355328) (hcr : ∀ x ∈ cl, R64 x.1 ∧ R64 x.2.1 ∧ R64 x.2.2) (hwn : ow.length ≤ 9223372036854775807) (hkc : ch.length ≤ kc ∧ kc ≤ 9223372036854775807) :
    Calls Try.prog 29 #[.slice A L.length c, .slice CA cl.length cc, .slice WA ow.length wc, .slice KA ch.length kc] w fun e w' => e = .returned (.bool (verB (L.map JobM.p) cl ow ch)) ∧ Below w.heap.size w w' := by
  have hck := dcheck_any A c L w hj
  have HJ := Lib.hid hj
  have HCL := Lib.hid hcl
  have HOW := Lib.hid how
  have HCH := Lib.hid hch
  have HRJ := Lib.hid hR
  have HCR := Lib.hid hcr
  have HCN := Lib.hid hcn
  have hjl := hj.len
  clear hj hcl how hch hR hcr hcn
  cases hcj : checkJ (L.map JobM.p) with
  | false =>
    have HV := Lib.hid (show verB (L.map JobM.p) cl ow ch = false by unfold verB; rw [hcj]; rfl)
    rw [hcj] at hck
    clear hcj
    go_enter Try.func29, Try.ntmps29
    go_wp2_with (go_at_call 14; refine hck.mono ?_; rintro e w1 ⟨rfl, hb1⟩)
    go_ret
    exact ⟨ret_bool HV.out.symm, hb1⟩
  | true =>
    rw [hcj] at hck
    by_cases hlen : ch.length = L.length
    · have hne : ((ch.length : Int) != (L.length : Int)) = false := by simp [hlen]
      have HCJ := Lib.hid hcj
      have HLE := Lib.hid hlen
      have hle : ch.length ≤ L.length := by omega
      clear hcj hlen
      go_enter Try.func29, Try.ntmps29
      go_wp2_with (go_at_call 14; refine hck.mono ?_; rintro e w1 ⟨rfl, hb1⟩)
      have HB1 := Lib.hid hb1
      clear hck hb1 hne
      go_loopg [26] ch.length (fun g s26 wr => ∃ i : Nat, i ≤ ch.length ∧ g = ch.length - i ∧ s26 = .int .i64 i ∧ (∀ x, x < i → chosenB (L.map JobM.p) cl ow ch x = true) ∧ Below w.heap.size w wr)
      case atStart => exact ⟨0, by omega, by omega, rfl, fun x hx => by omega, HB1.out⟩
      case round =>
        obtain ⟨i, hi, hg, rfl, hall, hb⟩ := hrel
        have HALL := Lib.hid hall
        have HB := Lib.hid hb
        clear hall
        by_cases hlt : i < ch.length
        · obtain ⟨kb, ko, rfl, hkb, d0, d1⟩ := (HCH.out.belowMore hb hb.size).cho i hlt
          have HGD := Lib.hid (show ch.getD i (0, 0) = ch[i] by rw [List.getD_eq_getElem?_getD, List.getElem?_eq_getElem hlt]; rfl)
          have HNO := Lib.hid (fun h => ver_no (jobs := L.map JobM.p) (cl := cl) (ow := ow) hlt h)
          generalize ch[i] = cd at *
          obtain ⟨x, y⟩ := cd
          simp only at d0 d1
          have i0 : (0 : Int) ≤ (i : Int) := by omega
          have i1 : (i : Int) < (ch.length : Int) := by omega
          have i2 : (i : Int) < (L.length : Int) := by omega
          by_cases hs : x = -1 ∧ y = 0
          · obtain ⟨rfl, rfl⟩ := hs
            have hq : ∀ W, (binOp .eql 55 (.agg #[.int .i64 (-1), .int .i64 0]) (.agg #[.int .i64 (-1), .int .i64 0])).run Try.prog W = .ok (.bool true) W := fun W => run_eql_cho _ _ _ _ W
            have HS := Lib.hid (chosen_skip (jobs := L.map JobM.p) (cl := cl) (ow := ow) HGD.out)
            have HB2 := Lib.hid (hb.trans ((belA wr (.cells #[.int .i64 (-1), .int .i64 0] 55)).mono hb.size))
            clear hb
            go_wp2_with fail
            go_roundg (ch.length - (i + 1))
            case measure => omega
            case rel => exact ⟨i + 1, by omega, rfl, by go_num, fun z hz => by
              by_cases e : z = i
              · subst e; exact HS.out
              · exact HALL.out z (by omega), HB2.out⟩
          · have hq : ∀ W, (binOp .eql 55 (.agg #[.int .i64 x, .int .i64 y]) (.agg #[.int .i64 (-1), .int .i64 0])).run Try.prog W = .ok (.bool false) W := fun W => by
              rw [run_eql_cho]
              have : ((x == -1) && (y == 0)) = false := by
                rw [← Bool.not_eq_true]; simp; exact fun h1 h2 => hs ⟨h1, h2⟩
              rw [this]
            have HS := Lib.hid hs
            clear hs
            have hjp : jobAt (L.map JobM.p) i = L[i].p := getD_map _ (by omega) _
            have hJw := HJ.out.belowMore hb hb.size
            obtain ⟨jb, jo, rfl, hjb, a0, a1⟩ := hJw.lst.job i (by omega)
            have hJL := hJw.at_ L[i] (List.getElem_mem _)
            have HBAD := Lib.hid (show (x < 0 ∨ (L[i].opts.length : Int) ≤ x ∨ y < L[i].start) → chosenB (L.map JobM.p) cl ow ch i = false from fun h => chosen_bad HGD.out HS.out (by rw [hjp]; simpa [JobM.p] using h))
            have HJP := Lib.hid hjp
            have HRO := Lib.hid (HRJ.out L[i] (List.getElem_mem _))
            rw [hJL.jn] at a1
            have hb3 := (belA wr (.cells #[.int .i64 x, .int .i64 y] 55)).trans (((belA (wr.alloc (.cells #[.int .i64 x, .int .i64 y] 55)) (.cells #[.int .i64 L[i].start, .slice L[i].jv.a L[i].opts.length L[i].jv.c] 41))).mono (by simp))
            have n1 := heap_alloc_new (wr.alloc (.cells #[.int .i64 x, .int .i64 y] 55)) (.cells #[.int .i64 L[i].start, .slice L[i].jv.a L[i].opts.length L[i].jv.c] 41)
            have n0 := (Below.heap_alloc (wr.alloc (.cells #[.int .i64 x, .int .i64 y] 55)) (.cells #[.int .i64 L[i].start, .slice L[i].jv.a L[i].opts.length L[i].jv.c] 41) wr.heap.size (by simp)).trans (heap_alloc_new wr (.cells #[.int .i64 x, .int .i64 y] 55))
            have hz3 : ((wr.alloc (.cells #[.int .i64 x, .int .i64 y] 55)).alloc (.cells #[.int .i64 L[i].start, .slice L[i].jv.a L[i].opts.length L[i].jv.c] 41)).heap.size = wr.heap.size + 1 + 1 := by rw [World.size_alloc, World.size_alloc]
            rw [World.size_alloc] at n1
            clear hjp hJw
            go_upto_region 8 with fail
            clear hq a0 a1 d0 d1
            have hJ3 := hJL.belowMore hb3 hb3.size
            have HB3 := Lib.hid (hb.trans (hb3.mono hb.size))
            clear hJL hb hb3
            generalize (wr.alloc (.cells #[.int .i64 x, .int .i64 y] 55)).alloc (.cells #[.int .i64 L[i].start, .slice L[i].jv.a L[i].opts.length L[i].jv.c] 41) = w3 at *
            generalize hgj : wr.heap.size + 1 = gj at *
            generalize wr.heap.size = gd at *
            have hgl : gd < gj ∧ gj < w3.heap.size := by omega
            clear hgj hz3
            have c0 : w3.cell? ⟨gd, 0, none⟩ = some (.int .i64 x) := by rw [cell_of_row w3 _ 0 _ _ _ n0]; rfl
            have c1 : w3.cell? ⟨gd, 1, none⟩ = some (.int .i64 y) := by rw [cell_of_row w3 _ 1 _ _ _ n0]; rfl
            have e0 : w3.cell? ⟨gj, 0, none⟩ = some (.int .i64 L[i].start) := by rw [cell_of_row w3 _ 0 _ _ _ n1]; rfl
            have e1 : w3.cell? ⟨gj, 1, none⟩ = some (.slice L[i].jv.a L[i].opts.length L[i].jv.c) := by rw [cell_of_row w3 _ 1 _ _ _ n1]; rfl
            clear n0 n1
            by_cases r0 : x < 0
            · have HF := Lib.hid (HNO.out (HBAD.out (.inl r0)))
              clear HS
              go_wp2_with fail
              go_ret
              exact ⟨ret_bool HF.out.symm, HB3.out⟩
            · by_cases r1 : (L[i].opts.length : Int) ≤ x
              · have HF := Lib.hid (HNO.out (HBAD.out (.inr (.inl r1))))
                go_wp2_with fail
                go_ret
                exact ⟨ret_bool HF.out.symm, HB3.out⟩
              · by_cases r2 : y < L[i].start
                · have HF := Lib.hid (HNO.out (HBAD.out (.inr (.inr r2))))
                  go_wp2_with fail
                  go_ret
                  exact ⟨ret_bool HF.out.symm, HB3.out⟩
                · go_upto_region 10 with fail
                  obtain ⟨kk, rfl⟩ : ∃ kk : Nat, x = kk := ⟨x.toNat, by omega⟩
                  have hkk : kk < L[i].opts.length := by omega
                  obtain ⟨ob, oo, hoA, hob, p0, p1⟩ := hJ3.ol.opt kk hkk
                  have hO := hJ3.at_ L[i].opts[kk] (List.getElem_mem hkk)
                  have HOP := Lib.hid (show optAt (jobAt (L.map JobM.p) i) (kk : Int).toNat = (L[i].opts[kk]).p by rw [HJP.out, Int.toNat_natCast]; exact getD_map OptM.p hkk _)
                  have HR1 := Lib.hid (HRO.out L[i].opts[kk] (List.getElem_mem hkk))
                  have HIN := Lib.hid (show ((kk : Nat) : Int) < ((jobAt (L.map JobM.p) i).opts.length : Int) ∧ (jobAt (L.map JobM.p) i).start ≤ y by rw [HJP.out]; simp only [JobM.p, List.length_map]; omega)
                  rw [hO.sn] at p0
                  rw [hO.on] at p1
                  rw [hoA] at e1
                  generalize L[i].opts[kk] = op at *
                  generalize hno : L[i].opts.length = no at *
                  generalize L[i].jv.c = jvc at *
                  generalize L[i].start = st0 at *
                  obtain ⟨ost, oos, ⟨sA, sn, scp⟩, ⟨oA, on, ocp⟩⟩ := op
                  simp only at p0 p1
                  have HO := Lib.hid hO
                  have j0 : (0 : Int) ≤ (kk : Int) := by omega
                  have j1 : (kk : Int) < (no : Int) := by omega
                  have hB0 : Below w3.heap.size w3 w3.drew := (Below.refl _ _).drew
                  have HB3' := HB3.out
                  have HAD := Lib.hid (fun V (b : Below w3.heap.size w3 V) => admits_any CA cc cl WA wc ow sA scp ost oA ocp oos y V (HCL.out.belowMore (HB3.out.trans (b.mono HB3.out.size)) (HB3.out.trans (b.mono HB3.out.size)).size) HCN.out HCR.out (HOW.out.belowMore (HB3.out.trans (b.mono HB3.out.size)) (HB3.out.trans (b.mono HB3.out.size)).size) hwn
                    (HO.out.st.belowMore b b.size) (HO.out.oc.belowMore b b.size) HO.out.sm HO.out.om HR1.out)
                  clear hno hO hJ3 hoA r0 r1 r2 HBAD HRO HB3' e0 HJP hkk
                  go_cut [67] (fun s67 wx => s67 = .bool (!(admitsB cl ow ⟨ost, oos⟩ y)) ∧ Below w3.heap.size w3 wx)
                  case first =>
                    go_region_held3 (fun w' => w'.cell? ⟨gj, 1, none⟩ = some (.slice (some ⟨ob, oo, none⟩) no jvc) ∧ w'.cell? ⟨gd, 0, none⟩ = some (.int .i64 kk) ∧ w'.cell? ⟨gd, 1, none⟩ = some (.int .i64 y) ∧ w'.cell? ⟨ob, oo + kk * 2, none⟩ = some (.slice sA ost.length scp) ∧ w'.cell? ⟨ob, oo + kk * 2 + 1, none⟩ = some (.slice oA oos.length ocp))
                      (exact ⟨(hB0.cell (p := ⟨gj, 1, none⟩) (cell_lt e1)).trans e1, (hB0.cell (p := ⟨gd, 0, none⟩) (cell_lt c0)).trans c0, (hB0.cell (p := ⟨gd, 1, none⟩) (cell_lt c1)).trans c1, (hB0.cell (p := ⟨ob, oo + kk * 2, none⟩) (cell_lt p0)).trans p0, (hB0.cell (p := ⟨ob, oo + kk * 2 + 1, none⟩) (cell_lt p1)).trans p1⟩)
                      ((go_at_call 16; (with_reducible refine (HAD.out _ hB0).mono ?_); rintro e w' ⟨rfl, hb'⟩; replace hB0 := hB0.trans (hb'.mono hB0.size)))
                    all_goals
                      go_wp2_with fail
                      go_meet
                      exact ⟨rfl, hB0⟩
                  case rest =>
                    obtain ⟨rfl, hbc⟩ := hcut
                    obtain ⟨Wc, rfl⟩ : ∃ W : World, W = wc := ⟨_, rfl⟩
                    have HBC := Lib.hid hbc
                    have HBW := Lib.hid (HB3.out.trans (hbc.mono HB3.out.size))
                    have hzc := hbc.size
                    cases had : admitsB cl ow ⟨ost, oos⟩ y with
                    | false =>
                      have HF := Lib.hid (HNO.out (chosen_adm HGD.out HS.out (by rw [HOP.out]; exact had)))
                      clear had hbc hB0 HAD
                      go_wp2_with fail
                      go_ret
                      exact ⟨ret_bool HF.out.symm, HBW.out⟩
                    | true =>
                      have HADM := Lib.hid had
                      have i3 : (i : Int) ≤ (kc : Int) := by omega
                      have c0' := (hbc.cell (p := ⟨gd, 0, none⟩) (cell_lt c0)).trans c0
                      have c1' := (hbc.cell (p := ⟨gd, 1, none⟩) (cell_lt c1)).trans c1
                      have e1' := (hbc.cell (p := ⟨gj, 1, none⟩) (cell_lt e1)).trans e1
                      have p0' := (hbc.cell (p := ⟨ob, oo + kk * 2, none⟩) (cell_lt p0)).trans p0
                      have p1' := (hbc.cell (p := ⟨ob, oo + kk * 2 + 1, none⟩) (cell_lt p1)).trans p1
                      have HOC := Lib.hid (HO.out.belowMore hbc hbc.size)
                      clear had hbc hB0 HAD c0 c1 e1 p0 p1 HO
                      go_wp2_with fail
                      go_loopg [72] i (fun g s72 wr2 => ∃ k : Nat, k ≤ i ∧ g = i - k ∧ s72 = .int .i64 k ∧ (∀ z, z < k → clearB (L.map JobM.p) ch i z = true) ∧ Below Wc.heap.size Wc wr2)
                      case atStart => exact ⟨0, by omega, by omega, rfl, fun z hz => by omega, Below.refl _ _⟩
                      case round =>
                        obtain ⟨k, hk, hg2, rfl, hcl2, hb2⟩ := hrel
                        have HC2 := Lib.hid hcl2
                        clear hcl2
                        by_cases hlt2 : k < i
                        · have hbk := HBW.out.trans (hb2.mono HBW.out.size)
                          obtain ⟨kb', ko', hKA, hkb', f0, f1⟩ := (HCH.out.belowMore hbk hbk.size).cho k (by omega)
                          injection hKA with hKA; injection hKA with hK1 hK2 _
                          subst hK1 hK2
                          have hgk : ch.getD k (0, 0) = ch[k]'(by omega) := by rw [List.getD_eq_getElem?_getD, List.getElem?_eq_getElem (by omega)]; rfl
                          have hrng := chosen_range (HALL.out k hlt2)
                          rw [hgk] at hrng
                          have HGK := Lib.hid hgk
                          clear hgk
                          generalize ch[k]'(by omega) = dk at *
                          obtain ⟨dx, dy⟩ := dk
                          simp only at f0 f1 hrng
                          have k0 : (0 : Int) ≤ (k : Int) := by omega
                          have k1 : (k : Int) < (i : Int) := by omega
                          have hbx := belA wr (.cells #[.int .i64 dx, .int .i64 dy] 55)
                          have hnx := heap_alloc_new wr (.cells #[.int .i64 dx, .int .i64 dy] 55)
                          have hb2x := hb2.trans (hbx.mono hb2.size)
                          by_cases hneg : dx < 0
                          · have HCK := Lib.hid (show clearB (L.map JobM.p) ch i k = true by unfold clearB; rw [HGK.out, decide_eq_true (show ((dx, dy) : Cho).1 < 0 from hneg)]; rfl)
                            have hd : decide ((0 : Int) ≤ dx) = false := decide_eq_false (by omega)
                            clear hneg hrng
                            go_upto_region 15 with fail
                            generalize wr.alloc (.cells #[.int .i64 dx, .int .i64 dy] 55) = w5 at *
                            generalize wr.heap.size = g5 at *
                            have h50 : w5.cell? ⟨g5, 0, none⟩ = some (.int .i64 dx) := by rw [cell_of_row w5 _ 0 _ _ _ hnx]; rfl
                            have HB5 := Lib.hid hb2x
                            clear hnx hbx hb2x f0 f1
                            go_quiet (fail)
                            go_wp2_with fail
                            go_roundg (i - (k + 1))
                            case measure => omega
                            case rel => exact ⟨k + 1, by omega, rfl, by go_num, fun z hz => by
                              by_cases e : z = k
                              · subst e; exact HCK.out
                              · exact HC2.out z (by omega), below_drewN HB5.out _⟩
                          · obtain ⟨k2, hk2, hk2l⟩ := hrng.resolve_left hneg
                            subst hk2
                            have hjk : jobAt (L.map JobM.p) k = L[k].p := getD_map _ (by omega) _
                            rw [hjk] at hk2l
                            simp only [JobM.p, List.length_map] at hk2l
                            have hJw2 := HJ.out.belowMore hbk hbk.size
                            obtain ⟨jb', jo', hJA, _, g0, g1⟩ := hJw2.lst.job k (by omega)
                            injection hJA with hJA; injection hJA with hJ1 hJ2 _
                            subst hJ1 hJ2
                            have hJK := hJw2.at_ L[k] (List.getElem_mem _)
                            obtain ⟨ub, uo, huA, hub, u0, u1⟩ := hJK.ol.opt k2 hk2l
                            have hU := hJK.at_ L[k].opts[k2] (List.getElem_mem hk2l)
                            have HUP := Lib.hid (show optAt (jobAt (L.map JobM.p) k) ((k2 : Nat) : Int).toNat = (L[k].opts[k2]).p by rw [hjk, Int.toNat_natCast]; exact getD_map OptM.p hk2l _)
                            rw [hJK.jn, huA] at g1
                            rw [hU.sn] at u0
                            rw [hU.on] at u1
                            have l0 : (0 : Int) ≤ (k2 : Int) := by omega
                            have l1 : (k2 : Int) < (L[k].opts.length : Int) := by omega
                            have l2 : (k : Int) < (L.length : Int) := by omega
                            have hd : decide ((0 : Int) ≤ (k2 : Int)) = true := decide_eq_true l0
                            clear hJK hJw2 hrng hneg g0 hjk huA
                            generalize L[k].opts[k2] = uq at *
                            generalize L[k].opts.length = nk at *
                            generalize L[k].jv.c = jvk at *
                            obtain ⟨ust, uos, ⟨uA, un, ucp⟩, ⟨vA, vn, vcp⟩⟩ := uq
                            simp only at u0 u1
                            have hB5 := hb2.trans (hbx.mono hb2.size)
                            have hOx := HOC.out.belowMore hB5 hB5.size
                            have hUx := hU.belowMore hbx hbx.size
                            have v0 := (hbx.cell (p := ⟨ub, uo + k2 * 2, none⟩) (cell_lt u0)).trans u0
                            have v1 := (hbx.cell (p := ⟨ub, uo + k2 * 2 + 1, none⟩) (cell_lt u1)).trans u1
                            have v2 := (hbx.cell (p := ⟨jb, jo + k * 2 + 1, none⟩) (cell_lt g1)).trans g1
                            have v3 := (hB5.cell (p := ⟨gd, 0, none⟩) (cell_lt c0')).trans c0'
                            have v4 := (hB5.cell (p := ⟨gd, 1, none⟩) (cell_lt c1')).trans c1'
                            have v5 := (hB5.cell (p := ⟨gj, 1, none⟩) (cell_lt e1')).trans e1'
                            have v6 := (hB5.cell (p := ⟨ob, oo + kk * 2, none⟩) (cell_lt p0')).trans p0'
                            have v7 := (hB5.cell (p := ⟨ob, oo + kk * 2 + 1, none⟩) (cell_lt p1')).trans p1'
                            go_upto_region 15 with fail
                            clear f0 f1 u0 u1 g1 hU hbx hb2x hb2
                            generalize wr.alloc (.cells #[.int .i64 k2, .int .i64 dy] 55) = w5 at *
                            generalize wr.heap.size = g5 at *
                            have v8 : w5.cell? ⟨g5, 0, none⟩ = some (.int .i64 k2) := by rw [cell_of_row w5 _ 0 _ _ _ hnx]; rfl
                            have v9 : w5.cell? ⟨g5, 1, none⟩ = some (.int .i64 dy) := by rw [cell_of_row w5 _ 1 _ _ _ hnx]; rfl
                            have HMT := Lib.hid (fun V (b : Below w5.heap.size w5 V) => dMeets_any sA scp ost oA ocp oos y uA ucp ust vA vcp uos dy V (hOx.st.belowMore b b.size) (hOx.oc.belowMore b b.size) hOx.sm hOx.om (hUx.st.belowMore b b.size) (hUx.oc.belowMore b b.size) hUx.sm hUx.om)
                            have HB5 := Lib.hid hB5
                            have hB0 : Below w5.heap.size w5 w5.drew := (Below.refl _ _).drew
                            clear hnx hOx hUx hB5
                            go_cut [101] (fun s101 wx => s101 = .bool (meetB ⟨ost, oos⟩ y ⟨ust, uos⟩ dy) ∧ Below w5.heap.size w5 wx)
                            case first =>
                              go_region_held3 (fun w' => w'.cell? ⟨ub, uo + k2 * 2, none⟩ = some (.slice uA ust.length ucp) ∧ w'.cell? ⟨ub, uo + k2 * 2 + 1, none⟩ = some (.slice vA uos.length vcp) ∧ w'.cell? ⟨jb, jo + k * 2 + 1, none⟩ = some (.slice (some ⟨ub, uo, none⟩) nk jvk) ∧ w'.cell? ⟨gd, 0, none⟩ = some (.int .i64 kk) ∧ w'.cell? ⟨gd, 1, none⟩ = some (.int .i64 y) ∧ w'.cell? ⟨gj, 1, none⟩ = some (.slice (some ⟨ob, oo, none⟩) no jvc) ∧ w'.cell? ⟨ob, oo + kk * 2, none⟩ = some (.slice sA ost.length scp) ∧ w'.cell? ⟨ob, oo + kk * 2 + 1, none⟩ = some (.slice oA oos.length ocp) ∧ w'.cell? ⟨g5, 0, none⟩ = some (.int .i64 k2) ∧ w'.cell? ⟨g5, 1, none⟩ = some (.int .i64 dy))
                                (exact ⟨(hB0.cell (p := ⟨ub, uo + k2 * 2, none⟩) (cell_lt v0)).trans v0, (hB0.cell (p := ⟨ub, uo + k2 * 2 + 1, none⟩) (cell_lt v1)).trans v1, (hB0.cell (p := ⟨jb, jo + k * 2 + 1, none⟩) (cell_lt v2)).trans v2, (hB0.cell (p := ⟨gd, 0, none⟩) (cell_lt v3)).trans v3, (hB0.cell (p := ⟨gd, 1, none⟩) (cell_lt v4)).trans v4, (hB0.cell (p := ⟨gj, 1, none⟩) (cell_lt v5)).trans v5, (hB0.cell (p := ⟨ob, oo + kk * 2, none⟩) (cell_lt v6)).trans v6, (hB0.cell (p := ⟨ob, oo + kk * 2 + 1, none⟩) (cell_lt v7)).trans v7, (hB0.cell (p := ⟨g5, 0, none⟩) (cell_lt v8)).trans v8, (hB0.cell (p := ⟨g5, 1, none⟩) (cell_lt v9)).trans v9⟩)
                                ((go_at_call 18; (with_reducible refine (HMT.out _ hB0).mono ?_); rintro e w' ⟨rfl, hb'⟩; replace hB0 := hB0.trans (hb'.mono hB0.size)))
                              all_goals
                                go_wp2_with fail
                                go_meet
                                exact ⟨rfl, hB0⟩
                            case rest =>
                              obtain ⟨rfl, hbc⟩ := hcut
                              have HB9 := Lib.hid (HB5.out.trans (hbc.mono HB5.out.size))
                              have HCL := Lib.hid (show clearB (L.map JobM.p) ch i k = !meetB ⟨ost, oos⟩ y ⟨ust, uos⟩ dy by
                                unfold clearB
                                rw [HGK.out, HGD.out]
                                show (decide ((k2 : Int) < 0) || !meetB (optAt (jobAt (L.map JobM.p) k) ((k2 : Nat) : Int).toNat) dy (optAt (jobAt (L.map JobM.p) i) ((kk : Nat) : Int).toNat) y) = _
                                rw [HUP.out, HOP.out, meet_comm, decide_eq_false (by omega), Bool.false_or]; rfl)
                              clear hbc v0 v1 v2 v3 v4 v5 v6 v7 v8 v9
                              cases hmt : meetB ⟨ost, oos⟩ y ⟨ust, uos⟩ dy with
                              | true =>
                                rw [hmt] at HCL
                                have HF := Lib.hid (HNO.out (chosen_meet HGD.out HS.out hlt2 HCL.out))
                                have HB10 := Lib.hid (HBW.out.trans (HB9.out.mono HBW.out.size))
                                clear hmt
                                go_wp2_with fail
                                go_ret
                                exact ⟨ret_bool HF.out.symm, HB10.out⟩
                              | false =>
                                rw [hmt] at HCL
                                clear hmt
                                go_wp2_with fail
                                go_roundg (i - (k + 1))
                                case measure => omega
                                case rel => exact ⟨k + 1, by omega, rfl, by go_num, fun z hz => by
                                  by_cases e : z = k
                                  · subst e; exact HCL.out
                                  · exact HC2.out z (by omega), HB9.out⟩
                        · have HCO := Lib.hid (chosen_ok (cl := cl) (ow := ow) HGD.out (Int.natCast_nonneg _) HIN.out.1 HIN.out.2 (by rw [HOP.out]; exact HADM.out) (fun z hz => HC2.out z (by omega)))
                          have HB6 := Lib.hid (HBW.out.trans (hb2.mono HBW.out.size))
                          clear hb2
                          go_wp2_with fail
                          go_roundg (ch.length - (i + 1))
                          case measure => omega
                          case rel => exact ⟨i + 1, by omega, rfl, by go_num, fun z hz => by
                            by_cases e : z = i
                            · subst e; exact HCO.out
                            · exact HALL.out z (by omega), HB6.out⟩
        · have HV := Lib.hid (ver_yes HCJ.out (by rw [HLE.out, List.length_map]) (fun z hz => HALL.out z (by omega)))
          clear hb
          go_wp2_with fail
          go_ret
          exact ⟨ret_bool HV.out.symm, HB.out⟩
    · have hne : ((ch.length : Int) != (L.length : Int)) = true := by rw [bne_iff_ne]; omega
      have HV := Lib.hid (show verB (L.map JobM.p) cl ow ch = false by unfold verB; rw [List.length_map, decide_eq_false hlen]; simp)
      clear hcj hlen
      go_enter Try.func29, Try.ntmps29
      go_wp2_with (go_at_call 14; refine hck.mono ?_; rintro e w1 ⟨rfl, hb1⟩)
      go_ret
      exact ⟨ret_bool HV.out.symm, hb1⟩
end Go.Proofs.Ytlillkfelfoafaa
