/-
  Contract of the reference's Roll (chapter 24), where all is well.
-/
import Derived.Test.YtaongejpbgjbiaaRolE
import Derived.Test.YtaongejpbgjbiaaRolD
import Derived.Test.YtaongejpbgjbiaaL24X
import Derived.Test.YtaongejpbgjbiaaOrd
set_option linter.unusedVariables false
set_option linter.unusedSimpArgs false
namespace RP
theorem leT_total (a b : TripP) : leT a b = false → leT b a = true := by
  unfold leT; rw [decide_eq_false_iff_not, decide_eq_true_eq]; omega
theorem leT_trans {a b c : TripP} (h : leT a b = true) (h' : leT b c = true) : leT a c = true := by
  unfold leT at *; rw [decide_eq_true_eq] at *; omega
/-- A trip laid at its place keeps the order. -/
theorem insert_sorted {M : List TripP} {t : TripP} {k : Nat} (hs : M.Pairwise fun a b => leT a b = true) (hk : k ≤ M.length) (hlo : ∀ h : 0 < k, leT (M[k - 1]'(by omega)) t = true) (hhi : ∀ i (h : i < M.length), k ≤ i → leT M[i] t = false) :
    (M.take k ++ t :: M.drop k).Pairwise fun a b => leT a b = true := by
  have h1 : ∀ u ∈ M.take k, leT u t = true := fun u hu => by
    obtain ⟨i, hi, rfl⟩ := List.mem_take_iff_getElem.1 hu
    have hl := hlo (by omega)
    by_cases e : i = k - 1
    · subst e; exact hl
    · exact leT_trans (List.pairwise_iff_getElem.1 hs i (k - 1) (by omega) (by omega) (by omega)) hl
  have h2 : ∀ u ∈ M.drop k, leT t u = true := fun u hu => by
    obtain ⟨i, hi, rfl⟩ := List.mem_iff_getElem.1 hu
    rw [List.getElem_drop]
    exact leT_total _ _ (hhi _ _ (by omega))
  rw [List.pairwise_append, List.pairwise_cons]
  have hsp := hs
  rw [← List.take_append_drop k M, List.pairwise_append] at hsp
  refine ⟨hsp.1, ⟨h2, hsp.2.1⟩, fun a ha b hb => ?_⟩
  rcases List.mem_cons.1 hb with rfl | hb
  · exact h1 a ha
  · exact leT_trans (h1 a ha) (h2 b hb)
theorem insert_perm {α : Type} (M : List α) (t : α) (k : Nat) : (M.take k ++ t :: M.drop k).Perm (M ++ [t]) := by
  refine (List.perm_middle).trans ?_
  rw [List.take_append_drop]
  exact (List.perm_append_singleton t M).symm
end RP
namespace Go.Proofs.Ytaongejpbgjbiaa
open Go.RowKit RP
attribute [local go_sem ↓] Go.wp_at_zero Go.wp_at_succ

theorem Lst.takeL {α : Type} {enc : α → List Value} {k : Nat} {w : World} {B : Nat} {A : Option Addr} {l : List α} (h : Lst enc k w B A l) (n : Nat) : Lst enc k w B A (l.take n) := fun hl => by
  obtain ⟨b, off, e, hb, hc⟩ := h (by rintro rfl; simp at hl)
  refine ⟨b, off, e, hb, fun i x hx j v hv => hc i x ?_ j v hv⟩
  rw [List.getElem?_take] at hx
  split at hx
  · exact hx
  · cases hx
theorem Lst.dropL {α : Type} {enc : α → List Value} {k : Nat} {w : World} {B b off : Nat} {l : List α} (h : Lst enc k w B (some ⟨b, off, none⟩) l) (n : Nat) : Lst enc k w B (some ⟨b, off + n * k, none⟩) (l.drop n) := fun hl => by
  obtain ⟨b', off', e, hb, hc⟩ := h (by rintro rfl; simp at hl)
  injection e with e
  injection e with e1 e2
  subst e1 e2
  refine ⟨b, off + n * k, rfl, hb, fun i x hx j v hv => ?_⟩
  rw [List.getElem?_drop] at hx
  have := hc (n + i) x hx j v hv
  rw [Nat.add_mul, ← Nat.add_assoc] at this
  exact this

def TripSl (w : World) (line day : Int) (dl al : List Int) (e : Ending) (w' : World) : Prop :=
  ∃ da dn dc aa an ac, e = .returned (.agg #[.int .i64 line, .int .i64 day, .slice da dn dc, .slice aa an ac]) ∧ TOk w' w.heap.size ⟨line, day, dl, al, ⟨da, dn, dc⟩, ⟨aa, an, ac⟩⟩ ∧ Below w.heap.size w w'
theorem trip_sl {w : World} {line day : Int} {dl al : List Int} {e : Ending} {w' : World} (h : TripSv w line day dl al e w') : TripSl w line day dl al e w' := by
  obtain ⟨⟨da, dn, dc⟩, ⟨aa, an, ac⟩, h1, h2, h3⟩ := h
  exact ⟨da, dn, dc, aa, an, ac, h1, h2, h3⟩
theorem own_addr {α : Type} {enc : α → List Value} {k : Nat} {e : TypeId} {w : World} {base n c : Nat} {A : Option Addr} {l : List α} (h : Own enc k e w base (.slice A n c) l) : (A = none ∧ l = [] ∧ c = 0) ∨ ∃ g, A = some ⟨g, 0, none⟩ := by
  rcases h.2 with ⟨e1, h0⟩ | ⟨g, cap, cur, e1, _⟩
  · injection e1 with x1 x2 x3
    exact .inl ⟨x1, List.eq_nil_of_length_eq_zero h0, x3⟩
  · injection e1 with x1 x2 x3
    exact .inr ⟨g, x1⟩
/-- What reading a trip's first departure needs. -/
theorem TripsOk.at_ {w : World} {base c : Nat} {A : Option Addr} {M : List TripM} (h : TripsOk w base (.slice A M.length c) M) {i : Nat} (hi : i < M.length) : ∃ b off db, A = some ⟨b, off, none⟩ ∧ w.cell? ⟨b, off + i * 4, none⟩ = some (.int .i64 M[i].line) ∧ ∃ doff dc, w.cell? ⟨b, off + i * 4 + 2, none⟩ = some (.slice (some ⟨db, doff, none⟩) M[i].dep.length dc) ∧ w.cell? ⟨db, doff, none⟩ = some (.int .i64 (M[i].dep.getD 0 0)) ∧ 0 < M[i].dep.length := by
  have ht := h.trs
  obtain ⟨b, off, e, hb, a0, a1, a2, a3⟩ := ht.lst.tr i hi
  have hd := ht.at_ M[i] (List.getElem_mem hi)
  have hne := (h.2 M[i] (List.getElem_mem hi)).2
  have hp : 0 < M[i].dep.length := List.length_pos_iff.2 hne
  obtain ⟨db, doff, e2, zz, c0⟩ := hd.dep.it 0 hp
  rw [e2, hd.dn] at a2
  refine ⟨b, off, db, e, a0, doff, _, a2, ?_, hp⟩
  rw [List.getD_eq_getElem?_getD, List.getElem?_eq_getElem hp]
  simpa using c0
/-- A trip laid at its place: what is owned behind the three appends. -/
theorem ins_trips {w0 w1 w2 w3 : World} {base g k : Nat} {v v1 v2 v3 : Value} {M : List TripM} {t : TripM} (hM : TripsOk w0 base v M) (ht : TOk w0 base t) (hne : t.dep ≠ [])
    (o1 : OwnT w1 g v1 (M.take k)) (g1 : w0.grownBy w1 none) (o2 : OwnT w2 g v2 (M.take k ++ [t])) (g2 : w1.grownBy w2 v1.ownBlock) (o3 : OwnT w3 g v3 (M.take k ++ [t] ++ M.drop k)) (g3 : w2.grownBy w3 v2.ownBlock) (hb : base ≤ g) :
    TripsOk w3 base v3 (M.take k ++ t :: M.drop k) := by
  have e : M.take k ++ [t] ++ M.drop k = M.take k ++ t :: M.drop k := by simp
  rw [e] at o3
  refine ⟨o3.rebase hb, fun u hu => ?_⟩
  have key : TOk w0 base u ∧ u.dep ≠ [] := by
    rcases List.mem_append.1 hu with hu | hu
    · exact hM.2 u (List.mem_of_mem_take hu)
    · rcases List.mem_cons.1 hu with rfl | hu
      · exact ⟨ht, hne⟩
      · exact hM.2 u (List.mem_of_mem_drop hu)
  have g1' : w0.grownBy w1 (Value.slice none 0 0).ownBlock := g1
  exact ⟨((key.1.kept (Own.nil encT 4 51 w0 0) g1').kept o1 g2).kept o2 g3, key.2⟩
theorem until_two {P : Program} {Q : Exit → Act → World → Prop} {md : Region.Mode} {S : World → Prop} {l r r' : List Oper} {z fuel : Nat} {listed : Array Bool} {a : Act} {w : World} {i j : Nat} {o o' : Oper} (hl : l.drop i = o :: r) (hl' : l.drop j = o' :: r') (hr : Region.ready md l.toArray listed = [i, j])
    (h : ∀ K' : Act → World → Prop, Shut (∀ a w, (i ≠ z → S w) → Until P md l.toArray Q S z fuel (listed.setIfInBounds i true) a w → K' a w) → if Region.wanted o (yielded l.toArray a.tmps) = true then Oper.wp P o a w K' Q else K' (a.put o.dst undef) w)
    (h' : ∀ K' : Act → World → Prop, Shut (∀ a w, (j ≠ z → S w) → Until P md l.toArray Q S z fuel (listed.setIfInBounds j true) a w → K' a w) → if Region.wanted o' (yielded l.toArray a.tmps) = true then Oper.wp P o' a w K' Q else K' (a.put o'.dst undef) w) :
    Until P md l.toArray Q S z (fuel + 1) listed a w := by
  refine ⟨(fun h0 => by rw [hr] at h0; cases h0), fun k hk => ?_⟩
  rw [hr, List.mem_cons, List.mem_singleton] at hk
  rcases hk with rfl | rfl
  · exact wpOp_step (getElem_of_drop hl) (fun K' hK => h K' (fun a w h1 h2 => hK a w ⟨h1, h2⟩))
  · exact wpOp_step (getElem_of_drop hl') (fun K' hK => h' K' (fun a w h1 h2 => hK a w ⟨h1, h2⟩))
theorem TOk.setBelow {w : World} {base : Nat} {t : TripM} (h : TOk w base t) {a : Addr} (ha : a.block < base) (u : Value) : TOk (w.setCell a u) base t := ⟨h.dep.setBelow ha u, h.arr.setBelow ha u⟩
set_option maxRecDepth 100000 in
set_option maxHeartbeats 16000000 in
theorem refRoll_any {T D : Nat} {ts : List Int} {ev : List Evt} {ac : List Acy} {s : List Svc} {x : List Exc} {pf : Int → PatP} (h : RollOk T ts ev ac D s x pf) (hr : ∀ e ∈ ev, R64 e.2.1) (hev : ev.length ≤ 48) (hac : ac.length ≤ 512) (htn : ts.length ≤ 48) (E : Option Addr) (cE : Nat) (A : Option Addr) (cA : Nat) (B' : Option Addr) (cB : Nat) (S : Option Addr) (cS : Nat) (X : Option Addr) (cX : Nat) (w : World)
    (hcS : s.length ≤ cS) (hcS2 : cS ≤ 9223372036854775807) (hcX : x.length ≤ cX) (hcX2 : cX ≤ 9223372036854775807)
    (he : Lst encE 3 w w.heap.size E ev) (hl : Lst encA 6 w w.heap.size A ac) (ht : Lst encI 1 w w.heap.size B' ts) (hs : Lst encV 4 w w.heap.size S s) (hx : Lst encX 3 w w.heap.size X x) :
    Calls Try.prog 26 #[netV T E ev.length cE A ac.length cA, .slice B' ts.length cB, .int .i64 D, .slice S s.length cS, .slice X x.length cX] w (RollPost T D s x pf w) := by
  have hns := h.ns
  have hnx := h.nx
  have hD := h.le
  have h1 := h.one
  have HH := Lib.hid h
  have hcr := cntS_range (s := s) (x := x) (pf := pf) (show 1 ≤ T by omega) D h.le s h.ok s.length (Nat.le_refl _)
  rw [List.take_length] at hcr
  have ba := belA w (.cells #[.int .i64 T, .slice E ev.length cE, .slice A ac.length cA] 43)
  have hn := heap_alloc_new w (.cells #[.int .i64 T, .slice E ev.length cE, .slice A ac.length cA] 43)
  have hg0 : w.heap.size < (w.alloc (.cells #[.int .i64 T, .slice E ev.length cE, .slice A ac.length cA] 43)).heap.size := by simp
  have hE := he.belowMore ba ba.size
  have hL := hl.belowMore ba ba.size
  have hT := ht.belowMore ba ba.size
  have hS := hs.belowMore ba ba.size
  have hX := hx.belowMore ba ba.size
  have hck := refCount_any h hr hev hac htn E cE A cA B' cB S cS X cX _ hcS hcS2 hcX hcX2 hE hL hT hS hX
  have HE := Lib.hid hE
  have HL := Lib.hid hL
  have HT := Lib.hid hT
  have HS := Lib.hid hS
  have HX := Lib.hid hX
  have HBA := Lib.hid ba
  have HN := Lib.hid (BxN.mk hn)
  clear he hl ht hs hx ba hn h hE hT hS hX hL
  go_enter Try.func26, Try.ntmps26
  go_wp2_with fail
  generalize w.alloc (.cells #[.int .i64 T, .slice E ev.length cE, .slice A ac.length cA] 43) = w0 at *
  generalize hgz : w.heap.size = gz at *
  have HGZ := Lib.hid hgz
  clear hgz
  obtain ⟨n0, n1, n2, ng⟩ := HN.out.cells
  go_wp2_with fail
  refine hck.mono ?_
  rintro e w1 ⟨rfl, hb1⟩
  have HB1 := Lib.hid hb1
  have HALL := Lib.hid (allT_cnt (s := s) (x := x) (pf := pf) (D := D) (show 1 ≤ T by omega) HH.out.ok)
  have z01 := hb1.size
  clear hb1 hck n0 n1 n2
  by_cases hcn : 1024 < cntS T s x pf D s
  · have HC := Lib.hid hcn
    generalize hcc : cntS T s x pf D s = cn at *
    have HCC := Lib.hid hcc
    clear hcc
    go_wp2_with fail
    go_ret2
    exact ⟨by rw [HGZ.out]; exact HBA.out.trans (HB1.out.mono (Nat.le_of_lt hg0)), .inl ⟨by rw [HCC.out]; exact HC.out, rfl⟩⟩
  · have HC := Lib.hid hcn
    have hcn' : (allT T s x pf D s).length ≤ 1024 := by have := HALL.out; omega
    generalize hcc : cntS T s x pf D s = cn at *
    have HCC := Lib.hid hcc
    clear hcc
    go_wp2_with fail
    go_loopg [14, 15, 16, 18, 19, 20, 21, 38] s.length (fun g s14 s15 s16 s18 s19 s20 s21 s38 wr => ∃ (k : Nat) (M : List TripM), k ≤ s.length ∧ g = s.length - k ∧ s38 = .int .i64 k ∧ TripsOk wr w1.heap.size s14 M ∧ (M.map TripM.p).Perm (allT T s x pf D (s.take k)) ∧ (M.map TripM.p).Pairwise (fun a b => leT a b = true) ∧ (M = [] → s14 = .slice none 0 0) ∧ Below w1.heap.size w1 wr)
    case atStart => exact ⟨0, [], by omega, by omega, rfl, ⟨Own.nil _ _ _ _ _, by simp⟩, by simp [allT], .nil, fun _ => rfl, Below.refl _ _⟩
    case round =>
      obtain ⟨k, M, hk, hg, rfl, hM, hp, hst, hnil, hb⟩ := hrel
      have HNIL := Lib.hid hnil
      clear hnil
      by_cases hlt : k < s.length
      · obtain ⟨b, off, rfl, hbb, a0, a1, a2, a3⟩ := (HS.out.belowMore (HB1.out.trans (hb.mono z01)) (HB1.out.trans (hb.mono z01)).size).sv k hlt
        have hBx := HB1.out.trans (hb.mono z01)
        have HAS := Lib.hid (allT_snoc T s x pf D hlt)
        have hsk := HH.out.ok s[k] (List.getElem_mem hlt)
        have HSM := Lib.hid (stS_map (s := s) (x := x) (show 1 ≤ T by omega) hsk D)
        have HSB := Lib.hid (stS_bound (s := s) (x := x) (show 1 ≤ T by omega) hsk D)
        have HTM := Lib.hid (HH.out.time s[k] (List.getElem_mem hlt))
        have HPA := Lib.hid (HH.out.pat s[k] (List.getElem_mem hlt))
        have HST := Lib.hid (fun V (b' : Below wr.heap.size wr V) => starts_ok HH.out hev htn s[k] (List.getElem_mem hlt) E cE A ac.length cA B' cB (some ⟨b, off, none⟩) cS X cX V (HE.out.belowMore (hBx.trans (b'.mono hBx.size)) (hBx.trans (b'.mono hBx.size)).size) (HT.out.belowMore (hBx.trans (b'.mono hBx.size)) (hBx.trans (b'.mono hBx.size)).size) (HS.out.belowMore (hBx.trans (b'.mono hBx.size)) (hBx.trans (b'.mono hBx.size)).size) (HX.out.belowMore (hBx.trans (b'.mono hBx.size)) (hBx.trans (b'.mono hBx.size)).size))
        have hlen : (allT T s x pf D (s.take (k + 1))).length ≤ 1024 := by
          have h2 : allT T s x pf D s = allT T s x pf D (s.take (k + 1)) ++ allT T s x pf D (s.drop (k + 1)) := by
            unfold allT; rw [← List.flatMap_append, List.take_append_drop]
          rw [h2, List.length_append] at hcn'
          omega
        rw [HAS.out, HSM.out] at hlen
        generalize stS T s x (pf s[k].line).res s[k] D = sl at *
        generalize s[k] = a at *
        obtain ⟨li, dy, fs, ls⟩ := a
        simp only at a0 a1 a2 a3 HST HSM HSB HTM HPA hlen
        obtain ⟨n0, n1, n2, ng2⟩ := (HN.out.below hBx hg0).cells
        have hz := hb.size
        have HB := Lib.hid hb
        have HM := Lib.hid hM
        have HP := Lib.hid hp
        have HSO := Lib.hid hst
        have i0 : (0 : Int) ≤ (k : Int) := by omega
        have i1 : (k : Int) < (s.length : Int) := by omega
        have hB0 : Below wr.heap.size wr wr.drew := (Below.refl _ _).drew
        clear hb hM hp hst hsk hBx
        go_wp2_with fail
        go_cut [16] (fun s16 wx => ∃ VA vc, s16 = .slice VA sl.length vc ∧ OwnN wx wr.heap.size (.slice VA sl.length vc) sl ∧ Below wr.heap.size wr wx)
        case first =>
          go_region_held3 (fun w' => w'.cell? ⟨gz, 0, none⟩ = some (.int .i64 T) ∧ w'.cell? ⟨gz, 1, none⟩ = some (.slice E ev.length cE) ∧ w'.cell? ⟨gz, 2, none⟩ = some (.slice A ac.length cA) ∧ w'.cell? ⟨b, off + k * 4, none⟩ = some (.int .i64 li) ∧ w'.cell? ⟨b, off + k * 4 + 1, none⟩ = some (.int .i64 dy) ∧ w'.cell? ⟨b, off + k * 4 + 2, none⟩ = some (.int .i64 fs) ∧ w'.cell? ⟨b, off + k * 4 + 3, none⟩ = some (.int .i64 ls))
            (exact ⟨(hB0.cell (p := ⟨gz, 0, none⟩) ng2).trans n0, (hB0.cell (p := ⟨gz, 1, none⟩) ng2).trans n1, (hB0.cell (p := ⟨gz, 2, none⟩) ng2).trans n2, (hB0.cell (p := ⟨b, off + k * 4, none⟩) hbb).trans a0, (hB0.cell (p := ⟨b, off + k * 4 + 1, none⟩) hbb).trans a1, (hB0.cell (p := ⟨b, off + k * 4 + 2, none⟩) hbb).trans a2, (hB0.cell (p := ⟨b, off + k * 4 + 3, none⟩) hbb).trans a3⟩)
            ((go_at_call 45; (with_reducible refine (HST.out _ hB0).mono ?_); rintro e w' ⟨v, rfl, ho', hb'⟩; obtain ⟨VA, vc, rfl⟩ := ho'.form; replace hB0 := hB0.trans (hb'.mono hB0.size)))
          all_goals
            go_wp2_with fail
            go_meet
            exact ⟨VA, vc, rfl, ho'.rebase (by simp), hB0⟩
        case rest =>
          obtain ⟨VA, vc, rfl, hov, hbc⟩ := hcut
          obtain ⟨Wc, rfl⟩ : ∃ W : World, W = wc := ⟨_, rfl⟩
          have HBC := Lib.hid (HB.out.trans (hbc.mono hz))
          have HMC := Lib.hid (HM.out.below hbc)
          have HOV := Lib.hid (Own.lst encI_len hov)
          have zc := HBC.out.size
          have a0' := (hbc.cell (p := ⟨b, off + k * 4, none⟩) hbb).trans a0
          clear hov hbc hB0 n0 n1 n2 a0 a1 a2 a3 HM
          go_wp2_with fail
          go_loopg [14, 18, 19, 20, 21, 53] sl.length (fun g s14 s18 s19 s20 s21 s53 wr => ∃ (j : Nat) (M : List TripM), j ≤ sl.length ∧ g = sl.length - j ∧ s53 = .int .i64 j ∧ TripsOk wr w1.heap.size s14 M ∧ (M.map TripM.p).Perm (allT T s x pf D (s.take k) ++ (sl.take j).map fun sec => mkT li (sec / 86400) (pf li) sec) ∧ (M.map TripM.p).Pairwise (fun a b => leT a b = true) ∧ (M = [] → s14 = .slice none 0 0) ∧ Below Wc.heap.size Wc wr)
          case atStart => exact ⟨0, M, by omega, by omega, rfl, HMC.out, by simpa using HP.out, HSO.out, HNIL.out, Below.refl _ _⟩
          case round =>
            obtain ⟨j, M, hj, hg2, rfl, hM, hp, hst, hnil, hb⟩ := hrel
            have HNIL := Lib.hid hnil
            clear hnil
            by_cases hlt2 : j < sl.length
            · have HSJ := Lib.hid (show (sl.take (j + 1)).map (fun sec => mkT li (sec / 86400) (pf li) sec) = (sl.take j).map (fun sec => mkT li (sec / 86400) (pf li) sec) ++ [mkT li (sl[j] / 86400) (pf li) sl[j]] by rw [List.take_succ_eq_append_getElem hlt2, List.map_append]; rfl)
              obtain ⟨vb, vo, rfl, zvb, x0⟩ := (HOV.out.belowMore hb hb.size).it j hlt2
              have hsb := HSB.out sl[j] (List.getElem_mem hlt2)
              have hMl : M.length ≤ 1023 := by
                have e1 := hp.length_eq
                rw [List.length_map, List.length_append, List.length_map, List.length_take] at e1
                rw [List.length_append, List.length_map] at hlen
                omega
              have hsl : sl.length ≤ 1024 := by rw [List.length_append, List.length_map] at hlen; omega
              generalize sl[j] = sec at *
              have hBw := HBC.out.trans (hb.mono zc)
              have hBy := HB1.out.trans (hBw.mono z01)
              have c0 := (hb.cell (p := ⟨b, off + k * 4, none⟩) (cell_lt a0')).trans a0'
              obtain ⟨n0, n1, n2, ng3⟩ := (HN.out.below hBy hg0).cells
              obtain ⟨R, P, Q, Dd, W, hPO, hpe⟩ := HPA.out
              have hg := (feas_iff.1 HH.out.feas).1
              have HTR := Lib.hid (fun V (b' : Below wr.heap.size wr V) => (refTrip_any T E cE A cA ev ac B' cB li sec ts R P Q Dd W V (HE.out.belowMore (hBy.trans (b'.mono hBy.size)) (hBy.trans (b'.mono hBy.size)).size) (HL.out.belowMore (hBy.trans (b'.mono hBy.size)) (hBy.trans (b'.mono hBy.size)).size) (HT.out.belowMore (hBy.trans (b'.mono hBy.size)) (hBy.trans (b'.mono hBy.size)).size) hPO hg hsb.1 (by omega)).mono (fun _ _ h => trip_sl h))
              have HMK := Lib.hid (show mkT li (sec / 86400) (pf li) sec = ⟨li, sec / 86400, (depL Dd W R).map (sec + ·), (arrL Dd W R).map (sec + ·)⟩ by rw [hpe]; rfl)
              have HB2 := Lib.hid hb
              have HM2 := Lib.hid hM
              have HP2 := Lib.hid hp
              have HSO2 := Lib.hid hst
              have j0 : (0 : Int) ≤ (j : Int) := by omega
              have j1 : (j : Int) < (sl.length : Int) := by omega
              have zr := hb.size
              have hB0 : Below wr.heap.size wr wr.drew := (Below.refl _ _).drew
              have hBz : Below wr.heap.size wr (wr.alloc (.cells #[.int .i64 0, .int .i64 0, .slice none 0 0, .slice none 0 0] 51)).drew := ((Below.refl _ _).alloc (Nat.le_refl _) _).drew
              have hza : (wr.alloc (.cells #[.int .i64 0, .int .i64 0, .slice none 0 0, .slice none 0 0] 51)).drew.heap[wr.heap.size]? = some (.cells #[.int .i64 0, .int .i64 0, .slice none 0 0, .slice none 0 0] 51 (0, 0)) := heap_alloc_new wr _
              have hzl : wr.heap.size < (wr.alloc (.cells #[.int .i64 0, .int .i64 0, .slice none 0 0, .slice none 0 0] 51)).drew.heap.size := by show wr.heap.size < (wr.alloc _).heap.size; simp
              clear hb hM hp hst hPO hpe hg hBw hBy
              go_wp2_with fail
              go_cut [19] (fun s19 wx => ∃ (gt : Nat) (tdv tav : Sv), s19 = .pointer (some ⟨gt, 0, none⟩) ∧ wr.heap.size ≤ gt ∧ wx.heap[gt]? = some (.cells #[.int .i64 li, .int .i64 (sec / 86400), tdv.v, tav.v] 51 (0, 0)) ∧ TOk wx wr.heap.size ⟨li, sec / 86400, (depL Dd W R).map (sec + ·), (arrL Dd W R).map (sec + ·), tdv, tav⟩ ∧ Below wr.heap.size wr wx)
              case first =>
                as_aux_lemma =>
                  refine wp_region_until (S := fun w' => w'.cell? ⟨gz, 0, none⟩ = some (.int .i64 T) ∧ w'.cell? ⟨gz, 1, none⟩ = some (.slice E ev.length cE) ∧ w'.cell? ⟨gz, 2, none⟩ = some (.slice A ac.length cA) ∧ w'.cell? ⟨b, off + k * 4, none⟩ = some (.int .i64 li)) 10 (by kernel_rfl) ?_
                  have h0 := And.intro ((hB0.cell (p := ⟨gz, 0, none⟩) ng3).trans n0) (And.intro ((hB0.cell (p := ⟨gz, 1, none⟩) ng3).trans n1) (And.intro ((hB0.cell (p := ⟨gz, 2, none⟩) ng3).trans n2) ((hB0.cell (p := ⟨b, off + k * 4, none⟩) (cell_lt c0)).trans c0)))
                  refine until_take (i := 0) (v := ?_) rfl (by kernel_rfl) (by kernel_rfl) (by kernel_rfl) (by kernel_rfl) (fun _ _ _ h => h) (Or.inl ⟨by rfl, ?_⟩) h0 ?_
                  rotate_left
                  · intro u hSu
                    (try dsimp only at hSu)
                    go_simp
                    try rfl
                  simp only [Act.put, List.setIfInBounds_toArray, List.set_cons_zero, List.set_cons_succ]
                  refine until_take (i := 1) (v := ?_) rfl (by kernel_rfl) (by kernel_rfl) (by kernel_rfl) (by kernel_rfl) (fun _ _ _ h => h) (Or.inl ⟨by rfl, ?_⟩) h0 ?_
                  rotate_left
                  · intro u hSu
                    (try dsimp only at hSu)
                    go_simp
                    try rfl
                  simp only [Act.put, List.setIfInBounds_toArray, List.set_cons_zero, List.set_cons_succ]
                  refine until_take (i := 2) (v := ?_) rfl (by kernel_rfl) (by kernel_rfl) (by kernel_rfl) (by kernel_rfl) (fun _ _ _ h => h) (Or.inl ⟨by rfl, ?_⟩) h0 ?_
                  rotate_left
                  · intro u hSu
                    (try dsimp only at hSu)
                    go_simp
                    try rfl
                  simp only [Act.put, List.setIfInBounds_toArray, List.set_cons_zero, List.set_cons_succ]
                  refine until_take (i := 3) (v := ?_) rfl (by kernel_rfl) (by kernel_rfl) (by kernel_rfl) (by kernel_rfl) (fun _ _ _ h => h) (Or.inl ⟨by rfl, ?_⟩) h0 ?_
                  rotate_left
                  · intro u hSu
                    (try dsimp only at hSu)
                    go_simp
                    try rfl
                  simp only [Act.put, List.setIfInBounds_toArray, List.set_cons_zero, List.set_cons_succ]
                  refine until_take (i := 4) (v := ?_) rfl (by kernel_rfl) (by kernel_rfl) (by kernel_rfl) (by kernel_rfl) (fun _ _ _ h => h) (Or.inl ⟨by rfl, ?_⟩) h0 ?_
                  rotate_left
                  · intro u hSu
                    (try dsimp only at hSu)
                    go_simp
                    try rfl
                  simp only [Act.put, List.setIfInBounds_toArray, List.set_cons_zero, List.set_cons_succ]
                  refine until_take (i := 5) (v := ?_) rfl (by kernel_rfl) (by kernel_rfl) (by kernel_rfl) (by kernel_rfl) (fun _ _ _ h => h) (Or.inl ⟨by rfl, ?_⟩) h0 ?_
                  rotate_left
                  · intro u hSu
                    (try dsimp only at hSu)
                    go_simp
                    try rfl
                  simp only [Act.put, List.setIfInBounds_toArray, List.set_cons_zero, List.set_cons_succ]
                  refine until_take (i := 6) (v := ?_) rfl (by kernel_rfl) (by kernel_rfl) (by kernel_rfl) (by kernel_rfl) (fun _ _ _ h => h) (Or.inl ⟨by rfl, ?_⟩) h0 ?_
                  rotate_left
                  · intro u hSu
                    (try dsimp only at hSu)
                    go_simp
                    try rfl
                  simp only [Act.put, List.setIfInBounds_toArray, List.set_cons_zero, List.set_cons_succ]
                  refine until_take (i := 7) (v := ?_) rfl (by kernel_rfl) (by kernel_rfl) (by kernel_rfl) (by kernel_rfl) (fun _ _ _ h => h) (Or.inl ⟨by rfl, ?_⟩) h0 ?_
                  rotate_left
                  · intro u hSu
                    (try dsimp only at hSu)
                    go_simp
                    try rfl
                  simp only [Act.put, List.setIfInBounds_toArray, List.set_cons_zero, List.set_cons_succ]
                  refine until_two (i := 8) (j := 9) rfl rfl (by kernel_rfl) (fun K hK => ?_) (fun K hK => ?_)
                  · go_simp
                    refine (HTR.out _ hB0).mono ?_
                    rintro e w' ⟨da, dn, dc, aa, an, aq, rfl, htk, hb'⟩
                    have h1 := And.intro ((hb'.cell (p := ⟨gz, 0, none⟩) (cell_lt h0.1)).trans h0.1) (And.intro ((hb'.cell (p := ⟨gz, 1, none⟩) (cell_lt h0.2.1)).trans h0.2.1) (And.intro ((hb'.cell (p := ⟨gz, 2, none⟩) (cell_lt h0.2.2.1)).trans h0.2.2.1) ((hb'.cell (p := ⟨b, off + k * 4, none⟩) (cell_lt h0.2.2.2)).trans h0.2.2.2)))
                    replace hB0 := hB0.trans (hb'.mono hB0.size)
                    have HT4 := Lib.hid htk
                    have HB4 := Lib.hid hB0
                    clear htk hb' hB0 hBz hza hzl
                    refine hK.out _ _ (fun _ => h1) ?_
                    clear hK K
                    replace h0 := h1
                    try simp only [Act.put, List.setIfInBounds_toArray, List.set_cons_zero, List.set_cons_succ]
                    refine until_one (i := 9) rfl (by kernel_rfl) (fun K hK => ?_)
                    go_simp
                    have bX := belA w' (.cells #[.int .i64 0, .int .i64 0, .slice none 0 0, .slice none 0 0] 51)
                    have h2 := And.intro ((bX.cell (p := ⟨gz, 0, none⟩) (cell_lt h0.1)).trans h0.1) (And.intro ((bX.cell (p := ⟨gz, 1, none⟩) (cell_lt h0.2.1)).trans h0.2.1) (And.intro ((bX.cell (p := ⟨gz, 2, none⟩) (cell_lt h0.2.2.1)).trans h0.2.2.1) ((bX.cell (p := ⟨b, off + k * 4, none⟩) (cell_lt h0.2.2.2)).trans h0.2.2.2)))
                    have hk0 := heap_alloc_new w' (.cells #[.int .i64 0, .int .i64 0, .slice none 0 0, .slice none 0 0] 51)
                    have hf : ∀ o, (w'.alloc (.cells #[.int .i64 0, .int .i64 0, .slice none 0 0, .slice none 0 0] 51)).frozen? ⟨w'.heap.size, o, none⟩ = false := fun o => by unfold World.frozen?; rw [hk0]; simp
                    refine hK.out _ _ (fun _ => h2) ?_
                    clear hK K
                    replace h0 := h2
                    try simp only [Act.put, List.setIfInBounds_toArray, List.set_cons_zero, List.set_cons_succ]
                    refine until_one (i := 10) rfl (by kernel_rfl) (fun K hK => ?_)
                    go_simp
                    refine hK.out _ _ (fun q => absurd rfl q) ?_
                    clear hK K h0 h1 h2 hf hk0 bX
                    refine until_done (by kernel_rfl) ?_ _
                    go_wp2_with fail
                    go_meet
                    exact ⟨_, ⟨da, dn, dc⟩, ⟨aa, an, aq⟩, rfl, HB4.out.size, heap_alloc_new _ _, (HT4.out.below (belA _ _)).rebase (Nat.le_refl _), HB4.out.trans ((belA _ _).mono HB4.out.size)⟩
                  · go_simp
                    have bX := belA wr.drew (.cells #[.int .i64 0, .int .i64 0, .slice none 0 0, .slice none 0 0] 51)
                    have h1 := And.intro ((bX.cell (p := ⟨gz, 0, none⟩) (cell_lt h0.1)).trans h0.1) (And.intro ((bX.cell (p := ⟨gz, 1, none⟩) (cell_lt h0.2.1)).trans h0.2.1) (And.intro ((bX.cell (p := ⟨gz, 2, none⟩) (cell_lt h0.2.2.1)).trans h0.2.2.1) ((bX.cell (p := ⟨b, off + k * 4, none⟩) (cell_lt h0.2.2.2)).trans h0.2.2.2)))
                    refine hK.out _ _ (fun _ => h1) ?_
                    clear hK K
                    replace h0 := h1
                    try simp only [Act.put, List.setIfInBounds_toArray, List.set_cons_zero, List.set_cons_succ]
                    refine until_one (i := 8) rfl (by kernel_rfl) (fun K hK => ?_)
                    go_simp
                    refine (HTR.out (wr.alloc (.cells #[.int .i64 0, .int .i64 0, .slice none 0 0, .slice none 0 0] 51)).drew hBz).mono ?_
                    rintro e w' ⟨da, dn, dc, aa, an, aq, rfl, htk, hb'⟩
                    have h2 := And.intro ((hb'.cell (p := ⟨gz, 0, none⟩) (cell_lt h0.1)).trans h0.1) (And.intro ((hb'.cell (p := ⟨gz, 1, none⟩) (cell_lt h0.2.1)).trans h0.2.1) (And.intro ((hb'.cell (p := ⟨gz, 2, none⟩) (cell_lt h0.2.2.1)).trans h0.2.2.1) ((hb'.cell (p := ⟨b, off + k * 4, none⟩) (cell_lt h0.2.2.2)).trans h0.2.2.2)))
                    have hzb := (hb'.block wr.heap.size hzl).trans hza
                    have rf : ∀ o, w'.frozen? ⟨wr.heap.size, o, none⟩ = false := fun o => by unfold World.frozen?; rw [hzb]; simp
                    have r0 : w'.cell? ⟨wr.heap.size, 0, none⟩ = some (.int .i64 0) := by rw [cell_of_row w' _ 0 _ _ _ hzb]; rfl
                    have r1 : w'.cell? ⟨wr.heap.size, 1, none⟩ = some (.int .i64 0) := by rw [cell_of_row w' _ 1 _ _ _ hzb]; rfl
                    have r2 : w'.cell? ⟨wr.heap.size, 2, none⟩ = some (.slice none 0 0) := by rw [cell_of_row w' _ 2 _ _ _ hzb]; rfl
                    have r3 : w'.cell? ⟨wr.heap.size, 3, none⟩ = some (.slice none 0 0) := by rw [cell_of_row w' _ 3 _ _ _ hzb]; rfl
                    replace hBz := hBz.trans (hb'.mono hBz.size)
                    have HT4 := Lib.hid htk
                    have HB4 := Lib.hid hBz
                    have HZ4 := Lib.hid hzb
                    have hz1 : wr.heap.size < (wr.alloc (.cells #[.int .i64 0, .int .i64 0, .slice none 0 0, .slice none 0 0] 51)).drew.heap.size := hzl
                    clear htk hb' hB0 hBz hza bX hzb
                    refine hK.out _ _ (fun _ => h2) ?_
                    clear hK K
                    replace h0 := h2
                    try simp only [Act.put, List.setIfInBounds_toArray, List.set_cons_zero, List.set_cons_succ]
                    refine until_one (i := 10) rfl (by kernel_rfl) (fun K hK => ?_)
                    go_simp
                    refine hK.out _ _ (fun q => absurd rfl q) ?_
                    clear hK K h0 h1 h2 rf r0 r1 r2 r3
                    refine until_done (by kernel_rfl) ?_ _
                    go_wp2_with fail
                    go_meet
                    exact ⟨wr.heap.size, ⟨da, dn, dc⟩, ⟨aa, an, aq⟩, rfl, Nat.le_refl _, set_block' (o := 3) (.slice aa an aq) (set_block' (o := 2) (.slice da dn dc) (set_block' (o := 1) (.int .i64 (sec / 86400)) (set_block' (o := 0) (.int .i64 li) HZ4.out))), ((((HT4.out.setBelow (a := ⟨wr.heap.size, _, none⟩) hz1 _).setBelow (a := ⟨wr.heap.size, _, none⟩) hz1 _).setBelow (a := ⟨wr.heap.size, _, none⟩) hz1 _).setBelow (a := ⟨wr.heap.size, _, none⟩) hz1 _).rebase (Nat.le_of_lt hz1), (((HB4.out.setCell (p := ⟨wr.heap.size, _, none⟩) (Nat.le_refl _) _).setCell (p := ⟨wr.heap.size, _, none⟩) (Nat.le_refl _) _).setCell (p := ⟨wr.heap.size, _, none⟩) (Nat.le_refl _) _).setCell (p := ⟨wr.heap.size, _, none⟩) (Nat.le_refl _) _⟩
              case rest =>
                obtain ⟨gt, tdv, tav, rfl, hgt, hblk, htk, hbx⟩ := hcut
                obtain ⟨Wt, rfl⟩ : ∃ W : World, W = wc := ⟨_, rfl⟩
                obtain ⟨Wj, rfl⟩ : ∃ W : World, W = wr := ⟨_, rfl⟩
                have HTK := Lib.hid htk
                have hMt := HM2.out.below hbx
                obtain ⟨MA, mc, rfl, hml, hmc, hmc2⟩ := own_cut encT_len hMt.1
                have HMt := Lib.hid hMt
                have HBX := Lib.hid (HB2.out.trans (hbx.mono zr))
                have zt := hbx.size
                have t0 : Wt.cell? ⟨gt, 0, none⟩ = some (.int .i64 li) := by rw [cell_of_row Wt _ 0 _ _ _ hblk]; rfl
                have HBLK := Lib.hid hblk
                clear hblk htk hbx hMt hml hB0 hBz hza hzl n0 n1 n2 ng3 c0 x0 HM2 HTR
                go_wp2_with fail
                go_loopg [20] M.length (fun g s20 wr3 => ∃ k3 q : Nat, k3 ≤ M.length ∧ g = k3 ∧ s20 = .int .i64 k3 ∧ (∀ i (h : i < M.length), k3 ≤ i → leT M[i].p (mkT li (sec / 86400) (pf li) sec) = false) ∧ wr3 = Wt.drewN q)
                case atStart => exact ⟨M.length, 0, by omega, rfl, rfl, fun i h h' => by omega, rfl⟩
                case round =>
                  obtain ⟨k3, q, hk3, hg3, rfl, hhi, hwr⟩ := hrel
                  have HHI := Lib.hid hhi
                  have HML := Lib.hid (show TripsOk wr w1.heap.size (.slice MA M.length mc) M by rw [hwr]; exact HMt.out.drewN q)
                  have HWR := Lib.hid hwr
                  have t0w : wr.cell? ⟨gt, 0, none⟩ = some (.int .i64 li) := by rw [hwr]; exact t0
                  clear hhi hwr
                  by_cases hk0 : (k3 : Int) ≤ 0
                  · have HLE := Lib.hid (show ∀ (h0 : 0 < k3) (h : k3 - 1 < M.length), leT M[k3 - 1].p (mkT li (sec / 86400) (pf li) sec) = true from fun h0 => by omega)
                    have g0 : decide ((0 : Int) < (k3 : Int)) = false := decide_eq_false (by omega)
                    have g0' : decide (0 < k3) = false := decide_eq_false (by omega)
                    have HK0 := Lib.hid hk0
                    clear hk0
                    go_wp2_with fail
                    go_quiet (fail)
                    as_aux_lemma =>
                      rw [HWR.out, World.drewN_drewN]
                      generalize q + nq = q3 at *
                      have hB3 := below_drewN (Below.refl Wt.heap.size Wt) q3
                      have HM3 := Lib.hid (HMt.out.below hB3)
                      have HTK3 := Lib.hid (HTK.out.below hB3)
                      have hblk3 : (Wt.drewN q3).heap[gt]? = some (.cells #[.int .i64 li, .int .i64 (sec / 86400), tdv.v, tav.v] 51 (0, 0)) := HBLK.out
                      have z3 : (Wt.drewN q3).heap.size = Wt.heap.size := rfl
                      have HINS := Lib.hid (insert_sorted (t := mkT li (sec / 86400) (pf li) sec) (k := k3) HSO2.out (by rw [List.length_map]; exact hk3) (fun h => by rw [List.getElem_map]; exact HLE.out h (by omega)) (fun i h h' => by rw [List.getElem_map]; exact HHI.out i (by simpa using h) h'))
                      have HB3 := Lib.hid (HBX.out.trans (hB3.mono (by omega)))
                      generalize Wt.drewN q3 = Wx at *
                      have hzx : Wj.heap.size ≤ Wx.heap.size := by omega
                      clear z3
                      clear HLE HHI hB3 HWR HML
                      have hne3 : (mkT li (sec / 86400) (pf li) sec).dep ≠ [] := by
                        have := HTM.out.zero.2
                        intro e
                        have e2 := congrArg List.length e
                        simp [mkT] at e2
                        rw [e2] at this; simp at this
                      have HNE3 := Lib.hid hne3
                      clear hne3
                      by_cases hM0 : M = []
                      · have hv := HNIL.out hM0
                        subst hM0
                        injection hv with hv1 hv2 hv3
                        subst hv1 hv3
                        obtain rfl : k3 = 0 := by simpa using hk3
                        go_upto_region 19 with fail
                        obtain ⟨b0, b1, b2, b3⟩ : Wx.cell? ⟨gt, 0, none⟩ = some (.int .i64 li) ∧ Wx.cell? ⟨gt, 1, none⟩ = some (.int .i64 (sec / 86400)) ∧ Wx.cell? ⟨gt, 2, none⟩ = some tdv.v ∧ Wx.cell? ⟨gt, 3, none⟩ = some tav.v := ⟨by rw [cell_of_row Wx _ 0 _ _ _ hblk3]; rfl, by rw [cell_of_row Wx _ 1 _ _ _ hblk3]; rfl, by rw [cell_of_row Wx _ 2 _ _ _ hblk3]; rfl, by rw [cell_of_row Wx _ 3 _ _ _ hblk3]; rfl⟩
                        have HO2 := Lib.hid (show OwnT Wx Wj.heap.size (.slice none 0 0) (([] : List TripM).take 0) from Own.nil _ _ _ _ _)
                        have HG2 := Lib.hid (show Wx.grownBy Wx none from World.grownBy.refl _ _)
                        have hz2 : Wj.heap.size ≤ Wx.heap.size := by omega
                        go_wp2_with (at_builtin; refine Stp.put ?_)
                        refine Stp.out ?_
                        refine wpList_append_rec rfl _ _ 47 rfl Wj.heap.size 51 64 Try.underlying47 elemT _ (([] : List TripM).take 0) rfl HO2.out [⟨li, sec / 86400, (depL Dd W R).map (sec + ·), (arrL Dd W R).map (sec + ·), tdv, tav⟩] _ rfl 1 1 rfl rfl (by simp only [Go.maxLen, List.take_nil, List.length_cons, List.length_nil]; omega) (by simp only [List.take_nil, List.length_cons, List.length_nil]; omega) hz2 ?_
                        intro v2 w3 ho3 hg3 hat3
                        have ho3' : OwnT w3 Wj.heap.size v2 [⟨li, sec / 86400, (depL Dd W R).map (sec + ·), (arrL Dd W R).map (sec + ·), tdv, tav⟩] := ho3
                        have HO3 := Lib.hid ho3'
                        have HG3 := Lib.hid hg3
                        obtain ⟨A2, c2, rfl⟩ := ho3'.form
                        clear ho3 ho3' hg3 hat3
                        have hz3 : Wj.heap.size ≤ w3.heap.size := by have := HG3.out.size; omega
                        go_wp2_with (at_builtin; refine wpList_append_lst rfl _ _ 47 rfl Wj.heap.size 51 64 Try.underlying47 elemT _ [⟨li, sec / 86400, (depL Dd W R).map (sec + ·), (arrL Dd W R).map (sec + ·), tdv, tav⟩] rfl HO3.out [] _ _ _ w3.heap.size rfl rfl Lst.nil (by simp [Go.maxLen]) (by simp) hz3 ?_; intro v3 w4 ho4 hg4 hat4)
                        replace ho4 : OwnT w4 Wj.heap.size v3 (([] : List TripM).take 0 ++ [⟨li, sec / 86400, (depL Dd W R).map (sec + ·), (arrL Dd W R).map (sec + ·), tdv, tav⟩] ++ ([] : List TripM).drop 0) := ho4
                        have HG4 := Lib.hid hg4
                        have HIN := Lib.hid (ins_trips HM3.out (HTK3.out.rebase (by omega)) (by have h := HNE3.out; rw [HMK.out] at h; exact h) HO2.out HG2.out HO3.out HG3.out ho4 hg4 (by omega))
                        have HBW := Lib.hid (HB3.out.trans ((((below_of_grownBy HG2.out (show Wj.heap.size ≤ Wx.heap.size by omega) (fun k hk => by cases hk)).grown HG3.out hz2 (fun q e => (World.ownsRow.lt HO2.out q e).1)).grown HG4.out hz3 (fun q e => (World.ownsRow.lt HO3.out q e).1)).mono zr))
                        have HPM := Lib.hid (show ((([] : List TripM).take 0 ++ (⟨li, sec / 86400, (depL Dd W R).map (sec + ·), (arrL Dd W R).map (sec + ·), tdv, tav⟩ : TripM) :: ([] : List TripM).drop 0).map TripM.p).Perm (allT T s x pf D (s.take k) ++ (sl.take (j + 1)).map fun sec => mkT li (sec / 86400) (pf li) sec) by
                          rw [HSJ.out, ← List.append_assoc, HMK.out]
                          refine ((insert_perm ([] : List TripM) _ 0).map TripM.p).trans ?_
                          rw [List.map_append]
                          exact HP2.out.append_right _)
                        have HSD := Lib.hid (show ((([] : List TripM).take 0 ++ (⟨li, sec / 86400, (depL Dd W R).map (sec + ·), (arrL Dd W R).map (sec + ·), tdv, tav⟩ : TripM) :: ([] : List TripM).drop 0).map TripM.p).Pairwise (fun a b => leT a b = true) by
                          have h := HINS.out
                          rw [HMK.out] at h
                          rw [List.map_append, List.map_cons, List.map_take, List.map_drop]
                          exact h)
                        clear ho4 hg4 hat4
                        go_wp2_with fail
                        go_roundg (sl.length - (j + 1))
                        case measure => omega
                        case rel => exact ⟨j + 1, _, by omega, rfl, by go_num, HIN.out, HPM.out, HSD.out, fun h => absurd h (by simp), HBW.out⟩
                      · have hMp : 0 < M.length := List.length_pos_iff.2 hM0
                        obtain ⟨gM, rfl⟩ : ∃ g, MA = some ⟨g, 0, none⟩ := by
                          rcases own_addr HM3.out.1 with ⟨_, h0, _⟩ | h
                          · exact absurd h0 hM0
                          · exact h
                        have k30 : (0 : Int) ≤ (k3 : Int) := by omega
                        have k31 : (k3 : Int) ≤ (M.length : Int) := by omega
                        have k32 : (M.length : Int) ≤ (mc : Int) := by omega
                        have k34 : 0 < mc := by omega
                        clear hM0
                        by_cases hkc : k3 = mc
                        · subst hkc
                          go_upto_region 19 with (at_builtin; refine wpList_append_lst rfl _ _ 47 rfl Wj.heap.size 51 64 Try.underlying47 elemT _ [] rfl (Own.nil _ _ _ _ _) (M.take k3) _ _ _ _ rfl (by rw [List.length_take]; omega) ((Own.lst encT_len HM3.out.1).takeL _) (by simp only [Go.maxLen, List.length_nil, List.length_take]; omega) (by simp only [List.length_nil, List.length_take]; omega) (by omega) ?_; intro v1 w2 ho2 hg2 hat2)
                          rw [List.nil_append] at ho2
                          have hgn : Wx.grownBy w2 none := hg2
                          have hat2' : v1.ownBlock = none ∨ v1.ownBlock = some Wx.heap.size := hat2
                          have HO2 := Lib.hid ho2
                          have HG2 := Lib.hid hgn
                          have HAT := Lib.hid hat2'
                          have hblk4 := (hgn.block gt (Array.getElem?_eq_some_iff.1 hblk3).1 (by simp)).trans hblk3
                          obtain ⟨b0, b1, b2, b3⟩ : w2.cell? ⟨gt, 0, none⟩ = some (.int .i64 li) ∧ w2.cell? ⟨gt, 1, none⟩ = some (.int .i64 (sec / 86400)) ∧ w2.cell? ⟨gt, 2, none⟩ = some tdv.v ∧ w2.cell? ⟨gt, 3, none⟩ = some tav.v := ⟨by rw [cell_of_row w2 _ 0 _ _ _ hblk4]; rfl, by rw [cell_of_row w2 _ 1 _ _ _ hblk4]; rfl, by rw [cell_of_row w2 _ 2 _ _ _ hblk4]; rfl, by rw [cell_of_row w2 _ 3 _ _ _ hblk4]; rfl⟩
                          have hz2 : Wj.heap.size ≤ w2.heap.size := by have := hgn.size; omega
                          obtain ⟨A1, c1, rfl⟩ := ho2.form
                          clear ho2 hgn hg2 hat2 hat2' hblk4
                          go_wp2_with (at_builtin; refine Stp.put ?_)
                          refine Stp.out ?_
                          refine wpList_append_rec rfl _ _ 47 rfl Wj.heap.size 51 64 Try.underlying47 elemT _ (M.take k3) rfl HO2.out [⟨li, sec / 86400, (depL Dd W R).map (sec + ·), (arrL Dd W R).map (sec + ·), tdv, tav⟩] _ rfl 1 1 rfl rfl (by simp only [Go.maxLen, List.length_take, List.length_cons, List.length_nil]; omega) (by simp only [List.length_take, List.length_cons, List.length_nil]; omega) hz2 ?_
                          intro v2 w3 ho3 hg3 hat3
                          have hM4 : OwnT w3 w1.heap.size (.slice (some ⟨gM, 0, none⟩) M.length _) M := (HM3.out.1.kept HG2.out (.inr (by simp [Value.ownBlock]))).kept hg3 (.inr (fun (e : (some gM : Option Nat) = (Value.slice A1 (M.take k3).length c1).ownBlock) => by
                            have h1 := (World.ownsRow.lt HM3.out.1 gM rfl).2
                            rcases HAT.out with h | h
                            · rw [h] at e; simp [Value.ownBlock] at e
                            · rw [h] at e; simp [Value.ownBlock] at e; omega))
                          have HO3 := Lib.hid ho3
                          have HG3 := Lib.hid hg3
                          obtain ⟨A2, c2, rfl⟩ := ho3.form
                          generalize hL3 : (M.take k3 ++ [(⟨li, sec / 86400, (depL Dd W R).map (sec + ·), (arrL Dd W R).map (sec + ·), tdv, tav⟩ : TripM)]).length = n3 at *
                          have HL3 := Lib.hid hL3
                          clear hL3
                          have HL4 := Lib.hid (Own.lst encT_len hM4)
                          clear ho3 hg3 hat3 hM4 b0 b1 b2 b3
                          have hz3 : Wj.heap.size ≤ w3.heap.size := by have := HG3.out.size; omega
                          go_wp2_with (at_builtin; refine Stp.put ?_)
                          refine Stp.out ?_
                          refine wpList_append_lst rfl _ _ 47 rfl Wj.heap.size 51 64 Try.underlying47 elemT _ (M.take k3 ++ [(⟨li, sec / 86400, (depL Dd W R).map (sec + ·), (arrL Dd W R).map (sec + ·), tdv, tav⟩ : TripM)]) rfl HO3.out (M.drop k3) _ _ _ w3.heap.size rfl (by rw [List.length_drop] <;> omega) (by rw [List.drop_of_length_le (by omega)]; exact Lst.nil) (by simp only [Go.maxLen, List.length_append, List.length_take, List.length_drop, List.length_cons, List.length_nil]; omega) (by simp only [List.length_append, List.length_take, List.length_drop, List.length_cons, List.length_nil]; omega) hz3 ?_
                          intro v3 w4 ho4 hg4 hat4
                          have HG4 := Lib.hid hg4
                          have HIN := Lib.hid (ins_trips HM3.out (HTK3.out.rebase (by omega)) (by have h := HNE3.out; rw [HMK.out] at h; exact h) HO2.out HG2.out HO3.out HG3.out ho4 hg4 (by omega))
                          have HBW := Lib.hid (HB3.out.trans ((((below_of_grownBy HG2.out (show Wj.heap.size ≤ Wx.heap.size by omega) (fun k hk => by cases hk)).grown HG3.out hz2 (fun q e => (World.ownsRow.lt HO2.out q e).1)).grown HG4.out hz3 (fun q e => (World.ownsRow.lt HO3.out q e).1)).mono zr))
                          have HPM := Lib.hid (show ((M.take k3 ++ (⟨li, sec / 86400, (depL Dd W R).map (sec + ·), (arrL Dd W R).map (sec + ·), tdv, tav⟩ : TripM) :: M.drop k3).map TripM.p).Perm (allT T s x pf D (s.take k) ++ (sl.take (j + 1)).map fun sec => mkT li (sec / 86400) (pf li) sec) by
                            rw [HSJ.out, ← List.append_assoc, HMK.out]
                            refine ((insert_perm M _ k3).map TripM.p).trans ?_
                            rw [List.map_append]
                            exact HP2.out.append_right _)
                          have HSD := Lib.hid (show ((M.take k3 ++ (⟨li, sec / 86400, (depL Dd W R).map (sec + ·), (arrL Dd W R).map (sec + ·), tdv, tav⟩ : TripM) :: M.drop k3).map TripM.p).Pairwise (fun a b => leT a b = true) by
                            have h := HINS.out
                            rw [HMK.out] at h
                            rw [List.map_append, List.map_cons, List.map_take, List.map_drop]
                            exact h)
                          clear ho4 hg4 hat4
                          go_wp2_with fail
                          go_roundg (sl.length - (j + 1))
                          case measure => omega
                          case rel => exact ⟨j + 1, _, by omega, rfl, by go_num, HIN.out, HPM.out, HSD.out, fun h => absurd h (by simp), HBW.out⟩
                        · have k33 : k3 < mc := by omega
                          go_upto_region 19 with (at_builtin; refine wpList_append_lst rfl _ _ 47 rfl Wj.heap.size 51 64 Try.underlying47 elemT _ [] rfl (Own.nil _ _ _ _ _) (M.take k3) _ _ _ _ rfl (by rw [List.length_take]; omega) ((Own.lst encT_len HM3.out.1).takeL _) (by simp only [Go.maxLen, List.length_nil, List.length_take]; omega) (by simp only [List.length_nil, List.length_take]; omega) (by omega) ?_; intro v1 w2 ho2 hg2 hat2)
                          rw [List.nil_append] at ho2
                          have hgn : Wx.grownBy w2 none := hg2
                          have hat2' : v1.ownBlock = none ∨ v1.ownBlock = some Wx.heap.size := hat2
                          have HO2 := Lib.hid ho2
                          have HG2 := Lib.hid hgn
                          have HAT := Lib.hid hat2'
                          have hblk4 := (hgn.block gt (Array.getElem?_eq_some_iff.1 hblk3).1 (by simp)).trans hblk3
                          obtain ⟨b0, b1, b2, b3⟩ : w2.cell? ⟨gt, 0, none⟩ = some (.int .i64 li) ∧ w2.cell? ⟨gt, 1, none⟩ = some (.int .i64 (sec / 86400)) ∧ w2.cell? ⟨gt, 2, none⟩ = some tdv.v ∧ w2.cell? ⟨gt, 3, none⟩ = some tav.v := ⟨by rw [cell_of_row w2 _ 0 _ _ _ hblk4]; rfl, by rw [cell_of_row w2 _ 1 _ _ _ hblk4]; rfl, by rw [cell_of_row w2 _ 2 _ _ _ hblk4]; rfl, by rw [cell_of_row w2 _ 3 _ _ _ hblk4]; rfl⟩
                          have hz2 : Wj.heap.size ≤ w2.heap.size := by have := hgn.size; omega
                          obtain ⟨A1, c1, rfl⟩ := ho2.form
                          clear ho2 hgn hg2 hat2 hat2' hblk4
                          go_wp2_with (at_builtin; refine Stp.put ?_)
                          refine Stp.out ?_
                          refine wpList_append_rec rfl _ _ 47 rfl Wj.heap.size 51 64 Try.underlying47 elemT _ (M.take k3) rfl HO2.out [⟨li, sec / 86400, (depL Dd W R).map (sec + ·), (arrL Dd W R).map (sec + ·), tdv, tav⟩] _ rfl 1 1 rfl rfl (by simp only [Go.maxLen, List.length_take, List.length_cons, List.length_nil]; omega) (by simp only [List.length_take, List.length_cons, List.length_nil]; omega) hz2 ?_
                          intro v2 w3 ho3 hg3 hat3
                          have hM4 : OwnT w3 w1.heap.size (.slice (some ⟨gM, 0, none⟩) M.length _) M := (HM3.out.1.kept HG2.out (.inr (by simp [Value.ownBlock]))).kept hg3 (.inr (fun (e : (some gM : Option Nat) = (Value.slice A1 (M.take k3).length c1).ownBlock) => by
                            have h1 := (World.ownsRow.lt HM3.out.1 gM rfl).2
                            rcases HAT.out with h | h
                            · rw [h] at e; simp [Value.ownBlock] at e
                            · rw [h] at e; simp [Value.ownBlock] at e; omega))
                          have HO3 := Lib.hid ho3
                          have HG3 := Lib.hid hg3
                          obtain ⟨A2, c2, rfl⟩ := ho3.form
                          generalize hL3 : (M.take k3 ++ [(⟨li, sec / 86400, (depL Dd W R).map (sec + ·), (arrL Dd W R).map (sec + ·), tdv, tav⟩ : TripM)]).length = n3 at *
                          have HL3 := Lib.hid hL3
                          clear hL3
                          have HL4 := Lib.hid (Own.lst encT_len hM4)
                          clear ho3 hg3 hat3 hM4 b0 b1 b2 b3
                          have hz3 : Wj.heap.size ≤ w3.heap.size := by have := HG3.out.size; omega
                          go_wp2_with (at_builtin; refine Stp.put ?_)
                          refine Stp.out ?_
                          refine wpList_append_lst rfl _ _ 47 rfl Wj.heap.size 51 64 Try.underlying47 elemT _ (M.take k3 ++ [(⟨li, sec / 86400, (depL Dd W R).map (sec + ·), (arrL Dd W R).map (sec + ·), tdv, tav⟩ : TripM)]) rfl HO3.out (M.drop k3) _ _ _ w3.heap.size rfl (by rw [List.length_drop] <;> omega) (by first | exact HL4.out.dropL k3 | (have h := HL4.out.dropL k3; simpa using h)) (by simp only [Go.maxLen, List.length_append, List.length_take, List.length_drop, List.length_cons, List.length_nil]; omega) (by simp only [List.length_append, List.length_take, List.length_drop, List.length_cons, List.length_nil]; omega) hz3 ?_
                          intro v3 w4 ho4 hg4 hat4
                          have HG4 := Lib.hid hg4
                          have HIN := Lib.hid (ins_trips HM3.out (HTK3.out.rebase (by omega)) (by have h := HNE3.out; rw [HMK.out] at h; exact h) HO2.out HG2.out HO3.out HG3.out ho4 hg4 (by omega))
                          have HBW := Lib.hid (HB3.out.trans ((((below_of_grownBy HG2.out (show Wj.heap.size ≤ Wx.heap.size by omega) (fun k hk => by cases hk)).grown HG3.out hz2 (fun q e => (World.ownsRow.lt HO2.out q e).1)).grown HG4.out hz3 (fun q e => (World.ownsRow.lt HO3.out q e).1)).mono zr))
                          have HPM := Lib.hid (show ((M.take k3 ++ (⟨li, sec / 86400, (depL Dd W R).map (sec + ·), (arrL Dd W R).map (sec + ·), tdv, tav⟩ : TripM) :: M.drop k3).map TripM.p).Perm (allT T s x pf D (s.take k) ++ (sl.take (j + 1)).map fun sec => mkT li (sec / 86400) (pf li) sec) by
                            rw [HSJ.out, ← List.append_assoc, HMK.out]
                            refine ((insert_perm M _ k3).map TripM.p).trans ?_
                            rw [List.map_append]
                            exact HP2.out.append_right _)
                          have HSD := Lib.hid (show ((M.take k3 ++ (⟨li, sec / 86400, (depL Dd W R).map (sec + ·), (arrL Dd W R).map (sec + ·), tdv, tav⟩ : TripM) :: M.drop k3).map TripM.p).Pairwise (fun a b => leT a b = true) by
                            have h := HINS.out
                            rw [HMK.out] at h
                            rw [List.map_append, List.map_cons, List.map_take, List.map_drop]
                            exact h)
                          clear ho4 hg4 hat4
                          go_wp2_with fail
                          go_roundg (sl.length - (j + 1))
                          case measure => omega
                          case rel => exact ⟨j + 1, _, by omega, rfl, by go_num, HIN.out, HPM.out, HSD.out, fun h => absurd h (by simp), HBW.out⟩
                  · obtain ⟨i, hi3⟩ : ∃ i, k3 = i + 1 := ⟨k3 - 1, by omega⟩
                    have hil : i < M.length := by omega
                    obtain ⟨ob, ooff, db, hMA, u0, doff, dc, u2, d0, dl⟩ := HML.out.at_ hil
                    have HMA := Lib.hid hMA
                    rw [hMA]
                    have HT3 := Lib.hid (fun (x0 : Int) (hx : M[i].dep.getD 0 0 = x0) (ml : Int) (hm : M[i].line = ml) (h : sec < x0 ∨ (x0 = sec ∧ li < ml)) => show leT M[i].p (mkT li (sec / 86400) (pf li) sec) = false by
                      unfold leT; rw [mkT_dep0 HTM.out.zero, decide_eq_false_iff_not]; show ¬ (M[i].dep.getD 0 0 < sec ∨ (M[i].dep.getD 0 0 = sec ∧ M[i].line ≤ li)); omega)
                    have HF3 := Lib.hid (fun (x0 : Int) (hx : M[i].dep.getD 0 0 = x0) (ml : Int) (hm : M[i].line = ml) (h : ¬ (sec < x0 ∨ (x0 = sec ∧ li < ml))) => show leT M[i].p (mkT li (sec / 86400) (pf li) sec) = true by
                      unfold leT; rw [mkT_dep0 HTM.out.zero, decide_eq_true_eq]; show (M[i].dep.getD 0 0 < sec ∨ (M[i].dep.getD 0 0 = sec ∧ M[i].line ≤ li)); omega)
                    obtain ⟨x0, hx0⟩ : ∃ x, M[i].dep.getD 0 0 = x := ⟨_, rfl⟩
                    obtain ⟨ml, hml0⟩ : ∃ x, M[i].line = x := ⟨_, rfl⟩
                    have HT4 := Lib.hid (fun h (j : Nat) (hj : j < M.length) (hij : i ≤ j) => show leT M[j].p (mkT li (sec / 86400) (pf li) sec) = false by
                      by_cases e : j = i
                      · subst e; exact HT3.out x0 hx0 ml hml0 h
                      · exact HHI.out j hj (by omega))
                    have HF4 := Lib.hid (fun h => show ∀ (h0 : 0 < k3) (h : k3 - 1 < M.length), leT M[k3 - 1].p (mkT li (sec / 86400) (pf li) sec) = true by
                      subst hi3; exact fun _ _ => HF3.out x0 hx0 ml hml0 h)
                    rw [hx0] at d0
                    rw [hml0] at u0
                    generalize M[i].dep.length = dn at *
                    have s1 : (k3 : Int) - 1 = (i : Int) := by omega
                    have s2 : (0 : Int) ≤ (i : Int) := by omega
                    have s3 : (i : Int) < (M.length : Int) := by omega
                    have s4 : (0 : Int) < (dn : Int) := by omega
                    have s5 : (0 : Int) < (k3 : Int) := by omega
                    have g0 : decide ((0 : Int) < (k3 : Int)) = true := decide_eq_true s5
                    have g0' : decide (0 < k3) = true := decide_eq_true (by omega)
                    clear hx0 hml0 HT3 HF3 hi3 hMA
                    by_cases c1 : sec < x0
                    · have HT5 := Lib.hid (HT4.out (.inl c1))
                      have g1 : decide (sec < x0) = true := decide_eq_true c1
                      go_wp2_with fail
                      go_quiet (fail)
                      go_wp2_with fail
                      rw [← HMA.out]
                      go_roundg i
                      case measure => omega
                      case rel => exact ⟨i, q + nq, by omega, rfl, by go_num, HT5.out, by rw [HWR.out, World.drewN_drewN]⟩
                    · have g1 : decide (sec < x0) = false := decide_eq_false c1
                      by_cases c2 : x0 = sec
                      · have c2' : sec = x0 := c2.symm
                        subst c2'
                        clear c2
                        by_cases c3 : li < ml
                        · have HT5 := Lib.hid (HT4.out (.inr ⟨rfl, c3⟩))
                          have g2 : decide (li < ml) = true := decide_eq_true c3
                          have g1' : decide (sec < sec) = false := decide_eq_false (by omega)
                          clear c3 c1 g1
                          go_wp2_with fail
                          go_quiet (fail)
                          go_wp2_with fail
                          rw [← HMA.out]
                          go_roundg i
                          case measure => omega
                          case rel => exact ⟨i, q + nq, by omega, rfl, by go_num, HT5.out, by rw [HWR.out, World.drewN_drewN]⟩
                        · have HLE := Lib.hid (HF4.out (by omega))
                          have g2 : decide (li < ml) = false := decide_eq_false c3
                          clear c3 c1 g1
                          go_wp2_with fail
                          go_quiet (fail)
                          clear u0 u2 d0
                          rw [← HMA.out]
                          as_aux_lemma =>
                            rw [HWR.out, World.drewN_drewN]
                            generalize q + nq = q3 at *
                            have hB3 := below_drewN (Below.refl Wt.heap.size Wt) q3
                            have HM3 := Lib.hid (HMt.out.below hB3)
                            have HTK3 := Lib.hid (HTK.out.below hB3)
                            have hblk3 : (Wt.drewN q3).heap[gt]? = some (.cells #[.int .i64 li, .int .i64 (sec / 86400), tdv.v, tav.v] 51 (0, 0)) := HBLK.out
                            have z3 : (Wt.drewN q3).heap.size = Wt.heap.size := rfl
                            have HINS := Lib.hid (insert_sorted (t := mkT li (sec / 86400) (pf li) sec) (k := k3) HSO2.out (by rw [List.length_map]; exact hk3) (fun h => by rw [List.getElem_map]; exact HLE.out h (by omega)) (fun i h h' => by rw [List.getElem_map]; exact HHI.out i (by simpa using h) h'))
                            have HB3 := Lib.hid (HBX.out.trans (hB3.mono (by omega)))
                            generalize Wt.drewN q3 = Wx at *
                            have hzx : Wj.heap.size ≤ Wx.heap.size := by omega
                            clear z3
                            clear HLE HHI hB3 HWR HML
                            have hne3 : (mkT li (sec / 86400) (pf li) sec).dep ≠ [] := by
                              have := HTM.out.zero.2
                              intro e
                              have e2 := congrArg List.length e
                              simp [mkT] at e2
                              rw [e2] at this; simp at this
                            have HNE3 := Lib.hid hne3
                            clear hne3
                            by_cases hM0 : M = []
                            · exact absurd hil (by rw [hM0]; exact Nat.not_lt_zero _)
                            · have hMp : 0 < M.length := List.length_pos_iff.2 hM0
                              obtain ⟨gM, rfl⟩ : ∃ g, MA = some ⟨g, 0, none⟩ := by
                                rcases own_addr HM3.out.1 with ⟨_, h0, _⟩ | h
                                · exact absurd h0 hM0
                                · exact h
                              have k30 : (0 : Int) ≤ (k3 : Int) := by omega
                              have k31 : (k3 : Int) ≤ (M.length : Int) := by omega
                              have k32 : (M.length : Int) ≤ (mc : Int) := by omega
                              have k34 : 0 < mc := by omega
                              clear hM0
                              by_cases hkc : k3 = mc
                              · subst hkc
                                go_upto_region 19 with (at_builtin; refine wpList_append_lst rfl _ _ 47 rfl Wj.heap.size 51 64 Try.underlying47 elemT _ [] rfl (Own.nil _ _ _ _ _) (M.take k3) _ _ _ _ rfl (by rw [List.length_take]; omega) ((Own.lst encT_len HM3.out.1).takeL _) (by simp only [Go.maxLen, List.length_nil, List.length_take]; omega) (by simp only [List.length_nil, List.length_take]; omega) (by omega) ?_; intro v1 w2 ho2 hg2 hat2)
                                rw [List.nil_append] at ho2
                                have hgn : Wx.grownBy w2 none := hg2
                                have hat2' : v1.ownBlock = none ∨ v1.ownBlock = some Wx.heap.size := hat2
                                have HO2 := Lib.hid ho2
                                have HG2 := Lib.hid hgn
                                have HAT := Lib.hid hat2'
                                have hblk4 := (hgn.block gt (Array.getElem?_eq_some_iff.1 hblk3).1 (by simp)).trans hblk3
                                obtain ⟨b0, b1, b2, b3⟩ : w2.cell? ⟨gt, 0, none⟩ = some (.int .i64 li) ∧ w2.cell? ⟨gt, 1, none⟩ = some (.int .i64 (sec / 86400)) ∧ w2.cell? ⟨gt, 2, none⟩ = some tdv.v ∧ w2.cell? ⟨gt, 3, none⟩ = some tav.v := ⟨by rw [cell_of_row w2 _ 0 _ _ _ hblk4]; rfl, by rw [cell_of_row w2 _ 1 _ _ _ hblk4]; rfl, by rw [cell_of_row w2 _ 2 _ _ _ hblk4]; rfl, by rw [cell_of_row w2 _ 3 _ _ _ hblk4]; rfl⟩
                                have hz2 : Wj.heap.size ≤ w2.heap.size := by have := hgn.size; omega
                                obtain ⟨A1, c1, rfl⟩ := ho2.form
                                clear ho2 hgn hg2 hat2 hat2' hblk4
                                go_wp2_with (at_builtin; refine Stp.put ?_)
                                refine Stp.out ?_
                                refine wpList_append_rec rfl _ _ 47 rfl Wj.heap.size 51 64 Try.underlying47 elemT _ (M.take k3) rfl HO2.out [⟨li, sec / 86400, (depL Dd W R).map (sec + ·), (arrL Dd W R).map (sec + ·), tdv, tav⟩] _ rfl 1 1 rfl rfl (by simp only [Go.maxLen, List.length_take, List.length_cons, List.length_nil]; omega) (by simp only [List.length_take, List.length_cons, List.length_nil]; omega) hz2 ?_
                                intro v2 w3 ho3 hg3 hat3
                                have hM4 : OwnT w3 w1.heap.size (.slice (some ⟨gM, 0, none⟩) M.length _) M := (HM3.out.1.kept HG2.out (.inr (by simp [Value.ownBlock]))).kept hg3 (.inr (fun (e : (some gM : Option Nat) = (Value.slice A1 (M.take k3).length c1).ownBlock) => by
                                  have h1 := (World.ownsRow.lt HM3.out.1 gM rfl).2
                                  rcases HAT.out with h | h
                                  · rw [h] at e; simp [Value.ownBlock] at e
                                  · rw [h] at e; simp [Value.ownBlock] at e; omega))
                                have HO3 := Lib.hid ho3
                                have HG3 := Lib.hid hg3
                                obtain ⟨A2, c2, rfl⟩ := ho3.form
                                generalize hL3 : (M.take k3 ++ [(⟨li, sec / 86400, (depL Dd W R).map (sec + ·), (arrL Dd W R).map (sec + ·), tdv, tav⟩ : TripM)]).length = n3 at *
                                have HL3 := Lib.hid hL3
                                clear hL3
                                have HL4 := Lib.hid (Own.lst encT_len hM4)
                                clear ho3 hg3 hat3 hM4 b0 b1 b2 b3
                                have hz3 : Wj.heap.size ≤ w3.heap.size := by have := HG3.out.size; omega
                                go_wp2_with (at_builtin; refine Stp.put ?_)
                                refine Stp.out ?_
                                refine wpList_append_lst rfl _ _ 47 rfl Wj.heap.size 51 64 Try.underlying47 elemT _ (M.take k3 ++ [(⟨li, sec / 86400, (depL Dd W R).map (sec + ·), (arrL Dd W R).map (sec + ·), tdv, tav⟩ : TripM)]) rfl HO3.out (M.drop k3) _ _ _ w3.heap.size rfl (by rw [List.length_drop] <;> omega) (by rw [List.drop_of_length_le (by omega)]; exact Lst.nil) (by simp only [Go.maxLen, List.length_append, List.length_take, List.length_drop, List.length_cons, List.length_nil]; omega) (by simp only [List.length_append, List.length_take, List.length_drop, List.length_cons, List.length_nil]; omega) hz3 ?_
                                intro v3 w4 ho4 hg4 hat4
                                have HG4 := Lib.hid hg4
                                have HIN := Lib.hid (ins_trips HM3.out (HTK3.out.rebase (by omega)) (by have h := HNE3.out; rw [HMK.out] at h; exact h) HO2.out HG2.out HO3.out HG3.out ho4 hg4 (by omega))
                                have HBW := Lib.hid (HB3.out.trans ((((below_of_grownBy HG2.out (show Wj.heap.size ≤ Wx.heap.size by omega) (fun k hk => by cases hk)).grown HG3.out hz2 (fun q e => (World.ownsRow.lt HO2.out q e).1)).grown HG4.out hz3 (fun q e => (World.ownsRow.lt HO3.out q e).1)).mono zr))
                                have HPM := Lib.hid (show ((M.take k3 ++ (⟨li, sec / 86400, (depL Dd W R).map (sec + ·), (arrL Dd W R).map (sec + ·), tdv, tav⟩ : TripM) :: M.drop k3).map TripM.p).Perm (allT T s x pf D (s.take k) ++ (sl.take (j + 1)).map fun sec => mkT li (sec / 86400) (pf li) sec) by
                                  rw [HSJ.out, ← List.append_assoc, HMK.out]
                                  refine ((insert_perm M _ k3).map TripM.p).trans ?_
                                  rw [List.map_append]
                                  exact HP2.out.append_right _)
                                have HSD := Lib.hid (show ((M.take k3 ++ (⟨li, sec / 86400, (depL Dd W R).map (sec + ·), (arrL Dd W R).map (sec + ·), tdv, tav⟩ : TripM) :: M.drop k3).map TripM.p).Pairwise (fun a b => leT a b = true) by
                                  have h := HINS.out
                                  rw [HMK.out] at h
                                  rw [List.map_append, List.map_cons, List.map_take, List.map_drop]
                                  exact h)
                                clear ho4 hg4 hat4
                                go_wp2_with fail
                                go_roundg (sl.length - (j + 1))
                                case measure => omega
                                case rel => exact ⟨j + 1, _, by omega, rfl, by go_num, HIN.out, HPM.out, HSD.out, fun h => absurd h (by simp), HBW.out⟩
                              · have k33 : k3 < mc := by omega
                                go_upto_region 19 with (at_builtin; refine wpList_append_lst rfl _ _ 47 rfl Wj.heap.size 51 64 Try.underlying47 elemT _ [] rfl (Own.nil _ _ _ _ _) (M.take k3) _ _ _ _ rfl (by rw [List.length_take]; omega) ((Own.lst encT_len HM3.out.1).takeL _) (by simp only [Go.maxLen, List.length_nil, List.length_take]; omega) (by simp only [List.length_nil, List.length_take]; omega) (by omega) ?_; intro v1 w2 ho2 hg2 hat2)
                                rw [List.nil_append] at ho2
                                have hgn : Wx.grownBy w2 none := hg2
                                have hat2' : v1.ownBlock = none ∨ v1.ownBlock = some Wx.heap.size := hat2
                                have HO2 := Lib.hid ho2
                                have HG2 := Lib.hid hgn
                                have HAT := Lib.hid hat2'
                                have hblk4 := (hgn.block gt (Array.getElem?_eq_some_iff.1 hblk3).1 (by simp)).trans hblk3
                                obtain ⟨b0, b1, b2, b3⟩ : w2.cell? ⟨gt, 0, none⟩ = some (.int .i64 li) ∧ w2.cell? ⟨gt, 1, none⟩ = some (.int .i64 (sec / 86400)) ∧ w2.cell? ⟨gt, 2, none⟩ = some tdv.v ∧ w2.cell? ⟨gt, 3, none⟩ = some tav.v := ⟨by rw [cell_of_row w2 _ 0 _ _ _ hblk4]; rfl, by rw [cell_of_row w2 _ 1 _ _ _ hblk4]; rfl, by rw [cell_of_row w2 _ 2 _ _ _ hblk4]; rfl, by rw [cell_of_row w2 _ 3 _ _ _ hblk4]; rfl⟩
                                have hz2 : Wj.heap.size ≤ w2.heap.size := by have := hgn.size; omega
                                obtain ⟨A1, c1, rfl⟩ := ho2.form
                                clear ho2 hgn hg2 hat2 hat2' hblk4
                                go_wp2_with (at_builtin; refine Stp.put ?_)
                                refine Stp.out ?_
                                refine wpList_append_rec rfl _ _ 47 rfl Wj.heap.size 51 64 Try.underlying47 elemT _ (M.take k3) rfl HO2.out [⟨li, sec / 86400, (depL Dd W R).map (sec + ·), (arrL Dd W R).map (sec + ·), tdv, tav⟩] _ rfl 1 1 rfl rfl (by simp only [Go.maxLen, List.length_take, List.length_cons, List.length_nil]; omega) (by simp only [List.length_take, List.length_cons, List.length_nil]; omega) hz2 ?_
                                intro v2 w3 ho3 hg3 hat3
                                have hM4 : OwnT w3 w1.heap.size (.slice (some ⟨gM, 0, none⟩) M.length _) M := (HM3.out.1.kept HG2.out (.inr (by simp [Value.ownBlock]))).kept hg3 (.inr (fun (e : (some gM : Option Nat) = (Value.slice A1 (M.take k3).length c1).ownBlock) => by
                                  have h1 := (World.ownsRow.lt HM3.out.1 gM rfl).2
                                  rcases HAT.out with h | h
                                  · rw [h] at e; simp [Value.ownBlock] at e
                                  · rw [h] at e; simp [Value.ownBlock] at e; omega))
                                have HO3 := Lib.hid ho3
                                have HG3 := Lib.hid hg3
                                obtain ⟨A2, c2, rfl⟩ := ho3.form
                                generalize hL3 : (M.take k3 ++ [(⟨li, sec / 86400, (depL Dd W R).map (sec + ·), (arrL Dd W R).map (sec + ·), tdv, tav⟩ : TripM)]).length = n3 at *
                                have HL3 := Lib.hid hL3
                                clear hL3
                                have HL4 := Lib.hid (Own.lst encT_len hM4)
                                clear ho3 hg3 hat3 hM4 b0 b1 b2 b3
                                have hz3 : Wj.heap.size ≤ w3.heap.size := by have := HG3.out.size; omega
                                go_wp2_with (at_builtin; refine Stp.put ?_)
                                refine Stp.out ?_
                                refine wpList_append_lst rfl _ _ 47 rfl Wj.heap.size 51 64 Try.underlying47 elemT _ (M.take k3 ++ [(⟨li, sec / 86400, (depL Dd W R).map (sec + ·), (arrL Dd W R).map (sec + ·), tdv, tav⟩ : TripM)]) rfl HO3.out (M.drop k3) _ _ _ w3.heap.size rfl (by rw [List.length_drop] <;> omega) (by first | exact HL4.out.dropL k3 | (have h := HL4.out.dropL k3; simpa using h)) (by simp only [Go.maxLen, List.length_append, List.length_take, List.length_drop, List.length_cons, List.length_nil]; omega) (by simp only [List.length_append, List.length_take, List.length_drop, List.length_cons, List.length_nil]; omega) hz3 ?_
                                intro v3 w4 ho4 hg4 hat4
                                have HG4 := Lib.hid hg4
                                have HIN := Lib.hid (ins_trips HM3.out (HTK3.out.rebase (by omega)) (by have h := HNE3.out; rw [HMK.out] at h; exact h) HO2.out HG2.out HO3.out HG3.out ho4 hg4 (by omega))
                                have HBW := Lib.hid (HB3.out.trans ((((below_of_grownBy HG2.out (show Wj.heap.size ≤ Wx.heap.size by omega) (fun k hk => by cases hk)).grown HG3.out hz2 (fun q e => (World.ownsRow.lt HO2.out q e).1)).grown HG4.out hz3 (fun q e => (World.ownsRow.lt HO3.out q e).1)).mono zr))
                                have HPM := Lib.hid (show ((M.take k3 ++ (⟨li, sec / 86400, (depL Dd W R).map (sec + ·), (arrL Dd W R).map (sec + ·), tdv, tav⟩ : TripM) :: M.drop k3).map TripM.p).Perm (allT T s x pf D (s.take k) ++ (sl.take (j + 1)).map fun sec => mkT li (sec / 86400) (pf li) sec) by
                                  rw [HSJ.out, ← List.append_assoc, HMK.out]
                                  refine ((insert_perm M _ k3).map TripM.p).trans ?_
                                  rw [List.map_append]
                                  exact HP2.out.append_right _)
                                have HSD := Lib.hid (show ((M.take k3 ++ (⟨li, sec / 86400, (depL Dd W R).map (sec + ·), (arrL Dd W R).map (sec + ·), tdv, tav⟩ : TripM) :: M.drop k3).map TripM.p).Pairwise (fun a b => leT a b = true) by
                                  have h := HINS.out
                                  rw [HMK.out] at h
                                  rw [List.map_append, List.map_cons, List.map_take, List.map_drop]
                                  exact h)
                                clear ho4 hg4 hat4
                                go_wp2_with fail
                                go_roundg (sl.length - (j + 1))
                                case measure => omega
                                case rel => exact ⟨j + 1, _, by omega, rfl, by go_num, HIN.out, HPM.out, HSD.out, fun h => absurd h (by simp), HBW.out⟩
                      · have d2 : (x0 == sec) = false := by simpa using c2
                        have HLE := Lib.hid (HF4.out (by omega))
                        clear c2
                        go_wp2_with fail
                        go_quiet (fail)
                        clear u0 u2 d0
                        rw [← HMA.out]
                        as_aux_lemma =>
                          rw [HWR.out, World.drewN_drewN]
                          generalize q + nq = q3 at *
                          have hB3 := below_drewN (Below.refl Wt.heap.size Wt) q3
                          have HM3 := Lib.hid (HMt.out.below hB3)
                          have HTK3 := Lib.hid (HTK.out.below hB3)
                          have hblk3 : (Wt.drewN q3).heap[gt]? = some (.cells #[.int .i64 li, .int .i64 (sec / 86400), tdv.v, tav.v] 51 (0, 0)) := HBLK.out
                          have z3 : (Wt.drewN q3).heap.size = Wt.heap.size := rfl
                          have HINS := Lib.hid (insert_sorted (t := mkT li (sec / 86400) (pf li) sec) (k := k3) HSO2.out (by rw [List.length_map]; exact hk3) (fun h => by rw [List.getElem_map]; exact HLE.out h (by omega)) (fun i h h' => by rw [List.getElem_map]; exact HHI.out i (by simpa using h) h'))
                          have HB3 := Lib.hid (HBX.out.trans (hB3.mono (by omega)))
                          generalize Wt.drewN q3 = Wx at *
                          have hzx : Wj.heap.size ≤ Wx.heap.size := by omega
                          clear z3
                          clear HLE HHI hB3 HWR HML
                          have hne3 : (mkT li (sec / 86400) (pf li) sec).dep ≠ [] := by
                            have := HTM.out.zero.2
                            intro e
                            have e2 := congrArg List.length e
                            simp [mkT] at e2
                            rw [e2] at this; simp at this
                          have HNE3 := Lib.hid hne3
                          clear hne3
                          by_cases hM0 : M = []
                          · exact absurd hil (by rw [hM0]; exact Nat.not_lt_zero _)
                          · have hMp : 0 < M.length := List.length_pos_iff.2 hM0
                            obtain ⟨gM, rfl⟩ : ∃ g, MA = some ⟨g, 0, none⟩ := by
                              rcases own_addr HM3.out.1 with ⟨_, h0, _⟩ | h
                              · exact absurd h0 hM0
                              · exact h
                            have k30 : (0 : Int) ≤ (k3 : Int) := by omega
                            have k31 : (k3 : Int) ≤ (M.length : Int) := by omega
                            have k32 : (M.length : Int) ≤ (mc : Int) := by omega
                            have k34 : 0 < mc := by omega
                            clear hM0
                            by_cases hkc : k3 = mc
                            · subst hkc
                              go_upto_region 19 with (at_builtin; refine wpList_append_lst rfl _ _ 47 rfl Wj.heap.size 51 64 Try.underlying47 elemT _ [] rfl (Own.nil _ _ _ _ _) (M.take k3) _ _ _ _ rfl (by rw [List.length_take]; omega) ((Own.lst encT_len HM3.out.1).takeL _) (by simp only [Go.maxLen, List.length_nil, List.length_take]; omega) (by simp only [List.length_nil, List.length_take]; omega) (by omega) ?_; intro v1 w2 ho2 hg2 hat2)
                              rw [List.nil_append] at ho2
                              have hgn : Wx.grownBy w2 none := hg2
                              have hat2' : v1.ownBlock = none ∨ v1.ownBlock = some Wx.heap.size := hat2
                              have HO2 := Lib.hid ho2
                              have HG2 := Lib.hid hgn
                              have HAT := Lib.hid hat2'
                              have hblk4 := (hgn.block gt (Array.getElem?_eq_some_iff.1 hblk3).1 (by simp)).trans hblk3
                              obtain ⟨b0, b1, b2, b3⟩ : w2.cell? ⟨gt, 0, none⟩ = some (.int .i64 li) ∧ w2.cell? ⟨gt, 1, none⟩ = some (.int .i64 (sec / 86400)) ∧ w2.cell? ⟨gt, 2, none⟩ = some tdv.v ∧ w2.cell? ⟨gt, 3, none⟩ = some tav.v := ⟨by rw [cell_of_row w2 _ 0 _ _ _ hblk4]; rfl, by rw [cell_of_row w2 _ 1 _ _ _ hblk4]; rfl, by rw [cell_of_row w2 _ 2 _ _ _ hblk4]; rfl, by rw [cell_of_row w2 _ 3 _ _ _ hblk4]; rfl⟩
                              have hz2 : Wj.heap.size ≤ w2.heap.size := by have := hgn.size; omega
                              obtain ⟨A1, c1, rfl⟩ := ho2.form
                              clear ho2 hgn hg2 hat2 hat2' hblk4
                              go_wp2_with (at_builtin; refine Stp.put ?_)
                              refine Stp.out ?_
                              refine wpList_append_rec rfl _ _ 47 rfl Wj.heap.size 51 64 Try.underlying47 elemT _ (M.take k3) rfl HO2.out [⟨li, sec / 86400, (depL Dd W R).map (sec + ·), (arrL Dd W R).map (sec + ·), tdv, tav⟩] _ rfl 1 1 rfl rfl (by simp only [Go.maxLen, List.length_take, List.length_cons, List.length_nil]; omega) (by simp only [List.length_take, List.length_cons, List.length_nil]; omega) hz2 ?_
                              intro v2 w3 ho3 hg3 hat3
                              have hM4 : OwnT w3 w1.heap.size (.slice (some ⟨gM, 0, none⟩) M.length _) M := (HM3.out.1.kept HG2.out (.inr (by simp [Value.ownBlock]))).kept hg3 (.inr (fun (e : (some gM : Option Nat) = (Value.slice A1 (M.take k3).length c1).ownBlock) => by
                                have h1 := (World.ownsRow.lt HM3.out.1 gM rfl).2
                                rcases HAT.out with h | h
                                · rw [h] at e; simp [Value.ownBlock] at e
                                · rw [h] at e; simp [Value.ownBlock] at e; omega))
                              have HO3 := Lib.hid ho3
                              have HG3 := Lib.hid hg3
                              obtain ⟨A2, c2, rfl⟩ := ho3.form
                              generalize hL3 : (M.take k3 ++ [(⟨li, sec / 86400, (depL Dd W R).map (sec + ·), (arrL Dd W R).map (sec + ·), tdv, tav⟩ : TripM)]).length = n3 at *
                              have HL3 := Lib.hid hL3
                              clear hL3
                              have HL4 := Lib.hid (Own.lst encT_len hM4)
                              clear ho3 hg3 hat3 hM4 b0 b1 b2 b3
                              have hz3 : Wj.heap.size ≤ w3.heap.size := by have := HG3.out.size; omega
                              go_wp2_with (at_builtin; refine Stp.put ?_)
                              refine Stp.out ?_
                              refine wpList_append_lst rfl _ _ 47 rfl Wj.heap.size 51 64 Try.underlying47 elemT _ (M.take k3 ++ [(⟨li, sec / 86400, (depL Dd W R).map (sec + ·), (arrL Dd W R).map (sec + ·), tdv, tav⟩ : TripM)]) rfl HO3.out (M.drop k3) _ _ _ w3.heap.size rfl (by rw [List.length_drop] <;> omega) (by rw [List.drop_of_length_le (by omega)]; exact Lst.nil) (by simp only [Go.maxLen, List.length_append, List.length_take, List.length_drop, List.length_cons, List.length_nil]; omega) (by simp only [List.length_append, List.length_take, List.length_drop, List.length_cons, List.length_nil]; omega) hz3 ?_
                              intro v3 w4 ho4 hg4 hat4
                              have HG4 := Lib.hid hg4
                              have HIN := Lib.hid (ins_trips HM3.out (HTK3.out.rebase (by omega)) (by have h := HNE3.out; rw [HMK.out] at h; exact h) HO2.out HG2.out HO3.out HG3.out ho4 hg4 (by omega))
                              have HBW := Lib.hid (HB3.out.trans ((((below_of_grownBy HG2.out (show Wj.heap.size ≤ Wx.heap.size by omega) (fun k hk => by cases hk)).grown HG3.out hz2 (fun q e => (World.ownsRow.lt HO2.out q e).1)).grown HG4.out hz3 (fun q e => (World.ownsRow.lt HO3.out q e).1)).mono zr))
                              have HPM := Lib.hid (show ((M.take k3 ++ (⟨li, sec / 86400, (depL Dd W R).map (sec + ·), (arrL Dd W R).map (sec + ·), tdv, tav⟩ : TripM) :: M.drop k3).map TripM.p).Perm (allT T s x pf D (s.take k) ++ (sl.take (j + 1)).map fun sec => mkT li (sec / 86400) (pf li) sec) by
                                rw [HSJ.out, ← List.append_assoc, HMK.out]
                                refine ((insert_perm M _ k3).map TripM.p).trans ?_
                                rw [List.map_append]
                                exact HP2.out.append_right _)
                              have HSD := Lib.hid (show ((M.take k3 ++ (⟨li, sec / 86400, (depL Dd W R).map (sec + ·), (arrL Dd W R).map (sec + ·), tdv, tav⟩ : TripM) :: M.drop k3).map TripM.p).Pairwise (fun a b => leT a b = true) by
                                have h := HINS.out
                                rw [HMK.out] at h
                                rw [List.map_append, List.map_cons, List.map_take, List.map_drop]
                                exact h)
                              clear ho4 hg4 hat4
                              go_wp2_with fail
                              go_roundg (sl.length - (j + 1))
                              case measure => omega
                              case rel => exact ⟨j + 1, _, by omega, rfl, by go_num, HIN.out, HPM.out, HSD.out, fun h => absurd h (by simp), HBW.out⟩
                            · have k33 : k3 < mc := by omega
                              go_upto_region 19 with (at_builtin; refine wpList_append_lst rfl _ _ 47 rfl Wj.heap.size 51 64 Try.underlying47 elemT _ [] rfl (Own.nil _ _ _ _ _) (M.take k3) _ _ _ _ rfl (by rw [List.length_take]; omega) ((Own.lst encT_len HM3.out.1).takeL _) (by simp only [Go.maxLen, List.length_nil, List.length_take]; omega) (by simp only [List.length_nil, List.length_take]; omega) (by omega) ?_; intro v1 w2 ho2 hg2 hat2)
                              rw [List.nil_append] at ho2
                              have hgn : Wx.grownBy w2 none := hg2
                              have hat2' : v1.ownBlock = none ∨ v1.ownBlock = some Wx.heap.size := hat2
                              have HO2 := Lib.hid ho2
                              have HG2 := Lib.hid hgn
                              have HAT := Lib.hid hat2'
                              have hblk4 := (hgn.block gt (Array.getElem?_eq_some_iff.1 hblk3).1 (by simp)).trans hblk3
                              obtain ⟨b0, b1, b2, b3⟩ : w2.cell? ⟨gt, 0, none⟩ = some (.int .i64 li) ∧ w2.cell? ⟨gt, 1, none⟩ = some (.int .i64 (sec / 86400)) ∧ w2.cell? ⟨gt, 2, none⟩ = some tdv.v ∧ w2.cell? ⟨gt, 3, none⟩ = some tav.v := ⟨by rw [cell_of_row w2 _ 0 _ _ _ hblk4]; rfl, by rw [cell_of_row w2 _ 1 _ _ _ hblk4]; rfl, by rw [cell_of_row w2 _ 2 _ _ _ hblk4]; rfl, by rw [cell_of_row w2 _ 3 _ _ _ hblk4]; rfl⟩
                              have hz2 : Wj.heap.size ≤ w2.heap.size := by have := hgn.size; omega
                              obtain ⟨A1, c1, rfl⟩ := ho2.form
                              clear ho2 hgn hg2 hat2 hat2' hblk4
                              go_wp2_with (at_builtin; refine Stp.put ?_)
                              refine Stp.out ?_
                              refine wpList_append_rec rfl _ _ 47 rfl Wj.heap.size 51 64 Try.underlying47 elemT _ (M.take k3) rfl HO2.out [⟨li, sec / 86400, (depL Dd W R).map (sec + ·), (arrL Dd W R).map (sec + ·), tdv, tav⟩] _ rfl 1 1 rfl rfl (by simp only [Go.maxLen, List.length_take, List.length_cons, List.length_nil]; omega) (by simp only [List.length_take, List.length_cons, List.length_nil]; omega) hz2 ?_
                              intro v2 w3 ho3 hg3 hat3
                              have hM4 : OwnT w3 w1.heap.size (.slice (some ⟨gM, 0, none⟩) M.length _) M := (HM3.out.1.kept HG2.out (.inr (by simp [Value.ownBlock]))).kept hg3 (.inr (fun (e : (some gM : Option Nat) = (Value.slice A1 (M.take k3).length c1).ownBlock) => by
                                have h1 := (World.ownsRow.lt HM3.out.1 gM rfl).2
                                rcases HAT.out with h | h
                                · rw [h] at e; simp [Value.ownBlock] at e
                                · rw [h] at e; simp [Value.ownBlock] at e; omega))
                              have HO3 := Lib.hid ho3
                              have HG3 := Lib.hid hg3
                              obtain ⟨A2, c2, rfl⟩ := ho3.form
                              generalize hL3 : (M.take k3 ++ [(⟨li, sec / 86400, (depL Dd W R).map (sec + ·), (arrL Dd W R).map (sec + ·), tdv, tav⟩ : TripM)]).length = n3 at *
                              have HL3 := Lib.hid hL3
                              clear hL3
                              have HL4 := Lib.hid (Own.lst encT_len hM4)
                              clear ho3 hg3 hat3 hM4 b0 b1 b2 b3
                              have hz3 : Wj.heap.size ≤ w3.heap.size := by have := HG3.out.size; omega
                              go_wp2_with (at_builtin; refine Stp.put ?_)
                              refine Stp.out ?_
                              refine wpList_append_lst rfl _ _ 47 rfl Wj.heap.size 51 64 Try.underlying47 elemT _ (M.take k3 ++ [(⟨li, sec / 86400, (depL Dd W R).map (sec + ·), (arrL Dd W R).map (sec + ·), tdv, tav⟩ : TripM)]) rfl HO3.out (M.drop k3) _ _ _ w3.heap.size rfl (by rw [List.length_drop] <;> omega) (by first | exact HL4.out.dropL k3 | (have h := HL4.out.dropL k3; simpa using h)) (by simp only [Go.maxLen, List.length_append, List.length_take, List.length_drop, List.length_cons, List.length_nil]; omega) (by simp only [List.length_append, List.length_take, List.length_drop, List.length_cons, List.length_nil]; omega) hz3 ?_
                              intro v3 w4 ho4 hg4 hat4
                              have HG4 := Lib.hid hg4
                              have HIN := Lib.hid (ins_trips HM3.out (HTK3.out.rebase (by omega)) (by have h := HNE3.out; rw [HMK.out] at h; exact h) HO2.out HG2.out HO3.out HG3.out ho4 hg4 (by omega))
                              have HBW := Lib.hid (HB3.out.trans ((((below_of_grownBy HG2.out (show Wj.heap.size ≤ Wx.heap.size by omega) (fun k hk => by cases hk)).grown HG3.out hz2 (fun q e => (World.ownsRow.lt HO2.out q e).1)).grown HG4.out hz3 (fun q e => (World.ownsRow.lt HO3.out q e).1)).mono zr))
                              have HPM := Lib.hid (show ((M.take k3 ++ (⟨li, sec / 86400, (depL Dd W R).map (sec + ·), (arrL Dd W R).map (sec + ·), tdv, tav⟩ : TripM) :: M.drop k3).map TripM.p).Perm (allT T s x pf D (s.take k) ++ (sl.take (j + 1)).map fun sec => mkT li (sec / 86400) (pf li) sec) by
                                rw [HSJ.out, ← List.append_assoc, HMK.out]
                                refine ((insert_perm M _ k3).map TripM.p).trans ?_
                                rw [List.map_append]
                                exact HP2.out.append_right _)
                              have HSD := Lib.hid (show ((M.take k3 ++ (⟨li, sec / 86400, (depL Dd W R).map (sec + ·), (arrL Dd W R).map (sec + ·), tdv, tav⟩ : TripM) :: M.drop k3).map TripM.p).Pairwise (fun a b => leT a b = true) by
                                have h := HINS.out
                                rw [HMK.out] at h
                                rw [List.map_append, List.map_cons, List.map_take, List.map_drop]
                                exact h)
                              clear ho4 hg4 hat4
                              go_wp2_with fail
                              go_roundg (sl.length - (j + 1))
                              case measure => omega
                              case rel => exact ⟨j + 1, _, by omega, rfl, by go_num, HIN.out, HPM.out, HSD.out, fun h => absurd h (by simp), HBW.out⟩
            · have HPX := Lib.hid (show (M.map TripM.p).Perm (allT T s x pf D (s.take (k + 1))) by
                rw [HAS.out, HSM.out]
                have e : sl.take j = sl := List.take_of_length_le (by omega)
                rw [e] at hp
                exact hp)
              have HMX := Lib.hid hM
              have HSX := Lib.hid hst
              have HBX := Lib.hid (HBC.out.trans (hb.mono zc))
              clear hM hp hst hb
              go_wp2_with fail
              go_roundg (s.length - (k + 1))
              case measure => omega
              case rel => exact ⟨k + 1, M, by omega, rfl, by go_num, HMX.out, HPX.out, HSX.out, HNIL.out, HBX.out⟩
      · have HP := Lib.hid (show (M.map TripM.p).Perm (allT T s x pf D s) by rw [List.take_of_length_le (by omega)] at hp; exact hp)
        obtain ⟨MA, mc, rfl⟩ := hM.1.form
        have HM := Lib.hid (hM.rebase (b := gz) (by omega))
        have HSO := Lib.hid (show M.Pairwise (fun a b => ¬ tcmp b a < 0) by
          rw [List.pairwise_map] at hst
          exact hst.imp fun h => (tcmp_le _ _).2 h)
        have HB2 := Lib.hid (HBA.out.trans ((HB1.out.trans (hb.mono z01)).mono (Nat.le_of_lt hg0)))
        clear hM hp hst hb
        go_wp2_with fail
        go_ret2
        refine ⟨by rw [HGZ.out]; exact HB2.out, .inr ⟨?_, MA, mc, M, rfl, by rw [HGZ.out]; exact HM.out, HP.out, HSO.out.imp fun h => by omega⟩⟩
        rw [HCC.out]; have := HC.out; omega
end Go.Proofs.Ytaongejpbgjbiaa
