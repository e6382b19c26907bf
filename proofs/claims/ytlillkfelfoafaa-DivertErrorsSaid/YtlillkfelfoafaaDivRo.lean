/-
  Contract of the reference's inOrder (at most 19 jobs).
-/
import Derived.Test.YtlillkfelfoafaaDivW
import Derived.Test.YtlillkfelfoafaaStp
import Derived.Test.YtlillkfelfoafaaOrd
set_option linter.unusedVariables false
set_option linter.unusedSimpArgs false
namespace Go.Proofs.Ytlillkfelfoafaa
open Go.RowKit Go.Shelf RP

theorem Lst.takeN {α : Type} {enc : α → List Value} {k : Nat} {w : World} {B : Nat} {A : Option Addr} {l : List α} (h : Lst enc k w B A l) (n : Nat) : Lst enc k w B A (l.take n) := fun hl => by
  obtain ⟨b, off, e, hb, hc⟩ := h (by rintro rfl; simp at hl)
  refine ⟨b, off, e, hb, fun i x hx j v hv => hc i x ?_ j v hv⟩
  rw [List.getElem?_take] at hx
  split at hx
  · exact hx
  · cases hx
theorem Lst.dropN {α : Type} {enc : α → List Value} {k : Nat} {w : World} {B b off : Nat} {l : List α} (h : Lst enc k w B (some ⟨b, off, none⟩) l) (n : Nat) : Lst enc k w B (some ⟨b, off + n * k, none⟩) (l.drop n) := fun hl => by
  obtain ⟨b', off', e, hb, hc⟩ := h (by rintro rfl; simp at hl)
  injection e with e
  injection e with e1 e2
  subst e1 e2
  refine ⟨b, off + n * k, rfl, hb, fun i x hx j v hv => ?_⟩
  rw [List.getElem?_drop] at hx
  have := hc (n + i) x hx j v hv
  rw [Nat.add_mul, ← Nat.add_assoc] at this
  exact this
theorem own_addrN {α : Type} {enc : α → List Value} {k : Nat} {e : TypeId} {w : World} {base n c : Nat} {A : Option Addr} {l : List α} (h : Own enc k e w base (.slice A n c) l) : (A = none ∧ l = [] ∧ c = 0) ∨ ∃ g, A = some ⟨g, 0, none⟩ := by
  rcases h.2 with ⟨e1, h0⟩ | ⟨g, cap, cur, e1, _⟩
  · injection e1 with x1 x2 x3
    exact .inl ⟨x1, List.eq_nil_of_length_eq_zero h0, x3⟩
  · injection e1 with x1 x2 x3
    exact .inr ⟨g, x1⟩
theorem own_capN {α : Type} {enc : α → List Value} {k : Nat} {e : TypeId} {w : World} {b n c : Nat} {A : Option Addr} {l : List α} (h : Own enc k e w b (.slice A n c) l) : n ≤ c ∧ c ≤ 9223372036854775807 := by
  rcases h.2 with ⟨h1, _⟩ | ⟨g, cap, cur, h1, _, _, hn, hm, _⟩
  · injection h1 with _ h2 h3; subst h2 h3; exact ⟨Nat.le_refl _, by omega⟩
  · injection h1 with _ h2 h3
    have hn' : n = l.length := by
      obtain ⟨A', c', hv⟩ := h.form
      injection hv
    subst h3
    unfold Go.maxLen at hm
    exact ⟨by omega, hm⟩
theorem natI_len (l : List Nat) : (natI l).length = l.length := List.length_map ..
theorem natI_get {l : List Nat} {i : Nat} (h : i < l.length) : (natI l)[i]'(by rw [natI_len]; exact h) = (l[i] : Int) := by simp [natI]
theorem stAt_map {L : List JobM} {i : Nat} (hi : i < L.length) : stAt (L.map JobM.p) i = L[i].start := by
  unfold stAt jobAt
  rw [List.getD_eq_getElem?_getD, List.getElem?_map, List.getElem?_eq_getElem hi]; rfl
/-- The state of the order: rows of the call's own. -/
structure OrS (L : List JobM) (B : Nat) (wr : World) (i : Nat) (A : Option Addr) (c : Nat) (ord : List Nat) : Prop where
  o : OrdTo (L.map JobM.p) i ord
  own : OwnN wr B (.slice A i c) (natI ord)
  z : i = 0 → A = none
def InPost (L : List JobM) (w : World) (e : Ending) (w' : World) : Prop :=
  ∃ (A : Option Addr) (c : Nat) (ord : List Nat), e = .returned (.slice A L.length c) ∧ InOrd (L.map JobM.p) ord ∧ OwnN w' w.heap.size (.slice A L.length c) (natI ord) ∧ Below w.heap.size w w'
set_option maxRecDepth 100000 in
set_option maxHeartbeats 16000000 in
theorem inOrder_any (JA : Option Addr) (jc : Nat) (L : List JobM) (w : World) (hj : Jbs w w.heap.size JA L) (hL : L.length ≤ 19) : Calls Try.prog 47 #[.slice JA L.length jc] w (InPost L w) := by
  have HJ := Lib.hid hj
  clear hj
  go_enter Try.func47, Try.ntmps47
  go_wp2_with fail
  generalize hgz0 : w.heap.size = gz at *
  have HGZ := Lib.hid hgz0
  clear hgz0
  go_loopg [3, 9] L.length (fun g s3 s9 wr => ∃ (i : Nat) (A : Option Addr) (c : Nat) (ord : List Nat), i ≤ L.length ∧ g = L.length - i ∧ s9 = .int .i64 i ∧ s3 = .slice A i c ∧ OrS L gz wr i A c ord ∧ Below gz w wr)
  case atStart => exact ⟨0, none, 0, [], by omega, by omega, rfl, rfl, ⟨OrdTo.nil _, Own.nil _ _ _ _ _, fun _ => rfl⟩, Below.refl _ _⟩
  case round =>
    obtain ⟨i, A, c, ord, hi, hg, rfl, rfl, hs, hb⟩ := hrel
    have HS := Lib.hid hs
    have HB := Lib.hid hb
    have hgz : gz ≤ wr.heap.size := by have := hb.size; rw [HGZ.out] at this; exact this
    clear hs
    by_cases hlt : i < L.length
    · obtain ⟨Wt, rfl⟩ : ∃ V : World, V = wr := ⟨_, rfl⟩
      have hol := HS.out.o.len
      have hjb := (HJ.out.belowMore hb (Nat.le_refl _))
      obtain ⟨jb, jo, rfl, _, a0, _⟩ := hjb.lst.job i hlt
      have hst := stAt_map hlt
      generalize hsi : L[i].start = si at *
      have HSI := Lib.hid hst
      have HJB := Lib.hid hjb
      have i0 : (0 : Int) ≤ (i : Int) := by omega
      have i1 : (i : Int) < (L.length : Int) := by omega
      clear hst hjb hb
      go_wp2_with fail
      go_loopg [5] i (fun g s5 wr => ∃ k q : Nat, k ≤ i ∧ g = k ∧ s5 = .int .i64 k ∧ wr = Wt.drewN q ∧ ∀ x ∈ ord.drop k, stAt (L.map JobM.p) i < stAt (L.map JobM.p) x)
      case atStart => exact ⟨i, 0, by omega, by omega, rfl, rfl, fun x hx => by rw [List.drop_of_length_le (by omega)] at hx; simp at hx⟩
      case round =>
        obtain ⟨k, q, hk, hg2, rfl, hwr, hhi⟩ := hrel
        have HHI := Lib.hid hhi
        clear hhi
        rcases Nat.eq_zero_or_pos k with hz | hz
        · have HLO := Lib.hid (show ∀ x ∈ ord.take k, stAt (L.map JobM.p) x ≤ stAt (L.map JobM.p) i by rw [hz]; simp)
          have hd : decide (0 < k) = false := decide_eq_false (by omega)
          subst hwr
          clear hz
          go_wp2_with fail
          go_quiet (fail)
          rw [World.drewN_drewN]
          generalize q + nq = q3 at *
          have HIN := Lib.hid (HS.out.o.ins HLO.out HHI.out)
          have HOW := Lib.hid (HS.out.own.drewN q3)
          have HBX := Lib.hid (below_drewN HB.out q3)
          have hgx : gz ≤ (Wt.drewN q3).heap.size := hgz
          generalize Wt.drewN q3 = Wx at *
          clear HLO HHI
          by_cases hi0 : i = 0
          · subst hi0
            obtain rfl : k = 0 := by omega
            have hord : ord = [] := List.eq_nil_of_length_eq_zero HS.out.o.len
            subst hord
            rcases own_addrN HOW.out with ⟨hA, _, hc0⟩ | ⟨gM, hA⟩
            · subst hA hc0
              go_upto_region 9 with fail
              go_wp2_with (at_builtin; refine Hld.put ?_)
              refine Hld.out ?_
              refine wpList_append_rec rfl _ _ 34 rfl gz 3 8 Try.underlying34 elemN _ [] rfl (Own.nil _ _ _ _ _) [(0 : Int)] _ rfl 1 1 rfl rfl (by simp [Go.maxLen]) (by simp) hgx ?_
              intro v2 w3 ho3 hg3 hat3
              have ho3' : OwnN w3 gz v2 [(0 : Int)] := ho3
              obtain ⟨A2, c2, rfl⟩ := ho3'.form
              have hz3 : gz ≤ w3.heap.size := by have := hg3.size; omega
              have HO3 := Lib.hid ho3'
              have HG3 := Lib.hid hg3
              clear ho3 ho3' hg3 hat3
              go_wp2_with (at_builtin; refine wpList_append_lst rfl _ _ 34 rfl gz 3 8 Try.underlying34 elemN _ [(0 : Int)] rfl HO3.out [] _ _ _ w3.heap.size rfl rfl Lst.nil (by simp [Go.maxLen]) (by simp) hz3 ?_; intro v3 w4 ho4 hg4 hat4)
              have ho4' : OwnN w4 gz v3 [(0 : Int)] := ho4
              obtain ⟨A4, c4, rfl⟩ := ho4'.form
              have HOS := Lib.hid (show OrS L gz w4 1 A4 c4 [0] from ⟨HIN.out, ho4', fun e => by omega⟩)
              have HBW := Lib.hid (HBX.out.trans (((below_of_grownBy HG3.out (Nat.le_refl _) (fun k hk => by cases hk)).mono hgx).grown hg4 hz3 (fun q e => (World.ownsRow.lt HO3.out q e).1)))
              clear ho4 ho4' hg4 hat4
              go_wp2_with fail
              go_roundg (L.length - (0 + 1))
              case measure => omega
              case rel => exact ⟨0 + 1, A4, c4, _, by omega, rfl, by go_num, rfl, HOS.out, HBW.out⟩
            · exact absurd (HS.out.z rfl) (by rw [hA]; simp)
          · have hcap := own_capN HOW.out
            obtain ⟨gM, hA⟩ : ∃ g, A = some ⟨g, 0, none⟩ := by
              rcases own_addrN HOW.out with ⟨_, h0, _⟩ | h
              · exact absurd (by rw [← HS.out.o.len, ← natI_len, h0]; rfl) hi0
              · exact h
            subst hA
            have hol := HS.out.o.len
            have k30 : (0 : Int) ≤ (k : Int) := by omega
            have k31 : (k : Int) ≤ (i : Int) := by omega
            have k32 : (i : Int) ≤ (c : Int) := by omega
            have k34 : 0 < c := by omega
            by_cases hkc : k = c
            · subst hkc
              go_upto_region 9 with (at_builtin; refine wpList_append_lst rfl _ _ 34 rfl gz 3 8 Try.underlying34 elemN _ [] rfl (Own.nil _ _ _ _ _) ((natI ord).take k) _ _ _ _ rfl (by rw [List.length_take, natI_len]; omega) ((Own.lst encI_len HOW.out).takeN _) (by simp only [Go.maxLen, List.length_nil, List.length_take, natI_len]; omega) (by simp only [List.length_nil, List.length_take, natI_len]; omega) hgx ?_; intro v1 w2 ho2 hg2 hat2)
              rw [List.nil_append] at ho2
              have hgn : Wx.grownBy w2 none := hg2
              have hat2' : v1.ownBlock = none ∨ v1.ownBlock = some Wx.heap.size := hat2
              have hz2 : gz ≤ w2.heap.size := by have := hgn.size; omega
              have HO2 := Lib.hid ho2
              have HG2 := Lib.hid hgn
              have HAT := Lib.hid hat2'
              obtain ⟨A1, c1, rfl⟩ := ho2.form
              generalize hL1 : ((natI ord).take k).length = n1 at *
              have HL1 := Lib.hid (show n1 = k by rw [← hL1, List.length_take, natI_len]; omega)
              clear ho2 hgn hg2 hat2 hat2' hL1
              go_wp2_with (at_builtin; refine Hld.put ?_)
              refine Hld.out ?_
              refine wpList_append_rec rfl _ _ 34 rfl gz 3 8 Try.underlying34 elemN _ ((natI ord).take k) rfl HO2.out [(i : Int)] _ rfl 1 1 rfl rfl (by simp only [Go.maxLen, List.length_take, natI_len, List.length_cons, List.length_nil]; omega) (by simp only [List.length_take, natI_len, List.length_cons, List.length_nil]; omega) hz2 ?_
              intro v2 w3 ho3 hg3 hat3
              have hM4 : OwnN w3 gz (.slice (some ⟨gM, 0, none⟩) i _) (natI ord) := (HOW.out.kept HG2.out (.inr (by simp [Value.ownBlock]))).kept hg3 (.inr (fun (e : (some gM : Option Nat) = (Value.slice A1 n1 c1).ownBlock) => by
                have h1 := (World.ownsRow.lt HOW.out gM rfl).2
                rcases HAT.out with h | h
                · rw [h] at e; simp [Value.ownBlock] at e
                · rw [h] at e; simp [Value.ownBlock] at e; omega))
              have HO3 := Lib.hid ho3
              have HG3 := Lib.hid hg3
              have hz3 : gz ≤ w3.heap.size := by have := HG3.out.size; omega
              obtain ⟨A2, c2, rfl⟩ := ho3.form
              generalize hL3 : ((natI ord).take k ++ [(i : Int)]).length = n3 at *
              have HL3 := Lib.hid hL3
              clear hL3
              have HLD := Lib.hid (Own.lst encI_len hM4)
              clear ho3 hg3 hat3 hM4
              go_wp2_with (at_builtin; refine Hld.put ?_)
              refine Hld.out ?_
              refine wpList_append_lst rfl _ _ 34 rfl gz 3 8 Try.underlying34 elemN _ ((natI ord).take k ++ [(i : Int)]) rfl HO3.out ((natI ord).drop k) _ _ _ w3.heap.size rfl (by rw [List.length_drop, natI_len] <;> omega) (by rw [List.drop_of_length_le (by rw [natI_len]; omega)]; exact Lst.nil) (by simp only [Go.maxLen, List.length_append, List.length_take, List.length_drop, natI_len, List.length_cons, List.length_nil]; omega) (by simp only [List.length_append, List.length_take, List.length_drop, natI_len, List.length_cons, List.length_nil]; omega) hz3 ?_
              intro v3 w4 ho4 hg4 hat4
              obtain ⟨A4, c4, rfl⟩ := ho4.form
              generalize hL4 : ((natI ord).take k ++ [(i : Int)] ++ (natI ord).drop k).length = n4 at *
              have HL4 := Lib.hid (show n4 = i + 1 by rw [← hL4]; simp only [List.length_append, List.length_take, List.length_drop, natI_len, List.length_cons, List.length_nil]; omega)
              clear hL4
              have HOS := Lib.hid (show OrS L gz w4 (i + 1) A4 c4 (ord.take k ++ i :: ord.drop k) from ⟨HIN.out, by have h := ho4; have e : natI (ord.take k ++ i :: ord.drop k) = (natI ord).take k ++ [(i : Int)] ++ (natI ord).drop k := (by unfold natI; rw [List.map_append, List.map_cons, List.map_take, List.map_drop, List.append_assoc]; rfl); (rw [e]; rw [HL4.out] at h; exact h), fun e => by omega⟩)
              have HBW := Lib.hid (HBX.out.trans ((((below_of_grownBy HG2.out (Nat.le_refl _) (fun k hk => by cases hk)).mono hgx).grown HG3.out hz2 (fun q e => (World.ownsRow.lt HO2.out q e).1)).grown hg4 hz3 (fun q e => (World.ownsRow.lt HO3.out q e).1)))
              clear ho4 hg4 hat4
              go_wp2_with fail
              go_roundg (L.length - (i + 1))
              case measure => omega
              case rel => exact ⟨i + 1, A4, c4, _, by omega, rfl, by go_num, by rw [HL4.out], HOS.out, HBW.out⟩
            · have k33 : k < c := by omega
              go_upto_region 9 with (at_builtin; refine wpList_append_lst rfl _ _ 34 rfl gz 3 8 Try.underlying34 elemN _ [] rfl (Own.nil _ _ _ _ _) ((natI ord).take k) _ _ _ _ rfl (by rw [List.length_take, natI_len]; omega) ((Own.lst encI_len HOW.out).takeN _) (by simp only [Go.maxLen, List.length_nil, List.length_take, natI_len]; omega) (by simp only [List.length_nil, List.length_take, natI_len]; omega) hgx ?_; intro v1 w2 ho2 hg2 hat2)
              rw [List.nil_append] at ho2
              have hgn : Wx.grownBy w2 none := hg2
              have hat2' : v1.ownBlock = none ∨ v1.ownBlock = some Wx.heap.size := hat2
              have hz2 : gz ≤ w2.heap.size := by have := hgn.size; omega
              have HO2 := Lib.hid ho2
              have HG2 := Lib.hid hgn
              have HAT := Lib.hid hat2'
              obtain ⟨A1, c1, rfl⟩ := ho2.form
              generalize hL1 : ((natI ord).take k).length = n1 at *
              have HL1 := Lib.hid (show n1 = k by rw [← hL1, List.length_take, natI_len]; omega)
              clear ho2 hgn hg2 hat2 hat2' hL1
              go_wp2_with (at_builtin; refine Hld.put ?_)
              refine Hld.out ?_
              refine wpList_append_rec rfl _ _ 34 rfl gz 3 8 Try.underlying34 elemN _ ((natI ord).take k) rfl HO2.out [(i : Int)] _ rfl 1 1 rfl rfl (by simp only [Go.maxLen, List.length_take, natI_len, List.length_cons, List.length_nil]; omega) (by simp only [List.length_take, natI_len, List.length_cons, List.length_nil]; omega) hz2 ?_
              intro v2 w3 ho3 hg3 hat3
              have hM4 : OwnN w3 gz (.slice (some ⟨gM, 0, none⟩) i _) (natI ord) := (HOW.out.kept HG2.out (.inr (by simp [Value.ownBlock]))).kept hg3 (.inr (fun (e : (some gM : Option Nat) = (Value.slice A1 n1 c1).ownBlock) => by
                have h1 := (World.ownsRow.lt HOW.out gM rfl).2
                rcases HAT.out with h | h
                · rw [h] at e; simp [Value.ownBlock] at e
                · rw [h] at e; simp [Value.ownBlock] at e; omega))
              have HO3 := Lib.hid ho3
              have HG3 := Lib.hid hg3
              have hz3 : gz ≤ w3.heap.size := by have := HG3.out.size; omega
              obtain ⟨A2, c2, rfl⟩ := ho3.form
              generalize hL3 : ((natI ord).take k ++ [(i : Int)]).length = n3 at *
              have HL3 := Lib.hid hL3
              clear hL3
              have HLD := Lib.hid (Own.lst encI_len hM4)
              clear ho3 hg3 hat3 hM4
              go_wp2_with (at_builtin; refine Hld.put ?_)
              refine Hld.out ?_
              refine wpList_append_lst rfl _ _ 34 rfl gz 3 8 Try.underlying34 elemN _ ((natI ord).take k ++ [(i : Int)]) rfl HO3.out ((natI ord).drop k) _ _ _ w3.heap.size rfl (by rw [List.length_drop, natI_len] <;> omega) (by first | exact HLD.out.dropN k | (have h := HLD.out.dropN k; simpa using h)) (by simp only [Go.maxLen, List.length_append, List.length_take, List.length_drop, natI_len, List.length_cons, List.length_nil]; omega) (by simp only [List.length_append, List.length_take, List.length_drop, natI_len, List.length_cons, List.length_nil]; omega) hz3 ?_
              intro v3 w4 ho4 hg4 hat4
              obtain ⟨A4, c4, rfl⟩ := ho4.form
              generalize hL4 : ((natI ord).take k ++ [(i : Int)] ++ (natI ord).drop k).length = n4 at *
              have HL4 := Lib.hid (show n4 = i + 1 by rw [← hL4]; simp only [List.length_append, List.length_take, List.length_drop, natI_len, List.length_cons, List.length_nil]; omega)
              clear hL4
              have HOS := Lib.hid (show OrS L gz w4 (i + 1) A4 c4 (ord.take k ++ i :: ord.drop k) from ⟨HIN.out, by have h := ho4; have e : natI (ord.take k ++ i :: ord.drop k) = (natI ord).take k ++ [(i : Int)] ++ (natI ord).drop k := (by unfold natI; rw [List.map_append, List.map_cons, List.map_take, List.map_drop, List.append_assoc]; rfl); (rw [e]; rw [HL4.out] at h; exact h), fun e => by omega⟩)
              have HBW := Lib.hid (HBX.out.trans ((((below_of_grownBy HG2.out (Nat.le_refl _) (fun k hk => by cases hk)).mono hgx).grown HG3.out hz2 (fun q e => (World.ownsRow.lt HO2.out q e).1)).grown hg4 hz3 (fun q e => (World.ownsRow.lt HO3.out q e).1)))
              clear ho4 hg4 hat4
              go_wp2_with fail
              go_roundg (L.length - (i + 1))
              case measure => omega
              case rel => exact ⟨i + 1, A4, c4, _, by omega, rfl, by go_num, by rw [HL4.out], HOS.out, HBW.out⟩
        · obtain ⟨k, rfl⟩ : ∃ k', k = k' + 1 := ⟨k - 1, by omega⟩
          have hkl : k < ord.length := by omega
          have hx : ord[k] < i := HS.out.o.lt (List.getElem_mem hkl)
          have hc := Own.lst encI_len HS.out.own
          obtain ⟨gM, hA⟩ : ∃ g, A = some ⟨g, 0, none⟩ := by
            rcases own_addrN HS.out.own with ⟨_, h0, _⟩ | h
            · exact absurd (by rw [← natI_len, h0]; rfl) (show ¬ ord.length = 0 by omega)
            · exact h
          subst hA
          obtain ⟨ob, oo, hA, _, b0⟩ := hc.it k (by rw [natI_len]; exact hkl)
          injection hA with hA; injection hA with e1 e2 _
          subst e1 e2
          rw [natI_get hkl, Nat.zero_add] at b0
          clear hc
          obtain ⟨jb', jo', hJA, _, a2, _⟩ := HJB.out.lst.job ord[k] (by omega)
          injection hJA with hJA; injection hJA with e1 e2 _
          subst e1 e2
          have hsx := stAt_map (L := L) (i := ord[k]) (by omega)
          have HHL := Lib.hid (fun h => HS.out.o.head_le hkl (s := stAt (L.map JobM.p) i) h)
          have HDS := Lib.hid (fun h => drop_step (jobs := L.map JobM.p) hkl HHI.out h)
          have HSX := Lib.hid hsx
          have hx2 : ord[k] < L.length := by omega
          obtain ⟨x, hxe⟩ : ∃ x, x = ord[k] := ⟨_, rfl⟩
          have hxl : x < L.length := by omega
          have a2' : (Wt.cell? ⟨jb, jo + x * 2, none⟩) = some (.int .i64 L[x].start) := by subst hxe; exact a2
          rw [← hxe] at hx b0
          have HHL2 := Lib.hid (show stAt (L.map JobM.p) x ≤ stAt (L.map JobM.p) i → ∀ y ∈ ord.take (k + 1), stAt (L.map JobM.p) y ≤ stAt (L.map JobM.p) i by rw [hxe]; exact HHL.out)
          have HDS2 := Lib.hid (show stAt (L.map JobM.p) i < stAt (L.map JobM.p) x → ∀ y ∈ ord.drop k, stAt (L.map JobM.p) i < stAt (L.map JobM.p) y by rw [hxe]; exact HDS.out)
          have HSX2 := Lib.hid (stAt_map hxl)
          clear HHL HDS HSX hsx a2 hxe hx2
          generalize L[x].start = sx at *
          have x0 : (0 : Int) ≤ (x : Int) := by omega
          have x1 : (x : Int) < (L.length : Int) := by omega
          have hd : decide (0 < k + 1) = true := decide_eq_true (by omega)
          by_cases hgt : si < sx
          · have HNX := Lib.hid (HDS2.out (by rw [HSI.out, HSX2.out]; exact hgt))
            have hd2 : decide (si < sx) = true := decide_eq_true hgt
            subst hwr
            clear hgt
            go_wp2_with fail
            go_quiet (fail)
            go_wp2_with fail
            go_roundg k
            case measure => omega
            case rel => exact ⟨k, q + nq, by omega, rfl, by go_num, rfl, HNX.out⟩
          · have HLO := Lib.hid (HHL2.out (by rw [HSI.out, HSX2.out]; omega))
            have hd2 : decide (si < sx) = false := decide_eq_false hgt
            subst hwr
            clear hgt
            go_wp2_with fail
            go_quiet (fail)
            have HHI2 := HHI
            clear HHI
            have HHI := HHI2
            clear HHI2 b0 hd hd2 a2'
            have e1 : ((k : Int) + 1) = ((k + 1 : Nat) : Int) := by omega
            rw [e1]
            clear e1
            generalize hk1 : k + 1 = k' at *
            clear hk1
            obtain ⟨k, rfl⟩ : ∃ z, z = k' := ⟨_, rfl⟩
            rw [World.drewN_drewN]
            generalize q + nq = q3 at *
            have HIN := Lib.hid (HS.out.o.ins HLO.out HHI.out)
            have HOW := Lib.hid (HS.out.own.drewN q3)
            have HBX := Lib.hid (below_drewN HB.out q3)
            have hgx : gz ≤ (Wt.drewN q3).heap.size := hgz
            generalize Wt.drewN q3 = Wx at *
            clear HLO HHI
            have hcap := own_capN HOW.out
            have hol := HS.out.o.len
            have k30 : (0 : Int) ≤ (k : Int) := by omega
            have k31 : (k : Int) ≤ (i : Int) := by omega
            have k32 : (i : Int) ≤ (c : Int) := by omega
            have k34 : 0 < c := by omega
            by_cases hkc : k = c
            · subst hkc
              go_upto_region 9 with (at_builtin; refine wpList_append_lst rfl _ _ 34 rfl gz 3 8 Try.underlying34 elemN _ [] rfl (Own.nil _ _ _ _ _) ((natI ord).take k) _ _ _ _ rfl (by rw [List.length_take, natI_len]; omega) ((Own.lst encI_len HOW.out).takeN _) (by simp only [Go.maxLen, List.length_nil, List.length_take, natI_len]; omega) (by simp only [List.length_nil, List.length_take, natI_len]; omega) hgx ?_; intro v1 w2 ho2 hg2 hat2)
              rw [List.nil_append] at ho2
              have hgn : Wx.grownBy w2 none := hg2
              have hat2' : v1.ownBlock = none ∨ v1.ownBlock = some Wx.heap.size := hat2
              have hz2 : gz ≤ w2.heap.size := by have := hgn.size; omega
              have HO2 := Lib.hid ho2
              have HG2 := Lib.hid hgn
              have HAT := Lib.hid hat2'
              obtain ⟨A1, c1, rfl⟩ := ho2.form
              generalize hL1 : ((natI ord).take k).length = n1 at *
              have HL1 := Lib.hid (show n1 = k by rw [← hL1, List.length_take, natI_len]; omega)
              clear ho2 hgn hg2 hat2 hat2' hL1
              go_wp2_with (at_builtin; refine Hld.put ?_)
              refine Hld.out ?_
              refine wpList_append_rec rfl _ _ 34 rfl gz 3 8 Try.underlying34 elemN _ ((natI ord).take k) rfl HO2.out [(i : Int)] _ rfl 1 1 rfl rfl (by simp only [Go.maxLen, List.length_take, natI_len, List.length_cons, List.length_nil]; omega) (by simp only [List.length_take, natI_len, List.length_cons, List.length_nil]; omega) hz2 ?_
              intro v2 w3 ho3 hg3 hat3
              have hM4 : OwnN w3 gz (.slice (some ⟨gM, 0, none⟩) i _) (natI ord) := (HOW.out.kept HG2.out (.inr (by simp [Value.ownBlock]))).kept hg3 (.inr (fun (e : (some gM : Option Nat) = (Value.slice A1 n1 c1).ownBlock) => by
                have h1 := (World.ownsRow.lt HOW.out gM rfl).2
                rcases HAT.out with h | h
                · rw [h] at e; simp [Value.ownBlock] at e
                · rw [h] at e; simp [Value.ownBlock] at e; omega))
              have HO3 := Lib.hid ho3
              have HG3 := Lib.hid hg3
              have hz3 : gz ≤ w3.heap.size := by have := HG3.out.size; omega
              obtain ⟨A2, c2, rfl⟩ := ho3.form
              generalize hL3 : ((natI ord).take k ++ [(i : Int)]).length = n3 at *
              have HL3 := Lib.hid hL3
              clear hL3
              have HLD := Lib.hid (Own.lst encI_len hM4)
              clear ho3 hg3 hat3 hM4
              go_wp2_with (at_builtin; refine Hld.put ?_)
              refine Hld.out ?_
              refine wpList_append_lst rfl _ _ 34 rfl gz 3 8 Try.underlying34 elemN _ ((natI ord).take k ++ [(i : Int)]) rfl HO3.out ((natI ord).drop k) _ _ _ w3.heap.size rfl (by rw [List.length_drop, natI_len] <;> omega) (by rw [List.drop_of_length_le (by rw [natI_len]; omega)]; exact Lst.nil) (by simp only [Go.maxLen, List.length_append, List.length_take, List.length_drop, natI_len, List.length_cons, List.length_nil]; omega) (by simp only [List.length_append, List.length_take, List.length_drop, natI_len, List.length_cons, List.length_nil]; omega) hz3 ?_
              intro v3 w4 ho4 hg4 hat4
              obtain ⟨A4, c4, rfl⟩ := ho4.form
              generalize hL4 : ((natI ord).take k ++ [(i : Int)] ++ (natI ord).drop k).length = n4 at *
              have HL4 := Lib.hid (show n4 = i + 1 by rw [← hL4]; simp only [List.length_append, List.length_take, List.length_drop, natI_len, List.length_cons, List.length_nil]; omega)
              clear hL4
              have HOS := Lib.hid (show OrS L gz w4 (i + 1) A4 c4 (ord.take k ++ i :: ord.drop k) from ⟨HIN.out, by have h := ho4; have e : natI (ord.take k ++ i :: ord.drop k) = (natI ord).take k ++ [(i : Int)] ++ (natI ord).drop k := (by unfold natI; rw [List.map_append, List.map_cons, List.map_take, List.map_drop, List.append_assoc]; rfl); (rw [e]; rw [HL4.out] at h; exact h), fun e => by omega⟩)
              have HBW := Lib.hid (HBX.out.trans ((((below_of_grownBy HG2.out (Nat.le_refl _) (fun k hk => by cases hk)).mono hgx).grown HG3.out hz2 (fun q e => (World.ownsRow.lt HO2.out q e).1)).grown hg4 hz3 (fun q e => (World.ownsRow.lt HO3.out q e).1)))
              clear ho4 hg4 hat4
              go_wp2_with fail
              go_roundg (L.length - (i + 1))
              case measure => omega
              case rel => exact ⟨i + 1, A4, c4, _, by omega, rfl, by go_num, by rw [HL4.out], HOS.out, HBW.out⟩
            · have k33 : k < c := by omega
              go_upto_region 9 with (at_builtin; refine wpList_append_lst rfl _ _ 34 rfl gz 3 8 Try.underlying34 elemN _ [] rfl (Own.nil _ _ _ _ _) ((natI ord).take k) _ _ _ _ rfl (by rw [List.length_take, natI_len]; omega) ((Own.lst encI_len HOW.out).takeN _) (by simp only [Go.maxLen, List.length_nil, List.length_take, natI_len]; omega) (by simp only [List.length_nil, List.length_take, natI_len]; omega) hgx ?_; intro v1 w2 ho2 hg2 hat2)
              rw [List.nil_append] at ho2
              have hgn : Wx.grownBy w2 none := hg2
              have hat2' : v1.ownBlock = none ∨ v1.ownBlock = some Wx.heap.size := hat2
              have hz2 : gz ≤ w2.heap.size := by have := hgn.size; omega
              have HO2 := Lib.hid ho2
              have HG2 := Lib.hid hgn
              have HAT := Lib.hid hat2'
              obtain ⟨A1, c1, rfl⟩ := ho2.form
              generalize hL1 : ((natI ord).take k).length = n1 at *
              have HL1 := Lib.hid (show n1 = k by rw [← hL1, List.length_take, natI_len]; omega)
              clear ho2 hgn hg2 hat2 hat2' hL1
              go_wp2_with (at_builtin; refine Hld.put ?_)
              refine Hld.out ?_
              refine wpList_append_rec rfl _ _ 34 rfl gz 3 8 Try.underlying34 elemN _ ((natI ord).take k) rfl HO2.out [(i : Int)] _ rfl 1 1 rfl rfl (by simp only [Go.maxLen, List.length_take, natI_len, List.length_cons, List.length_nil]; omega) (by simp only [List.length_take, natI_len, List.length_cons, List.length_nil]; omega) hz2 ?_
              intro v2 w3 ho3 hg3 hat3
              have hM4 : OwnN w3 gz (.slice (some ⟨gM, 0, none⟩) i _) (natI ord) := (HOW.out.kept HG2.out (.inr (by simp [Value.ownBlock]))).kept hg3 (.inr (fun (e : (some gM : Option Nat) = (Value.slice A1 n1 c1).ownBlock) => by
                have h1 := (World.ownsRow.lt HOW.out gM rfl).2
                rcases HAT.out with h | h
                · rw [h] at e; simp [Value.ownBlock] at e
                · rw [h] at e; simp [Value.ownBlock] at e; omega))
              have HO3 := Lib.hid ho3
              have HG3 := Lib.hid hg3
              have hz3 : gz ≤ w3.heap.size := by have := HG3.out.size; omega
              obtain ⟨A2, c2, rfl⟩ := ho3.form
              generalize hL3 : ((natI ord).take k ++ [(i : Int)]).length = n3 at *
              have HL3 := Lib.hid hL3
              clear hL3
              have HLD := Lib.hid (Own.lst encI_len hM4)
              clear ho3 hg3 hat3 hM4
              go_wp2_with (at_builtin; refine Hld.put ?_)
              refine Hld.out ?_
              refine wpList_append_lst rfl _ _ 34 rfl gz 3 8 Try.underlying34 elemN _ ((natI ord).take k ++ [(i : Int)]) rfl HO3.out ((natI ord).drop k) _ _ _ w3.heap.size rfl (by rw [List.length_drop, natI_len] <;> omega) (by first | exact HLD.out.dropN k | (have h := HLD.out.dropN k; simpa using h)) (by simp only [Go.maxLen, List.length_append, List.length_take, List.length_drop, natI_len, List.length_cons, List.length_nil]; omega) (by simp only [List.length_append, List.length_take, List.length_drop, natI_len, List.length_cons, List.length_nil]; omega) hz3 ?_
              intro v3 w4 ho4 hg4 hat4
              obtain ⟨A4, c4, rfl⟩ := ho4.form
              generalize hL4 : ((natI ord).take k ++ [(i : Int)] ++ (natI ord).drop k).length = n4 at *
              have HL4 := Lib.hid (show n4 = i + 1 by rw [← hL4]; simp only [List.length_append, List.length_take, List.length_drop, natI_len, List.length_cons, List.length_nil]; omega)
              clear hL4
              have HOS := Lib.hid (show OrS L gz w4 (i + 1) A4 c4 (ord.take k ++ i :: ord.drop k) from ⟨HIN.out, by have h := ho4; have e : natI (ord.take k ++ i :: ord.drop k) = (natI ord).take k ++ [(i : Int)] ++ (natI ord).drop k := (by unfold natI; rw [List.map_append, List.map_cons, List.map_take, List.map_drop, List.append_assoc]; rfl); (rw [e]; rw [HL4.out] at h; exact h), fun e => by omega⟩)
              have HBW := Lib.hid (HBX.out.trans ((((below_of_grownBy HG2.out (Nat.le_refl _) (fun k hk => by cases hk)).mono hgx).grown HG3.out hz2 (fun q e => (World.ownsRow.lt HO2.out q e).1)).grown hg4 hz3 (fun q e => (World.ownsRow.lt HO3.out q e).1)))
              clear ho4 hg4 hat4
              go_wp2_with fail
              go_roundg (L.length - (i + 1))
              case measure => omega
              case rel => exact ⟨i + 1, A4, c4, _, by omega, rfl, by go_num, by rw [HL4.out], HOS.out, HBW.out⟩
    · obtain rfl : i = L.length := by omega
      clear hb
      go_wp2_with fail
      go_ret
      exact ⟨A, c, ord, rfl, OrdTo.full (by rw [List.length_map]; exact HS.out.o), by rw [HGZ.out]; exact HS.out.own, by rw [HGZ.out]; exact HB.out⟩
end Go.Proofs.Ytlillkfelfoafaa
