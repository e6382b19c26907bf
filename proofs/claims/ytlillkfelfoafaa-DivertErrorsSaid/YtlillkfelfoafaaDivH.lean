/-
  Contracts of entry, of the sort of gaps and of first.
  Contract of first.
-/
import Derived.Test.YtlillkfelfoafaaDivC
import Derived.Test.YtlillkfelfoafaaSortKit
import Derived.Test.YtlillkfelfoafaaSortLayG
set_option linter.unusedVariables false
set_option linter.unusedSimpArgs false
namespace Go.Proofs.Ytlillkfelfoafaa
open Go.RowKit RP Go.Sort Go.Lib Go.Shelf

def encGp (x : Gap) : List Value := [.int .i64 x.1, .int .i64 x.2]
theorem encGp_len (x : Gap) : (encGp x).length = 2 := rfl
theorem encGp_one (x : Gap) : ∀ u ∈ encGp x, u.oneCell' = true := by
  intro u hu
  simp only [encGp, List.mem_cons, List.not_mem_nil, or_false] at hu
  rcases hu with rfl | rfl <;> rfl
abbrev OwnG (w : World) (base : Nat) (v : Value) (l : List Gap) : Prop := Own encGp 2 115 w base v l
theorem infoGap : (Try.prog.info? 115).map (fun i => (i.zero, i.size, i.bytes)) = some (some (.agg #[.int .i64 0, .int .i64 0]), 2, 16) := by kernel_rfl
theorem elemG : ElemOk Try.prog encGp 2 115 16 :=
  ⟨fun _ => rfl, by omega, encGp_one, by
    obtain ⟨i, hi, h0, h1, h2⟩ := info_parts infoGap
    exact ⟨i, _, hi, h0, h1, h2, rfl⟩⟩
theorem Lst.gp {w : World} {B : Nat} {A : Option Addr} {l : List Gap} (h : Lst encGp 2 w B A l) (i : Nat) (hi : i < l.length) :
    ∃ b off, A = some ⟨b, off, none⟩ ∧ b < B ∧ w.cell? ⟨b, off + i * 2, none⟩ = some (.int .i64 l[i].1) ∧ w.cell? ⟨b, off + i * 2 + 1, none⟩ = some (.int .i64 l[i].2) := by
  obtain ⟨b, off, e, hb, hc⟩ := h (by intro h0; subst h0; simp at hi)
  exact ⟨b, off, e, hb, hc i l[i] (List.getElem?_eq_getElem hi) 0 _ rfl, hc i l[i] (List.getElem?_eq_getElem hi) 1 _ rfl⟩

set_option maxHeartbeats 1000000 in
theorem gapCmp (x y : Gap) (W : World) : Calls Try.prog 70 #[.agg #[.int .i64 x.1, .int .i64 x.2], .agg #[.int .i64 y.1, .int .i64 y.2]] W fun e w' => e = .returned (.int .i64 (Lib.compareInt x.1 y.1)) ∧ ∃ q os', w' = grow (W.drewN q) os' := by
  have hcon := fun W' => AnyG.cmp_Compare_int Try.cmpInt x.1 y.1 W'
  change ∀ W', Calls Try.prog 45 _ _ _ at hcon
  generalize Lib.compareInt x.1 y.1 = r at hcon ⊢
  go_enter Try.func70, Try.ntmps70
  go_wp2_with (go_at_call 45; refine (hcon _).mono ?_; rintro e w' ⟨rfl, rfl⟩)
  go_ret
  exact ⟨rfl, 0, _, by rw [alloc_eq_grow, alloc_eq_grow, grow_grow]; rfl⟩
theorem ltFromG (x y : Gap) : ltOf (fun x y : Gap => Lib.compareInt x.1 y.1) x y = decide (x.1 < y.1) := by
  unfold ltOf Lib.compareInt
  by_cases h1 : x.1 < y.1
  · simp [h1]
  · by_cases h2 : y.1 < x.1 <;> simp [h1, h2]
theorem swoFromG : SWO (ltOf fun x y : Gap => Lib.compareInt x.1 y.1) where
  irrefl x := by rw [ltFromG]; simp
  trans x y z h1 h2 := by rw [ltFromG] at *; simp at *; omega
  ntrans x y z h1 h2 := by rw [ltFromG] at *; simp at *; omega
theorem sortGap (l : List Gap) (base g n cap : Nat) (w : World) (hl : l ≠ []) (ho : OwnG w base (.slice (some ⟨g, 0, none⟩) n cap) l) (hsz : l.length < 4611686018427387904) :
    Calls Try.prog 69 #[.slice (some ⟨g, 0, none⟩) n cap, .func (.func 70) #[] #[]] w fun e w' =>
      e = .returned (.tuple #[]) ∧ ∃ S : List Gap, S.Perm l ∧ S.Pairwise (fun x y => x.1 ≤ y.1) ∧ OwnG w' base (.slice (some ⟨g, 0, none⟩) n cap) S ∧ w.grownBy w' (some g) := by
  have hn : n = l.length := by
    obtain ⟨A, c', hv⟩ := ho.form
    injection hv
  subst hn
  have eg : ∀ args w, (callFunc 70 args).run Try.prog w = .ok (.enter 70 args) w := enters_of Try.func70 (by kernel_rfl) rfl
  have hcon := AnyQ.slices_SortFunc Try.sortG 2 Try.isAgg115 Try.sizeOf115 encGp encGp_len encGp_one (fun x y => Lib.compareInt x.1 y.1) swoFromG 70 #[] g 0 cap l.toArray w eg
    (fun _ _ _ _ x y => gapCmp x y _) (ho.holdsK encGp_len (by omega)) (World.ownsRow.lt ho g rfl).2 (by simpa using hsz)
  change Calls Try.prog 69 _ _ _ at hcon
  have e0 : l.toArray.size = l.length := by simp
  rw [e0] at hcon
  refine hcon.mono fun e w' ⟨he, d', m, os, hp, hs, hw⟩ => ⟨he, d'.toList, ?_⟩
  subst hw
  obtain ⟨p1, p2, p3⟩ := perm_sorted (by rw [e0]; exact hp) (by rw [e0]; exact hs)
  obtain ⟨q1, q2⟩ := ho.sorted encGp_len (by omega) m d' p2 os
  refine ⟨p1, p3.imp fun h => ?_, q1, q2⟩
  rw [ltFromG] at h
  simpa using h
theorem sortGapNone (p : Option Addr) (cap : Nat) (fv : Value) (w : World) :
    Calls Try.prog 69 #[.slice p 0 cap, fv] w fun e w' => e = .returned (.tuple #[]) ∧ w' = w :=
  AnyF.slices_SortFunc_none (P := Try.prog) (ρ := Try.sortG_ren) Try.sortG p cap fv w

set_option maxRecDepth 100000 in
set_option maxHeartbeats 4000000 in
theorem entry_any (o : Occ) (s f t : Int) (w : World) (ho : -65536 ≤ o.2.1 ∧ o.2.1 ≤ 65536) (hs : 0 ≤ s ∧ s ≤ 4194304) :
    Calls Try.prog 71 #[.agg #[.int .i64 o.1, .int .i64 o.2.1, .int .i64 o.2.2], .int .i64 s, .int .i64 f, .int .i64 t] w fun e w' => e = .returned (.agg #[.int .i64 (entryG o s f t).1, .int .i64 (entryG o s f t).2]) ∧ Below w.heap.size w w' := by
  obtain ⟨r, a, b⟩ := o
  simp only at ho
  have hf : -1125899906842624 ≤ clampF f ∧ clampF f ≤ 1125899906842624 := by unfold clampF; omega
  have ht : -1125899906842624 ≤ clampF t ∧ clampF t ≤ 1125899906842624 := by unfold clampF; omega
  have c1 : max (-1125899906842624) (min f 1125899906842624) = clampF f := rfl
  have c2 : max (-1125899906842624) (min t 1125899906842624) = clampF t := rfl
  have HE := Lib.hid (show entryG (r, a, b) s f t = (clampF f - s - a, clampF t - s - a) from rfl)
  have b1 := belA w (.cells #[.int .i64 r, .int .i64 a, .int .i64 b] 46)
  have z1 : (w.alloc (.cells #[.int .i64 r, .int .i64 a, .int .i64 b] 46)).heap.size = w.heap.size + 1 := by simp
  have k1 := heap_alloc_new w (.cells #[.int .i64 r, .int .i64 a, .int .i64 b] 46)
  have b2 := belA (w.alloc (.cells #[.int .i64 r, .int .i64 a, .int .i64 b] 46)) (.cells #[.int .i64 0, .int .i64 0] 115)
  have k2 := heap_alloc_new (w.alloc (.cells #[.int .i64 r, .int .i64 a, .int .i64 b] 46)) (.cells #[.int .i64 0, .int .i64 0] 115)
  rw [z1] at k2
  have HB := Lib.hid (b1.trans (b2.mono b1.size))
  have HK1 := Lib.hid ((b2.block w.heap.size (by omega)).trans k1)
  have HK2 := Lib.hid k2
  clear b1 b2 z1 k1 k2
  generalize clampF f = F at *
  generalize clampF t = G at *
  have s1 : IntKind.i64.wrap (F - s) = F - s := IntWalk.i64_in _ (by omega)
  have s2 : IntKind.i64.wrap (G - s) = G - s := IntWalk.i64_in _ (by omega)
  have s3 : IntKind.i64.wrap (F - s - a) = F - s - a := IntWalk.i64_in _ (by omega)
  have s4 : IntKind.i64.wrap (G - s - a) = G - s - a := IntWalk.i64_in _ (by omega)
  go_enter Try.func71, Try.ntmps71
  go_upto_region 1 with fail
  generalize (w.alloc (.cells #[.int .i64 r, .int .i64 a, .int .i64 b] 46)).alloc (.cells #[.int .i64 0, .int .i64 0] 115) = w0 at *
  generalize hgz : w.heap.size = gz at *
  have HGZ := Lib.hid hgz
  clear hgz
  have o1 : w0.cell? ⟨gz, 1, none⟩ = some (.int .i64 a) := by rw [cell_of_row w0 _ 1 _ _ _ HK1.out]; rfl
  have r0 : w0.cell? ⟨gz + 1, 0, none⟩ = some (.int .i64 0) := by rw [cell_of_row w0 _ 0 _ _ _ HK2.out]; rfl
  have r1 : w0.cell? ⟨gz + 1, 1, none⟩ = some (.int .i64 0) := by rw [cell_of_row w0 _ 1 _ _ _ HK2.out]; rfl
  have f0 : w0.frozen? ⟨gz + 1, 0, none⟩ = false := by simp [World.frozen?, HK2.out]
  have f1 : w0.frozen? ⟨gz + 1, 1, none⟩ = false := by simp [World.frozen?, HK2.out]
  have HRES := Lib.hid (set_block' (o := 1) (.int .i64 (G - s - a)) (set_block' (o := 0) (.int .i64 (F - s - a)) HK2.out))
  go_wp2_with fail
  refine bodyPost_ret (results_cell_row rfl _ _ (gz + 1) 115 _ _ _ rfl HRES.out Try.underlying115 rfl (by kernel_rfl)) rfl ?_
  rw [HE.out, HGZ.out]
  exact ⟨rfl, (HB.out.setCell (p := ⟨gz + 1, 0, none⟩) (Nat.le_succ gz) _).setCell (p := ⟨gz + 1, 1, none⟩) (Nat.le_succ gz) _⟩
end Go.Proofs.Ytlillkfelfoafaa

namespace Go.Proofs.Ytlillkfelfoafaa
open Go.RowKit RP

set_option maxRecDepth 100000 in
set_option maxHeartbeats 4000000 in
theorem first_any (A : Option Addr) (c : Nat) (l : List Gap) (base : Nat) (w : World) (hbs : base ≤ w.heap.size) (ho : OwnG w base (.slice A l.length c) l) (hn : l.length < 4611686018427387904) :
    Calls Try.prog 59 #[.slice A l.length c] w fun e w' => ∃ d, e = .returned (.int .i64 d) ∧ FirstG l d ∧ Below base w w' := by
  have hlb : ∀ q, (Value.slice A l.length c).ownBlock = some q → base ≤ q := fun q hq => (World.ownsRow.lt ho q hq).1
  have hlb2 : ∀ q, (Value.slice A l.length c).ownBlock = some q → q < w.heap.size := fun q hq => (World.ownsRow.lt ho q hq).2
  have hsort : Calls Try.prog 69 #[.slice A l.length c, .func (.func 70) #[] #[]] w fun e w' =>
      e = .returned (.tuple #[]) ∧ ∃ S : List Gap, S.Perm l ∧ S.Pairwise (fun x y => x.1 ≤ y.1) ∧ OwnG w' base (.slice A l.length c) S ∧ w.grownBy w' (Value.slice A l.length c).ownBlock := by
    by_cases h0 : l = []
    · subst h0
      exact (sortGapNone A c _ w).mono fun e w' ⟨he, hw⟩ => ⟨he, [], List.Perm.nil, List.Pairwise.nil, by rw [hw]; exact ho, by rw [hw]; exact World.grownBy.refl _ _⟩
    · obtain ⟨g, cc, hq, hgb, hgl, _, _, _⟩ := ho.at_ encGp_len h0
      injection hq with hq1 _ hq2
      subst hq1 hq2
      exact (sortGap l base g l.length c w h0 ho (by omega)).mono fun e w' ⟨he, S, h1, h2, h3, h4⟩ => ⟨he, S, h1, h2, h3, h4⟩
  go_enter Try.func59, Try.ntmps59
  go_wp2_with fail
  refine hsort.mono ?_
  rintro e w1 ⟨rfl, S, hp, hs, ho1, hg1⟩
  have hln := hp.length_eq
  have HSP := Lib.hid (firstF_spec hs)
  have HP := Lib.hid hp
  have hsl := Own.lst encGp_len ho1
  have hB := below_of_grownBy hg1 hbs hlb
  have hsz : base ≤ w1.heap.size := Nat.le_trans hbs hg1.size
  have HB := Lib.hid hB
  clear hB
  clear hp hs ho1 hg1 hsort ho hlb hlb2
  rw [← hln]
  go_wp2_with fail
  go_loopg [3, 5, 10] S.length (fun g s3 s5 s10 wr => ∃ k : Nat, k ≤ S.length ∧ g = S.length - k ∧ s10 = .int .i64 k ∧ s3 = .int .i64 (firstF (S.take k)) ∧ Below w1.heap.size w1 wr)
  case atStart => exact ⟨0, by omega, by omega, rfl, rfl, Below.refl _ _⟩
  case round =>
    obtain ⟨k, hk, hg, rfl, rfl, hb⟩ := hrel
    by_cases hlt : k < S.length
    · obtain ⟨b, off, rfl, hbw, c0, c1⟩ := (hsl.belowMore hb hb.size).gp k hlt
      have HN := Lib.hid (firstF_snoc hlt)
      generalize firstF (S.take k) = d at *
      generalize S[k] = g at *
      obtain ⟨f, t⟩ := g
      simp only at c0 c1
      have HB1 := Lib.hid (hb.alloc hb.size (.cells #[.int .i64 f, .int .i64 t] 115))
      by_cases q1 : f ≤ d
      · by_cases q2 : d < t
        · have HS := Lib.hid (show stepG d (f, t) = t from if_pos ⟨q1, q2⟩)
          go_wp2_with fail
          go_roundg (S.length - (k + 1))
          case measure => omega
          case rel => exact ⟨k + 1, by omega, rfl, by go_num, by rw [HN.out, HS.out], HB1.out⟩
        · have HS := Lib.hid (show stepG d (f, t) = d from if_neg (fun h => q2 h.2))
          go_wp2_with fail
          go_roundg (S.length - (k + 1))
          case measure => omega
          case rel => exact ⟨k + 1, by omega, rfl, by go_num, by rw [HN.out, HS.out], HB1.out⟩
      · have HS := Lib.hid (show stepG d (f, t) = d from if_neg (fun h => q1 h.1))
        go_wp2_with fail
        go_roundg (S.length - (k + 1))
        case measure => omega
        case rel => exact ⟨k + 1, by omega, rfl, by go_num, by rw [HN.out, HS.out], HB1.out⟩
    · obtain rfl : k = S.length := by omega
      have HF := Lib.hid ((HSP.out S.length (Nat.le_refl _)).perm (show (S.take S.length).Perm l by rw [List.take_length]; exact HP.out))
      go_wp2_with fail
      go_ret
      exact ⟨_, rfl, HF.out, HB.out.trans (hb.mono hsz)⟩
end Go.Proofs.Ytlillkfelfoafaa
