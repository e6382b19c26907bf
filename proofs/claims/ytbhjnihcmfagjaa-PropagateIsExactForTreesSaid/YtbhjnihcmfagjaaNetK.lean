/-
  Contract of keep.Network.
-/
import Derived.Test.YtbhjnihcmfagjaaClone
import Derived.Test.YtbhjnihcmfagjaaStp
import Derived.Test.YtbhjnihcmfagjaaOrd
import Derived.Test.YtbhjnihcmfagjaaTabAB
set_option linter.unusedVariables false
set_option linter.unusedSimpArgs false
namespace Go.Proofs.Ytbhjnihcmfagjaa
open Go.RowKit RP

theorem al' {w : World} {b o : Nat} {v : Value} {x : Obj} (h : w.cell? ⟨b, o, none⟩ = some v) : (w.alloc x).cell? ⟨b, o, none⟩ = some v := by
  rw [World.cell?_alloc_lt _ _ _ (World.block_lt_of_cell? w ⟨b, o, none⟩ h)]; exact h
theorem set_block' {w : World} {g o : Nat} {cs : Array Value} {t : TypeId} {fr : Nat × Nat} (v : Value) (h : w.heap[g]? = some (.cells cs t fr)) : (w.setCell ⟨g, o, none⟩ v).heap[g]? = some (.cells (cs.setIfInBounds o v) t fr) := by
  obtain ⟨hlt, hk⟩ := Array.getElem?_eq_some_iff.1 h
  show (w.heap.modify g _)[g]? = _
  rw [Array.getElem?_eq_getElem (by rw [Array.size_modify]; exact hlt), Array.getElem_modify_self, hk]
  rfl
theorem cell_off {w : World} {g o o' : Nat} {v : Value} (h : o ≠ o') : (w.setCell ⟨g, o', none⟩ v).cell? ⟨g, o, none⟩ = w.cell? ⟨g, o, none⟩ := World.cell?_setCell_other _ _ _ _ (fun q => by injection q with _ q; exact h q.symm)
theorem pick_other {m : Nat} {sr x : Int} (h0 : 0 ≤ sr) (h1 : sr < m) (h2 : 0 ≤ x) (h3 : x < (m : Int) - 1) : 0 ≤ (sr + 1 + x) % (m : Int) ∧ (sr + 1 + x) % (m : Int) < m ∧ (sr + 1 + x) % (m : Int) ≠ sr := by
  by_cases h : sr + 1 + x < m
  · rw [Int.emod_eq_of_lt (by omega) h]; omega
  · have e : (sr + 1 + x) % (m : Int) = sr + 1 + x - m := by
      rw [← Int.sub_emod_right, Int.emod_eq_of_lt (by omega) (by omega)]
    rw [e]; omega
theorem Kept.drewL {M : List Nat} {w w' : World} (h : Kept M w.drew w') : Kept M w w' := ⟨h.os, h.tape, h.output, h.size, h.block⟩
theorem cell_far' {w : World} {g o b o' : Nat} {v : Value} (h : b ≠ g) : (w.setCell ⟨g, o', none⟩ v).cell? ⟨b, o, none⟩ = w.cell? ⟨b, o, none⟩ := World.cell?_setCell_other _ _ _ _ (fun q => by injection q with q; exact h q.symm)
def Stp (p : Prop) : Prop := p
theorem Stp.put {p : Prop} (h : Stp p) : p := h
theorem Stp.out {p : Prop} (h : p) : Stp p := h
theorem grown_cell {w w' : World} {row : Option Nat} (h : w.grownBy w' row) {b o : Nat} (hb : b < w.heap.size) (hne : row ≠ some b) : w'.cell? ⟨b, o, none⟩ = w.cell? ⟨b, o, none⟩ := World.cell?_of_block (a := ⟨b, o, none⟩) (h.block b hb (fun e => hne e.symm))

theorem own_kept {α : Type} {enc : α → List Value} {k : Nat} {e : TypeId} {w w' : World} {base : Nat} {v : Value} {l : List α} {M : List Nat} (h : Own enc k e w base v l) (hk : Kept M w w') (hM : ∀ g, v.ownBlock = some g → g ∉ M) : Own enc k e w' base v l := by
  refine ⟨h.1, ?_⟩
  rcases h.2 with h0 | ⟨g, cap, cur, rfl, hg, hh, r⟩
  · exact .inl h0
  · exact .inr ⟨g, cap, cur, rfl, hg, (hk.block g (World.ownsRow.lt h g rfl).2 (hM g rfl)).trans hh, r⟩
theorem Kept.of_grown {w w' : World} {g : Nat} {M : List Nat} (h : w.grownBy w' (some g)) (hg : g ∈ M) : Kept M w w' := ⟨h.os, h.tape, h.output, h.size, fun k hk hn => h.block k hk (fun e => by injection e with e; exact hn (e ▸ hg))⟩
theorem two_m {k a b n : Nat} (hk : k ∈ [a, b]) (h : n ≤ b) : k ∈ [a] ∨ n ≤ k := by
  simp at hk
  rcases hk with rfl | rfl
  · exact .inl (by simp)
  · exact .inr h
theorem Kept.grownT {M : List Nat} {w w1 w2 : World} {row : Option Nat} (h : Kept M w w1) (hg : w1.grownBy w2 row) (hr : ∀ g, row = some g → g ∈ M ∨ w.heap.size ≤ g) : Kept M w w2 :=
  ⟨hg.os.trans h.os, hg.tape.trans h.tape, hg.output.trans h.output, Nat.le_trans h.size hg.size, fun k hk hn => (hg.block k (Nat.lt_of_lt_of_le hk h.size) (fun e => by
    rcases hr k e.symm with q | q
    · exact hn q
    · omega)).trans (h.block k hk hn)⟩
/-- What a made network is like. -/
theorem own_apart {α β : Type} {enc : α → List Value} {enc' : β → List Value} {k k' : Nat} {e e' : TypeId} {w : World} {b b' : Nat} {v v' : Value} {l : List α} {l' : List β} (h : Own enc k e w b v l) (h' : Own enc' k' e' w b' v' l') (hne : e ≠ e') :
    ∀ g, v.ownBlock = some g → v'.ownBlock ≠ some g := by
  intro g hg hg'
  rcases h.2 with ⟨rfl, _⟩ | ⟨g1, cap, cur, rfl, _, hh, _⟩
  · simp [Value.ownBlock] at hg
  · rcases h'.2 with ⟨rfl, _⟩ | ⟨g2, cap', cur', rfl, _, hh', _⟩
    · simp [Value.ownBlock] at hg'
    · simp [Value.ownBlock] at hg hg'
      subst hg hg'
      rw [hh] at hh'
      injection hh' with q
      injection q with _ q2
      exact hne q2

def MadeN (T : Nat) (m : Nat) (l : List Acy) : Prop := netB T m l = true ∧ 2 ≤ T ∧ T ≤ 9 ∧ 1 ≤ m ∧ m ≤ 5 ∧ l.length ≤ 8
def NetPost (w : World) (e : Ending) (w' : World) : Prop :=
  ∃ (T m : Nat) (E : Option Addr) (cE : Nat) (A : Option Addr) (cA : Nat) (ev : List Evt) (l : List Acy), e = .returned (netV T E m cE A l.length cA) ∧ ev.length = m ∧ OwnE w' w.heap.size (.slice E m cE) ev ∧ OwnA w' w.heap.size (.slice A l.length cA) l ∧ MadeN T m l ∧ Below w.heap.size w w'

def okS (m : Nat) (T : Int) (x : Acy) : Prop := okA m T x ∧ x.hi ≤ 64
/-- The same, with a bound on the activities. -/
def NetPostS (w : World) (e : Ending) (w' : World) : Prop :=
  ∃ (T m : Nat) (E : Option Addr) (cE : Nat) (A : Option Addr) (cA : Nat) (ev : List Evt) (l : List Acy), e = .returned (netV T E m cE A l.length cA) ∧ ev.length = m ∧ OwnE w' w.heap.size (.slice E m cE) ev ∧ OwnA w' w.heap.size (.slice A l.length cA) l ∧ MadeN T m l ∧ Below w.heap.size w w' ∧ ∀ x ∈ l, x.hi ≤ 64

set_option maxRecDepth 100000 in
set_option maxHeartbeats 8000000 in
theorem networkS_any (A : Option Addr) (c : Nat) (l : List Int) (w : World) (h : ArgI w A c l) : Calls Try.prog 12 #[.slice A l.length c] w (NetPostS w) := by
  have ba := belA w (.cells #[.int .i64 0, .slice none 0 0, .slice none 0 0] 25)
  have hres := heap_alloc_new w (.cells #[.int .i64 0, .slice none 0 0, .slice none 0 0] 25)
  have h1 := h.below ba
  generalize hB0 : w.heap.size = B at *
  go_enter Try.func12, Try.ntmps12
  go_wp2_with fail
  refine (from_any A c l _ h1).mono ?_
  rw [World.size_alloc, hB0]
  rintro e w1 ⟨rfl, hs1, hb1⟩
  have HB0 := Lib.hid hB0
  have r1 := (hb1.block B (by omega)).trans hres
  have b1 : Below B w w1 := ba.trans (hb1.mono (by omega))
  have z1 := hs1.lt
  clear ba hres h1 hb1 hB0
  go_wp2_with fail
  refine (next_any (B + 1) A c l 0 8 w1 hs1 (by omega) (by omega)).mono ?_
  rintro e w2 ⟨r, j2, hr0, hr1, rfl, hs2, hg2⟩
  have r2 := (hg2.block B (by omega) (fun e => by injection e; omega)).trans r1
  have z2 := hg2.size
  have b2 : Below B w w2 := b1.grown hg2 (by omega) (fun k hk => by injection hk with hk; omega)
  clear hs1 hg2 r1 b1
  obtain ⟨T, hT⟩ : ∃ T : Nat, (T : Int) = 2 + r := ⟨(2 + r).toNat, by omega⟩
  go_upto_region 3 with fail
  rw [← hT]
  have hT2 : 2 ≤ T ∧ T ≤ 9 := by omega
  clear hT hr0 hr1
  have bn := belA w2 (.cells #[.int .i64 T, .slice none 0 0, .slice none 0 0] 25)
  have hn3 := heap_alloc_new w2 (.cells #[.int .i64 T, .slice none 0 0, .slice none 0 0] 25)
  have hs3 := hs2.below bn
  have r3 := (bn.block B (by omega)).trans r2
  have b3 : Below B w (w2.alloc (.cells #[.int .i64 T, .slice none 0 0, .slice none 0 0] 25)) := b2.trans (bn.mono (by omega))
  have z3 : (w2.alloc (.cells #[.int .i64 T, .slice none 0 0, .slice none 0 0] 25)).heap.size = w2.heap.size + 1 := by simp
  clear bn hs2 r2 b2
  generalize w2.alloc (.cells #[.int .i64 T, .slice none 0 0, .slice none 0 0] 25) = w3 at *
  generalize hgn : w2.heap.size = gn at *
  clear hgn
  have HZ3 := Lib.hid z3
  have z3' : gn < w3.heap.size := by omega
  clear z3
  go_wp2_with fail
  refine (next_any (B + 1) A c l j2 5 w3 hs3 (by omega) (by omega)).mono ?_
  rintro e w4 ⟨q, j4, hq0, hq1, rfl, hs4, hg4⟩
  have r4 := (hg4.block B (by omega) (fun e => by injection e; omega)).trans r3
  have n4 := (hg4.block gn (by omega) (fun e => by injection e; omega)).trans hn3
  have z4 := hg4.size
  have b4 : Below B w w4 := b3.grown hg4 (by omega) (fun k hk => by injection hk with hk; omega)
  clear hs3 hg4 r3 hn3 b3
  obtain ⟨N, hN⟩ : ∃ N : Nat, (N : Int) = 1 + q := ⟨(1 + q).toNat, by omega⟩
  go_wp2_with fail
  rw [← hN]
  have hN2 : 1 ≤ N ∧ N ≤ 5 := by omega
  clear hN hq0 hq1
  go_loopg [5] N (fun g s5 wr => ∃ (k : Nat) (ev : List Evt) (j : Nat) (Ae : Option Addr) (ce : Nat), g = k ∧ s5 = .int .i64 k ∧ ev.length + k = N ∧ wr.heap[gn]? = some (.cells #[.int .i64 T, .slice Ae ev.length ce, .slice none 0 0] 25 (0, 0)) ∧ OwnE wr (gn + 1) (.slice Ae ev.length ce) ev ∧ Src wr (B + 1) A c l j ∧ wr.heap[B]? = some (.cells #[.int .i64 0, .slice none 0 0, .slice none 0 0] 25 (0, 0)) ∧ Below B w wr)
  case atStart => exact ⟨N, [], j4, none, 0, rfl, rfl, by simp, n4, Own.nil _ _ _ _ _, hs4, r4, b4⟩
  case round =>
    obtain ⟨k, ev, j, Ae, ce, hg, rfl, hlen, hn, ho, hs, hr, hb⟩ := hrel
    have hzB : B + 1 < wr.heap.size := hs.lt
    have hzn : gn < wr.heap.size := (Array.getElem?_eq_some_iff.1 hn).1
    have m1 : wr.cell? ⟨gn, 1, none⟩ = some (.slice Ae ev.length ce) := by rw [cell_of_row wr _ 1 _ _ _ hn]; rfl
    have f1 : wr.frozen? ⟨gn, 1, none⟩ = false := by simp [World.frozen?, hn]
    by_cases h0 : 0 < k
    · go_upto_region 6 with fail
      have HLE := Lib.hid hlen
      have hel : ev.length ≤ 5 := by omega
      have hkle : k ≤ 5 := by omega
      have HHN := Lib.hid hn
      have hsd : Src wr.drew (B + 1) A c l j := hs
      have hod : OwnE wr.drew (gn + 1) (.slice Ae ev.length ce) ev := ho.drew
      have hgB : ∀ x : Nat, (some (B + 1) : Option Nat) ≠ some gn := fun _ e => by injection e; omega
      have hob : ∀ q, (Value.slice Ae ev.length ce).ownBlock = some q → gn + 1 ≤ q := fun q hq => (World.ownsRow.lt ho q hq).1
      have HOB := Lib.hid hob
      have HR := Lib.hid hr
      have HBL := Lib.hid hb
      clear hlen hn hs ho hr hb hob
      refine wp_region_until (S := fun w' => w'.cell? ⟨gn, 1, none⟩ = some (.slice Ae ev.length ce)) 13 (by kernel_rfl) ?_
      have h0 : wr.drew.cell? ⟨gn, 1, none⟩ = some (.slice Ae ev.length ce) := m1
      refine until_take (i := 0) (v := ?_) rfl (by kernel_rfl) (by kernel_rfl) (by kernel_rfl) (by kernel_rfl) (fun _ _ _ h => h) (Or.inl ⟨by rfl, ?_⟩) h0 ?_
      rotate_left
      · intro u hSu
        (try dsimp only at hSu)
        go_simp
        try rfl
      simp only [Act.put, List.setIfInBounds_toArray, List.set_cons_zero, List.set_cons_succ]
      refine until_take (i := 1) (v := ?_) rfl (by kernel_rfl) (by kernel_rfl) (by kernel_rfl) (by kernel_rfl) (fun _ _ _ h => h) (Or.inl ⟨by rfl, ?_⟩) h0 ?_
      rotate_left
      · intro u hSu
        (try dsimp only at hSu)
        go_simp
        try rfl
      simp only [Act.put, List.setIfInBounds_toArray, List.set_cons_zero, List.set_cons_succ]
      refine until_take (i := 2) (v := ?_) rfl (by kernel_rfl) (by kernel_rfl) (by kernel_rfl) (by kernel_rfl) (fun _ _ _ h => h) (Or.inl ⟨by rfl, ?_⟩) h0 ?_
      rotate_left
      · intro u hSu
        (try dsimp only at hSu)
        go_simp
        try rfl
      simp only [Act.put, List.setIfInBounds_toArray, List.set_cons_zero, List.set_cons_succ]
      refine until_take (i := 5) (v := ?_) rfl (by kernel_rfl) (by kernel_rfl) (by kernel_rfl) (by kernel_rfl) (fun _ _ _ h => h) (Or.inl ⟨by rfl, ?_⟩) h0 ?_
      rotate_left
      · intro u hSu
        (try dsimp only at hSu)
        go_simp
        try rfl
      simp only [Act.put, List.setIfInBounds_toArray, List.set_cons_zero, List.set_cons_succ]
      refine until_take (i := 7) (v := ?_) rfl (by kernel_rfl) (by kernel_rfl) (by kernel_rfl) (by kernel_rfl) (fun _ _ _ h => h) (Or.inl ⟨by rfl, ?_⟩) h0 ?_
      rotate_left
      · intro u hSu
        (try dsimp only at hSu)
        go_simp
        try rfl
      simp only [Act.put, List.setIfInBounds_toArray, List.set_cons_zero, List.set_cons_succ]
      refine until_one (i := 3) rfl (by kernel_rfl) (fun K hK => ?_)
      go_simp
      refine ((next_any (B + 1) A c l j 2 wr.drew hsd (by omega) (by omega))).mono ?_
      rintro e w5 ⟨r1, j5, p0, p1, rfl, hs5, hg5⟩
      have ho5 := hod.kept hg5 (.inr (fun e => by have := HOB.out _ e; omega))
      have m5 := (grown_cell hg5 (o := 1) hzn (hgB 0)).trans m1
      have z5 : wr.heap.size ≤ w5.heap.size := hg5.size
      refine hK.out _ _ (fun _ => m5) ?_
      clear hK K
      replace h0 := m5
      try simp only [Act.put, List.setIfInBounds_toArray, List.set_cons_zero, List.set_cons_succ]
      have sw : IntKind.i64.wrap (1 + r1) = 1 + r1 := IntWalk.i64_in _ (by omega)
      refine until_take (i := 4) (v := ?_) rfl (by kernel_rfl) (by kernel_rfl) (by kernel_rfl) (by kernel_rfl) (fun _ _ _ h => h) (Or.inl ⟨by rfl, ?_⟩) h0 ?_
      rotate_left
      · intro u hSu
        (try dsimp only at hSu)
        go_simp
        try rfl
      simp only [Act.put, List.setIfInBounds_toArray, List.set_cons_zero, List.set_cons_succ]
      clear sw
      refine until_one (i := 6) rfl (by kernel_rfl) (fun K hK => ?_)
      go_simp
      refine ((next_any (B + 1) A c l j5 3 w5 hs5 (by omega) (by omega))).mono ?_
      rintro e w6 ⟨r2, j6, p2, p3, rfl, hs6, hg6⟩
      have ho6 := ho5.kept hg6 (.inr (fun e => by have := HOB.out _ e; omega))
      have m6 := (grown_cell hg6 (o := 1) (show gn < w5.heap.size by omega) (hgB 0)).trans m5
      have z6 := hg6.size
      refine hK.out _ _ (fun _ => m6) ?_
      clear hK K
      replace h0 := m6
      try simp only [Act.put, List.setIfInBounds_toArray, List.set_cons_zero, List.set_cons_succ]
      refine until_one (i := 8) rfl (by kernel_rfl) (fun K hK => ?_)
      go_simp
      refine ((next_any (B + 1) A c l j6 3 w6 hs6 (by omega) (by omega))).mono ?_
      rintro e w7 ⟨r3, j7, p4, p5, rfl, hs7, hg7⟩
      have ho7 := ho6.kept hg7 (.inr (fun e => by have := HOB.out _ e; omega))
      have m7 := (grown_cell hg7 (o := 1) (show gn < w6.heap.size by omega) (hgB 0)).trans m6
      have z7 := hg7.size
      have hB7 : Below B w w7 := ((HBL.out.drew.grown hg5 (show B ≤ wr.heap.size by omega) (fun k hk => by injection hk with hk; omega)).grown hg6 (by omega) (fun k hk => by injection hk with hk; omega)).grown hg7 (by omega) (fun k hk => by injection hk with hk; omega)
      have hr7 := ((hg7.block B (by omega) (fun e => by injection e; omega)).trans (hg6.block B (by omega) (fun e => by injection e; omega))).trans ((hg5.block B (show B < wr.heap.size by omega) (fun e => by injection e; omega)).trans HR.out)
      have hn7 := ((hg7.block gn (by omega) (fun e => by injection e; omega)).trans (hg6.block gn (by omega) (fun e => by injection e; omega))).trans ((hg5.block gn hzn (fun e => by injection e; omega)).trans HHN.out)
      have HB7 := Lib.hid hB7
      have HR7 := Lib.hid hr7
      have HN7 := Lib.hid hn7
      refine hK.out _ _ (fun _ => m7) ?_
      clear hK K
      replace h0 := m7
      try simp only [Act.put, List.setIfInBounds_toArray, List.set_cons_zero, List.set_cons_succ]
      clear hs5 hs6 hg5 hg6 hg7 ho5 ho6 m5 m6 hB7 hr7 hn7 hsd hod m1 f1
      refine until_take (i := 9) (v := ?_) rfl (by kernel_rfl) (by kernel_rfl) (by kernel_rfl) (by kernel_rfl) (fun _ _ _ h => h) (Or.inl ⟨by rfl, ?_⟩) h0 ?_
      rotate_left
      · intro u hSu
        (try dsimp only at hSu)
        go_simp
        try rfl
      simp only [Act.put, List.setIfInBounds_toArray, List.set_cons_zero, List.set_cons_succ]
      refine until_one (i := 10) rfl (by kernel_rfl) (fun K hK => ?_)
      go_simp
      have m8 := al' (x := .cells #[.int .i64 (1 + r1), .int .i64 r2, .int .i64 r3] 65) m7
      refine hK.out _ _ (fun _ => m8) ?_
      clear hK K
      replace h0 := m8
      try simp only [Act.put, List.setIfInBounds_toArray, List.set_cons_zero, List.set_cons_succ]
      refine until_one (i := 11) rfl (by kernel_rfl) (fun K hK => ?_)
      refine step_append_blk (by rfl) _ _ 22 (by rfl) (gn + 1) 65 24 Try.underlying22 elemE (.slice Ae ev.length ce) ev (by rfl) (ho7.alloc _) [(1 + r1, r2, r3)] w7.heap.size 1 1 (by rfl) (by rfl) 65 (heap_alloc_new w7 _) (by simp only [Go.maxLen, List.length_cons, List.length_nil]; omega) (by simp only [List.length_cons, List.length_nil]; omega) (by simp; omega) ?_
      intro v8 w8 ho8 hg8 hat8
      obtain ⟨A8, c8, rfl⟩ := ho8.form
      have bX := belA w7 (.cells #[.int .i64 (1 + r1), .int .i64 r2, .int .i64 r3] 65)
      have zX : (w7.alloc (.cells #[.int .i64 (1 + r1), .int .i64 r2, .int .i64 r3] 65)).heap.size = w7.heap.size + 1 := by simp
      have z8 := hg8.size
      rw [zX] at z8
      have hne8 : (Value.slice Ae ev.length ce).ownBlock ≠ some gn := fun e => by have := HOB.out _ e; omega
      have hneB : (Value.slice Ae ev.length ce).ownBlock ≠ some B := fun e => by have := HOB.out _ e; omega
      have hneS : (Value.slice Ae ev.length ce).ownBlock ≠ some (B + 1) := fun e => by have := HOB.out _ e; omega
      have hn8 := (hg8.block gn (by rw [zX]; omega) (fun e => hne8 e.symm)).trans ((bX.block gn (by omega)).trans HN7.out)
      have hr8 := (hg8.block B (by rw [zX]; omega) (fun e => hneB e.symm)).trans ((bX.block B (by omega)).trans HR7.out)
      have hs8 : Src w8 (B + 1) A c l j7 := (hs7.below bX).grown hg8 (fun q hq => by have := HOB.out q hq; omega)
      have hb8 : Below B w w8 := (HB7.out.trans (bX.mono (by omega))).grown hg8 (by rw [zX]; omega) (fun q hq => by have := HOB.out q hq; omega)
      have m9 : w8.cell? ⟨gn, 1, none⟩ = some (.slice Ae ev.length ce) := by rw [cell_of_row w8 _ 1 _ _ _ hn8]; rfl
      have f9 : w8.frozen? ⟨gn, 1, none⟩ = false := by simp [World.frozen?, hn8]
      have hset := set_block' (o := 1) (.slice A8 (ev ++ [(1 + r1, r2, r3)]).length c8) hn8
      have hrs := (Below.heap_setCell w8 ⟨gn, 1, none⟩ (.slice A8 (ev ++ [(1 + r1, r2, r3)]).length c8) B (show B ≠ gn by omega)).trans hr8
      have hss : Src (w8.setCell ⟨gn, 1, none⟩ (.slice A8 (ev ++ [(1 + r1, r2, r3)]).length c8)) (B + 1) A c l j7 := hs8.belowAt (B := gn) ((Below.refl gn w8).setCell (p := ⟨gn, 1, none⟩) (Nat.le_refl gn) _) (by omega)
      have hos := ho8.setBelow (a := ⟨gn, 1, none⟩) (Nat.lt_succ_self gn) (.slice A8 (ev ++ [(1 + r1, r2, r3)]).length c8)
      have hbs := hb8.setCell (p := ⟨gn, 1, none⟩) (show B ≤ gn by omega) (.slice A8 (ev ++ [(1 + r1, r2, r3)]).length c8)
      have HSET := Lib.hid hset
      have HRS := Lib.hid hrs
      have HSS := Lib.hid hss
      have HOS := Lib.hid hos
      have HBS := Lib.hid hbs
      clear hset hrs hss hos hbs hn8 hr8 hs8 hb8 bX zX hg8 hat8 ho8 ho7 hs7 m8 m7
      generalize hL : (ev ++ [(1 + r1, r2, r3)]).length = L at *
      have HL := Lib.hid hL
      clear hL
      refine hK.out _ _ (fun _ => m9) ?_
      clear hK K
      replace h0 := m9
      try simp only [Act.put, List.setIfInBounds_toArray, List.set_cons_zero, List.set_cons_succ]
      refine until_take (i := 12) (v := ?_) rfl (by kernel_rfl) (by kernel_rfl) (by kernel_rfl) (by kernel_rfl) (fun _ _ _ h => h) (Or.inl ⟨by rfl, ?_⟩) h0 ?_
      rotate_left
      · intro u hSu
        (try dsimp only at hSu)
        go_simp
        try rfl
      simp only [Act.put, List.setIfInBounds_toArray, List.set_cons_zero, List.set_cons_succ]
      refine until_one (i := 13) rfl (by kernel_rfl) (fun K hK => ?_)
      go_simp
      refine hK.out _ _ (fun q => absurd rfl q) ?_
      clear hK K
      refine until_done (by kernel_rfl) ?_ _
      go_wp2_with fail
      obtain ⟨k', rfl⟩ : ∃ k', k = k' + 1 := ⟨k - 1, by omega⟩
      go_roundg k'
      case measure => omega
      case rel =>
        refine ⟨k', ev ++ [(1 + r1, r2, r3)], j7, A8, c8, rfl, by go_num, by have := HLE.out; simp; omega, ?_, ?_, HSS.out, HRS.out, HBS.out⟩
        · rw [HL.out]; exact HSET.out
        · rw [HL.out]; exact HOS.out
    · obtain rfl : k = 0 := by omega
      obtain ⟨m, hm⟩ : ∃ m, ev.length = m := ⟨_, rfl⟩
      have hmN : 1 ≤ m ∧ m ≤ 5 := by omega
      have HM := Lib.hid hm
      have hob : ∀ q, (Value.slice Ae ev.length ce).ownBlock = some q → gn + 1 ≤ q ∧ q < wr.heap.size := fun q hq => World.ownsRow.lt ho q hq
      have HOB := Lib.hid hob
      have HO := Lib.hid ho
      have HHN := Lib.hid hn
      have HR := Lib.hid hr
      have HBL := Lib.hid hb
      clear ho hn hr hb hob hlen hs4 n4 r4 b4
      go_wp2_with fail
      refine (next_any (B + 1) A c l j 9 wr hs (by omega) (by omega)).mono ?_
      rintro e w5 ⟨p, j5, p0, p1, rfl, hs5, hg5⟩
      obtain ⟨P, rfl⟩ := Int.eq_ofNat_of_zero_le p0
      have z5 := hg5.size
      rw [hm] at m1 HO HHN HOB
      have HO5 := Lib.hid (HO.out.kept hg5 (.inr (fun e => by have := HOB.out _ e; omega)))
      have HN5 := Lib.hid ((hg5.block gn hzn (fun e => by injection e; omega)).trans HHN.out)
      have HR5 := Lib.hid ((hg5.block B (by omega) (fun e => by injection e; omega)).trans HR.out)
      have HB5 := Lib.hid (HBL.out.grown hg5 (show B ≤ wr.heap.size by omega) (fun k hk => by injection hk with hk; omega))
      clear hs hg5 HO HHN HR HBL hm m1 f1
      go_wp2_with fail
      obtain ⟨W5, rfl⟩ : ∃ W5 : World, W5 = w5 := ⟨_, rfl⟩
      go_loopg [7, 8] P (fun g s7 s8 wr => ∃ (k : Nat) (acts : List Acy) (j : Nat) (An : Option Addr) (cn : Nat), g = k ∧ s7 = .int .i64 k ∧ acts.length + k ≤ 8 ∧ (∀ x ∈ acts, okS m T x) ∧ wr.heap[gn]? = some (.cells #[.int .i64 T, .slice Ae m ce, .slice An acts.length cn] 25 (0, 0)) ∧ OwnA wr W5.heap.size (.slice An acts.length cn) acts ∧ Src wr (B + 1) A c l j ∧ Kept [B + 1, gn] W5 wr)
      case atStart => exact ⟨P, [], j5, none, 0, rfl, rfl, by simp; omega, by simp, HN5.out, Own.nil _ _ _ _ _, hs5, .refl _ _⟩
      case round =>
        obtain ⟨k, acts, j6, An, cn, hg, rfl, hlen, hok, hn, ho, hs, hk⟩ := hrel
        by_cases hgo : 0 < k ∧ 1 < m
        · obtain ⟨hk0, hm1⟩ := hgo
          have HOK := Lib.hid hok
          have HHN := Lib.hid hn
          have HO := Lib.hid ho
          have HK := Lib.hid hk
          have zr := hk.size
          clear hok hn ho hk HO5 HN5
          go_wp2_with fail
          refine (next_any (B + 1) A c l j6 6 wr hs (by omega) (by omega)).mono ?_
          rintro e w6 ⟨x1, j7, a0, a1, rfl, hs6, hg6⟩
          go_wp2_with fail
          refine (next_any (B + 1) A c l j7 m w6 hs6 (by omega) (by omega)).mono ?_
          rintro e w7 ⟨sr, j8, a2, a3, rfl, hs7, hg7⟩
          go_wp2_with fail
          refine (next_any (B + 1) A c l j8 5 w7 hs7 (by omega) (by omega)).mono ?_
          rintro e w8 ⟨wt, j9, a4, a5, rfl, hs8, hg8⟩
          have k8 : Kept [B + 1] wr w8 := ((Kept.of_grown hg6 (by simp)).trans (Kept.of_grown hg7 (by simp)) (fun _ h => .inl h)).trans (Kept.of_grown hg8 (by simp)) (fun _ h => .inl h)
          have z8 := k8.size
          have lo8 := hs8.lt
          have HK8 := Lib.hid k8
          clear hs hs6 hs7 hg6 hg7 hg8 k8
          go_upto_region 12 with fail
          have ba := belA w8 (.cells #[.int .i64 (1 + x1), .int .i64 sr, .int .i64 0, .int .i64 0, .int .i64 0, .int .i64 wt] 30)
          have hnew := heap_alloc_new w8 (.cells #[.int .i64 (1 + x1), .int .i64 sr, .int .i64 0, .int .i64 0, .int .i64 0, .int .i64 wt] 30)
          have hsA := hs8.below ba
          have zA : w8.heap.size < (w8.alloc (.cells #[.int .i64 (1 + x1), .int .i64 sr, .int .i64 0, .int .i64 0, .int .i64 0, .int .i64 wt] 30)).heap.size := by simp
          have HKA := Lib.hid (HK8.out.trans (Kept.of_below [B + 1] ba) (fun _ h => .inl h))
          generalize w8.alloc (.cells #[.int .i64 (1 + x1), .int .i64 sr, .int .i64 0, .int .i64 0, .int .i64 0, .int .i64 wt] 30) = V at *
          generalize hga : w8.heap.size = ga at *
          clear hga ba hs8
          have HNA := Lib.hid hnew
          have v1 : V.cell? ⟨ga, 1, none⟩ = some (.int .i64 sr) := by rw [cell_of_row V _ 1 _ _ _ hnew]; rfl
          have v2 : V.cell? ⟨ga, 2, none⟩ = some (.int .i64 0) := by rw [cell_of_row V _ 2 _ _ _ hnew]; rfl
          have v3 : V.frozen? ⟨ga, 2, none⟩ = false := by simp [World.frozen?, hnew]
          clear hnew
          have sw1 : IntKind.i64.wrap (sr + 1) = sr + 1 := IntWalk.i64_in _ (by omega)
          have sw2 : IntKind.i64.wrap ((m : Int) - 1) = (m : Int) - 1 := IntWalk.i64_in _ (by omega)
          have hmz : ¬ m = 0 := by omega
          have hmy : (m == 0) = false := by simp; omega
          have hsd : Src V.drew (B + 1) A c l j9 := hsA
          go_cut [66] (fun s66 wx => ∃ (ds : Int) (j : Nat), 0 ≤ ds ∧ ds < m ∧ ds ≠ sr ∧ wx.heap[ga]? = some (.cells #[.int .i64 (1 + x1), .int .i64 sr, .int .i64 ds, .int .i64 0, .int .i64 0, .int .i64 wt] 30 (0, 0)) ∧ Src wx (B + 1) A c l j ∧ Kept [B + 1, ga] V wx)
          case first =>
            go_region_held3 (fun w' => w'.cell? ⟨ga, 1, none⟩ = some (.int .i64 sr))
              (first | exact v1 | exact u1 | exact (cell_off (by simp)).trans u1)
              ((go_at_call 31; refine (next_any (B + 1) A c l j9 _ V.drew hsd (by omega) (by omega)).mono ?_; rintro e wn ⟨x2, jn, b0, b1, rfl, hsn, hgn⟩; have u1 := (grown_cell hgn (o := 1) (show ga < V.heap.size by omega) (fun e => by injection e; omega)).trans v1; have u2 := (grown_cell hgn (o := 2) (show ga < V.heap.size by omega) (fun e => by injection e; omega)).trans v2; have uf := (World.frozen?_of_block (a := ⟨ga, 2, none⟩) (hgn.block ga (show ga < V.heap.size by omega) (fun e => by injection e; omega))).trans v3; have sw3 : IntKind.i64.wrap (sr + 1 + x2) = sr + 1 + x2 := IntWalk.i64_in _ (by omega)))
            all_goals
              have HNX := Lib.hid ((hgn.block ga (show ga < V.heap.size by omega) (fun e => by injection e; omega)).trans HNA.out)
              have zn : V.heap.size ≤ wn.heap.size := hgn.size
              clear sw1 sw2 sw3
              go_wp2_with fail
              go_meet
              have hp := pick_other (m := m) a2 a3 b0 b1
              rw [← Int.tmod_eq_emod_of_nonneg (by omega)] at hp
              refine ⟨_, jn, ?_, ?_, ?_, set_block' _ HNX.out, hsn.belowAt (B := ga) ((Below.refl ga wn).setCell (p := ⟨ga, 2, none⟩) (Nat.le_refl ga) _) (by omega), (Kept.drewL (Kept.of_grown hgn (by simp))).setCell ga _ _ (.inl (by simp))⟩
              · exact hp.1
              · exact hp.2.1
              · exact hp.2.2
          case rest =>
            obtain ⟨ds, j10, d0, d1, d2, hblk, hs10, hk10⟩ := hcut
            have HK10 := Lib.hid (HKA.out.trans hk10 (fun k hk => two_m hk (by omega)))
            have HNB := Lib.hid ((hk10.block gn (by omega) (by simp; omega)).trans ((HKA.out.block gn (by omega) (by simp; omega)).trans HHN.out))
            have zc := hk10.size
            have HBK := Lib.hid hblk
            have n0 : wc.cell? ⟨gn, 0, none⟩ = some (.int .i64 T) := by rw [cell_of_row wc _ 0 _ _ _ HNB.out]; rfl
            have v4 : wc.cell? ⟨ga, 3, none⟩ = some (.int .i64 0) := by rw [cell_of_row wc _ 3 _ _ _ hblk]; rfl
            have v5 : wc.frozen? ⟨ga, 3, none⟩ = false := by simp [World.frozen?, hblk]
            clear v1 v2 v3 hsd hsA hblk hk10 HKA HNA sw1 sw2
            obtain ⟨W6, rfl⟩ : ∃ W6 : World, W6 = wc := ⟨_, rfl⟩
            have hsd : Src W6.drew (B + 1) A c l j10 := hs10
            have sw1 : IntKind.i64.wrap (3 * (T : Int)) = 3 * (T : Int) := IntWalk.i64_in _ (by omega)
            go_upto_region 13 with fail
            go_cut [76] (fun s76 wx => ∃ (lo : Int) (j : Nat), -9 ≤ lo ∧ lo ≤ 27 ∧ wx.heap[ga]? = some (.cells #[.int .i64 (1 + x1), .int .i64 sr, .int .i64 ds, .int .i64 lo, .int .i64 0, .int .i64 wt] 30 (0, 0)) ∧ Src wx (B + 1) A c l j ∧ Kept [B + 1, ga] W6 wx)
            case first =>
              go_region_held3 (fun w' => w'.cell? ⟨gn, 0, none⟩ = some (.int .i64 T))
                (first | exact n0 | exact u1 | exact (cell_far' (by omega)).trans u1)
                ((go_at_call 31; refine (next_any (B + 1) A c l j10 _ W6.drew hsd (by omega) (by omega)).mono ?_; rintro e wn ⟨x2, jn, b0, b1, rfl, hsn, hgn⟩; have u1 := (grown_cell hgn (o := 0) (show gn < W6.heap.size by omega) (fun e => by injection e; omega)).trans n0; have u2 := (grown_cell hgn (o := 3) (show ga < W6.heap.size by omega) (fun e => by injection e; omega)).trans v4; have uf := (World.frozen?_of_block (a := ⟨ga, 3, none⟩) (hgn.block ga (show ga < W6.heap.size by omega) (fun e => by injection e; omega))).trans v5; have sw3 : IntKind.i64.wrap (x2 - (T : Int)) = x2 - (T : Int) := IntWalk.i64_in _ (by omega)))
              all_goals
                have HNX := Lib.hid ((hgn.block ga (show ga < W6.heap.size by omega) (fun e => by injection e; omega)).trans HBK.out)
                have zn : W6.heap.size ≤ wn.heap.size := hgn.size
                clear sw1 sw3
                go_wp2_with fail
                go_meet
                exact ⟨_, jn, by omega, by omega, set_block' _ HNX.out, hsn.belowAt (B := ga) ((Below.refl ga wn).setCell (p := ⟨ga, 3, none⟩) (Nat.le_refl ga) _) (by omega), (Kept.drewL (Kept.of_grown hgn (by simp))).setCell ga _ _ (.inl (by simp))⟩
            case rest =>
              obtain ⟨lo, j11, e0, e1, hblk, hs11, hk11⟩ := hcut
              have HK11 := Lib.hid (HK10.out.trans hk11 (fun k hk => two_m hk (by omega)))
              have HNC := Lib.hid ((hk11.block gn (by omega) (by simp; omega)).trans HNB.out)
              have zd := hk11.size
              have HBL2 := Lib.hid hblk
              clear n0 v4 v5 hsd hs10 sw1 HNB HBK HK10
              have n0 : wc.cell? ⟨gn, 0, none⟩ = some (.int .i64 T) := by rw [cell_of_row wc _ 0 _ _ _ HNC.out]; rfl
              have v3 : wc.cell? ⟨ga, 3, none⟩ = some (.int .i64 lo) := by rw [cell_of_row wc _ 3 _ _ _ hblk]; rfl
              have v4 : wc.cell? ⟨ga, 4, none⟩ = some (.int .i64 0) := by rw [cell_of_row wc _ 4 _ _ _ hblk]; rfl
              have v5 : wc.frozen? ⟨ga, 4, none⟩ = false := by simp [World.frozen?, hblk]
              clear hblk hk11
              obtain ⟨W7, rfl⟩ : ∃ W7 : World, W7 = wc := ⟨_, rfl⟩
              have hsd : Src W7.drew (B + 1) A c l j11 := hs11
              go_upto_region 14 with fail
              go_cut [84] (fun s84 wx => ∃ (hi : Int) (j : Nat), lo ≤ hi ∧ hi - lo < T ∧ wx.heap[ga]? = some (.cells #[.int .i64 (1 + x1), .int .i64 sr, .int .i64 ds, .int .i64 lo, .int .i64 hi, .int .i64 wt] 30 (0, 0)) ∧ Src wx (B + 1) A c l j ∧ Kept [B + 1, ga] W7 wx)
              case first =>
                go_region_held3 (fun w' => w'.cell? ⟨gn, 0, none⟩ = some (.int .i64 T) ∧ w'.cell? ⟨ga, 3, none⟩ = some (.int .i64 lo))
                  (first | exact ⟨n0, v3⟩ | exact ⟨u1, u3⟩ | exact ⟨(cell_far' (by omega)).trans u1, (cell_off (by simp)).trans u3⟩)
                  ((go_at_call 31; refine (next_any (B + 1) A c l j11 _ W7.drew hsd (by omega) (by omega)).mono ?_; rintro e wn ⟨x2, jn, b0, b1, rfl, hsn, hgn⟩; have u1 := (grown_cell hgn (o := 0) (show gn < W7.heap.size by omega) (fun e => by injection e; omega)).trans n0; have u3 := (grown_cell hgn (o := 3) (show ga < W7.heap.size by omega) (fun e => by injection e; omega)).trans v3; have u2 := (grown_cell hgn (o := 4) (show ga < W7.heap.size by omega) (fun e => by injection e; omega)).trans v4; have uf := (World.frozen?_of_block (a := ⟨ga, 4, none⟩) (hgn.block ga (show ga < W7.heap.size by omega) (fun e => by injection e; omega))).trans v5; have sw3 : IntKind.i64.wrap (lo + x2) = lo + x2 := IntWalk.i64_in _ (by omega)))
                all_goals
                  have HNX := Lib.hid ((hgn.block ga (show ga < W7.heap.size by omega) (fun e => by injection e; omega)).trans HBL2.out)
                  have zn : W7.heap.size ≤ wn.heap.size := hgn.size
                  clear sw3
                  go_wp2_with fail
                  go_meet
                  exact ⟨_, jn, by omega, by omega, set_block' _ HNX.out, hsn.belowAt (B := ga) ((Below.refl ga wn).setCell (p := ⟨ga, 4, none⟩) (Nat.le_refl ga) _) (by omega), (Kept.drewL (Kept.of_grown hgn (by simp))).setCell ga _ _ (.inl (by simp))⟩
              case rest =>
                obtain ⟨hi, j12, g0, g1, hblk, hs12, hk12⟩ := hcut
                have hK12 := HK11.out.trans hk12 (fun k hk => two_m hk (by omega))
                have hn12 := (hk12.block gn (by omega) (by simp; omega)).trans HNC.out
                have ze := hk12.size
                have hoc : ∀ q, (Value.slice An acts.length cn).ownBlock = some q → W5.heap.size ≤ q ∧ q < wr.heap.size := fun q hq => World.ownsRow.lt HO.out q hq
                have HOC := Lib.hid hoc
                have hwa : ga < wc.heap.size := by omega
                have hO12 := own_kept HO.out (hK12) (fun q hq => by have := hoc q hq; simp; omega)
                have HOKA := Lib.hid (show okS m T (Acy.mk (1 + x1) sr ds lo hi wt) from by simp only [okS, okA]; omega)
                have y0 : wc.cell? ⟨ga, 0, none⟩ = some (.int .i64 (1 + x1)) := by rw [cell_of_row wc _ 0 _ _ _ hblk]; rfl
                have y1 : wc.cell? ⟨ga, 1, none⟩ = some (.int .i64 sr) := by rw [cell_of_row wc _ 1 _ _ _ hblk]; rfl
                have y2 : wc.cell? ⟨ga, 2, none⟩ = some (.int .i64 ds) := by rw [cell_of_row wc _ 2 _ _ _ hblk]; rfl
                have y3 : wc.cell? ⟨ga, 3, none⟩ = some (.int .i64 lo) := by rw [cell_of_row wc _ 3 _ _ _ hblk]; rfl
                have y4 : wc.cell? ⟨ga, 4, none⟩ = some (.int .i64 hi) := by rw [cell_of_row wc _ 4 _ _ _ hblk]; rfl
                have y5 : wc.cell? ⟨ga, 5, none⟩ = some (.int .i64 wt) := by rw [cell_of_row wc _ 5 _ _ _ hblk]; rfl
                have m2 : wc.cell? ⟨gn, 2, none⟩ = some (.slice An acts.length cn) := by rw [cell_of_row wc _ 2 _ _ _ hn12]; rfl
                have mf : wc.frozen? ⟨gn, 2, none⟩ = false := by simp [World.frozen?, hn12]
                have HK12 := Lib.hid hK12
                have HN12 := Lib.hid hn12
                have HO12 := Lib.hid hO12
                clear n0 v3 v4 v5 hsd hs11 HNC HBL2 HK11 hblk hk12 hK12 hn12 hoc hO12 HO
                go_upto_region 15 with fail
                go_wp2_with (at_builtin; refine Stp.put ?_)
                refine Stp.out ?_
                refine wpList_append_rec rfl _ _ 23 rfl W5.heap.size 30 48 Try.underlying23 elemA _ acts rfl HO12.out [(Acy.mk (1 + x1) sr ds lo hi wt)] _ rfl 1 1 rfl rfl ?_ ?_ ?_ ?_
                · simp only [maxLen, List.length_cons, List.length_nil]; omega
                · simp only [List.length_cons, List.length_nil]; omega
                · omega
                intro v9 w9 ho9 hg9 hat9
                obtain ⟨A9, c9, rfl⟩ := ho9.form
                have hn9 := (hg9.block gn (by omega) (fun e => by have := HOC.out _ e.symm; omega)).trans HN12.out
                have x9 : w9.cell? ⟨gn, 2, none⟩ = some (.slice An acts.length cn) := by rw [cell_of_row w9 _ 2 _ _ _ hn9]; rfl
                have xf : w9.frozen? ⟨gn, 2, none⟩ = false := by simp [World.frozen?, hn9]
                have HOA := Lib.hid (ho9.setBelow (a := ⟨gn, 2, none⟩) (show gn < W5.heap.size by omega) (.slice A9 (acts ++ [(Acy.mk (1 + x1) sr ds lo hi wt)]).length c9))
                have HSB := Lib.hid (set_block' (o := 2) (.slice A9 (acts ++ [(Acy.mk (1 + x1) sr ds lo hi wt)]).length c9) hn9)
                have hs13 : Src w9 (B + 1) A c l j12 := hs12.grown hg9 (fun q hq => by have := HOC.out q hq; omega)
                have HSR := Lib.hid (hs13.belowAt (B := gn) ((Below.refl gn w9).setCell (p := ⟨gn, 2, none⟩) (Nat.le_refl gn) (.slice A9 (acts ++ [(Acy.mk (1 + x1) sr ds lo hi wt)]).length c9)) (by omega))
                have HKZ := Lib.hid (((HK.out.trans (HK12.out.more (M' := [B + 1, gn]) (fun k hk => .inl (by rw [List.mem_singleton.1 hk]; simp))) (fun k hk => .inl hk)).grownT hg9 (fun q hq => .inr (HOC.out q hq).1)).setCell gn 2 (.slice A9 (acts ++ [(Acy.mk (1 + x1) sr ds lo hi wt)]).length c9) (.inl (by simp)))
                generalize hL : (acts ++ [(Acy.mk (1 + x1) sr ds lo hi wt)]).length = L at *
                have HL := Lib.hid hL
                clear hL ho9 hg9 hat9 hn9 hs13 hs12 m2 mf y0 y1 y2 y3 y4 y5
                go_wp2_with fail
                obtain ⟨k', rfl⟩ : ∃ k', k = k' + 1 := ⟨k - 1, by omega⟩
                go_roundg k'
                case measure => omega
                case rel =>
                  refine ⟨k', acts ++ [(Acy.mk (1 + x1) sr ds lo hi wt)], j12, A9, c9, rfl, by go_num, by simp; omega, fun x hx => ?_, by rw [HL.out]; exact HSB.out, by rw [HL.out]; exact HOA.out, HSR.out, HKZ.out⟩
                  rcases List.mem_append.1 hx with hx | hx
                  · exact HOK.out x hx
                  · rw [List.mem_singleton.1 hx]; exact HOKA.out
        · have HG := Lib.hid hgo
          have n0 : wr.cell? ⟨gn, 0, none⟩ = some (.int .i64 T) := by rw [cell_of_row wr _ 0 _ _ _ hn]; rfl
          have n1 : wr.cell? ⟨gn, 1, none⟩ = some (.slice Ae m ce) := by rw [cell_of_row wr _ 1 _ _ _ hn]; rfl
          have n2 : wr.cell? ⟨gn, 2, none⟩ = some (.slice An acts.length cn) := by rw [cell_of_row wr _ 2 _ _ _ hn]; rfl
          have hrB := (hk.block B (by omega) (by simp; omega)).trans HR5.out
          have q0 : wr.cell? ⟨B, 0, none⟩ = some (.int .i64 0) := by rw [cell_of_row wr _ 0 _ _ _ hrB]; rfl
          have q1 : wr.cell? ⟨B, 1, none⟩ = some (.slice none 0 0) := by rw [cell_of_row wr _ 1 _ _ _ hrB]; rfl
          have q2 : wr.cell? ⟨B, 2, none⟩ = some (.slice none 0 0) := by rw [cell_of_row wr _ 2 _ _ _ hrB]; rfl
          have y0 : wr.frozen? ⟨B, 0, none⟩ = false := by simp [World.frozen?, hrB]
          have y1 : wr.frozen? ⟨B, 1, none⟩ = false := by simp [World.frozen?, hrB]
          have y2 : wr.frozen? ⟨B, 2, none⟩ = false := by simp [World.frozen?, hrB]
          have hres := set_block' (o := 2) (.slice An acts.length cn) (set_block' (o := 1) (.slice Ae m ce) (set_block' (o := 0) (.int .i64 T) hrB))
          have HRES := Lib.hid hres
          have HK := Lib.hid hk
          have HO6 := Lib.hid ho
          have HOK := Lib.hid hok
          clear hres hk ho hrB hn hs hok hgo
          have hd : decide ((0 : Int) < (k : Int) ∧ (1 : Int) < (m : Int)) = false := decide_eq_false (fun q => HG.out (by omega))
          by_cases h0 : 0 < k
          · have h1 : ¬ 1 < m := fun q => HG.out ⟨h0, q⟩
            clear hd
            go_wp2_with fail
            refine bodyPost_ret (results_cell_row rfl _ _ B 25 _ _ _ rfl HRES.out Try.underlying25 rfl (by kernel_rfl)) rfl ?_
            have zk := HK.out.size
            have hE := own_kept HO5.out HK.out (fun q hq => by have := HOB.out q hq; simp; omega)
            refine ⟨T, m, Ae, ce, An, cn, ev, acts, rfl, HM.out, ?_, ?_, ⟨netB_iff.2 ⟨⟨by omega, by omega, by omega, by omega⟩, fun x hx => (HOK.out x hx).1⟩, hT2.1, hT2.2, hmN.1, hmN.2, by omega⟩, ?_, fun x hx => (HOK.out x hx).2⟩
            · rw [HB0.out]
              exact (((hE.setBelow (a := ⟨B, _, none⟩) (show B < gn + 1 by omega) _).setBelow (a := ⟨B, _, none⟩) (show B < gn + 1 by omega) _).setBelow (a := ⟨B, _, none⟩) (show B < gn + 1 by omega) _).rebase (by omega)
            · rw [HB0.out]
              exact (((HO6.out.setBelow (a := ⟨B, _, none⟩) (show B < W5.heap.size by omega) _).setBelow (a := ⟨B, _, none⟩) (show B < W5.heap.size by omega) _).setBelow (a := ⟨B, _, none⟩) (show B < W5.heap.size by omega) _).rebase (by omega)
            · rw [HB0.out]
              exact (((HB5.out.trans (HK.out.below (fun k hk => by simp at hk; omega) (by omega))).setCell (p := ⟨B, _, none⟩) (Nat.le_refl B) _).setCell (p := ⟨B, _, none⟩) (Nat.le_refl B) _).setCell (p := ⟨B, _, none⟩) (Nat.le_refl B) _
          · clear hd
            go_wp2_with fail
            refine bodyPost_ret (results_cell_row rfl _ _ B 25 _ _ _ rfl HRES.out Try.underlying25 rfl (by kernel_rfl)) rfl ?_
            have zk := HK.out.size
            have hE := own_kept HO5.out HK.out (fun q hq => by have := HOB.out q hq; simp; omega)
            refine ⟨T, m, Ae, ce, An, cn, ev, acts, rfl, HM.out, ?_, ?_, ⟨netB_iff.2 ⟨⟨by omega, by omega, by omega, by omega⟩, fun x hx => (HOK.out x hx).1⟩, hT2.1, hT2.2, hmN.1, hmN.2, by omega⟩, ?_, fun x hx => (HOK.out x hx).2⟩
            · rw [HB0.out]
              exact (((hE.setBelow (a := ⟨B, _, none⟩) (show B < gn + 1 by omega) _).setBelow (a := ⟨B, _, none⟩) (show B < gn + 1 by omega) _).setBelow (a := ⟨B, _, none⟩) (show B < gn + 1 by omega) _).rebase (by omega)
            · rw [HB0.out]
              exact (((HO6.out.setBelow (a := ⟨B, _, none⟩) (show B < W5.heap.size by omega) _).setBelow (a := ⟨B, _, none⟩) (show B < W5.heap.size by omega) _).setBelow (a := ⟨B, _, none⟩) (show B < W5.heap.size by omega) _).rebase (by omega)
            · rw [HB0.out]
              exact (((HB5.out.trans (HK.out.below (fun k hk => by simp at hk; omega) (by omega))).setCell (p := ⟨B, _, none⟩) (Nat.le_refl B) _).setCell (p := ⟨B, _, none⟩) (Nat.le_refl B) _).setCell (p := ⟨B, _, none⟩) (Nat.le_refl B) _

theorem network_any (A : Option Addr) (c : Nat) (l : List Int) (w : World) (h : ArgI w A c l) : Calls Try.prog 12 #[.slice A l.length c] w (NetPost w) :=
  (networkS_any A c l w h).mono fun _ _ ⟨T, m, E, cE, A', cA, ev, acts, h1, h2, h3, h4, h5, h6, _⟩ => ⟨T, m, E, cE, A', cA, ev, acts, h1, h2, h3, h4, h5, h6⟩

end Go.Proofs.Ytbhjnihcmfagjaa
