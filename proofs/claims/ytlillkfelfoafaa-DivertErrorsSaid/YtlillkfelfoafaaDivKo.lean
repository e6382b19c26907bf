/-
  Contracts of keep2's option, Option, OneWays and Jobs.
-/
import Derived.Test.YtlillkfelfoafaaDivMd
import Derived.Test.YtlillkfelfoafaaDivA
import Derived.Test.YtlillkfelfoafaaOrd
import Derived.Test.YtlillkfelfoafaaStp
import Derived.Test.YtlillkfelfoafaaSource
set_option linter.unusedVariables false
set_option linter.unusedSimpArgs false
namespace Go.Proofs.Ytlillkfelfoafaa
open Go.RowKit RP

theorem infoSte : (Try.prog.info? 94).map (fun i => (i.zero, i.size, i.bytes)) = some (some (.agg #[.int .i64 0, .int .i64 0]), 2, 16) := by kernel_rfl
theorem elemSte : ElemOk Try.prog encSte 2 94 16 :=
  ⟨fun _ => rfl, by omega, fun x v hv => by simp [encSte] at hv; rcases hv with rfl | rfl <;> rfl, by
    obtain ⟨i, hi, h0, h1, h2⟩ := info_parts infoSte
    exact ⟨i, _, hi, h0, h1, h2, rfl⟩⟩
theorem infoOp : (Try.prog.info? 28).map (fun i => (i.zero, i.size, i.bytes)) = some (some (.agg #[.slice none 0 0, .slice none 0 0]), 2, 48) := by kernel_rfl
theorem elemOp : ElemOk Try.prog encOp 2 28 48 :=
  ⟨fun _ => rfl, by omega, fun x v hv => by simp [encOp] at hv; rcases hv with rfl | rfl <;> rfl, by
    obtain ⟨i, hi, h0, h1, h2⟩ := info_parts infoOp
    exact ⟨i, _, hi, h0, h1, h2, rfl⟩⟩
theorem infoJb : (Try.prog.info? 41).map (fun i => (i.zero, i.size, i.bytes)) = some (some (.agg #[.int .i64 0, .slice none 0 0]), 2, 32) := by kernel_rfl
theorem elemJb : ElemOk Try.prog encJb 2 41 32 :=
  ⟨fun _ => rfl, by omega, fun x v hv => by simp [encJb] at hv; rcases hv with rfl | rfl <;> rfl, by
    obtain ⟨i, hi, h0, h1, h2⟩ := info_parts infoJb
    exact ⟨i, _, hi, h0, h1, h2, rfl⟩⟩
theorem set_size (w : World) (a : Addr) (v : Value) : (w.setCell a v).heap.size = w.heap.size := by simp [World.setCell]
theorem set_grown (w : World) (g o : Nat) (v : Value) : w.grownBy (w.setCell ⟨g, o, none⟩ v) (some g) := ⟨rfl, rfl, rfl, by rw [set_size]; exact Nat.le_refl _, fun k _ hn => Below.heap_setCell w _ _ k (fun e => hn (by rw [e]))⟩
theorem grown_trans {W w1 w2 : World} {gs : Nat} {row : Option Nat} (h : W.grownBy w1 (some gs)) (hg : w1.grownBy w2 row) (hr : ∀ k, row = some k → k = gs ∨ W.heap.size ≤ k) : W.grownBy w2 (some gs) :=
  ⟨hg.os.trans h.os, hg.tape.trans h.tape, hg.output.trans h.output, Nat.le_trans h.size hg.size, fun k hk hn => (hg.block k (Nat.lt_of_lt_of_le hk h.size) (fun e => by
    rcases hr k e.symm with q | q
    · exact hn (by rw [q])
    · omega)).trans (h.block k hk hn)⟩
theorem own_apart {α β : Type} {enc : α → List Value} {enc' : β → List Value} {k k' : Nat} {e e' : TypeId} {w : World} {b b' : Nat} {v v' : Value} {l : List α} {l' : List β} (h : Own enc k e w b v l) (h' : Own enc' k' e' w b' v' l') (hne : e ≠ e') :
    ∀ g, v.ownBlock = some g → v'.ownBlock ≠ some g := by
  intro g hg hg'
  rcases h.2 with ⟨rfl, _⟩ | ⟨g1, cap, cur, rfl, _, hh, _⟩
  · simp [Value.ownBlock] at hg
  · rcases h'.2 with ⟨rfl, _⟩ | ⟨g2, cap', cur', rfl, _, hh', _⟩
    · simp [Value.ownBlock] at hg'
    · simp [Value.ownBlock] at hg hg'
      subst hg hg'
      rw [hh] at hh'
      injection hh' with q
      injection q with _ q2
      exact hne q2
theorem Own.keptR {α β : Type} {enc : α → List Value} {enc' : β → List Value} {k k' : Nat} {e e' : TypeId} {w w' : World} {b b' : Nat} {v v' : Value} {l : List α} {l' : List β} (h : Own enc k e w b v l) (h' : Own enc' k' e' w b' v' l') (hne : e ≠ e') (hg : w.grownBy w' v'.ownBlock) : Own enc k e w' b v l :=
  h.kept hg (by
    cases hb : v.ownBlock with
    | none => exact .inl rfl
    | some q => exact .inr fun e2 => own_apart h h' hne q hb e2.symm)
theorem Own.keptS {α : Type} {enc : α → List Value} {k : Nat} {e : TypeId} {w w' : World} {b gs : Nat} {v : Value} {l : List α} (h : Own enc k e w b v l) (hlt : gs < b) (hg : w.grownBy w' (some gs)) : Own enc k e w' b v l :=
  h.kept hg (.inr fun e2 => by have := (World.ownsRow.lt h _ e2).1; omega)

/-- An option whose two lists are the call's own. -/
structure OOk (w : World) (b : Nat) (o : OptM) : Prop where
  st : Own encSte 2 94 w b o.sv.v o.steps
  oc : Own encO 3 46 w b o.ov.v o.occs
theorem OOk.rebase {w : World} {b b' : Nat} {o : OptM} (h : OOk w b o) (hb : b' ≤ b) : OOk w b' o := ⟨h.st.rebase hb, h.oc.rebase hb⟩
theorem OOk.keptS {w w' : World} {b gs : Nat} {o : OptM} (h : OOk w b o) (hlt : gs < b) (hg : w.grownBy w' (some gs)) : OOk w' b o := ⟨h.st.keptS hlt hg, h.oc.keptS hlt hg⟩
theorem OOk.setBelow {w : World} {b : Nat} {o : OptM} (h : OOk w b o) {a : Addr} (ha : a.block < b) (u : Value) : OOk (w.setCell a u) b o := ⟨h.st.setBelow ha u, h.oc.setBelow ha u⟩
theorem OOk.keptR {β : Type} {enc' : β → List Value} {k' : Nat} {e' : TypeId} {w w' : World} {b b' : Nat} {v' : Value} {l' : List β} {o : OptM} (h : OOk w b o) (h' : Own enc' k' e' w b' v' l') (h1 : 94 ≠ e') (h2 : 46 ≠ e') (hg : w.grownBy w' v'.ownBlock) : OOk w' b o :=
  ⟨h.st.keptR h' h1 hg, h.oc.keptR h' h2 hg⟩
theorem own_len {α : Type} {enc : α → List Value} {k : Nat} {e : TypeId} {w : World} {b : Nat} {s : Sv} {l : List α} (h : Own enc k e w b s.v l) : s.n = l.length := by
  obtain ⟨A, c, q⟩ := h.form
  unfold Sv.v at q
  injection q
theorem OOk.olst {w : World} {b : Nat} {o : OptM} (h : OOk w b o) : OLst w w.heap.size o := by
  have m1 := h.st.maxLen
  have m2 := h.oc.maxLen
  unfold maxLen at m1 m2
  exact ⟨own_len h.st, own_len h.oc, Own.lst encSte_len h.st, Own.lst encO_len h.oc, by omega, by omega⟩
structure JOk (w : World) (b : Nat) (j : JobM) : Prop where
  op : Own encOp 2 28 w b j.jv.v j.opts
  each : ∀ o ∈ j.opts, OOk w b o
theorem JOk.rebase {w : World} {b b' : Nat} {j : JobM} (h : JOk w b j) (hb : b' ≤ b) : JOk w b' j := ⟨h.op.rebase hb, fun o ho => (h.each o ho).rebase hb⟩
theorem JOk.keptS {w w' : World} {b gs : Nat} {j : JobM} (h : JOk w b j) (hlt : gs < b) (hg : w.grownBy w' (some gs)) : JOk w' b j := ⟨h.op.keptS hlt hg, fun o ho => (h.each o ho).keptS hlt hg⟩
theorem JOk.keptR {β : Type} {enc' : β → List Value} {k' : Nat} {e' : TypeId} {w w' : World} {b b' : Nat} {v' : Value} {l' : List β} {j : JobM} (h : JOk w b j) (h' : Own enc' k' e' w b' v' l') (h0 : 28 ≠ e') (h1 : 94 ≠ e') (h2 : 46 ≠ e') (hg : w.grownBy w' v'.ownBlock) : JOk w' b j :=
  ⟨h.op.keptR h' h0 hg, fun o ho => (h.each o ho).keptR h' h1 h2 hg⟩
theorem JOk.jlst {w : World} {b : Nat} {j : JobM} (h : JOk w b j) : JLst w w.heap.size j := by
  have m1 := h.op.maxLen
  unfold maxLen at m1
  exact ⟨own_len h.op, Own.lst encOp_len h.op, fun o ho => (h.each o ho).olst, by omega⟩

/-- The state of option's loop: the option's block gt, the result's block gr, the source's block gs. -/
structure OpSt (W wr : World) (gs gr gt : Nat) (A : Option Addr) (c : Nat) (l : List Int) (j : Nat) (sv ov : Value) (st : List Ste) (os : List Occ) : Prop where
  blk : wr.heap[gt]? = some (.cells #[sv, ov] 28 (0, 0))
  res : wr.heap[gr]? = some (.cells #[.slice none 0 0, .slice none 0 0] 28 (0, 0))
  ste : Own encSte 2 94 wr (gt + 1) sv st
  occ : Own encO 3 46 wr (gt + 1) ov os
  src : Src wr gs A c l j
  kept : W.grownBy wr (some gs)
  lt : gt < wr.heap.size
  gtw : gt = gr + 1
  grw : gr = W.heap.size
  gts : gs < gr
section
variable {W wr wx : World} {gs gr gt : Nat} {A : Option Addr} {c : Nat} {l : List Int} {j : Nat} {sv ov : Value} {st : List Ste} {os : List Occ}
theorem OpSt.cells (h : OpSt W wr gs gr gt A c l j sv ov st os) : wr.cell? ⟨gt, 0, none⟩ = some sv ∧ wr.cell? ⟨gt, 1, none⟩ = some ov ∧ wr.frozen? ⟨gt, 0, none⟩ = false ∧ wr.frozen? ⟨gt, 1, none⟩ = false :=
  ⟨by rw [cell_of_row wr _ 0 _ _ _ h.blk]; rfl, by rw [cell_of_row wr _ 1 _ _ _ h.blk]; rfl, by simp [World.frozen?, h.blk], by simp [World.frozen?, h.blk]⟩
theorem OpSt.drew (h : OpSt W wr gs gr gt A c l j sv ov st os) : OpSt W wr.drew gs gr gt A c l j sv ov st os :=
  ⟨h.blk, h.res, h.ste.drew, h.occ.drew, h.src.drewN 1, ⟨h.kept.os, h.kept.tape, h.kept.output, h.kept.size, h.kept.block⟩, h.lt, h.gtw, h.grw, h.gts⟩
theorem OpSt.next {j3 : Nat} (h : OpSt W wr gs gr gt A c l j sv ov st os) (hs : Src wx gs A c l j3) (hg : wr.grownBy wx (some gs)) : OpSt W wx gs gr gt A c l j3 sv ov st os := by
  have h1 := h.gts
  have h2 := h.gtw
  have h3 := h.lt
  exact ⟨(hg.block gt h.lt (fun e => by injection e with e; omega)).trans h.blk, (hg.block gr (by omega) (fun e => by injection e with e; omega)).trans h.res, h.ste.keptS (by omega) hg, h.occ.keptS (by omega) hg, hs,
    grown_trans h.kept hg (fun k e => by injection e with e; exact .inl e.symm), by have := hg.size; omega, h.gtw, h.grw, h.gts⟩
/-- New blocks above. -/
theorem OpSt.more {o : Obj} (h : OpSt W wr gs gr gt A c l j sv ov st os) : OpSt W (wr.alloc o) gs gr gt A c l j sv ov st os := by
  have ba := belA wr o
  have h2 := h.gtw
  have h3 := h.lt
  exact ⟨(ba.block gt h3).trans h.blk, (ba.block gr (by omega)).trans h.res, h.ste.alloc _, h.occ.alloc _, h.src.below ba, grown_trans h.kept (grownBy_of_below ba none) (fun k e => by cases e), by simp; omega, h.gtw, h.grw, h.gts⟩
theorem OpSt.putS {v6 : Value} {st' : List Ste} (h : OpSt W wr gs gr gt A c l j sv ov st os) (ho : Own encSte 2 94 wx (gt + 1) v6 st') (hg : wr.grownBy wx sv.ownBlock) :
    wx.heap[gt]? = some (.cells #[sv, ov] 28 (0, 0)) ∧ OpSt W (wx.setCell ⟨gt, 0, none⟩ v6) gs gr gt A c l j v6 ov st' os := by
  have h1 := h.gts
  have h2 := h.gtw
  have h3 := h.lt
  have h4 := h.grw
  have hq : ∀ q, sv.ownBlock = some q → gt + 1 ≤ q := fun q e => (World.ownsRow.lt h.ste q e).1
  have hn := (hg.block gt h.lt (fun e => by have := hq _ e.symm; omega)).trans h.blk
  have hr := (hg.block gr (by omega) (fun e => by have := hq _ e.symm; omega)).trans h.res
  have ha := h.occ.keptR h.ste (by decide) hg
  refine ⟨hn, set_block' (o := 0) v6 hn, (Below.heap_setCell wx ⟨gt, 0, none⟩ v6 gr (show gr ≠ gt by omega)).trans hr, ho.setBelow (a := ⟨gt, 0, none⟩) (Nat.lt_succ_self gt) _, ha.setBelow (a := ⟨gt, 0, none⟩) (Nat.lt_succ_self gt) _,
    (h.src.grown hg (fun q e => by have := hq _ e; omega)).belowAt (B := gt) ((Below.refl gt wx).setCell (p := ⟨gt, 0, none⟩) (Nat.le_refl gt) _) (by omega),
    grown_trans (grown_trans h.kept hg (fun q e => .inr (by have := hq _ e; omega))) (set_grown wx gt 0 v6) (fun q e => by injection e with e; exact .inr (by omega)), by rw [set_size]; have := hg.size; omega, h.gtw, h.grw, h.gts⟩
theorem OpSt.putO {v6 : Value} {os' : List Occ} (h : OpSt W wr gs gr gt A c l j sv ov st os) (ho : Own encO 3 46 wx (gt + 1) v6 os') (hg : wr.grownBy wx ov.ownBlock) :
    wx.heap[gt]? = some (.cells #[sv, ov] 28 (0, 0)) ∧ OpSt W (wx.setCell ⟨gt, 1, none⟩ v6) gs gr gt A c l j sv v6 st os' := by
  have h1 := h.gts
  have h2 := h.gtw
  have h3 := h.lt
  have h4 := h.grw
  have hq : ∀ q, ov.ownBlock = some q → gt + 1 ≤ q := fun q e => (World.ownsRow.lt h.occ q e).1
  have hn := (hg.block gt h.lt (fun e => by have := hq _ e.symm; omega)).trans h.blk
  have hr := (hg.block gr (by omega) (fun e => by have := hq _ e.symm; omega)).trans h.res
  have ha := h.ste.keptR h.occ (by decide) hg
  refine ⟨hn, set_block' (o := 1) v6 hn, (Below.heap_setCell wx ⟨gt, 1, none⟩ v6 gr (show gr ≠ gt by omega)).trans hr, ha.setBelow (a := ⟨gt, 1, none⟩) (Nat.lt_succ_self gt) _, ho.setBelow (a := ⟨gt, 1, none⟩) (Nat.lt_succ_self gt) _,
    (h.src.grown hg (fun q e => by have := hq _ e; omega)).belowAt (B := gt) ((Below.refl gt wx).setCell (p := ⟨gt, 1, none⟩) (Nat.le_refl gt) _) (by omega),
    grown_trans (grown_trans h.kept hg (fun q e => .inr (by have := hq _ e; omega))) (set_grown wx gt 1 v6) (fun q e => by injection e with e; exact .inr (by omega)), by rw [set_size]; have := hg.size; omega, h.gtw, h.grw, h.gts⟩
end

def OptionPost (w : World) (gs : Nat) (A : Option Addr) (c : Nat) (l : List Int) (e : Ending) (w' : World) : Prop :=
  ∃ (o : OptM) (j : Nat), e = .returned o.v ∧ OOk w' w.heap.size o ∧ MadeOp 6 o.steps o.occs ∧ Src w' gs A c l j ∧ w.grownBy w' (some gs)
set_option maxRecDepth 100000 in
set_option maxHeartbeats 8000000 in
theorem option_any (gs : Nat) (A : Option Addr) (c : Nat) (l : List Int) (j : Nat) (w : World) (h : Src w gs A c l j) : Calls Try.prog 40 #[.pointer (some ⟨gs, 0, none⟩)] w (OptionPost w gs A c l) := by
  have hlt0 := h.lt
  have b1 := belA w (.cells #[.slice none 0 0, .slice none 0 0] 28)
  have b2 := belA (w.alloc (.cells #[.slice none 0 0, .slice none 0 0] 28)) (.cells #[.slice none 0 0, .slice none 0 0] 28)
  have n1 := heap_alloc_new w (.cells #[.slice none 0 0, .slice none 0 0] 28)
  have z1 : (w.alloc (.cells #[.slice none 0 0, .slice none 0 0] 28)).heap.size = w.heap.size + 1 := by simp
  have n2 := heap_alloc_new (w.alloc (.cells #[.slice none 0 0, .slice none 0 0] 28)) (.cells #[.slice none 0 0, .slice none 0 0] 28)
  have hst0 : OpSt w ((w.alloc (.cells #[.slice none 0 0, .slice none 0 0] 28)).alloc (.cells #[.slice none 0 0, .slice none 0 0] 28)) gs w.heap.size (w.heap.size + 1) A c l j (.slice none 0 0) (.slice none 0 0) [] [] := by
    refine ⟨by rw [z1] at n2; exact n2, (b2.block w.heap.size (by omega)).trans n1, Own.nil _ _ _ _ _, Own.nil _ _ _ _ _, (h.below b1).below b2, grown_trans (grownBy_of_below b1 (some gs)) (grownBy_of_below b2 none) (fun _ e => by cases e), by simp, rfl, rfl, hlt0⟩
  clear b1 b2 n1 n2 h
  go_enter Try.func40, Try.ntmps40
  go_upto_region 2 with fail
  clear z1
  generalize hgr : w.heap.size = gr at *
  generalize hgt : gr + 1 = gt at *
  have HGR := Lib.hid hgr
  have HGT := Lib.hid hgt
  clear hgr hgt
  generalize (w.alloc (.cells #[.slice none 0 0, .slice none 0 0] 28)).alloc (.cells #[.slice none 0 0, .slice none 0 0] 28) = w0 at *
  go_wp2_with fail
  go_loopg [4, 5] 6 (fun g s4 s5 wr => ∃ (k j : Nat) (sv ov : Value) (st : List Ste) (os : List Occ), k ≤ 6 ∧ g = 6 - k ∧ s4 = .int .i64 k ∧ MadeOp k st os ∧ OpSt w wr gs gr gt A c l j sv ov st os)
  case atStart => exact ⟨0, j, _, _, [], [], by omega, by omega, rfl, MadeOp.nil, hst0⟩
  case round =>
    obtain ⟨k, j, sv, ov, st, os, hk, hg, rfl, hm, hst⟩ := hrel
    have HM := Lib.hid hm
    clear hm hst0
    by_cases hlt : k < 6
    · go_wp2_with fail
      refine (next_any gs A c l j 3 wr hst.src (by omega) (by omega)).mono ?_
      rintro e w3 ⟨r0, j3, r00, r01, rfl, hs3, hg3⟩
      have hst3 := hst.next hs3 hg3
      clear hst hs3 hg3
      by_cases hz : r0 = 0
      · go_wp2_with fail
        go_roundg (6 - (k + 1))
        case measure => omega
        case rel => exact ⟨k + 1, j3, sv, ov, st, os, by omega, rfl, by go_num, HM.out.skip, hst3⟩
      · go_upto_region 6 with fail
        obtain ⟨sA, sC, rfl⟩ := hst3.ste.form
        have h3 := hst3.drew
        obtain ⟨c0, c1, f0, f1⟩ := h3.cells
        clear hst3
        have hsl : st.length ≤ 6 := by have := HM.out.sl; omega
        have hol : os.length ≤ 6 := by have := HM.out.ol; omega
        have hb : ∀ q, (Value.slice sA st.length sC).ownBlock = some q → gt + 1 ≤ q := fun q e => (World.ownsRow.lt h3.ste q e).1
        refine wp_region_until (S := fun w' => w'.cell? ⟨gt, 0, none⟩ = some (.slice sA st.length sC)) 9 (by kernel_rfl) ?_
        have h0 : w3.drew.cell? ⟨gt, 0, none⟩ = some (.slice sA st.length sC) := c0
        refine until_take (i := 0) (v := ?_) rfl (by kernel_rfl) (by kernel_rfl) (by kernel_rfl) (by kernel_rfl) (fun _ _ _ h => h) (Or.inl ⟨by rfl, ?_⟩) h0 ?_
        rotate_left
        · intro u hSu
          (try dsimp only at hSu)
          go_simp
          try rfl
        simp only [Act.put, List.setIfInBounds_toArray, List.set_cons_zero, List.set_cons_succ]
        refine until_take (i := 1) (v := ?_) rfl (by kernel_rfl) (by kernel_rfl) (by kernel_rfl) (by kernel_rfl) (fun _ _ _ h => h) (Or.inl ⟨by rfl, ?_⟩) h0 ?_
        rotate_left
        · intro u hSu
          (try dsimp only at hSu)
          go_simp
          try rfl
        simp only [Act.put, List.setIfInBounds_toArray, List.set_cons_zero, List.set_cons_succ]
        refine until_take (i := 2) (v := ?_) rfl (by kernel_rfl) (by kernel_rfl) (by kernel_rfl) (by kernel_rfl) (fun _ _ _ h => h) (Or.inl ⟨by rfl, ?_⟩) h0 ?_
        rotate_left
        · intro u hSu
          (try dsimp only at hSu)
          go_simp
          try rfl
        simp only [Act.put, List.setIfInBounds_toArray, List.set_cons_zero, List.set_cons_succ]
        refine until_take (i := 3) (v := ?_) rfl (by kernel_rfl) (by kernel_rfl) (by kernel_rfl) (by kernel_rfl) (fun _ _ _ h => h) (Or.inl ⟨by rfl, ?_⟩) h0 ?_
        rotate_left
        · intro u hSu
          (try dsimp only at hSu)
          go_simp
          try rfl
        simp only [Act.put, List.setIfInBounds_toArray, List.set_cons_zero, List.set_cons_succ]
        refine until_one (i := 4) rfl (by kernel_rfl) (fun K hK => ?_)
        go_simp
        refine ((next_any gs A c l j3 2 w3.drew h3.src (by omega) (by omega))).mono ?_
        rintro e w4 ⟨d, j4, d0, d1, rfl, hs4, hg4⟩
        have h4 := h3.next hs4 hg4
        obtain ⟨m5, _, _, _⟩ := h4.cells
        clear h3 hs4 hg4 c0 c1 f0 f1
        refine hK.out _ _ (fun _ => m5) ?_
        clear hK K
        replace h0 := m5
        try simp only [Act.put, List.setIfInBounds_toArray, List.set_cons_zero, List.set_cons_succ]
        refine until_take (i := 5) (v := ?_) rfl (by kernel_rfl) (by kernel_rfl) (by kernel_rfl) (by kernel_rfl) (fun _ _ _ h => h) (Or.inl ⟨by rfl, ?_⟩) h0 ?_
        rotate_left
        · intro u hSu
          (try dsimp only at hSu)
          go_simp
          try rfl
        simp only [Act.put, List.setIfInBounds_toArray, List.set_cons_zero, List.set_cons_succ]
        refine until_one (i := 6) rfl (by kernel_rfl) (fun K hK => ?_)
        go_simp
        have h5 := h4.more (o := .cells #[.int .i64 k, .int .i64 d] 94)
        have hn5 := heap_alloc_new w4 (.cells #[.int .i64 k, .int .i64 d] 94)
        obtain ⟨m6, _, _, _⟩ := h5.cells
        have h5l := h5.lt
        clear h4 m5
        refine hK.out _ _ (fun _ => m6) ?_
        clear hK K
        replace h0 := m6
        try simp only [Act.put, List.setIfInBounds_toArray, List.set_cons_zero, List.set_cons_succ]
        refine until_one (i := 7) rfl (by kernel_rfl) (fun K hK => ?_)
        refine step_append_blk (by rfl) _ _ 25 (by rfl) (gt + 1) 94 16 Try.underlying25 elemSte (.slice sA st.length sC) st (by rfl) h5.ste [((k : Int), d)] w4.heap.size 1 1 (by rfl) (by rfl) 94 hn5 (by simp only [Go.maxLen, List.length_cons, List.length_nil]; omega) (by simp only [List.length_cons, List.length_nil]; omega) (by omega) ?_
        intro v8 w8 ho8 hg8 hat8
        obtain ⟨A8, c8, rfl⟩ := ho8.form
        obtain ⟨hn8, h8⟩ := h5.putS ho8 hg8
        have m9 : w8.cell? ⟨gt, 0, none⟩ = some (.slice sA st.length sC) := by rw [cell_of_row w8 _ 0 _ _ _ hn8]; rfl
        have f9 : w8.frozen? ⟨gt, 0, none⟩ = false := by simp [World.frozen?, hn8]
        have H8 := Lib.hid h8
        clear h8 h5 hn5 ho8 hg8 hat8 m6 hn8
        generalize hL : (st ++ [((k : Int), d)]).length = L at *
        have HL := Lib.hid hL
        clear hL
        refine hK.out _ _ (fun _ => m9) ?_
        clear hK K
        replace h0 := m9
        try simp only [Act.put, List.setIfInBounds_toArray, List.set_cons_zero, List.set_cons_succ]
        refine until_take (i := 8) (v := ?_) rfl (by kernel_rfl) (by kernel_rfl) (by kernel_rfl) (by kernel_rfl) (fun _ _ _ h => h) (Or.inl ⟨by rfl, ?_⟩) h0 ?_
        rotate_left
        · intro u hSu
          (try dsimp only at hSu)
          go_simp
          try rfl
        simp only [Act.put, List.setIfInBounds_toArray, List.set_cons_zero, List.set_cons_succ]
        refine until_one (i := 9) rfl (by kernel_rfl) (fun K hK => ?_)
        go_simp
        refine hK.out _ _ (fun q => absurd rfl q) ?_
        clear hK K m9 f9
        refine until_done (by kernel_rfl) ?_ _
        generalize w8.setCell ⟨gt, 0, none⟩ (.slice A8 L c8) = w9 at *
        have h9 := H8.out
        clear H8 h0
        go_wp2_with fail
        refine (next_any gs A c l j4 20 w9 h9.src (by omega) (by omega)).mono ?_
        rintro e w10 ⟨r2, j10, r20, r21, rfl, hs10, hg10⟩
        have h10 := h9.next hs10 hg10
        clear h9 hs10 hg10
        obtain ⟨f, hf⟩ : ∃ f, f = r2 - 5 := ⟨_, rfl⟩
        go_upto_region 8 with fail
        rw [← hf]
        have hf0 : -5 ≤ f := by omega
        have hf1 : f ≤ 14 := by omega
        clear hf
        obtain ⟨oA, oC, rfl⟩ := h10.occ.form
        have h11 := h10.drew
        obtain ⟨c0, c1, f0, f1⟩ := h11.cells
        clear h10
        refine wp_region_until (S := fun w' => w'.cell? ⟨gt, 1, none⟩ = some (.slice oA os.length oC)) 13 (by kernel_rfl) ?_
        have h0 : w10.drew.cell? ⟨gt, 1, none⟩ = some (.slice oA os.length oC) := c1
        refine until_take (i := 0) (v := ?_) rfl (by kernel_rfl) (by kernel_rfl) (by kernel_rfl) (by kernel_rfl) (fun _ _ _ h => h) (Or.inl ⟨by rfl, ?_⟩) h0 ?_
        rotate_left
        · intro u hSu
          (try dsimp only at hSu)
          go_simp
          try rfl
        simp only [Act.put, List.setIfInBounds_toArray, List.set_cons_zero, List.set_cons_succ]
        refine until_take (i := 1) (v := ?_) rfl (by kernel_rfl) (by kernel_rfl) (by kernel_rfl) (by kernel_rfl) (fun _ _ _ h => h) (Or.inl ⟨by rfl, ?_⟩) h0 ?_
        rotate_left
        · intro u hSu
          (try dsimp only at hSu)
          go_simp
          try rfl
        simp only [Act.put, List.setIfInBounds_toArray, List.set_cons_zero, List.set_cons_succ]
        refine until_take (i := 2) (v := ?_) rfl (by kernel_rfl) (by kernel_rfl) (by kernel_rfl) (by kernel_rfl) (fun _ _ _ h => h) (Or.inl ⟨by rfl, ?_⟩) h0 ?_
        rotate_left
        · intro u hSu
          (try dsimp only at hSu)
          go_simp
          try rfl
        simp only [Act.put, List.setIfInBounds_toArray, List.set_cons_zero, List.set_cons_succ]
        refine until_take (i := 3) (v := ?_) rfl (by kernel_rfl) (by kernel_rfl) (by kernel_rfl) (by kernel_rfl) (fun _ _ _ h => h) (Or.inl ⟨by rfl, ?_⟩) h0 ?_
        rotate_left
        · intro u hSu
          (try dsimp only at hSu)
          go_simp
          try rfl
        simp only [Act.put, List.setIfInBounds_toArray, List.set_cons_zero, List.set_cons_succ]
        refine until_take (i := 4) (v := ?_) rfl (by kernel_rfl) (by kernel_rfl) (by kernel_rfl) (by kernel_rfl) (fun _ _ _ h => h) (Or.inl ⟨by rfl, ?_⟩) h0 ?_
        rotate_left
        · intro u hSu
          (try dsimp only at hSu)
          go_simp
          try rfl
        simp only [Act.put, List.setIfInBounds_toArray, List.set_cons_zero, List.set_cons_succ]
        have sw : IntKind.i64.wrap (f + 1) = f + 1 := IntWalk.i64_in _ (by omega)
        refine until_take (i := 5) (v := ?_) rfl (by kernel_rfl) (by kernel_rfl) (by kernel_rfl) (by kernel_rfl) (fun _ _ _ h => h) (Or.inl ⟨by rfl, ?_⟩) h0 ?_
        rotate_left
        · intro u hSu
          (try dsimp only at hSu)
          go_simp
          try rfl
        simp only [Act.put, List.setIfInBounds_toArray, List.set_cons_zero, List.set_cons_succ]
        clear sw
        refine until_take (i := 6) (v := ?_) rfl (by kernel_rfl) (by kernel_rfl) (by kernel_rfl) (by kernel_rfl) (fun _ _ _ h => h) (Or.inl ⟨by rfl, ?_⟩) h0 ?_
        rotate_left
        · intro u hSu
          (try dsimp only at hSu)
          go_simp
          try rfl
        simp only [Act.put, List.setIfInBounds_toArray, List.set_cons_zero, List.set_cons_succ]
        refine until_one (i := 7) rfl (by kernel_rfl) (fun K hK => ?_)
        go_simp
        refine ((next_any gs A c l j10 12 w10.drew h11.src (by omega) (by omega))).mono ?_
        rintro e w12 ⟨x, j12, x0, x1, rfl, hs12, hg12⟩
        have h12 := h11.next hs12 hg12
        obtain ⟨_, m5, _, _⟩ := h12.cells
        clear h11 hs12 hg12 c0 c1 f0 f1
        refine hK.out _ _ (fun _ => m5) ?_
        clear hK K
        replace h0 := m5
        try simp only [Act.put, List.setIfInBounds_toArray, List.set_cons_zero, List.set_cons_succ]
        have sw : IntKind.i64.wrap (f + 1 + x) = f + 1 + x := IntWalk.i64_in _ (by omega)
        refine until_take (i := 8) (v := ?_) rfl (by kernel_rfl) (by kernel_rfl) (by kernel_rfl) (by kernel_rfl) (fun _ _ _ h => h) (Or.inl ⟨by rfl, ?_⟩) h0 ?_
        rotate_left
        · intro u hSu
          (try dsimp only at hSu)
          go_simp
          try rfl
        simp only [Act.put, List.setIfInBounds_toArray, List.set_cons_zero, List.set_cons_succ]
        clear sw
        obtain ⟨t, ht⟩ : ∃ t, t = f + 1 + x := ⟨_, rfl⟩
        rw [← ht]
        have ht0 : f < t := by omega
        have ht1 : t ≤ f + 12 := by omega
        clear ht
        refine until_take (i := 9) (v := ?_) rfl (by kernel_rfl) (by kernel_rfl) (by kernel_rfl) (by kernel_rfl) (fun _ _ _ h => h) (Or.inl ⟨by rfl, ?_⟩) h0 ?_
        rotate_left
        · intro u hSu
          (try dsimp only at hSu)
          go_simp
          try rfl
        simp only [Act.put, List.setIfInBounds_toArray, List.set_cons_zero, List.set_cons_succ]
        refine until_one (i := 10) rfl (by kernel_rfl) (fun K hK => ?_)
        go_simp
        have h13 := h12.more (o := .cells #[.int .i64 k, .int .i64 f, .int .i64 t] 46)
        have hn13 := heap_alloc_new w12 (.cells #[.int .i64 k, .int .i64 f, .int .i64 t] 46)
        obtain ⟨_, m6, _, _⟩ := h13.cells
        have h13l := h13.lt
        clear h12 m5
        refine hK.out _ _ (fun _ => m6) ?_
        clear hK K
        replace h0 := m6
        try simp only [Act.put, List.setIfInBounds_toArray, List.set_cons_zero, List.set_cons_succ]
        refine until_one (i := 11) rfl (by kernel_rfl) (fun K hK => ?_)
        refine step_append_blk (by rfl) _ _ 26 (by rfl) (gt + 1) 46 24 Try.underlying26 elemO (.slice oA os.length oC) os (by rfl) h13.occ [((k : Int), f, t)] w12.heap.size 1 1 (by rfl) (by rfl) 46 hn13 (by simp only [Go.maxLen, List.length_cons, List.length_nil]; omega) (by simp only [List.length_cons, List.length_nil]; omega) (by omega) ?_
        intro v14 w14 ho14 hg14 hat14
        obtain ⟨A14, c14, rfl⟩ := ho14.form
        obtain ⟨hn14, h14⟩ := h13.putO ho14 hg14
        have m9 : w14.cell? ⟨gt, 1, none⟩ = some (.slice oA os.length oC) := by rw [cell_of_row w14 _ 1 _ _ _ hn14]; rfl
        have f9 : w14.frozen? ⟨gt, 1, none⟩ = false := by simp [World.frozen?, hn14]
        have H14 := Lib.hid h14
        clear h14 h13 hn13 ho14 hg14 hat14 m6 hn14
        generalize hL : (os ++ [((k : Int), f, t)]).length = LL at *
        have HL2 := Lib.hid hL
        clear hL
        refine hK.out _ _ (fun _ => m9) ?_
        clear hK K
        replace h0 := m9
        try simp only [Act.put, List.setIfInBounds_toArray, List.set_cons_zero, List.set_cons_succ]
        refine until_take (i := 12) (v := ?_) rfl (by kernel_rfl) (by kernel_rfl) (by kernel_rfl) (by kernel_rfl) (fun _ _ _ h => h) (Or.inl ⟨by rfl, ?_⟩) h0 ?_
        rotate_left
        · intro u hSu
          (try dsimp only at hSu)
          go_simp
          try rfl
        simp only [Act.put, List.setIfInBounds_toArray, List.set_cons_zero, List.set_cons_succ]
        refine until_one (i := 13) rfl (by kernel_rfl) (fun K hK => ?_)
        go_simp
        refine hK.out _ _ (fun q => absurd rfl q) ?_
        clear hK K m9 f9
        refine until_done (by kernel_rfl) ?_ _
        go_wp2_with fail
        go_roundg (6 - (k + 1))
        case measure => omega
        case rel => exact ⟨k + 1, j12, _, _, st ++ [((k : Int), d)], os ++ [((k : Int), f, t)], by omega, rfl, by go_num, HM.out.put d0 d1 hf0 hf1 ht0 ht1, H14.out⟩
    · obtain rfl : k = 6 := by omega
      obtain ⟨sS, rfl, hsS⟩ := own_sv hst.ste
      obtain ⟨oS, rfl, hoS⟩ := own_sv hst.occ
      obtain ⟨c0, c1, f0, f1⟩ := hst.cells
      have hres := hst.res
      have y0 : wr.frozen? ⟨gr, 0, none⟩ = false := by simp [World.frozen?, hres]
      have y1 : wr.frozen? ⟨gr, 1, none⟩ = false := by simp [World.frozen?, hres]
      have q0 : wr.cell? ⟨gr, 0, none⟩ = some (.slice none 0 0) := by rw [cell_of_row wr _ 0 _ _ _ hres]; rfl
      have q1 : wr.cell? ⟨gr, 1, none⟩ = some (.slice none 0 0) := by rw [cell_of_row wr _ 1 _ _ _ hres]; rfl
      have HSS := Lib.hid (OOk.mk (o := ⟨st, os, sS, oS⟩) hst.ste hst.occ)
      have HST := Lib.hid hst
      clear hst hsS hoS
      obtain ⟨sa, sn, sc⟩ := sS
      obtain ⟨oa, on, oc⟩ := oS
      have HRES := Lib.hid (set_block' (o := 1) (.slice oa on oc) (set_block' (o := 0) (.slice sa sn sc) hres))
      clear hres
      have c0' : wr.cell? ⟨gt, 0, none⟩ = some (.slice sa sn sc) := c0
      have c1' : wr.cell? ⟨gt, 1, none⟩ = some (.slice oa on oc) := c1
      clear c0 c1
      go_wp2_with fail
      refine bodyPost_ret (results_cell_row rfl _ _ gr 28 _ _ _ rfl HRES.out Try.underlying28 rfl (by kernel_rfl)) rfl ?_
      have hgt2 := HST.out.gtw
      have hgw := HST.out.grw
      have hgs := HST.out.gts
      refine ⟨⟨st, os, ⟨sa, sn, sc⟩, ⟨oa, on, oc⟩⟩, j, rfl, ?_, HM.out, ?_, ?_⟩
      · exact (((HSS.out.setBelow (a := ⟨gr, 0, none⟩) (show gr < gt + 1 by omega) _).setBelow (a := ⟨gr, 1, none⟩) (show gr < gt + 1 by omega) _).rebase (by omega))
      · exact (HST.out.src.belowAt (B := gr) (((Below.refl gr wr).setCell (p := ⟨gr, 0, none⟩) (Nat.le_refl gr) _).setCell (p := ⟨gr, 1, none⟩) (Nat.le_refl gr) _) hgs)
      · exact grown_trans (grown_trans HST.out.kept (set_grown wr gr 0 _) (fun q e => by injection e with e; exact .inr (by omega))) (set_grown _ gr 1 _) (fun q e => by injection e with e; exact .inr (by omega))
end Go.Proofs.Ytlillkfelfoafaa
