/-
  Contracts of keep2's Option, OneWays and Jobs.
-/
import Derived.Test.YtlillkfelfoafaaDivKo
set_option linter.unusedVariables false
set_option linter.unusedSimpArgs false
namespace Go.Proofs.Ytlillkfelfoafaa
open Go.RowKit RP

def OptPost (w : World) (e : Ending) (w' : World) : Prop := ∃ o : OptM, e = .returned o.v ∧ OOk w' w.heap.size o ∧ MadeOp 6 o.steps o.occs ∧ Below w.heap.size w w'
set_option maxRecDepth 100000 in
set_option maxHeartbeats 4000000 in
theorem keepOption_any (A : Option Addr) (c : Nat) (l : List Int) (w : World) (h : ArgI w A c l) : Calls Try.prog 20 #[.slice A l.length c] w (OptPost w) := by
  have ba := belA w (.cells #[.slice none 0 0, .slice none 0 0] 28)
  have hn := heap_alloc_new w (.cells #[.slice none 0 0, .slice none 0 0] 28)
  have h1 := h.below ba
  have z1 : (w.alloc (.cells #[.slice none 0 0, .slice none 0 0] 28)).heap.size = w.heap.size + 1 := by simp
  go_enter Try.func20, Try.ntmps20
  go_upto_region 1 with fail
  generalize hgr : w.heap.size = gr at *
  have HGR := Lib.hid hgr
  clear hgr
  generalize w.alloc (.cells #[.slice none 0 0, .slice none 0 0] 28) = w0 at *
  go_wp2_with fail
  refine (from_any A c l w0 h1).mono ?_
  rw [z1]
  rintro e w1 ⟨rfl, hs1, hb1⟩
  have hn1 := (hb1.block gr (by omega)).trans hn
  have hb2 : Below gr w w1 := ba.trans (hb1.mono (by omega))
  have zl := hs1.lt
  go_wp2_with fail
  refine (option_any (gr + 1) A c l 0 w1 hs1).mono ?_
  rintro e w2 ⟨o, j, rfl, hoo, hm, hs2, hg2⟩
  have hn2 := (hg2.block gr (by omega) (fun e => by injection e; omega)).trans hn1
  have hb3 : Below gr w w2 := hb2.grown hg2 (by omega) (fun q e => by injection e; omega)
  have q0 : w2.cell? ⟨gr, 0, none⟩ = some (.slice none 0 0) := by rw [cell_of_row w2 _ 0 _ _ _ hn2]; rfl
  have q1 : w2.cell? ⟨gr, 1, none⟩ = some (.slice none 0 0) := by rw [cell_of_row w2 _ 1 _ _ _ hn2]; rfl
  have y0 : w2.frozen? ⟨gr, 0, none⟩ = false := by simp [World.frozen?, hn2]
  have y1 : w2.frozen? ⟨gr, 1, none⟩ = false := by simp [World.frozen?, hn2]
  obtain ⟨st, os, ⟨sa, sn, sc⟩, ⟨oa, on, oc⟩⟩ := o
  have HRES := Lib.hid (set_block' (o := 1) (.slice oa on oc) (set_block' (o := 0) (.slice sa sn sc) hn2))
  have HO := Lib.hid hoo
  have HM := Lib.hid hm
  have HB := Lib.hid hb3
  have zz := hb1.size
  clear hoo hm hb3 hn2 hs2 hg2 hn1 hb2 hb1 hs1 hn ba h1
  simp only [OptM.v, Sv.v]
  go_wp2_with fail
  refine bodyPost_ret (results_cell_row rfl _ _ gr 28 _ _ _ rfl HRES.out Try.underlying28 rfl (by kernel_rfl)) rfl ?_
  refine ⟨⟨st, os, ⟨sa, sn, sc⟩, ⟨oa, on, oc⟩⟩, rfl, ?_, HM.out, ?_⟩
  · rw [HGR.out]
    exact ((HO.out.setBelow (a := ⟨gr, 0, none⟩) (show gr < w1.heap.size by omega) _).setBelow (a := ⟨gr, 1, none⟩) (show gr < w1.heap.size by omega) _).rebase (by omega)
  · rw [HGR.out]
    exact (HB.out.setCell (p := ⟨gr, 0, none⟩) (Nat.le_refl gr) _).setCell (p := ⟨gr, 1, none⟩) (Nat.le_refl gr) _

theorem MadeW.snoc {l : List OWy} {k : Nat} (h : l.length + k ≤ 3) (hk : 1 ≤ k) (hm : ∀ w ∈ l, 0 ≤ w.1 ∧ w.1 < 6 ∧ 0 ≤ w.2.1 ∧ w.2.1 < 2 ∧ 0 ≤ w.2.2.1 ∧ w.2.2.1 < 60 ∧ w.2.2.1 < w.2.2.2 ∧ w.2.2.2 ≤ w.2.2.1 + 30) {r d f e : Int} (h1 : 0 ≤ r) (h2 : r < 6) (d0 : 0 ≤ d) (d1 : d < 2) (h3 : 0 ≤ f) (h4 : f < 60) (h5 : f < e) (h6 : e ≤ f + 30) :
    (l ++ [(r, d, f, e)]).length + (k - 1) ≤ 3 ∧ ∀ w ∈ l ++ [(r, d, f, e)], 0 ≤ w.1 ∧ w.1 < 6 ∧ 0 ≤ w.2.1 ∧ w.2.1 < 2 ∧ 0 ≤ w.2.2.1 ∧ w.2.2.1 < 60 ∧ w.2.2.1 < w.2.2.2 ∧ w.2.2.2 ≤ w.2.2.1 + 30 := by
  refine ⟨by simp; omega, fun c hc => ?_⟩
  rcases List.mem_append.1 hc with hc | hc
  · exact hm c hc
  · rw [List.mem_singleton.1 hc]; simp only; omega
set_option maxHeartbeats 2000000 in
theorem oneways_any (A : Option Addr) (c : Nat) (l : List Int) (w : World) (h : ArgI w A c l) :
    Calls Try.prog 22 #[.slice A l.length c] w fun e w' =>
      ∃ v o, e = .returned v ∧ Own encW 4 70 w' w.heap.size v o ∧ MadeW o ∧ Below w.heap.size w w' := by
  go_enter Try.func22, Try.ntmps22
  go_wp2_with fail
  refine (from_any A c l w h).mono ?_
  rintro e w1 ⟨rfl, hs1, hb1⟩
  have z1 := hb1.size
  have l1 := hs1.lt
  go_wp2_with fail
  refine (next_any w.heap.size A c l 0 4 w1 hs1 (by omega) (by omega)).mono ?_
  rintro e w2 ⟨n, j, hn0, hn1, rfl, hs2, hg2⟩
  have hb2 : Below w.heap.size w1 w2 := below_of_grownBy hg2 z1 (fun k hk => by injection hk with hk; omega)
  have z2 := hb2.size
  obtain ⟨N, rfl⟩ := Int.eq_ofNat_of_zero_le hn0
  have hbw := hb1.trans hb2
  clear hb1 hb2 hg2 hs1
  go_wp2_with fail
  go_loopg [4, 5, 6] N (fun g s4 s5 s6 wr => ∃ (k : Nat) (o : List OWy) (j : Nat), k ≤ N ∧ g = k ∧ s5 = .int .i64 k ∧ Own encW 4 70 wr w.heap.size s4 o ∧ (∀ q, s4.ownBlock = some q → w.heap.size < q) ∧ (o.length + k ≤ 3 ∧ ∀ w ∈ o, 0 ≤ w.1 ∧ w.1 < 6 ∧ 0 ≤ w.2.1 ∧ w.2.1 < 2 ∧ 0 ≤ w.2.2.1 ∧ w.2.2.1 < 60 ∧ w.2.2.1 < w.2.2.2 ∧ w.2.2.2 ≤ w.2.2.1 + 30) ∧ Src wr w.heap.size A c l j ∧ Below w.heap.size w wr)
  case atStart => exact ⟨N, [], j, by omega, rfl, rfl, Own.nil _ _ _ _ _, by simp [Value.ownBlock], ⟨by simp; omega, by simp⟩, hs2, hbw⟩
  case round =>
    obtain ⟨k, o, j', hk, hg, rfl, ho, hob, ⟨hlen, hv⟩, hs, hb⟩ := hrel
    have HV := Lib.hid hv
    clear hv
    by_cases h0 : 0 < k
    · go_wp2_with fail
      have zr := hb.size
      have lr := hs.lt
      refine (next_any w.heap.size A c l j' 60 wr hs (by omega) (by omega)).mono ?_
      rintro e w3 ⟨r1, j3, hr0, hr1, rfl, hs3, hg3⟩
      have ho3 := ho.kept hg3 (.inr (fun e => by have := hob _ e; omega))
      have z3 := hg3.size
      have hb3 : Below w.heap.size w w3 := hb.grown hg3 zr (fun k hk => by injection hk with hk; omega)
      go_wp2_with fail
      refine (next_any w.heap.size A c l j3 6 w3 hs3 (by omega) (by omega)).mono ?_
      rintro e w4 ⟨r2, j4, hq0, hq1, rfl, hs4, hg4⟩
      have ho4 := ho3.kept hg4 (.inr (fun e => by have := hob _ e; omega))
      have z4 := hg4.size
      have hb4 : Below w.heap.size w w4 := hb3.grown hg4 (by omega) (fun k hk => by injection hk with hk; omega)
      go_wp2_with fail
      refine (next_any w.heap.size A c l j4 2 w4 hs4 (by omega) (by omega)).mono ?_
      rintro e w5 ⟨r4, j5, hd0, hd1, rfl, hs5, hg5⟩
      have ho5 := ho4.kept hg5 (.inr (fun e => by have := hob _ e; omega))
      have z5 := hg5.size
      have hb5 : Below w.heap.size w w5 := hb4.grown hg5 (by omega) (fun k hk => by injection hk with hk; omega)
      go_wp2_with fail
      refine (next_any w.heap.size A c l j5 30 w5 hs5 (by omega) (by omega)).mono ?_
      rintro e w6 ⟨r3, j6, hp0, hp1, rfl, hs6, hg6⟩
      have ho6 := ho5.kept hg6 (.inr (fun e => by have := hob _ e; omega))
      have z6 := hg6.size
      have hb6 : Below w.heap.size w w6 := hb5.grown hg6 (by omega) (fun k hk => by injection hk with hk; omega)
      obtain ⟨A5, c5, rfl⟩ := ho6.form
      go_wp2_with (at_builtin; refine wpList_append_rec rfl _ _ 24 rfl w.heap.size 70 32 Try.underlying24 elemW _ o rfl ho6 [(r2, r4, r1, r1 + 1 + r3)] _ rfl 1 1 rfl rfl (by simp only [maxLen, List.length_cons, List.length_nil]; omega) (by simp only [List.length_cons, List.length_nil]; omega) (by omega) ?_; intro v1 w7 ho7 hg7 hat7)
      obtain ⟨K, rfl⟩ : ∃ K, k = K + 1 := ⟨k - 1, by omega⟩
      go_roundg K
      case measure => omega
      case rel =>
        refine ⟨K, _, j6, by omega, rfl, by go_num, ho7, fun q hq => ?_, by have := MadeW.snoc hlen (by omega) HV.out hq0 hq1 hd0 hd1 hr0 hr1 (show r1 < r1 + 1 + r3 by omega) (by omega); simpa using this, hs6.grown hg7 (fun q hq => hob q hq), hb6.grown hg7 (by omega) (fun q hq => by have := hob _ hq; omega)⟩
        rcases hat7 with e | e
        · rw [e] at hq; exact hob _ hq
        · rw [e] at hq; injection hq with hq; omega
    · obtain rfl : k = 0 := by omega
      go_wp2_with fail
      go_ret
      exact ⟨_, o, rfl, ho, ⟨by omega, HV.out⟩, hb⟩

/-- The state of the loop over a job's options: the job's block gj, the source's block gs. -/
structure JiSt (W wr : World) (gs gj : Nat) (A : Option Addr) (c : Nat) (l : List Int) (j : Nat) (s : Int) (jv : Value) (op : List OptM) : Prop where
  blk : wr.heap[gj]? = some (.cells #[.int .i64 s, jv] 41 (0, 0))
  opt : Own encOp 2 28 wr (gj + 1) jv op
  each : ∀ o ∈ op, OOk wr (gj + 1) o
  src : Src wr gs A c l j
  kept : W.grownBy wr (some gs)
  lt : gj < wr.heap.size
  gjw : gj = W.heap.size
  gjs : gs < gj
section
variable {W wr wx : World} {gs gj : Nat} {A : Option Addr} {c : Nat} {l : List Int} {j : Nat} {s : Int} {jv : Value} {op : List OptM}
theorem JiSt.cells (h : JiSt W wr gs gj A c l j s jv op) : wr.cell? ⟨gj, 0, none⟩ = some (.int .i64 s) ∧ wr.cell? ⟨gj, 1, none⟩ = some jv ∧ wr.frozen? ⟨gj, 1, none⟩ = false :=
  ⟨by rw [cell_of_row wr _ 0 _ _ _ h.blk]; rfl, by rw [cell_of_row wr _ 1 _ _ _ h.blk]; rfl, by simp [World.frozen?, h.blk]⟩
theorem JiSt.drew (h : JiSt W wr gs gj A c l j s jv op) : JiSt W wr.drew gs gj A c l j s jv op :=
  ⟨h.blk, h.opt.drew, fun o ho => ⟨(h.each o ho).st.drew, (h.each o ho).oc.drew⟩, h.src.drewN 1, ⟨h.kept.os, h.kept.tape, h.kept.output, h.kept.size, h.kept.block⟩, h.lt, h.gjw, h.gjs⟩
theorem JiSt.next {j3 : Nat} (h : JiSt W wr gs gj A c l j s jv op) (hs : Src wx gs A c l j3) (hg : wr.grownBy wx (some gs)) : JiSt W wx gs gj A c l j3 s jv op := by
  have h1 := h.gjs
  have h3 := h.lt
  exact ⟨(hg.block gj h.lt (fun e => by injection e with e; omega)).trans h.blk, h.opt.keptS (by omega) hg, fun o ho => (h.each o ho).keptS (by omega) hg, hs,
    grown_trans h.kept hg (fun k e => by injection e with e; exact .inl e.symm), by have := hg.size; omega, h.gjw, h.gjs⟩
theorem OOk.alloc {w : World} {b : Nat} {o : OptM} (h : OOk w b o) (x : Obj) : OOk (w.alloc x) b o := ⟨h.st.alloc x, h.oc.alloc x⟩
theorem JiSt.more {o : Obj} (h : JiSt W wr gs gj A c l j s jv op) : JiSt W (wr.alloc o) gs gj A c l j s jv op := by
  have ba := belA wr o
  have h3 := h.lt
  exact ⟨(ba.block gj h3).trans h.blk, h.opt.alloc _, fun p hp => (h.each p hp).alloc _, h.src.below ba, grown_trans h.kept (grownBy_of_below ba none) (fun k e => by cases e), by simp; omega, h.gjw, h.gjs⟩
theorem JiSt.put {v6 : Value} {p : OptM} (h : JiSt W wr gs gj A c l j s jv op) (hp : OOk wr (gj + 1) p) (ho : Own encOp 2 28 wx (gj + 1) v6 (op ++ [p])) (hg : wr.grownBy wx jv.ownBlock) :
    wx.heap[gj]? = some (.cells #[.int .i64 s, jv] 41 (0, 0)) ∧ JiSt W (wx.setCell ⟨gj, 1, none⟩ v6) gs gj A c l j s v6 (op ++ [p]) := by
  have h1 := h.gjs
  have h3 := h.lt
  have h4 := h.gjw
  have hq : ∀ q, jv.ownBlock = some q → gj + 1 ≤ q := fun q e => (World.ownsRow.lt h.opt q e).1
  have hn := (hg.block gj h.lt (fun e => by have := hq _ e.symm; omega)).trans h.blk
  refine ⟨hn, set_block' (o := 1) v6 hn, ho.setBelow (a := ⟨gj, 1, none⟩) (Nat.lt_succ_self gj) _, fun o hm => ?_,
    (h.src.grown hg (fun q e => by have := hq _ e; omega)).belowAt (B := gj) ((Below.refl gj wx).setCell (p := ⟨gj, 1, none⟩) (Nat.le_refl gj) _) (by omega),
    grown_trans (grown_trans h.kept hg (fun q e => .inr (by have := hq _ e; omega))) (set_grown wx gj 1 v6) (fun q e => by injection e with e; exact .inr (by omega)), by rw [set_size]; have := hg.size; omega, h.gjw, h.gjs⟩
  refine OOk.setBelow (a := ⟨gj, 1, none⟩) ?_ (Nat.lt_succ_self gj) _
  rcases List.mem_append.1 hm with hm | hm
  · exact (h.each o hm).keptR h.opt (by decide) (by decide) hg
  · rw [List.mem_singleton.1 hm]; exact hp.keptR h.opt (by decide) (by decide) hg
end
/-- The state of the loop over the jobs. -/
structure JoSt (w wr : World) (gs : Nat) (A : Option Addr) (c : Nat) (l : List Int) (j : Nat) (ov : Value) (out : List JobM) : Prop where
  own : Own encJb 2 41 wr (gs + 1) ov out
  each : ∀ t ∈ out, JOk wr (gs + 1) t
  src : Src wr gs A c l j
  bel : Below gs w wr
section
variable {w wr wx : World} {gs : Nat} {A : Option Addr} {c : Nat} {l : List Int} {j j3 : Nat} {ov : Value} {out : List JobM}
theorem JoSt.next (h : JoSt w wr gs A c l j ov out) (hs : Src wx gs A c l j3) (hg : wr.grownBy wx (some gs)) : JoSt w wx gs A c l j3 ov out :=
  ⟨h.own.keptS (Nat.lt_succ_self gs) hg, fun t ht => (h.each t ht).keptS (Nat.lt_succ_self gs) hg, hs, h.bel.grown hg (Nat.le_of_lt h.src.lt) (fun q e => by injection e with e; omega)⟩
theorem JoSt.push {v6 : Value} {t : JobM} (h : JoSt w wr gs A c l j ov out) (ht : JOk wr (gs + 1) t) (ho : Own encJb 2 41 wx (gs + 1) v6 (out ++ [t])) (hg : wr.grownBy wx ov.ownBlock) : JoSt w wx gs A c l j v6 (out ++ [t]) :=
  ⟨ho, fun u hu => by
    rcases List.mem_append.1 hu with hu | hu
    · exact (h.each u hu).keptR h.own (by decide) (by decide) (by decide) hg
    · rw [List.mem_singleton.1 hu]; exact ht.keptR h.own (by decide) (by decide) (by decide) hg, h.src.grown hg (fun q e => by have := (World.ownsRow.lt h.own _ e).1; omega), h.bel.grown hg (Nat.le_of_lt h.src.lt) (fun q e => by have := (World.ownsRow.lt h.own _ e).1; omega)⟩
end
def JobsPost (w : World) (e : Ending) (w' : World) : Prop :=
  ∃ (A : Option Addr) (c : Nat) (L : List JobM), e = .returned (.slice A L.length c) ∧ Own encJb 2 41 w' (w.heap.size + 1) (.slice A L.length c) L ∧ (∀ j ∈ L, JOk w' (w.heap.size + 1) j) ∧ MadeJs (L.map JobM.p) ∧ Below w.heap.size w w'
/-- Jobs of the call's own can be read. -/
theorem jbs_own {w : World} {b n : Nat} {A : Option Addr} {c : Nat} {L : List JobM} (h : Own encJb 2 41 w b (.slice A n c) L) (he : ∀ j ∈ L, JOk w b j) : Jbs w w.heap.size A L := by
  have m1 := h.maxLen
  unfold maxLen at m1
  exact ⟨Own.lst encJb_len h, fun j hj => (he j hj).jlst, by omega⟩
def MadeL (L : List JobM) : Prop := ∀ j ∈ L, MadeJ j.p
set_option maxRecDepth 100000 in
set_option maxHeartbeats 8000000 in
theorem jobs_any (A : Option Addr) (c : Nat) (l : List Int) (w : World) (h : ArgI w A c l) : Calls Try.prog 24 #[.slice A l.length c] w (JobsPost w) := by
  go_enter Try.func24, Try.ntmps24
  go_wp2_with fail
  refine (from_any A c l w h).mono ?_
  rintro e w1 ⟨rfl, hs1, hb1⟩
  generalize hgs : w.heap.size = gs at *
  have HGS := Lib.hid hgs
  have hst : JoSt w w1 gs A c l 0 (.slice none 0 0) [] := ⟨Own.nil _ _ _ _ _, by simp, hs1, hb1⟩
  clear hs1 hb1 hgs
  go_wp2_with fail
  refine (next_any gs A c l 0 3 w1 hst.src (by omega) (by omega)).mono ?_
  rintro e w2 ⟨k0, j2, hk0, hk1, rfl, hs2, hg2⟩
  have hst2 := hst.next hs2 hg2
  clear hst hs2 hg2
  obtain ⟨K, hK⟩ : ∃ K : Nat, (K : Int) = 1 + k0 := ⟨(1 + k0).toNat, by omega⟩
  go_wp2_with fail
  rw [← hK]
  have hK2 : 1 ≤ K ∧ K ≤ 3 := by omega
  clear hK
  go_loopg [4, 5, 6, 7] K (fun g s4 s5 s6 s7 wr => ∃ (k j : Nat) (out : List JobM), g = k ∧ k ≤ 3 ∧ s5 = .int .i64 k ∧ out.length + k = K ∧ MadeL out ∧ JoSt w wr gs A c l j s4 out)
  case atStart => exact ⟨K, j2, [], rfl, by omega, rfl, by simp, by intro j hj; simp at hj, hst2⟩
  case round =>
    obtain ⟨k, j, out, hgk, hk, rfl, hlen, hmo, hst⟩ := hrel
    obtain rfl := hgk.symm
    have HMO := Lib.hid hmo
    clear hmo hst2
    rcases Nat.eq_zero_or_pos k with hz | hz
    · subst hz
      obtain ⟨B, cc, rfl⟩ := hst.own.form
      have HST := Lib.hid hst
      clear hst
      go_wp2_with fail
      go_ret
      refine ⟨B, cc, out, rfl, by rw [HGS.out]; exact HST.out.own, by rw [HGS.out]; exact HST.out.each, ⟨by rw [List.length_map]; omega, by rw [List.length_map]; omega, fun jp hjp => ?_⟩, by rw [HGS.out]; exact HST.out.bel⟩
      obtain ⟨j', hj', rfl⟩ := List.mem_map.1 hjp
      exact HMO.out j' hj'
    · obtain ⟨k, rfl⟩ : ∃ k', k = k' + 1 := ⟨k - 1, by omega⟩
      go_wp2_with fail
      refine (next_any gs A c l j 40 wr hst.src (by omega) (by omega)).mono ?_
      rintro e w3 ⟨x3, j3, x30, x31, rfl, hs3, hg3⟩
      have hst3 := hst.next hs3 hg3
      clear hst hs3 hg3
      obtain ⟨s, hs⟩ : ∃ s, s = 5 + x3 := ⟨_, rfl⟩
      have hs0 : 5 ≤ s := by omega
      have hs1 : s < 45 := by omega
      go_upto_region 7 with fail
      rw [← hs]
      clear hs x30 x31
      have ba := belA w3 (.cells #[.int .i64 s, .slice none 0 0] 41)
      have hji : JiSt w3 (w3.alloc (.cells #[.int .i64 s, .slice none 0 0] 41)) gs w3.heap.size A c l j3 s (.slice none 0 0) [] :=
        ⟨heap_alloc_new w3 _, Own.nil _ _ _ _ _, by simp, hst3.src.below ba, grownBy_of_below ba _, by simp, rfl, hst3.src.lt⟩
      have HST3 := Lib.hid hst3
      clear ba hst3
      generalize w3.alloc (.cells #[.int .i64 s, .slice none 0 0] 41) = w4 at *
      generalize hgj : w3.heap.size = gj at *
      have HGJ := Lib.hid hgj
      clear hgj
      go_wp2_with fail
      refine (next_any gs A c l j3 2 w4 hji.src (by omega) (by omega)).mono ?_
      rintro e w5 ⟨r0, j5, r00, r01, rfl, hs5, hg5⟩
      have hji5 := hji.next hs5 hg5
      clear hji hs5 hg5
      obtain ⟨R, hR⟩ : ∃ R : Nat, (R : Int) = 1 + r0 := ⟨(1 + r0).toNat, by omega⟩
      go_wp2_with fail
      rw [← hR]
      have hR2 : 1 ≤ R ∧ R ≤ 2 := by omega
      clear hR
      obtain ⟨W3, rfl⟩ : ∃ W : World, W = w3 := ⟨_, rfl⟩
      go_loopg [7] R (fun g s7 wr => ∃ (r j : Nat) (jv : Value) (op : List OptM), g = r ∧ s7 = .int .i64 r ∧ op.length + r = R ∧ (∀ o ∈ op, MadeOp 6 o.steps o.occs) ∧ JiSt W3 wr gs gj A c l j s jv op)
      case atStart => exact ⟨R, j5, _, [], rfl, rfl, by simp, by simp, hji5⟩
      case round =>
        obtain ⟨r, j6, jv, op, hgr, rfl, hro, hmo, hji⟩ := hrel
        obtain rfl := hgr.symm
        have HM2 := Lib.hid hmo
        clear hmo hji5
        rcases Nat.eq_zero_or_pos r with hz2 | hz2
        · subst hz2
          obtain ⟨c0, c1, f1⟩ := hji.cells
          obtain ⟨jS, rfl, hjS⟩ := own_sv hji.opt
          have hst9 := HST3.out.next hji.src hji.kept
          have hgjs := hji.gjs
          have hsz := hst9.src.lt
          have HTK := Lib.hid (JOk.mk (j := ⟨s, op, jS⟩) (hji.opt.rebase (show gs + 1 ≤ gj + 1 by omega)) (fun o ho => (hji.each o ho).rebase (show gs + 1 ≤ gj + 1 by omega)))
          obtain ⟨ja, jn, jc⟩ := jS
          have c1' : _root_.Go.World.cell? _ ⟨gj, 1, none⟩ = some (.slice ja jn jc) := c1
          have HST := Lib.hid hst9
          clear c1 hst9 hji hjS
          obtain ⟨oA, oC, rfl⟩ := HST.out.own.form
          go_wp2_with (at_builtin; refine Hld.put ?_)
          refine Hld.out ?_
          refine wpList_append_rec rfl _ _ 22 rfl (gs + 1) 41 32 Try.underlying22 elemJb _ out rfl HST.out.own [⟨s, op, ⟨ja, jn, jc⟩⟩] _ rfl 1 1 rfl rfl (by simp only [Go.maxLen, List.length_cons, List.length_nil]; omega) (by simp only [List.length_cons, List.length_nil]; omega) (by omega) ?_
          intro v6 w9 ho6 hg6 hat6
          have HN := Lib.hid (HST.out.push HTK.out ho6 hg6)
          clear ho6 hg6 hat6 HST HTK
          go_wp2_with fail
          go_roundg k
          case measure => omega
          case rel =>
            refine ⟨k, j6, _, rfl, by omega, by go_num, by simp; omega, fun q hq => ?_, HN.out⟩
            rcases List.mem_append.1 hq with hq | hq
            · exact HMO.out q hq
            · rw [List.mem_singleton.1 hq]
              refine ⟨hs0, hs1, by show 1 ≤ (op.map OptM.p).length; rw [List.length_map]; omega, by show (op.map OptM.p).length ≤ 2; rw [List.length_map]; omega, fun op' hop => ?_⟩
              obtain ⟨o', ho', rfl⟩ := List.mem_map.1 hop
              exact HM2.out o' ho'
        · obtain ⟨r, rfl⟩ : ∃ r', r = r' + 1 := ⟨r - 1, by omega⟩
          go_upto_region 10 with fail
          obtain ⟨jA, jC, rfl⟩ := hji.opt.form
          have h3 := hji.drew
          obtain ⟨c0, c1, f1⟩ := h3.cells
          clear hji
          have hb : ∀ q, (Value.slice jA op.length jC).ownBlock = some q → gj + 1 ≤ q := fun q e => (World.ownsRow.lt h3.opt q e).1
          refine wp_region_until (S := fun w' => w'.cell? ⟨gj, 1, none⟩ = some (.slice jA op.length jC)) 7 (by kernel_rfl) ?_
          have h0 : wr.drew.cell? ⟨gj, 1, none⟩ = some (.slice jA op.length jC) := c1
          have hl3 := h3.lt
          have hop2 : op.length ≤ 2 := by omega
          refine until_take (i := 0) (v := ?_) rfl (by kernel_rfl) (by kernel_rfl) (by kernel_rfl) (by kernel_rfl) (fun _ _ _ h => h) (Or.inl ⟨by rfl, ?_⟩) h0 ?_
          rotate_left
          · intro u hSu
            (try dsimp only at hSu)
            go_simp
            try rfl
          simp only [Act.put, List.setIfInBounds_toArray, List.set_cons_zero, List.set_cons_succ]
          refine until_take (i := 1) (v := ?_) rfl (by kernel_rfl) (by kernel_rfl) (by kernel_rfl) (by kernel_rfl) (fun _ _ _ h => h) (Or.inl ⟨by rfl, ?_⟩) h0 ?_
          rotate_left
          · intro u hSu
            (try dsimp only at hSu)
            go_simp
            try rfl
          simp only [Act.put, List.setIfInBounds_toArray, List.set_cons_zero, List.set_cons_succ]
          refine until_take (i := 2) (v := ?_) rfl (by kernel_rfl) (by kernel_rfl) (by kernel_rfl) (by kernel_rfl) (fun _ _ _ h => h) (Or.inl ⟨by rfl, ?_⟩) h0 ?_
          rotate_left
          · intro u hSu
            (try dsimp only at hSu)
            go_simp
            try rfl
          simp only [Act.put, List.setIfInBounds_toArray, List.set_cons_zero, List.set_cons_succ]
          refine until_one (i := 3) rfl (by kernel_rfl) (fun K hK => ?_)
          go_simp
          refine ((option_any gs A c l j6 wr.drew h3.src)).mono ?_
          rintro e w7 ⟨o, j7, rfl, hoo, hmo, hs7, hg7⟩
          have h7 := h3.next hs7 hg7
          have ho7 := hoo.rebase (show gj + 1 ≤ wr.drew.heap.size by omega)
          obtain ⟨_, m5, _⟩ := h7.cells
          clear h3 hoo hs7 hg7 c0 c1 f1
          obtain ⟨ost, oos, ⟨sa, sn, sc⟩, ⟨oa, on, oc⟩⟩ := o
          have HMO2 := Lib.hid hmo
          clear hmo
          simp only [OptM.v, Sv.v]
          refine hK.out _ _ (fun _ => m5) ?_
          clear hK K
          replace h0 := m5
          try simp only [Act.put, List.setIfInBounds_toArray, List.set_cons_zero, List.set_cons_succ]
          refine until_one (i := 4) rfl (by kernel_rfl) (fun K hK => ?_)
          go_simp
          have h8 := h7.more (o := .cells #[.slice sa sn sc, .slice oa on oc] 28)
          have hn8 := heap_alloc_new w7 (.cells #[.slice sa sn sc, .slice oa on oc] 28)
          have ho8 := ho7.alloc (.cells #[.slice sa sn sc, .slice oa on oc] 28)
          obtain ⟨_, m6, _⟩ := h8.cells
          have h8l := h8.lt
          clear h7 m5 ho7
          refine hK.out _ _ (fun _ => m6) ?_
          clear hK K
          replace h0 := m6
          try simp only [Act.put, List.setIfInBounds_toArray, List.set_cons_zero, List.set_cons_succ]
          refine until_one (i := 5) rfl (by kernel_rfl) (fun K hK => ?_)
          refine step_append_blk (by rfl) _ _ 39 (by rfl) (gj + 1) 28 48 Try.underlying39 elemOp (.slice jA op.length jC) op (by rfl) h8.opt [⟨ost, oos, ⟨sa, sn, sc⟩, ⟨oa, on, oc⟩⟩] w7.heap.size 1 1 (by rfl) (by rfl) 28 hn8 (by simp only [Go.maxLen, List.length_cons, List.length_nil]; omega) (by simp only [List.length_cons, List.length_nil]; omega) (by omega) ?_
          intro v9 w9 ho9 hg9 hat9
          obtain ⟨A9, c9, rfl⟩ := ho9.form
          obtain ⟨hn9, h9⟩ := h8.put ho8 ho9 hg9
          have m9 : w9.cell? ⟨gj, 1, none⟩ = some (.slice jA op.length jC) := by rw [cell_of_row w9 _ 1 _ _ _ hn9]; rfl
          have f9 : w9.frozen? ⟨gj, 1, none⟩ = false := by simp [World.frozen?, hn9]
          have H9 := Lib.hid h9
          clear h9 h8 hn8 ho8 ho9 hg9 hat9 m6 hn9
          generalize hL : (op ++ [(⟨ost, oos, ⟨sa, sn, sc⟩, ⟨oa, on, oc⟩⟩ : OptM)]).length = LL at *
          have HL := Lib.hid hL
          clear hL
          refine hK.out _ _ (fun _ => m9) ?_
          clear hK K
          replace h0 := m9
          try simp only [Act.put, List.setIfInBounds_toArray, List.set_cons_zero, List.set_cons_succ]
          refine until_take (i := 6) (v := ?_) rfl (by kernel_rfl) (by kernel_rfl) (by kernel_rfl) (by kernel_rfl) (fun _ _ _ h => h) (Or.inl ⟨by rfl, ?_⟩) h0 ?_
          rotate_left
          · intro u hSu
            (try dsimp only at hSu)
            go_simp
            try rfl
          simp only [Act.put, List.setIfInBounds_toArray, List.set_cons_zero, List.set_cons_succ]
          refine until_one (i := 7) rfl (by kernel_rfl) (fun K hK => ?_)
          go_simp
          refine hK.out _ _ (fun q => absurd rfl q) ?_
          clear hK K m9 f9
          refine until_done (by kernel_rfl) ?_ _
          go_wp2_with fail
          go_roundg r
          case measure => omega
          case rel =>
            refine ⟨r, j7, _, op ++ [⟨ost, oos, ⟨sa, sn, sc⟩, ⟨oa, on, oc⟩⟩], rfl, by go_num, by simp; omega, fun q hq => ?_, H9.out⟩
            rcases List.mem_append.1 hq with hq | hq
            · exact HM2.out q hq
            · rw [List.mem_singleton.1 hq]; exact HMO2.out
end Go.Proofs.Ytlillkfelfoafaa
