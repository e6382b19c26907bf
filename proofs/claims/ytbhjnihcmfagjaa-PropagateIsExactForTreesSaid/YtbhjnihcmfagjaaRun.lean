/-
  Contract of run.
-/
import Derived.Test.YtbhjnihcmfagjaaClear
import Derived.Test.YtbhjnihcmfagjaaPro
set_option linter.unusedVariables false
set_option linter.unusedSimpArgs false
namespace Go.Proofs.Ytbhjnihcmfagjaa
open Go.RowKit Go.Shelf RP

section
variable {w w' : World} {gt gs gw : Nat} {M M' : List Nat} {m T : Nat} {E : Option Addr} {cE : Nat} {va vq vw : Value} {D : Tab} {e : Bool} {q : List (Nat × Nat)}
/-- The slice of waiting bits is written. -/
theorem Tb.waits (h : Tb w gt gs M m T E cE va vq vw D e) (v' : Value) : Tb (w.setCell ⟨gt, 5, none⟩ v') gt gs M m T E cE va vq v' D e ∧ Kept [gt] w (w.setCell ⟨gt, 5, none⟩ v') := by
  have hk0 : Kept [gt] w (w.setCell ⟨gt, 5, none⟩ v') := (Kept.refl [gt] w).setCell gt _ _ (.inl (by simp))
  have hk : Kept M w (w.setCell ⟨gt, 5, none⟩ v') := (Kept.refl M w).setCell gt _ _ (.inl h.inM.1)
  have hs : (w.setCell ⟨gt, 5, none⟩ v').heap[gs]? = w.heap[gs]? := Below.heap_setCell _ _ _ gs (fun q => h.inM.2.2 q.symm)
  refine ⟨⟨set_block _ h.tab, ?_, fun a b ha hb => ?_, h.inM, h.mT⟩, hk0⟩
  · obtain ⟨cur, k1, k2⟩ := h.sets; exact ⟨cur, hs.trans k1, k2⟩
  · obtain ⟨A, c, k1, k2, k3, k4, k5⟩ := h.set a b ha hb
    exact ⟨A, c, (World.cell?_of_block (a := ⟨gs, _, none⟩) hs).trans k1, (World.cell?_of_block (a := ⟨gs, _, none⟩) hs).trans k2, k3.kept hk, k4, k5⟩
/-- The first pair of the queue, and what is behind it. -/
theorem Que.pop {p : Nat × Nat} (h : Que w gt gs gw M vq (p :: q)) : ∃ gq off c, vq = .slice (some ⟨gq, off, none⟩) (q.length + 1) c ∧ q.length + 1 ≤ c ∧ c ≤ maxLen ∧
    w.cell? ⟨gq, off, none⟩ = some (.int .i64 (p.1 : Nat)) ∧ w.cell? ⟨gq, off + 1, none⟩ = some (.int .i64 (p.2 : Nat)) ∧
    (c = 1 → Que w gt gs gw M (.slice (some ⟨gq, off, none⟩) q.length 0) q) ∧ Que w gt gs gw M (.slice (some ⟨gq, off + 2, none⟩) q.length (c - 1)) q := by
  rcases h with ⟨_, h⟩ | ⟨gq, off, c, h1, h2, h3, h4, h5, h6, h7, h8, h9, h10, h11⟩
  · cases h
  · have h7' : q.length + 1 ≤ c := h7
    have h0 := h9 0 p rfl
    refine ⟨gq, off, c, h1, h7', h8, h0.1, h0.2, fun hc => .inr ⟨gq, off, 0, rfl, h2, h3, h4, h5, h6, by omega, Nat.zero_le _, fun k p hp => ?_, fun o ho => absurd ho (by omega), h11⟩, .inr ⟨gq, off + 2, c - 1, rfl, h2, h3, h4, h5, h6, by omega, by omega, fun k p hp => ?_, fun o ho => ?_, h11⟩⟩
    · have := (List.getElem?_eq_some_iff.1 hp).1; omega
    · have := h9 (k + 1) p (by simpa using hp)
      rw [show off + (k + 1) * 2 = off + 2 + k * 2 by omega] at this
      exact this
    · have := h10 (o + 2) (by omega)
      rwa [show off + (o + 2) = off + 2 + o by omega] at this

/-- Behind a call of compose. -/
theorem comp_next {I : Tab} {X X' : Nat → Nat → Nat → Prop} (h1 : 1 ≤ T) (hp : Prop13 m T I D q e X) {a b c : Nat} (ha : a < m) (hb : b < m) (hc : c < m) (hab : a ≠ b) (hac : a ≠ c) (hbc : b ≠ c)
    (hX : ∀ i j k, X i j k → X' i j k ∨ (i = a ∧ j = c ∧ k = b) ∨ (i = b ∧ j = c ∧ k = a))
    (h : ((∀ x, x < T → D a b x = true → sumB T (D a c) (D c b) x = true) ∧ St w' gt gs gw M' m T E cE va D e q) ∨
         (cntN (fun x => D a b x && sumB T (D a c) (D c b) x) T ≠ cntN (D a b) T ∧ St w' gt gs gw M' m T E cE va (resT T D a b (sumB T (D a c) (D c b))) (e || decide (cntN (fun x => D a b x && sumB T (D a c) (D c b) x) T = 0)) (addQ q (pr a b)))) :
    ∃ D' e' q', St w' gt gs gw M' m T E cE va D' e' q' ∧ Prop13 m T I D' q' e' X' ∧ mu m T D' q' ≤ mu m T D q := by
  rcases h with ⟨h, hs⟩ | ⟨h, hs⟩
  · exact ⟨D, e, q, hs, hp.stay h1 ha hb hc h hX, Nat.le_refl _⟩
  · refine ⟨_, _, _, hs, hp.stepE h1 ha hb hc hab hac hbc (fun p hp => ?_) ?_ hX, Nat.le_of_lt (mu_lt (tot_res hab ha hb hp.sym h) hs.gq.len)⟩
    · unfold addQ; split
      · exact hp
      · exact List.mem_append_left _ hp
    · unfold addQ; split
      · assumption
      · simp

end

theorem zeroSet (w : World) : (zeroValue 75).run Try.prog w = .ok (.agg #[.slice none 0 0, .int .i64 0]) w := by kernel_rfl
def RunPost (gt gs : Nat) (M : List Nat) (m T : Nat) (E : Option Addr) (cE : Nat) (va : Value) (I : Tab) (w : World) (ex : Ending) (w' : World) : Prop :=
  (∃ v, ex = .returned v) ∧ ∃ M' D' e', Tb w' gt gs M' m T E cE va (.slice none 0 0) (.slice none 0 0) D' e' ∧ Fin13 m T I D' e' ∧ Kept M w w' ∧ (∀ k ∈ M, k ∈ M') ∧ (∀ k ∈ M', k ∈ M ∨ w.heap.size ≤ k)
set_option maxRecDepth 100000 in
set_option maxHeartbeats 8000000 in
theorem run_any (gt gs gw : Nat) (M : List Nat) (m T : Nat) (E : Option Addr) (cE : Nat) (va : Value) (I D : Tab) (e : Bool) (q : List (Nat × Nat)) (w : World)
    (h : St w gt gs gw M m T E cE va D e q) (hp : Prop13 m T I D q e fun _ _ _ => False) :
    Calls Try.prog 41 #[.pointer (some ⟨gt, 0, none⟩)] w (RunPost gt gs M m T E cE va I w) := by
  have HH := Lib.hid h
  have HP := Lib.hid hp
  have hT1 := h.tb.choose_spec.1.mT.2.1
  have hm48 := h.tb.choose_spec.1.mT.1
  have hm2 : m * m ≤ 2304 := Nat.mul_le_mul hm48 hm48
  clear h hp
  go_enter Try.func41, Try.ntmps41
  go_wp2_with fail
  go_loopg [2, 3, 4] (mu m T D q) (fun g s2 s3 s4 wr => ∃ M1 D1 e1 q1, g = mu m T D1 q1 ∧ St wr gt gs gw M1 m T E cE va D1 e1 q1 ∧ Prop13 m T I D1 q1 e1 (fun _ _ _ => False) ∧ Kept M w wr ∧ (∀ k ∈ M, k ∈ M1) ∧ (∀ k ∈ M1, k ∈ M ∨ w.heap.size ≤ k))
  case atStart => exact ⟨M, D, e, q, rfl, HH.out, HP.out, .refl _ _, fun _ h => h, fun _ h => .inl h⟩
  case round =>
    obtain ⟨M1, D1, e1, q1, hg, hS, hP, hK, hM, hN⟩ := hrel
    obtain ⟨vq, hTb, hQ⟩ := hS.tb
    have c1 := hTb.c1
    have c3 := hTb.c3
    have c4 := hTb.c4
    have c5 := hTb.c5
    have c6 := hTb.c6
    have HS := Lib.hid hS
    have HP1 := Lib.hid hP
    have HK := Lib.hid hK
    have HM := Lib.hid hM
    have HN := Lib.hid hN
    have HT := Lib.hid hTb
    have HQ := Lib.hid hQ
    clear hS hP hK hM hN hTb hQ HH HP
    have f4 := HT.out.fz 4
    have f5 := HT.out.fz 5
    cases q1 with
    | nil =>
      obtain ⟨A0, k0, rfl⟩ := HQ.out.form
      cases e1 with
      | false =>
        go_wp2_with fail
        go_end0
        obtain ⟨g1, g2⟩ := HT.out.queue (.slice none 0 0)
        obtain ⟨g3, g4⟩ := g1.waits (.slice none 0 0)
        exact ⟨⟨_, rfl⟩, M1, D1, false, g3, HP1.out.fin hT1, (HK.out.trans g2 (fun k hk => HN.out k (by rw [List.mem_singleton.1 hk]; exact HT.out.inM.1))).trans g4 (fun k hk => HN.out k (by rw [List.mem_singleton.1 hk]; exact HT.out.inM.1)), HM.out, HN.out⟩
      | true =>
        obtain ⟨g1, g2⟩ := HT.out.queue (.slice none 0 0)
        obtain ⟨g3, g4⟩ := g1.waits (.slice none 0 0)
        obtain ⟨g5, g6⟩ := g3.clear
        have HG5 := Lib.hid g5
        have HG6 := Lib.hid g6
        have HG2 := Lib.hid g2
        have HG4 := Lib.hid g4
        have hm0 : 0 < m * m := by
          obtain ⟨x, y, hx, hy, _⟩ := HP1.out.emp rfl
          exact Nat.mul_pos (by omega) (by omega)
        have hcc : ∀ k, k < m * m * 2 → (((wr.setCell ⟨gt, 4, none⟩ (.slice none 0 0)).setCell ⟨gt, 5, none⟩ (.slice none 0 0)).cell? ⟨gs, 0 + k, none⟩).isSome = true := fun k hk => by
          obtain ⟨cur, k1, k2⟩ := g3.sets
          rw [Nat.zero_add, cell_of_row _ gs k _ _ _ k1, Array.getElem?_eq_getElem (by omega)]; rfl
        have HCC := Lib.hid hcc
        have HFF := Lib.hid (fun (k : Nat) (_ : k < m * m * 2) => g3.fs (0 + k))
        clear g1 g2 g3 g4 g5 g6 hcc
        go_wp2_with (with_reducible refine wpList_clear2 rfl _ 69 rfl rfl (run_clear2 _ 69 75 _ _ (.slice none 0 0) (.int .i64 0) Try.underlying69 zeroSet rfl rfl rfl gs 0 (m * m) (m * m) hm0 HCC.out HFF.out) ?_)
        go_end0
        exact ⟨⟨_, rfl⟩, M1, _, true, HG5.out, HP1.out.finE, ((HK.out.trans HG2.out (fun k hk => HN.out k (by rw [List.mem_singleton.1 hk]; exact HT.out.inM.1))).trans HG4.out (fun k hk => HN.out k (by rw [List.mem_singleton.1 hk]; exact HT.out.inM.1))).trans HG6.out (fun k hk => HN.out k (by rw [List.mem_singleton.1 hk]; exact HT.out.inM.2.1)), HM.out, HN.out⟩
    | cons p q2 =>
      obtain ⟨gq, off, c, rfl, hc1, hcm, p0, p1, t1, t2⟩ := HQ.out.pop
      cases e1 with
      | true =>
        obtain ⟨g1, g2⟩ := HT.out.queue (.slice none 0 0)
        obtain ⟨g3, g4⟩ := g1.waits (.slice none 0 0)
        obtain ⟨g5, g6⟩ := g3.clear
        have HG5 := Lib.hid g5
        have HG6 := Lib.hid g6
        have HG2 := Lib.hid g2
        have HG4 := Lib.hid g4
        have hm0 : 0 < m * m := by
          obtain ⟨x, y, hx, hy, _⟩ := HP1.out.emp rfl
          exact Nat.mul_pos (by omega) (by omega)
        have hcc : ∀ k, k < m * m * 2 → (((wr.setCell ⟨gt, 4, none⟩ (.slice none 0 0)).setCell ⟨gt, 5, none⟩ (.slice none 0 0)).cell? ⟨gs, 0 + k, none⟩).isSome = true := fun k hk => by
          obtain ⟨cur, k1, k2⟩ := g3.sets
          rw [Nat.zero_add, cell_of_row _ gs k _ _ _ k1, Array.getElem?_eq_getElem (by omega)]; rfl
        have HCC := Lib.hid hcc
        have HFF := Lib.hid (fun (k : Nat) (_ : k < m * m * 2) => g3.fs (0 + k))
        clear g1 g2 g3 g4 g5 g6 hcc
        go_wp2_with (with_reducible refine wpList_clear2 rfl _ 69 rfl rfl (run_clear2 _ 69 75 _ _ (.slice none 0 0) (.int .i64 0) Try.underlying69 zeroSet rfl rfl rfl gs 0 (m * m) (m * m) hm0 HCC.out HFF.out) ?_)
        go_end0
        exact ⟨⟨_, rfl⟩, M1, _, true, HG5.out, HP1.out.finE, ((HK.out.trans HG2.out (fun k hk => HN.out k (by rw [List.mem_singleton.1 hk]; exact HT.out.inM.1))).trans HG4.out (fun k hk => HN.out k (by rw [List.mem_singleton.1 hk]; exact HT.out.inM.1))).trans HG6.out (fun k hk => HN.out k (by rw [List.mem_singleton.1 hk]; exact HT.out.inM.2.1)), HM.out, HN.out⟩
      | false =>
        obtain ⟨i, j⟩ := p
        simp only at p0 p1
        obtain ⟨hij, hjm⟩ := HS.out.gq.2 (i, j) (by simp)
        simp only at hij hjm
        have HT1 := Lib.hid t1
        have HT2 := Lib.hid t2
        have l0 : (0 : Int) < ((q2.length + 1 : Nat) : Int) := by omega
        clear t1 t2
        unfold maxLen at hcm
        go_upto_region 1 with fail
        go_quiet (fail)
        go_upto_region 2 with fail
        have hbq : Below wr.heap.size wr (wr.drewN nq) := below_drewN (Below.refl _ _) nq
        have HTq := Lib.hid (HT.out.below hbq)
        have HQ1 := Lib.hid (fun h => (HT1.out h).kept (M' := M1) (fun g hg _ _ _ _ => hbq.block g hg) hbq.size (fun _ h => h))
        have HQ2 := Lib.hid (HT2.out.kept (M' := M1) (fun g hg _ _ _ _ => hbq.block g hg) hbq.size (fun _ h => h))
        have HWq := Lib.hid (HS.out.wt.kept (hbq.block gw HS.out.wt.lt))
        have HKq := Lib.hid (Kept.of_below [gt] hbq)
        clear HT1 HT2 p0 p1 hbq
        have hne := HS.out.ne
        go_cut [39] (fun s39 wx => ∃ vq', Tb wx gt gs M1 m T E cE va vq' (.slice (some ⟨gw, 0, none⟩) (m * m) (m * m)) D1 false ∧ Que wx gt gs gw M1 vq' q2 ∧ Wt wx gw m ((i, j) :: q2) ∧ Kept [gt] wr wx)
        case first =>
          by_cases hc : c = 1
          · subst hc
            have hq0 : q2.length = 0 := by omega
            have HQ0 := Lib.hid hq0
            clear hq0
            go_wp2_with fail
            go_meet
            obtain ⟨g1, g2⟩ := HTq.out.queue (.slice (some ⟨gq, off, none⟩) 0 0)
            refine ⟨_, g1, ?_, HWq.out.kept (g2.block gw HWq.out.lt (by simpa using hne.2.1)), HKq.out.trans g2 (fun k hk => .inl hk)⟩
            have := HQ1.out trivial
            rw [HQ0.out] at this
            exact this.kept (fun g hg _ n1 _ _ => g2.block g hg (by simpa using n1)) g2.size (fun _ h => h)
          · go_wp2_with fail
            go_meet
            obtain ⟨g1, g2⟩ := HTq.out.queue (.slice (some ⟨gq, off + 2, none⟩) q2.length (c - 1))
            exact ⟨_, g1, HQ2.out.kept (fun g hg _ n1 _ _ => g2.block g hg (by simpa using n1)) g2.size (fun _ h => h), HWq.out.kept (g2.block gw HWq.out.lt (by simpa using hne.2.1)), HKq.out.trans g2 (fun k hk => .inl hk)⟩
        case rest =>
          obtain ⟨vq', hTx, hQx, hWx, hKx⟩ := hcut
          go_upto_region 3 with fail
          have hbd : Below wc.heap.size wc { wc with drawn := wc.drawn + 1 } := below_drewN (Below.refl wc.heap.size wc) 1
          have hat := fun W (k1 : W.cell? ⟨gt, 1, none⟩ = some (.slice E m cE)) => at_any gt m E cE i j W k1 hm48 (by omega) hjm
          have hix := idx_lt (show i < m by omega) hjm
          have HWP := Lib.hid (hWx.kept (hbd.block gw hWx.lt))
          have HTY := Lib.hid (hTx.below hbd)
          have HQY := Lib.hid (hQx.kept (M' := M1) (fun g hg _ _ _ _ => hbd.block g hg) hbd.size (fun _ h => h))
          have HKY := Lib.hid (hKx.trans (Kept.of_below [gt] hbd) (fun k hk => .inl hk))
          clear hTx hQx hWx hKx HTq HQ1 HQ2 HWq HKq HT HQ hbd c1 c3 c4 c5 c6 f4 f5
          refine wp_region_still_tail 9 (by kernel_rfl) (by kernel_rfl) ?_
          simp only [List.take_succ_cons, List.take_zero, List.drop_succ_cons, List.drop_zero]
          generalize { wc with drawn := wc.drawn + 1 } = W at *
          have j1 := HTY.out.c1
          have j5 := HTY.out.c5
          have jb := HWP.out.bit i j (by omega) hjm
          have jf := HWP.out.fz (i * m + j)
          generalize hmm : m * m = mm at *
          generalize hp : i * m + j = p at *
          have HMM := Lib.hid hmm
          have HPP := Lib.hid hp
          have ip0 : (0 : Int) ≤ (p : Int) := by omega
          have ip1 : (p : Int) < (mm : Int) := by omega
          clear hmm hp
          still_step
          still_step
          still_step
          still_step
          still_step
          still_step
          still_step
          still_call (hat _ j1)
          still_step
          refine wpStill_nil ?_
          have hgq := HS.out.gq
          have hk := (Kept.refl [gw] W).setCell gw p (.bool false) (.inl (by simp))
          have hWt : Wt (W.setCell ⟨gw, p, none⟩ (.bool false)) gw m q2 := by
            have := HWP.out.put (i := i) (j := j) (b := false) (q' := q2) (by omega) hjm (fun x => by
              by_cases ex : x = (i, j)
              · subst ex; simp; exact (List.nodup_cons.1 hgq.1).1
              · simp [ex])
            rw [HPP.out] at this
            exact this
          have gs1 := HTY.out.gtlt
          have gs2 := HTY.out.gslt
          have hS2 : St (W.setCell ⟨gw, p, none⟩ (.bool false)) gt gs gw M1 m T E cE va D1 false q2 :=
            ⟨⟨vq', by
              rw [HMM.out]
              exact HTY.out.kept (hk.more (fun k hk => .inl (by rw [List.mem_singleton.1 hk]; exact hne.1))) (hk.block gt gs1 (by simpa using hne.2.1.symm)) (hk.block gs gs2 (by simpa using hne.2.2.symm)),
              HQY.out.kept (M' := M1) (fun g hg _ _ _ hn => hk.block g hg (by simpa using hn)) hk.size (fun _ h => h)⟩, hWt, ⟨(List.nodup_cons.1 hgq.1).2, fun x hx => hgq.2 x (List.mem_cons_of_mem _ hx)⟩, hne, fun k hk' => by
              have := HS.out.lt k hk'; have := HKY.out.size; have := hk.size; omega⟩
          have hK2 : Kept M w (W.setCell ⟨gw, p, none⟩ (.bool false)) := (HK.out.trans HKY.out (fun k hk => HN.out k (by rw [List.mem_singleton.1 hk]; exact HTY.out.inM.1))).trans hk (fun k hk => HN.out k (by rw [List.mem_singleton.1 hk]; exact hne.1))
          have HS2 := Lib.hid hS2
          have HK2 := Lib.hid hK2
          clear hS2 hK2 hk hWt hat HWP HTY HQY HKY
          go_upto_region 4 with fail
          clear jb jf j1 j5
          generalize W.setCell ⟨gw, p, none⟩ (.bool false) = X at *
          have x1 := HS2.out.tb.choose_spec.1.c1
          go_wp2_with fail
          clear x1
          go_loopg [4, 55] m (fun g' s4 s55 wv => ∃ (k : Nat) (M2 : List Nat) (D2 : Tab) (e2 : Bool) (q3 : List (Nat × Nat)), k ≤ m ∧ g' = m - k ∧ s55 = .int .i64 k ∧ St wv gt gs gw M2 m T E cE va D2 e2 q3 ∧ Prop13 m T I D2 q3 e2 (Legs (pr i j) k) ∧ mu m T D2 q3 ≤ mu m T D1 q2 ∧ Kept M w wv ∧ (∀ k ∈ M, k ∈ M2) ∧ (∀ k ∈ M2, k ∈ M ∨ w.heap.size ≤ k))
          case atStart =>
            have hpij : pr i j = (i, j) := by unfold pr; rw [Nat.min_eq_left (by omega), Nat.max_eq_right (by omega)]
            exact ⟨0, M1, D1, false, q2, by omega, by omega, rfl, HS2.out, by rw [hpij]; exact HP1.out.pop, Nat.le_refl _, HK2.out, HM.out, HN.out⟩
          case round =>
            obtain ⟨k, M2, D2, e2, q3, hk, hg', rfl, hS3, hP3, hmu, hK3, hM3, hN3⟩ := hrel
            have HS3 := Lib.hid hS3
            have HP3 := Lib.hid hP3
            have HMU := Lib.hid hmu
            have HK3 := Lib.hid hK3
            have HM3 := Lib.hid hM3
            have HN3 := Lib.hid hN3
            clear hS3 hP3 hmu hK3 hM3 hN3 HS2 HK2
            by_cases hlt : k < m
            · by_cases hki : k = i
              · have HP4 := Lib.hid (HP3.out.legs_skip (.inl hki))
                have d1 : ((k : Int) != (i : Int)) = false := by simp [hki]
                clear hki
                go_wp2_with fail
                go_roundg (m - (k + 1))
                case measure => omega
                case rel => exact ⟨k + 1, M2, D2, e2, q3, by omega, rfl, by go_num, HS3.out, HP4.out, HMU.out, HK3.out, HM3.out, HN3.out⟩
              · have d1 : ((k : Int) != (i : Int)) = true := by simp; omega
                by_cases hkj : k = j
                · have HP4 := Lib.hid (HP3.out.legs_skip (.inr hkj))
                  have d2 : ((k : Int) != (j : Int)) = false := by simp [hkj]
                  have HKI := Lib.hid hki
                  clear hki hkj
                  go_wp2_with fail
                  go_roundg (m - (k + 1))
                  case measure => omega
                  case rel => exact ⟨k + 1, M2, D2, e2, q3, by omega, rfl, by go_num, HS3.out, HP4.out, HMU.out, HK3.out, HM3.out, HN3.out⟩
                · have d2 : ((k : Int) != (j : Int)) = true := by simp; omega
                  have HKI := Lib.hid hki
                  have HKJ := Lib.hid hkj
                  clear hki hkj
                  go_wp2_with fail
                  refine (compose_any gt gs gw M2 m T E cE va D2 e2 q3 i j k wr HS3.out (by omega) hjm hlt (by omega) (Ne.symm HKJ.out) (Ne.symm HKI.out)).mono ?_
                  rintro ex w4 ⟨⟨v4, rfl⟩, M4, hk4, hm4, hn4, hc4⟩
                  obtain ⟨D4, e4, q4, hS4, hP4, hmu4⟩ := comp_next (X' := Legs1 i j k) hT1 HP3.out (show i < m by omega) hlt hjm (Ne.symm HKI.out) (by omega) HKJ.out (fun _ _ _ h => legs_first h) hc4
                  have HS4 := Lib.hid hS4
                  have HP4 := Lib.hid hP4
                  have HMU4 := Lib.hid (Nat.le_trans hmu4 HMU.out)
                  have HK4 := Lib.hid (HK3.out.trans hk4 (fun k hk => HN3.out k hk))
                  have HM4 := Lib.hid (fun k hk => hm4 k (HM3.out k hk))
                  have HN4 := Lib.hid (show ∀ k ∈ M4, k ∈ M ∨ w.heap.size ≤ k from fun k hk => by
                    rcases hn4 k hk with q | q
                    · exact HN3.out k q
                    · exact .inr (Nat.le_trans HK3.out.size q))
                  clear hc4 hS4 hP4 hmu4 hk4 hm4 hn4
                  go_wp2_with fail
                  refine (compose_any gt gs gw M4 m T E cE va D4 e4 q4 j i k w4 HS4.out hjm (by omega) hlt (by omega) (Ne.symm HKI.out) (Ne.symm HKJ.out)).mono ?_
                  rintro ex w5 ⟨⟨v5, rfl⟩, M5, hk5, hm5, hn5, hc5⟩
                  obtain ⟨D5, e5, q5, hS5, hP5, hmu5⟩ := comp_next (X' := Legs (pr i j) (k + 1)) hT1 HP4.out hjm hlt (show i < m by omega) (Ne.symm HKJ.out) (by omega) HKI.out (fun _ _ _ h => legs_second h) hc5
                  have HS5 := Lib.hid hS5
                  have HP5 := Lib.hid hP5
                  have HMU5 := Lib.hid (Nat.le_trans hmu5 HMU4.out)
                  have HK5 := Lib.hid (HK4.out.trans hk5 (fun k hk => HN4.out k hk))
                  have HM5 := Lib.hid (fun k hk => hm5 k (HM4.out k hk))
                  have HN5 := Lib.hid (show ∀ k ∈ M5, k ∈ M ∨ w.heap.size ≤ k from fun k hk => by
                    rcases hn5 k hk with q | q
                    · exact HN4.out k q
                    · exact .inr (Nat.le_trans HK4.out.size q))
                  clear hc5 hS5 hP5 hmu5 hk5 hm5 hn5
                  go_wp2_with fail
                  go_roundg (m - (k + 1))
                  case measure => omega
                  case rel => exact ⟨k + 1, M5, D5, e5, q5, by omega, rfl, by go_num, HS5.out, HP5.out, HMU5.out, HK5.out, HM5.out, HN5.out⟩
            · obtain rfl : k = m := by omega
              go_wp2_with fail
              go_roundg (mu k T D2 q3)
              case measure =>
                rw [hg]
                have := HMU.out
                unfold mu at *
                simp only [List.length_cons]
                omega
              case rel => exact ⟨M2, D2, e2, q3, rfl, HS3.out, HP3.out.legs_end, HK3.out, HM3.out, HN3.out⟩

end Go.Proofs.Ytbhjnihcmfagjaa
