/-
  The table with its queue; contract of enter.
-/
import Derived.Test.YtbhjnihcmfagjaaTabD
import Derived.BigQuiet
import Derived.Test.YtbhjnihcmfagjaaSource
set_option linter.unusedVariables false
set_option linter.unusedSimpArgs false
namespace Go.Proofs.Ytbhjnihcmfagjaa
open Go.RowKit Go.Shelf RP

/-- At the list of a region's operations. -/
theorem wpList_append_que {P : Program} {ops : Array Oper} {rest : List Oper} {o : Oper} {a : Act} {Q : Exit → Act → World → Prop} {W : World} {gt gs gw : Nat} {M : List Nat} {vq : Value} {q : List (Nat × Nat)}
    (hgd : o.guard = none) (s x : Operand) (t : TypeId) (ho : o.op = .call { callee := .builtin .append, args := #[s, x], argTypes := #[t, t] }) (e : TypeId) (i : TypeInfo) (z : Value) (ht : P.underlying t = some (.slice e)) (hi : P.info? e = some i) (hz : i.zero = some z) (hsz : i.size = 2) (hby : i.bytes = 16) (hzs : z.cells.size = 2)
    (hs : a.eval s = vq) (h : Que W gt gs gw M vq q) (hl : q.length ≤ 2304) (hgt : gt < W.heap.size) (hgs : gs < W.heap.size) (hgw : gw < W.heap.size) (y1 y2 : Nat) (g : Nat) (t' : TypeId) (hblk : W.heap[g]? = some (.cells #[.int .i64 y1, .int .i64 y2] t' (0, 0))) (hx : a.eval x = .slice (some ⟨g, 0, none⟩) 1 1)
    (hK : ∀ v' w' M', Que w' gt gs gw M' v' (q ++ [(y1, y2)]) → 
      (∀ k, k < W.heap.size → (k ∉ M ∨ k = gt ∨ k = gs ∨ k = gw) → w'.heap[k]? = W.heap[k]?) → (W.heap.size ≤ w'.heap.size ∧ w'.os = W.os ∧ w'.tape = W.tape ∧ w'.output = W.output) →
      (∀ k ∈ M, k ∈ M') → (∀ k ∈ M', k ∈ M ∨ (W.heap.size ≤ k ∧ k < w'.heap.size)) → wpList P ops Q rest (a.put o.dst v') w') : wpList P ops Q (o :: rest) a W := by
  refine wpList_plain hgd fun K hK0 => ?_
  obtain ⟨v', w', M', hr, h1, h2, h3, h4, h5, h6, h7, h8⟩ := que_append (P := P) t o.type e i z ht hi hz hsz hby hzs h hl hgt hgs hgw y1 y2 g t' hblk
  unfold Oper.wp execOp
  simp only [ho, resolve, invoke, builtin, Sem.run_bind, Sem.run_pure, Result.andThen_ok, List.map_toArray, List.map_cons, List.map_nil, hs, hx, hr]
  exact hK0 _ _ (hK v' w' M' h1 h2 ⟨h3, h4, h5, h6⟩ h7 h8)

/-- Which pairs wait. -/
structure Wt (w : World) (gw m : Nat) (q : List (Nat × Nat)) : Prop where
  blk : ∃ cur, w.heap[gw]? = some (.cells cur 4 (0, 0)) ∧ cur.size = m * m
  bit : ∀ i j, i < m → j < m → w.cell? ⟨gw, i * m + j, none⟩ = some (.bool (decide ((i, j) ∈ q)))

/-- The table and its queue. -/
structure St (w : World) (gt gs gw : Nat) (M : List Nat) (m T : Nat) (E : Option Addr) (cE : Nat) (va : Value) (D : Tab) (e : Bool) (q : List (Nat × Nat)) : Prop where
  tb : ∃ vq, Tb w gt gs M m T E cE va vq (.slice (some ⟨gw, 0, none⟩) (m * m) (m * m)) D e ∧ Que w gt gs gw M vq q
  wt : Wt w gw m q
  gq : GoodQ m q
  ne : gw ∈ M ∧ gw ≠ gt ∧ gw ≠ gs
  lt : ∀ k ∈ M, k < w.heap.size

section
variable {w w' : World} {gt gs gw : Nat} {M M' : List Nat} {m T : Nat} {E : Option Addr} {cE : Nat} {va vq vw : Value} {D : Tab} {e : Bool} {q : List (Nat × Nat)}
theorem Tb.swap (h : Tb w gt gs M m T E cE va vq vw D e) (h1 : ∀ k ∈ M, k ∈ M') (h2 : ∀ k ∈ M', k ∈ M ∨ w.heap.size ≤ k) : Tb w gt gs M' m T E cE va vq vw D e :=
  ⟨h.tab, h.sets, fun i j hi hj => by
    obtain ⟨A, c, k1, k2, k3, k4, k5⟩ := h.set i j hi hj
    exact ⟨A, c, k1, k2, k3.swap h2, k4, k5⟩, ⟨h1 _ h.inM.1, h1 _ h.inM.2.1, h.inM.2.2⟩, h.mT⟩
/-- The queue's slice is written. -/
theorem Tb.queue (h : Tb w gt gs M m T E cE va vq vw D e) (v' : Value) : Tb (w.setCell ⟨gt, 4, none⟩ v') gt gs M m T E cE va v' vw D e ∧ Kept [gt] w (w.setCell ⟨gt, 4, none⟩ v') := by
  have hk0 : Kept [gt] w (w.setCell ⟨gt, 4, none⟩ v') := (Kept.refl [gt] w).setCell gt _ _ (.inl (by simp))
  have hk : Kept M w (w.setCell ⟨gt, 4, none⟩ v') := (Kept.refl M w).setCell gt _ _ (.inl h.inM.1)
  have hs : (w.setCell ⟨gt, 4, none⟩ v').heap[gs]? = w.heap[gs]? := Below.heap_setCell _ _ _ gs (fun q => h.inM.2.2 q.symm)
  refine ⟨⟨set_block _ h.tab, ?_, fun a b ha hb => ?_, h.inM, h.mT⟩, hk0⟩
  · obtain ⟨cur, k1, k2⟩ := h.sets; exact ⟨cur, hs.trans k1, k2⟩
  · obtain ⟨A, c, k1, k2, k3, k4, k5⟩ := h.set a b ha hb
    exact ⟨A, c, (World.cell?_of_block (a := ⟨gs, _, none⟩) hs).trans k1, (World.cell?_of_block (a := ⟨gs, _, none⟩) hs).trans k2, k3.kept hk, k4, k5⟩
theorem Wt.lt (h : Wt w gw m q) : gw < w.heap.size := by obtain ⟨cur, h1, _⟩ := h.blk; exact (Array.getElem?_eq_some_iff.1 h1).1
theorem Wt.fz (h : Wt w gw m q) (o : Nat) : w.frozen? ⟨gw, o, none⟩ = false := by obtain ⟨cur, h1, _⟩ := h.blk; simp [World.frozen?, h1]
theorem Wt.kept (h : Wt w gw m q) (hk : w'.heap[gw]? = w.heap[gw]?) : Wt w' gw m q :=
  ⟨by obtain ⟨cur, h1, h2⟩ := h.blk; exact ⟨cur, hk.trans h1, h2⟩, fun i j hi hj => (World.cell?_of_block (a := ⟨gw, _, none⟩) hk).trans (h.bit i j hi hj)⟩
/-- A bit is written. -/
theorem Wt.put (h : Wt w gw m q) {i j : Nat} (hi : i < m) (hj : j < m) {b : Bool} {q' : List (Nat × Nat)} (hq : ∀ p, p ∈ q' ↔ if p = (i, j) then b = true else p ∈ q) : Wt (w.setCell ⟨gw, i * m + j, none⟩ (.bool b)) gw m q' where
  blk := by obtain ⟨cur, h1, h2⟩ := h.blk; exact ⟨_, set_block _ h1, by simp [h2]⟩
  bit := fun a c ha hc => by
    by_cases e : (a, c) = (i, j)
    · injection e with e1 e2
      subst e1 e2
      rw [World.cell?_setCell_same _ _ _ (h.bit a c ha hc)]
      have := hq (a, c)
      rw [if_pos rfl] at this
      cases b with
      | true => rw [decide_eq_true (this.2 rfl)]
      | false => rw [decide_eq_false (fun q => by have := this.1 q; cases this)]
    · have hne : a * m + c ≠ i * m + j := fun q => e (by obtain ⟨e1, e2⟩ := idx_inj hj hc q; rw [e1, e2])
      rw [World.cell?_setCell_other _ _ _ _ (fun q => by injection q; omega), h.bit a c ha hc]
      have := hq (a, c)
      rw [if_neg e] at this
      rw [decide_eq_decide.2 this]
theorem St.below (h : St w gt gs gw M m T E cE va D e q) (hb : Below w.heap.size w w') : St w' gt gs gw M m T E cE va D e q where
  tb := by obtain ⟨vq, h1, h2⟩ := h.tb; exact ⟨vq, h1.below hb, h2.kept (fun g hg _ _ _ _ => hb.block g hg) hb.size (fun _ h => h)⟩
  wt := h.wt.kept (hb.block gw h.wt.lt)
  gq := h.gq
  ne := h.ne
  lt := fun k hk => Nat.lt_of_lt_of_le (h.lt k hk) hb.size
end

theorem Que.form {w : World} {gt gs gw : Nat} {M : List Nat} {vq : Value} {q : List (Nat × Nat)} (h : Que w gt gs gw M vq q) : ∃ A c, vq = .slice A q.length c := by
  rcases h with ⟨rfl, rfl⟩ | ⟨gq, off, c, h1, _⟩
  · exact ⟨none, 0, rfl⟩
  · exact ⟨_, _, h1⟩
def addQ (q : List (Nat × Nat)) (p : Nat × Nat) : List (Nat × Nat) := if p ∈ q then q else q ++ [p]
theorem info98 : (Try.prog.info? 98).map (fun i => (i.zero, i.size, i.bytes)) = some (some (.agg #[.int .i64 0, .int .i64 0]), 2, 16) := by kernel_rfl

set_option maxRecDepth 100000 in
set_option maxHeartbeats 4000000 in
theorem enter_any (gt gs gw : Nat) (M : List Nat) (m T : Nat) (E : Option Addr) (cE : Nat) (va : Value) (D : Tab) (e : Bool) (q : List (Nat × Nat)) (i j : Nat) (w : World)
    (h : St w gt gs gw M m T E cE va D e q) (hi : i < m) (hj : j < m) (hij : i ≠ j) :
    Calls Try.prog 40 #[.pointer (some ⟨gt, 0, none⟩), .int .i64 i, .int .i64 j] w fun ex w' =>
      (∃ v, ex = .returned v) ∧ ∃ M', St w' gt gs gw M' m T E cE va D e (addQ q (pr i j)) ∧ Kept M w w' ∧ (∀ k ∈ M, k ∈ M') ∧ (∀ k ∈ M', k ∈ M ∨ w.heap.size ≤ k) := by
  obtain ⟨a, ha⟩ : ∃ a, min i j = a := ⟨_, rfl⟩
  obtain ⟨b, hb⟩ : ∃ b, max i j = b := ⟨_, rfl⟩
  have hab : a < b ∧ b < m := by omega
  have hpr : pr i j = (a, b) := by unfold pr; rw [ha, hb]
  have ea : min (i : Int) (j : Int) = (a : Int) := by omega
  have eb : max (i : Int) (j : Int) = (b : Int) := by omega
  rw [hpr]
  clear hpr
  obtain ⟨vq, hTb, hQ⟩ := h.tb
  have k1 := hTb.c1
  have k4 := hTb.c4
  have k5 := hTb.c5
  have bt := h.wt.bit a b (by omega) hab.2
  have hat := fun W (k1 : W.cell? ⟨gt, 1, none⟩ = some (.slice E m cE)) => at_any gt m E cE a b W k1 hTb.mT.1 (by omega) hab.2
  have hix := idx_lt (show a < m by omega) hab.2
  have hm48 : m * m ≤ 2304 := Nat.mul_le_mul hTb.mT.1 hTb.mT.1
  have hql := h.gq.len
  generalize hmm : m * m = mm at *
  generalize hp : a * m + b = p at *
  have HMM := Lib.hid hmm
  have HP := Lib.hid hp
  have ip0 : (0 : Int) ≤ (p : Int) := by omega
  have ip1 : (p : Int) < (mm : Int) := by omega
  have HH := Lib.hid h
  have HT := Lib.hid hTb
  have HQ := Lib.hid hQ
  have HA := Lib.hid hab
  have hgt := hTb.gtlt
  have hgs := hTb.gslt
  have hgw := h.wt.lt
  have f4 := hTb.fz 4
  have fw := h.wt.fz p
  have hatq : ∀ n, Calls Try.prog 38 #[.pointer (some ⟨gt, 0, none⟩), .int .i64 a, .int .i64 b] (w.drewN n) fun e w' => e = .returned (.int .i64 (p : Int)) ∧ w.drewN n = w' := fun n => (hat (w.drewN n) k1).mono fun _ _ ⟨x, y⟩ => ⟨x, y.symm⟩
  clear hmm hp h hTb hQ hab ha hb
  by_cases hin : (a, b) ∈ q
  · rw [decide_eq_true hin] at bt
    have HIN := Lib.hid hin
    clear hin
    go_enter Try.func40, Try.ntmps40
    go_upto_region 1 with fail
    go_quiet ((go_at_call 38; exact quiet_left (hatq _)))
    go_wp2_with fail
    go_end0
    have e1 : addQ q (a, b) = q := by rw [addQ, if_pos HIN.out]
    rw [e1]
    have hb := below_drewN (Below.refl w.heap.size w) nq
    exact ⟨⟨_, rfl⟩, M, HH.out.below hb, .of_below M hb, fun _ h => h, fun _ h => .inl h⟩
  · rw [decide_eq_false hin] at bt
    have HIN := Lib.hid hin
    clear hin
    go_enter Try.func40, Try.ntmps40
    go_upto_region 1 with fail
    go_quiet ((go_at_call 38; exact quiet_left (hatq _)))
    go_upto_region 2 with fail
    have hbd : Below w.heap.size w { w.drewN nq with drawn := (w.drewN nq).drawn + 1 } := below_drewN (Below.refl w.heap.size w) (nq + 1)
    refine wp_region_still_tail 9 (by kernel_rfl) (by kernel_rfl) ?_
    simp only [List.take_succ_cons, List.take_zero, List.drop_succ_cons, List.drop_zero]
    generalize { w.drewN nq with drawn := (w.drewN nq).drawn + 1 } = W at *
    have j1 := (hbd.cell (p := ⟨gt, 1, none⟩) hgt).trans k1
    have j5 := (hbd.cell (p := ⟨gt, 5, none⟩) hgt).trans k5
    have jb := (hbd.cell (p := ⟨gw, p, none⟩) hgw).trans bt
    have jf := (hbd.frozen (p := ⟨gw, p, none⟩) hgw).trans fw
    still_step
    still_step
    still_step
    still_step
    still_step
    still_step
    still_step
    still_call (hat _ j1)
    still_step
    refine wpStill_nil ?_
    have HHW := Lib.hid (HH.out.below hbd)
    have HTW := Lib.hid (HT.out.below hbd)
    have HQW := Lib.hid (HQ.out.kept (fun g hg _ _ _ _ => hbd.block g hg) hbd.size (fun _ h => h) (M' := M))
    have HBW := Lib.hid hbd
    have zW := hbd.size
    clear hatq hat bt k1 k4 k5 f4 fw hbd
    go_upto_region 3 with fail
    have hne := HHW.out.ne
    have HWP := Lib.hid (HHW.out.wt.put (i := a) (j := b) (b := true) (q' := addQ q (a, b)) (by have := HA.out; omega) HA.out.2 (fun x => by
      rw [addQ, if_neg HIN.out]
      by_cases e : x = (a, b)
      · simp [e]
      · simp [e]))
    rw [HP.out] at HWP
    have hk := (Kept.refl [gw] W).setCell gw p (.bool true) (.inl (by simp))
    have HT2 := Lib.hid (HTW.out.kept (hk.more (fun k hk => .inl (by rw [List.mem_singleton.1 hk]; exact hne.1))) (hk.block gt (by omega) (by simpa using hne.2.1.symm)) (hk.block gs (by omega) (by simpa using hne.2.2.symm)))
    have HQ2 := Lib.hid (HQW.out.kept (M' := M) (fun g hg _ _ _ hn => hk.block g hg (by simpa using hn)) hk.size (fun _ h => h))
    have HK2 := Lib.hid ((Kept.of_below [gw] HBW.out).trans hk (fun k hk => .inl hk))
    have z2 := hk.size
    clear hk HHW HTW HQW jb jf j1 j5
    generalize W.setCell ⟨gw, p, none⟩ (.bool true) = X at *
    have c4 := HT2.out.c4
    have f4 := HT2.out.fz 4
    obtain ⟨A7, c7, rfl⟩ := HQ2.out.form
    obtain ⟨i0, hi0, hz0, hz1, hz2⟩ := info_parts info98
    have hqx := HQ2.out.kept (w' := X.alloc (.cells #[.int .i64 a, .int .i64 b] 98)) (M' := M) (fun g hg _ _ _ _ => Below.heap_alloc _ _ _ hg) (by simp) (fun _ h => h)
    have hblk := heap_alloc_new X (.cells #[.int .i64 a, .int .i64 b] 98)
    have x1 : gt < (X.alloc (.cells #[.int .i64 a, .int .i64 b] 98)).heap.size := by simp; omega
    have x2 : gs < (X.alloc (.cells #[.int .i64 a, .int .i64 b] 98)).heap.size := by simp; omega
    have x3 : gw < (X.alloc (.cells #[.int .i64 a, .int .i64 b] 98)).heap.size := by simp; omega
    have bX := (Below.refl X.heap.size X).alloc (Nat.le_refl _) (.cells #[.int .i64 a, .int .i64 b] 98)
    have zX : (X.alloc (.cells #[.int .i64 a, .int .i64 b] 98)).heap.size = X.heap.size + 1 := by simp
    have HQX := Lib.hid hqx
    have HBX := Lib.hid bX
    have HZX := Lib.hid zX
    have HBLK := Lib.hid hblk
    clear hqx bX zX hblk
    go_wp2_with (at_builtin; refine wpList_append_que rfl _ _ 71 rfl 98 i0 _ Try.underlying71 hi0 hz0 hz1 hz2 rfl rfl HQX.out (by omega) x1 x2 x3 a b _ _ HBLK.out rfl ?_; intro v6 w6 M6 hq6 hb6 hz6 hm6 hn6; obtain ⟨A8, c8, rfl⟩ := hq6.form; generalize (q ++ [(a, b)]).length = L8 at hq6 ⊢; have bgt := (hb6 gt x1 (.inr (.inl rfl))).trans (Below.heap_alloc _ _ _ (show gt < X.heap.size by omega)); have c46 := (World.cell?_of_block (a := ⟨gt, 4, none⟩) bgt).trans c4; have f46 := (World.frozen?_of_block (a := ⟨gt, 4, none⟩) bgt).trans f4; have HQ6 := Lib.hid hq6; have HB6 := Lib.hid hb6; have HZ6 := Lib.hid hz6; have HM6 := Lib.hid hm6; have HN6 := Lib.hid hn6; have HBGT := Lib.hid bgt; clear hq6 hb6 hz6 hm6 hn6 bgt)
    go_end0
    have zx := HZX.out
    have zy := HZ6.out.1
    have bgs := (HB6.out gs x2 (.inr (.inr (.inl rfl)))).trans (Below.heap_alloc _ _ _ (show gs < X.heap.size by omega))
    have bgw := (HB6.out gw x3 (.inr (.inr (.inr rfl)))).trans (Below.heap_alloc _ _ _ (show gw < X.heap.size by omega))
    have kX : Kept M X w6 := ⟨HZ6.out.2.1, HZ6.out.2.2.1, HZ6.out.2.2.2, by omega, fun k hk hn => (HB6.out k (by omega) (.inl hn)).trans (Below.heap_alloc _ _ _ hk)⟩
    have T6 := ((HT2.out.swap HM6.out (fun k hk => by
      rcases HN6.out k hk with q | q
      · exact .inl q
      · exact .inr (by omega))).kept (kX.more (fun k hk => .inl (HM6.out k hk))) HBGT.out bgs).queue (.slice A8 L8 c8)
    · have hk6 := T6.2
      have kA : Kept M w w6 := (HK2.out.more (M' := M) (fun k hk => .inl (by rw [List.mem_singleton.1 hk]; exact hne.1))).trans kX (fun k hk => .inl hk)
      refine ⟨⟨_, rfl⟩, M6, ⟨⟨_, by rw [HMM.out]; exact T6.1, ?_⟩, ?_, ?_, ⟨HM6.out _ hne.1, hne.2⟩, fun k hk => ?_⟩, kA.trans hk6 (fun k hk => .inl (by rw [List.mem_singleton.1 hk]; exact HT2.out.inM.1)), HM6.out, fun k hk => ?_⟩
      · rw [addQ, if_neg HIN.out]
        exact HQ6.out.kept (fun g hg _ hn _ _ => hk6.block g hg (by simpa using hn)) hk6.size (fun _ h => h)
      · exact (HWP.out.kept bgw).kept (hk6.block gw (by omega) (by simpa using hne.2.1))
      · have := HH.out.gq
        rw [addQ, if_neg HIN.out]
        refine ⟨List.nodup_append.2 ⟨this.1, by simp, fun x hx y hy q => ?_⟩, fun x hx => ?_⟩
        · simp at hy; subst hy; subst q; exact HIN.out hx
        · rcases List.mem_append.1 hx with hx | hx
          · exact this.2 x hx
          · simp at hx; subst hx; exact HA.out
      · rcases HN6.out k hk with q | q
        · have := HH.out.lt k q; have := hk6.size; omega
        · have := hk6.size; omega
      · rcases HN6.out k hk with q | q
        · exact .inl q
        · exact .inr (by omega)

end Go.Proofs.Ytbhjnihcmfagjaa
