/-
  The pattern of a line: contract of newPattern where its rides are complete.
-/
import Derived.Test.YtaongejpbgjbiaaCalD
set_option linter.unusedVariables false
set_option linter.unusedSimpArgs false
namespace RP
/-- The second of the arrival of the ride before ride k. -/
def nowB (D W : Nat → Int) : Nat → Int
  | 0 => 0
  | k + 1 => nowB D W k + (if k = 0 then 0 else D k) + W k
def depO (D W : Nat → Int) (k : Nat) : Int := nowB D W k + (if k = 0 then 0 else D k)
def depL (D W : Nat → Int) (k : Nat) : List Int := (List.range k).map (depO D W)
def arrL (D W : Nat → Int) (k : Nat) : List Int := (List.range k).map fun r => nowB D W (r + 1)
theorem depL_succ (D W : Nat → Int) (k : Nat) : depL D W k ++ [depO D W k] = depL D W (k + 1) := by unfold depL; rw [List.range_succ, List.map_append]; rfl
theorem arrL_succ (D W : Nat → Int) (k : Nat) : arrL D W k ++ [nowB D W (k + 1)] = arrL D W (k + 1) := by unfold arrL; rw [List.range_succ, List.map_append]; rfl
theorem depL_len (D W : Nat → Int) (k : Nat) : (depL D W k).length = k := by simp [depL]
theorem arrL_len (D W : Nat → Int) (k : Nat) : (arrL D W k).length = k := by simp [arrL]
/-- The rides of a line are complete: R of them; P and Q are the numbers of their events, D and W the durations of the dwells and the runs. -/
structure PatOk (T : Nat) (ts : List Int) (ev : List (Int × Int × Int)) (l : List Acy) (line : Int) (R : Nat) (P Q : Nat → Nat) (D W : Nat → Int) : Prop where
  pos : 1 ≤ R
  le : R ≤ 48
  dep : ∀ r, r < R → fidx (fun e => decide (e = ((1 : Int), line, (r : Int)))) ev = P r
  arr : ∀ r, r < R → fidx (fun e => decide (e = ((2 : Int), line, (r : Int)))) ev = Q r
  stop : fidx (fun e => decide (e = ((1 : Int), line, (R : Int)))) ev = -1
  run : ∀ r, r < R → ∃ a, l.find? (isA 1 (P r) (Q r)) = some a ∧ a.lo + overI T ts a = W r
  dwell : ∀ r, r + 1 < R → ∃ a, l.find? (isA 2 (Q r) (P (r + 1))) = some a ∧ a.lo + overI T ts a = D (r + 1)
theorem fidx_lt {α : Type} {p : α → Bool} {l : List α} {k : Nat} (h : fidx p l = k) : k < l.length := by
  rcases fidx_find (p := p) l with ⟨e1, _⟩ | ⟨j, hj, e1, _⟩ <;> rw [h] at e1 <;> omega
theorem dur_bound {T m : Nat} {ts : List Int} {l : List Acy} {a : Acy} {p : Acy → Bool} (hg : goodB T m l ts = true) (hf : l.find? p = some a) : -65536 ≤ a.lo + overI T ts a ∧ a.lo + overI T ts a ≤ 72736 := by
  obtain ⟨⟨h1, h2, _⟩, hok⟩ := netB_iff.1 (goodB_iff.1 hg).1
  have ha : a ∈ l := List.mem_of_find?_eq_some hf
  have := hok a ha
  unfold okA at this
  have h3 := Int.emod_nonneg (ts.getD a.dst.toNat 0 - ts.getD a.src.toNat 0 - a.lo) (show (T : Int) ≠ 0 by omega)
  have h4 := Int.emod_lt_of_pos (ts.getD a.dst.toNat 0 - ts.getD a.src.toNat 0 - a.lo) (show (0 : Int) < T by omega)
  unfold overI
  omega
section
variable {T m : Nat} {ts : List Int} {ev : List (Int × Int × Int)} {l : List Acy} {line : Int} {R : Nat} {P Q : Nat → Nat} {D W : Nat → Int} (h : PatOk T ts ev l line R P Q D W) (hg : goodB T m l ts = true)
include h hg
theorem PatOk.wB (r : Nat) (hr : r < R) : -65536 ≤ W r ∧ W r ≤ 72736 := by
  obtain ⟨a, h1, h2⟩ := h.run r hr
  rw [← h2]; exact dur_bound hg h1
theorem PatOk.dB (r : Nat) (hr : r + 1 < R) : -65536 ≤ D (r + 1) ∧ D (r + 1) ≤ 72736 := by
  obtain ⟨a, h1, h2⟩ := h.dwell r hr
  rw [← h2]; exact dur_bound hg h1
theorem PatOk.nB : ∀ k, k ≤ R → -131072 * (k : Int) ≤ nowB D W k ∧ nowB D W k ≤ 145472 * (k : Int)
  | 0, _ => by simp [nowB]
  | k + 1, hk => by
    have ih := PatOk.nB k (by omega)
    have h1 := h.wB hg k (by omega)
    have h2 : -65536 ≤ (if k = 0 then 0 else D k) ∧ (if k = 0 then 0 else D k) ≤ 72736 := by
      cases k with
      | zero => simp
      | succ j => rw [if_neg (by omega)]; exact h.dB hg j (by omega)
    simp only [nowB]
    omega
end
end RP
namespace Go.Proofs.Ytaongejpbgjbiaa
open Go.RowKit RP

abbrev OwnN (w : World) (base : Nat) (v : Value) (l : List Int) : Prop := Own encI 1 3 w base v l
theorem infoN : (Try.prog.info? 3).map (fun i => (i.zero, i.size, i.bytes)) = some (some (.int .i64 0), 1, 8) := by kernel_rfl
theorem encI_one (x : Int) : ∀ u ∈ encI x, u.oneCell' = true := by
  intro u hu
  simp only [encI, List.mem_cons, List.not_mem_nil, or_false] at hu
  subst hu; rfl
theorem elemN : ElemOk Try.prog encI 1 3 8 :=
  ⟨fun _ => rfl, by omega, encI_one, by
    obtain ⟨i, hi, h0, h1, h2⟩ := info_parts infoN
    exact ⟨i, _, hi, h0, h1, h2, rfl⟩⟩
theorem set_block' {w : World} {g o : Nat} {cs : Array Value} {t : TypeId} {fr : Nat × Nat} (v : Value) (h : w.heap[g]? = some (.cells cs t fr)) : (w.setCell ⟨g, o, none⟩ v).heap[g]? = some (.cells (cs.setIfInBounds o v) t fr) := by
  obtain ⟨hlt, hk⟩ := Array.getElem?_eq_some_iff.1 h
  show (w.heap.modify g _)[g]? = _
  rw [Array.getElem?_eq_getElem (by rw [Array.size_modify]; exact hlt), Array.getElem_modify_self, hk]
  rfl
theorem set_other {w : World} {g o b : Nat} (v : Value) (h : b ≠ g) : (w.setCell ⟨g, o, none⟩ v).heap[b]? = w.heap[b]? := Below.heap_setCell w ⟨g, o, none⟩ v b h
theorem set_size (w : World) (a : Addr) (v : Value) : (w.setCell a v).heap.size = w.heap.size := by simp [World.setCell]
theorem set_grown (w : World) (g o : Nat) (v : Value) : w.grownBy (w.setCell ⟨g, o, none⟩ v) (some g) := ⟨rfl, rfl, rfl, by rw [set_size]; exact Nat.le_refl _, fun k _ hn => set_other v (fun e => hn (by rw [e]))⟩
theorem own_apart {α β : Type} {enc : α → List Value} {enc' : β → List Value} {k k' : Nat} {e e' : TypeId} {w : World} {b b' : Nat} {v v' : Value} {l : List α} {l' : List β} (h : Own enc k e w b v l) (h' : Own enc' k' e' w b' v' l') (hne : e ≠ e') :
    ∀ g, v.ownBlock = some g → v'.ownBlock ≠ some g := by
  intro g hg hg'
  rcases h.2 with ⟨rfl, _⟩ | ⟨g1, cap, cur, rfl, _, hh, _⟩
  · simp [Value.ownBlock] at hg
  · rcases h'.2 with ⟨rfl, _⟩ | ⟨g2, cap', cur', rfl, _, hh', _⟩
    · simp [Value.ownBlock] at hg'
    · simp [Value.ownBlock] at hg hg'
      subst hg hg'
      rw [hh] at hh'
      injection hh' with q
      injection q with _ q2
      exact hne q2
theorem results_cell_tmp {Pg : Program} {fn : Func} {p q : Tmp} {ty : TypeId} (h : fn.results = #[.cell p ty, .tmp q]) (tmps : Array Value) (w : World) (g : Nat) (t : TypeId) (cs : Array Value) (fr : Nat × Nat) (d : TypeDesc)
    (hp : tmps.getD p undef = .pointer (some ⟨g, 0, none⟩)) (hg : w.heap[g]? = some (.cells cs t fr))
    (hu : Pg.underlying ty = some d) (hd : (match d with | .struct _ | .array _ _ => true | _ => false) = true) (hi : (Pg.info? ty).map (·.size) = some cs.size) (b : Value) (hb : tmps.getD q undef = b) :
    (results fn tmps).run Pg w = .ok (.tuple #[.agg cs, b]) w := by
  have hp' : tmps[p]?.getD undef = .pointer (some ⟨g, 0, none⟩) := by simpa using hp
  have hb' : tmps[q]?.getD undef = b := by simpa using hb
  simp [results, h, hp', hb', asAddr, run_loadVar_row w g t ty cs fr d hg hu hd hi]
def Stp (p : Prop) : Prop := p
theorem Stp.put {p : Prop} (h : Stp p) : p := h
theorem Stp.out {p : Prop} (h : p) : Stp p := h
/-- What newPattern keeps: the box of the network, the result's cell, the pattern. -/
structure PS (w wr : World) (B gp : Nat) (T : Int) (E : Option Addr) (m cE : Nat) (A : Option Addr) (n cA : Nat) (res : Int) (dv av : Value) (dl al : List Int) : Prop where
  net : wr.heap[B]? = some (.cells #[.int .i64 T, .slice E m cE, .slice A n cA] 43 (0, 0))
  rc : wr.heap[B + 1]? = some (.cells #[.int .i64 0, .slice none 0 0, .slice none 0 0] 84 (0, 0))
  pc : wr.heap[gp]? = some (.cells #[.int .i64 res, dv, av] 84 (0, 0))
  dep : OwnN wr (gp + 1) dv dl
  arr : OwnN wr (gp + 1) av al
  sep : ∀ q, dv.ownBlock = some q → av.ownBlock ≠ some q
  bel : Below B w wr
  lt : gp < wr.heap.size
  gt : B + 1 < gp
section
variable {w wr wx : World} {B gp : Nat} {T : Int} {E : Option Addr} {m cE : Nat} {A : Option Addr} {n cA : Nat} {res : Int} {dv av : Value} {dl al : List Int}
theorem PS.below (h : PS w wr B gp T E m cE A n cA res dv av dl al) (hb : Below wr.heap.size wr wx) : PS w wx B gp T E m cE A n cA res dv av dl al :=
  ⟨(hb.block B (by have := h.lt; have := h.gt; omega)).trans h.net, (hb.block (B + 1) (by have := h.lt; have := h.gt; omega)).trans h.rc, (hb.block gp h.lt).trans h.pc, h.dep.below' hb, h.arr.below' hb, h.sep, h.bel.trans (hb.mono (by have := h.lt; have := h.gt; omega)), by have := hb.size; have := h.lt; omega, h.gt⟩
theorem PS.setRes (h : PS w wr B gp T E m cE A n cA res dv av dl al) (r : Int) : PS w (wr.setCell ⟨gp, 0, none⟩ (.int .i64 r)) B gp T E m cE A n cA r dv av dl al :=
  ⟨(set_other _ (by have := h.gt; omega)).trans h.net, (set_other _ (by have := h.gt; omega)).trans h.rc, set_block' (o := 0) (.int .i64 r) h.pc, h.dep.setBelow (a := ⟨gp, 0, none⟩) (Nat.lt_succ_self gp) _, h.arr.setBelow (a := ⟨gp, 0, none⟩) (Nat.lt_succ_self gp) _, h.sep,
    h.bel.setCell (p := ⟨gp, 0, none⟩) (show B ≤ gp by have := h.gt; omega) _, by rw [set_size]; exact h.lt, h.gt⟩
theorem PS.kept {row : Option Nat} (h : PS w wr B gp T E m cE A n cA res dv av dl al) (hg : wr.grownBy wx row) (hr : ∀ q, row = some q → gp < q) : 
    wx.heap[B]? = some (.cells #[.int .i64 T, .slice E m cE, .slice A n cA] 43 (0, 0)) ∧ wx.heap[B + 1]? = some (.cells #[.int .i64 0, .slice none 0 0, .slice none 0 0] 84 (0, 0)) ∧ wx.heap[gp]? = some (.cells #[.int .i64 res, dv, av] 84 (0, 0)) ∧ Below B w wx ∧ gp < wx.heap.size := by
  have h1 := h.lt
  have h2 := h.gt
  exact ⟨(hg.block B (by omega) (fun e => by have := hr B e.symm; omega)).trans h.net, (hg.block (B + 1) (by omega) (fun e => by have := hr _ e.symm; omega)).trans h.rc, (hg.block gp (by omega) (fun e => by have := hr _ e.symm; omega)).trans h.pc,
    h.bel.grown hg (by omega) (fun q e => by have := hr q e; omega), by have := hg.size; omega⟩
theorem PS.depPut (h : PS w wr B gp T E m cE A n cA res dv av dl al) {dv' : Value} {dl' : List Int} (hg : wr.grownBy wx dv.ownBlock) (ho : OwnN wx (gp + 1) dv' dl') (hat : dv'.ownBlock = dv.ownBlock ∨ ∃ q, dv'.ownBlock = some q ∧ wr.heap.size ≤ q) :
    PS w (wx.setCell ⟨gp, 1, none⟩ dv') B gp T E m cE A n cA res dv' av dl' al := by
  obtain ⟨k1, k2, k3, k4, k5⟩ := h.kept hg (fun q e => (World.ownsRow.lt h.dep q e).1)
  have h2 := h.gt
  have ha := h.arr.kept hg (by
    cases hb : av.ownBlock with
    | none => exact .inl rfl
    | some q => exact .inr (fun e => h.sep q e.symm hb))
  exact ⟨(set_other _ (by omega)).trans k1, (set_other _ (by omega)).trans k2, set_block' (o := 1) dv' k3, ho.setBelow (a := ⟨gp, 1, none⟩) (Nat.lt_succ_self gp) _, ha.setBelow (a := ⟨gp, 1, none⟩) (Nat.lt_succ_self gp) _, fun q hq e => by
    rcases hat with hat | ⟨q', hq', hl⟩
    · exact h.sep q (hat ▸ hq) e
    · rw [hq'] at hq; injection hq with hq; subst hq
      have := (World.ownsRow.lt h.arr _ e).2; omega, k4.setCell (p := ⟨gp, 1, none⟩) (show B ≤ gp by omega) _, by rw [set_size]; exact k5, h2⟩
theorem PS.arrPut (h : PS w wr B gp T E m cE A n cA res dv av dl al) {av' : Value} {al' : List Int} (hg : wr.grownBy wx av.ownBlock) (ho : OwnN wx (gp + 1) av' al') (hat : av'.ownBlock = av.ownBlock ∨ ∃ q, av'.ownBlock = some q ∧ wr.heap.size ≤ q) :
    PS w (wx.setCell ⟨gp, 2, none⟩ av') B gp T E m cE A n cA res dv av' dl al' := by
  obtain ⟨k1, k2, k3, k4, k5⟩ := h.kept hg (fun q e => (World.ownsRow.lt h.arr q e).1)
  have h2 := h.gt
  have ha := h.dep.kept hg (by
    cases hb : dv.ownBlock with
    | none => exact .inl rfl
    | some q => exact .inr (fun e => h.sep q hb e.symm))
  exact ⟨(set_other _ (by omega)).trans k1, (set_other _ (by omega)).trans k2, set_block' (o := 2) av' k3, ha.setBelow (a := ⟨gp, 2, none⟩) (Nat.lt_succ_self gp) _, ho.setBelow (a := ⟨gp, 2, none⟩) (Nat.lt_succ_self gp) _, fun q hq e => by
    rcases hat with hat | ⟨q', hq', hl⟩
    · exact h.sep q hq (hat ▸ e)
    · rw [hq'] at e; injection e with e; subst e
      have := (World.ownsRow.lt h.dep _ hq).2; omega, k4.setCell (p := ⟨gp, 2, none⟩) (show B ≤ gp by omega) _, by rw [set_size]; exact k5, h2⟩
theorem PS.cells (h : PS w wr B gp T E m cE A n cA res dv av dl al) :
    (wr.cell? ⟨B, 0, none⟩ = some (.int .i64 T) ∧ wr.cell? ⟨B, 1, none⟩ = some (.slice E m cE) ∧ wr.cell? ⟨B, 2, none⟩ = some (.slice A n cA)) ∧ wr.cell? ⟨gp, 0, none⟩ = some (.int .i64 res) ∧ wr.cell? ⟨gp, 1, none⟩ = some dv ∧ wr.cell? ⟨gp, 2, none⟩ = some av ∧
      ∀ o, wr.frozen? ⟨gp, o, none⟩ = false := by
  refine ⟨⟨?_, ?_, ?_⟩, ?_, ?_, ?_, fun o => by simp [World.frozen?, h.pc]⟩
  · rw [cell_of_row wr _ 0 _ _ _ h.net]; rfl
  · rw [cell_of_row wr _ 1 _ _ _ h.net]; rfl
  · rw [cell_of_row wr _ 2 _ _ _ h.net]; rfl
  · rw [cell_of_row wr _ 0 _ _ _ h.pc]; rfl
  · rw [cell_of_row wr _ 1 _ _ _ h.pc]; rfl
  · rw [cell_of_row wr _ 2 _ _ _ h.pc]; rfl
end

end Go.Proofs.Ytaongejpbgjbiaa
