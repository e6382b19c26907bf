/-
  Contract of Roll, where all is well.
-/
import Derived.Test.YtaongejpbgjbiaaCalX
set_option linter.unusedVariables false
set_option linter.unusedSimpArgs false
namespace RP
structure TripP where
  line : Int
  day : Int
  dep : List Int
  arr : List Int
deriving DecidableEq
def mkT (line day : Int) (p : PatP) (sec : Int) : TripP := ⟨line, day, p.dep.map (sec + ·), p.arr.map (sec + ·)⟩
section
variable (T : Nat) (s : List Svc) (x : List Exc) (pf : Int → PatP)
def runT (a : Svc) (day : Nat) (n : Nat) : List TripP := (List.range n).map fun i : Nat => mkT a.line day (pf a.line) (depF T day a (pf a.line).res + i * T)
def dayT (a : Svc) (day : Nat) : List TripP := if runsB s x a.line day then runT T pf a day (depN T day a (pf a.line).res).toNat else []
def svcT (a : Svc) (d : Nat) : List TripP := (List.range d).flatMap (dayT T s x pf a)
def allT (D : Nat) (l : List Svc) : List TripP := l.flatMap fun a => svcT T s x pf a D
theorem runT_succ (a : Svc) (day n : Nat) : runT T pf a day (n + 1) = runT T pf a day n ++ [mkT a.line day (pf a.line) (depF T day a (pf a.line).res + n * T)] := by
  unfold runT; rw [List.range_succ, List.map_append]; rfl
theorem svcT_succ (a : Svc) (d : Nat) : svcT T s x pf a (d + 1) = svcT T s x pf a d ++ dayT T s x pf a d := by
  unfold svcT; rw [List.range_succ, List.flatMap_append]; simp
theorem allT_snoc (D : Nat) {l : List Svc} {k : Nat} (h : k < l.length) : allT T s x pf D (l.take (k + 1)) = allT T s x pf D (l.take k) ++ svcT T s x pf l[k] D := by
  unfold allT; rw [List.take_succ_eq_append_getElem h, List.flatMap_append]; simp
end
section
variable {T : Nat} {s : List Svc} {x : List Exc} {pf : Int → PatP} (h1 : 1 ≤ T)
include h1
theorem dayT_len {a : Svc} (h : SvcOk T pf a) (d : Nat) : ((dayT T s x pf a d).length : Int) = dayN T s x pf a d := by
  have := depN_range (T := T) (day := d) (a := a) (res := (pf a.line).res) h1 (by omega) h.1 h.2.1 h.2.2.1
  unfold dayT dayN runT
  split
  · rw [List.length_map, List.length_range]; omega
  · rfl
theorem svcT_len {a : Svc} (h : SvcOk T pf a) : ∀ d : Nat, ((svcT T s x pf a d).length : Int) = svcN T s x pf a d
  | 0 => rfl
  | d + 1 => by
    rw [svcT_succ, List.length_append]
    have := svcT_len h d
    have := dayT_len (s := s) (x := x) h1 h d
    simp only [svcN]; omega
theorem allT_len (D : Nat) (l : List Svc) (hl : ∀ a ∈ l, SvcOk T pf a) : ∀ k, k ≤ l.length → ((allT T s x pf D (l.take k)).length : Int) = cntS T s x pf D (l.take k) := fun k => by
  induction k with
  | zero => intro _; simp [allT, cntS]
  | succ k ih =>
    intro hk
    rw [allT_snoc T s x pf D (by omega), cntS_snoc T s x pf D (by omega), List.length_append]
    have := ih (by omega)
    have := svcT_len (s := s) (x := x) h1 (hl l[k] (List.getElem_mem (by omega))) D
    omega
/-- A departure of the service lies within it. -/
theorem dep_in {day : Int} {a : Svc} {res : Int} {i : Nat} (f1 : a.fst ≤ a.lst) (hi : (i : Int) < depN T day a res) : day * 86400 + a.fst ≤ depF T day a res + i * T ∧ depF T day a res + i * T ≤ day * 86400 + a.lst := by
  have m0 := Int.emod_nonneg (res - (day * 86400 + a.fst)) (show (T : Int) ≠ 0 by omega)
  unfold depN at hi
  by_cases q : day * 86400 + a.lst < depF T day a res
  · rw [if_pos q] at hi; omega
  · rw [if_neg q] at hi
    have h2 : (i : Int) ≤ (day * 86400 + a.lst - depF T day a res) / T := by omega
    have h3 : (i : Int) * T ≤ day * 86400 + a.lst - depF T day a res := (Int.le_ediv_iff_mul_le (show (0 : Int) < T by omega)).1 h2
    have h4 : (0 : Int) ≤ (i : Int) * T := Int.mul_nonneg (by omega) (by omega)
    have h5 : day * 86400 + a.fst ≤ depF T day a res := by unfold depF; omega
    omega
end
/-- A pattern that a trip can be made of. -/
structure PatGood (p : PatP) : Prop where
  len : p.arr.length = p.dep.length
  pos : 1 ≤ p.dep.length
  le : p.dep.length ≤ 48
  dep : ∀ x ∈ p.dep, -100000000 ≤ x ∧ x ≤ 100000000
  arr : ∀ x ∈ p.arr, -100000000 ≤ x ∧ x ≤ 100000000
theorem patAt_good {T m : Nat} {ts : List Int} {ev : List (Int × Int × Int)} {l : List Acy} {line : Int} {p : PatP} (hg : goodB T m l ts = true) (h : PatAt T ts ev l line p) : PatGood p := by
  obtain ⟨R, P, Q, D, W, hP, rfl⟩ := h
  have h1 := hP.pos
  have h2 := hP.le
  refine ⟨by rw [arrL_len, depL_len], by rw [depL_len]; exact h1, by rw [depL_len]; exact h2, fun x hx => ?_, fun x hx => ?_⟩
  · obtain ⟨r, hr, rfl⟩ := List.mem_map.1 hx
    have hr' := List.mem_range.1 hr
    have ha := hP.nB hg r (by omega)
    unfold depO
    cases r with
    | zero => simp [nowB]
    | succ j =>
      have := hP.dB hg j (by omega)
      rw [if_neg (by omega)]
      omega
  · obtain ⟨r, hr, rfl⟩ := List.mem_map.1 hx
    have hr' := List.mem_range.1 hr
    have ha := hP.nB hg (r + 1) (by omega)
    omega
end RP
namespace Go.Proofs.Ytaongejpbgjbiaa
open Go.RowKit RP
attribute [local go_sem ↓] Go.wp_at_zero Go.wp_at_succ

def TripM.p (t : TripM) : TripP := ⟨t.line, t.day, t.dep, t.arr⟩
/-- A list of trips of the call's own. -/
def TripsOk (w : World) (base : Nat) (v : Value) (L : List TripM) : Prop := OwnT w base v L ∧ ∀ t ∈ L, TOk w base t ∧ t.dep ≠ []
theorem TripsOk.below {w w' : World} {base : Nat} {v : Value} {L : List TripM} (h : TripsOk w base v L) (hb : Below w.heap.size w w') : TripsOk w' base v L := ⟨h.1.below' hb, fun t ht => ⟨(h.2 t ht).1.below hb, (h.2 t ht).2⟩⟩
theorem TripsOk.rebase {w : World} {base b : Nat} {v : Value} {L : List TripM} (h : TripsOk w base v L) (hb : b ≤ base) : TripsOk w b v L := ⟨h.1.rebase hb, fun t ht => ⟨(h.2 t ht).1.rebase hb, (h.2 t ht).2⟩⟩
theorem TripsOk.drewN {w : World} {base : Nat} {v : Value} {L : List TripM} (h : TripsOk w base v L) (n : Nat) : TripsOk (w.drewN n) base v L := ⟨h.1.drewN n, fun t ht => ⟨⟨(h.2 t ht).1.dep.drewN n, (h.2 t ht).1.arr.drewN n⟩, (h.2 t ht).2⟩⟩
/-- One trip more. -/
theorem TripsOk.push {w w' : World} {base : Nat} {v v' : Value} {L : List TripM} {t : TripM} (h : TripsOk w base v L) (ht : TOk w base t) (hne : t.dep ≠ []) (ho : OwnT w' base v' (L ++ [t])) (hg : w.grownBy w' v.ownBlock) : TripsOk w' base v' (L ++ [t]) :=
  ⟨ho, fun u hu => by
    rcases List.mem_append.1 hu with hu | hu
    · exact ⟨(h.2 u hu).1.kept h.1 hg, (h.2 u hu).2⟩
    · rw [List.mem_singleton.1 hu]; exact ⟨ht.kept h.1 hg, hne⟩⟩
def RollPost (T D : Nat) (s : List Svc) (x : List Exc) (pf : Int → PatP) (w : World) (e : Ending) (w' : World) : Prop :=
  Below w.heap.size w w' ∧ ((1024 < cntS T s x pf D s ∧ e = .returned (.tuple #[.slice none 0 0, .int .i64 7])) ∨
    (cntS T s x pf D s ≤ 1024 ∧ ∃ A c L, e = .returned (.tuple #[.slice A L.length c, .int .i64 0]) ∧ TripsOk w' w.heap.size (.slice A L.length c) L ∧ (L.map TripM.p).Perm (allT T s x pf D s) ∧ L.Pairwise (fun a b => ¬ tcmp b a < 0)))

theorem own_ne_block {α : Type} {enc : α → List Value} {k : Nat} {e e' : TypeId} {w : World} {b g : Nat} {v : Value} {l : List α} {cs : Array Value} {fr : Nat × Nat} (h : Own enc k e w b v l) (hg : w.heap[g]? = some (.cells cs e' fr)) (hne : e ≠ e') : v.ownBlock ≠ some g := by
  intro hv
  rcases h.2 with ⟨rfl, _⟩ | ⟨g1, cap, cur, rfl, _, hh, _⟩
  · simp [Value.ownBlock] at hv
  · simp [Value.ownBlock] at hv
    subst hv
    rw [hh] at hg
    injection hg with q
    injection q with _ q2
    exact hne q2
def TripSv (w : World) (line day : Int) (dl al : List Int) (e : Ending) (w' : World) : Prop :=
  ∃ dv av : Sv, e = .returned (.agg #[.int .i64 line, .int .i64 day, dv.v, av.v]) ∧ TOk w' w.heap.size ⟨line, day, dl, al, dv, av⟩ ∧ Below w.heap.size w w'
theorem trip_sv {w : World} {line day : Int} {dl al : List Int} {e : Ending} {w' : World} (h : TripPost w line day dl al e w') : TripSv w line day dl al e w' := by
  obtain ⟨dv, av, h1, h2, h3, h4⟩ := h
  obtain ⟨dv, rfl, _⟩ := own_sv h2
  obtain ⟨av, rfl, _⟩ := own_sv h3
  exact ⟨dv, av, h1, ⟨h2, h3⟩, h4⟩
/-- A pattern of a list, as trip takes it. -/
theorem POk.lst {w : World} {base : Nat} {t : PatM} (h : POk w base t) (hg : PatGood t.p) : ∃ A c A' c', t.dv.v = .slice A t.p.dep.length c ∧ t.av.v = .slice A' t.p.dep.length c' ∧ Lst encI 1 w w.heap.size A t.p.dep ∧ Lst encI 1 w w.heap.size A' t.p.arr := by
  obtain ⟨A, c, h1⟩ := h.dep.form
  obtain ⟨A', c', h2⟩ := h.arr.form
  have hd := h.dep
  have ha := h.arr
  rw [h1] at hd
  rw [h2] at ha
  exact ⟨A, c, A', c', h1, by rw [h2, hg.len], Own.lst encI_len hd, Own.lst encI_len ha⟩

end Go.Proofs.Ytaongejpbgjbiaa
