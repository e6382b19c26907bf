/-
  Trips in memory, and the contract of SortFunc at them.
-/
import Derived.Test.YtaongejpbgjbiaaCalS
import Derived.Test.YtaongejpbgjbiaaCalE
import Derived.Test.YtaongejpbgjbiaaSortLay
set_option linter.unusedVariables false
set_option linter.unusedSimpArgs false
namespace Go.Proofs.Ytaongejpbgjbiaa
open Go.RowKit RP Go.Sort Go.Lib Go.Shelf

/-- A slice value. -/
structure Sv where
  a : Option Addr
  n : Nat
  c : Nat
def Sv.v (s : Sv) : Value := .slice s.a s.n s.c
theorem Sv.one (s : Sv) : s.v.oneCell' = true := rfl
theorem own_sv {α : Type} {enc : α → List Value} {k : Nat} {e : TypeId} {w : World} {base : Nat} {v : Value} {l : List α} (h : Own enc k e w base v l) : ∃ s : Sv, v = s.v ∧ s.n = l.length := by
  obtain ⟨A, c, h1⟩ := h.form
  exact ⟨⟨A, _, c⟩, h1, rfl⟩
structure TripM where
  line : Int
  day : Int
  dep : List Int
  arr : List Int
  dv : Sv
  av : Sv
def encT (t : TripM) : List Value := [.int .i64 t.line, .int .i64 t.day, t.dv.v, t.av.v]
theorem encT_len (t : TripM) : (encT t).length = 4 := rfl
/-- The two lists of a trip lie in rows of the call's own. -/
structure TOk (w : World) (base : Nat) (t : TripM) : Prop where
  dep : OwnN w base t.dv.v t.dep
  arr : OwnN w base t.av.v t.arr
theorem encT_one (t : TripM) : ∀ u ∈ encT t, u.oneCell' = true := by
  intro u hu
  simp only [encT, List.mem_cons, List.not_mem_nil, or_false] at hu
  rcases hu with rfl | rfl | rfl | rfl <;> rfl
theorem TOk.below {w w' : World} {base : Nat} {t : TripM} (h : TOk w base t) (hb : Below w.heap.size w w') : TOk w' base t := ⟨h.dep.below' hb, h.arr.below' hb⟩
theorem TOk.rebase {w : World} {base b : Nat} {t : TripM} (h : TOk w base t) (hb : b ≤ base) : TOk w b t := ⟨h.dep.rebase hb, h.arr.rebase hb⟩
abbrev OwnT (w : World) (base : Nat) (v : Value) (l : List TripM) : Prop := Own encT 4 51 w base v l
theorem TOk.kept {w w' : World} {base b : Nat} {t : TripM} {v : Value} {l : List TripM} (h : TOk w base t) (ho : OwnT w b v l) (hg : w.grownBy w' v.ownBlock) : TOk w' base t :=
  ⟨h.dep.kept hg (by
    cases hb : t.dv.v.ownBlock with
    | none => exact .inl rfl
    | some q => exact .inr (fun e => own_apart h.dep ho (by decide) q hb e.symm)),
   h.arr.kept hg (by
    cases hb : t.av.v.ownBlock with
    | none => exact .inl rfl
    | some q => exact .inr (fun e => own_apart h.arr ho (by decide) q hb e.symm))⟩

def tcmp (x y : TripM) : Int := cmpT (x.dep.getD 0 0) x.line (y.dep.getD 0 0) y.line
theorem cmpT_lt (a l b k : Int) : cmpT a l b k < 0 ↔ a < b ∨ (a = b ∧ l < k) := by
  unfold cmpT cmpI
  by_cases h1 : a < b
  · simp [h1]
  · by_cases h2 : b < a
    · simp [h1, h2]; omega
    · have : a = b := by omega
      subst this
      by_cases h3 : l < k
      · simp [h3]
      · by_cases h4 : k < l <;> simp [h3, h4]

section
variable {w : World} {g : Nat}
/-- A trip whose first departure can be read, and does not lie in block g. -/
def Good (w : World) (g : Nat) (t : TripM) : Prop := ∃ gx cx u, t.dv.v = .slice (some ⟨gx, 0, none⟩) t.dep.length cx ∧ 1 ≤ t.dep.length ∧ t.dep.getD 0 0 = u ∧ gx < w.heap.size ∧ gx ≠ g ∧ w.cell? ⟨gx, 0, none⟩ = some (.int .i64 u)
theorem good_of {base b n c : Nat} {L : List TripM} {t : TripM} (h : TOk w base t) (ho : OwnT w b (.slice (some ⟨g, 0, none⟩) n c) L) (hne : t.dep ≠ []) : Good w g t := by
  obtain ⟨gx, cx, e1, _, e3, _, e5, _⟩ := h.dep.at_ encI_len hne
  have hpos : 0 < t.dep.length := List.length_pos_iff.2 hne
  refine ⟨gx, cx, _, e1, hpos, rfl, e3, ?_, ?_⟩
  · intro e
    exact own_apart h.dep ho (by decide) gx (by rw [e1]; rfl) (by rw [e]; rfl)
  · have := e5 0 (t.dep.getD 0 0) (by simp [List.getD, List.getElem?_eq_getElem hpos]) 0 _ rfl
    simpa using this
abbrev GT (w : World) (g : Nat) : Type := { t : TripM // Good w g t }
def encG (x : GT w g) : List Value := encT x.1
theorem encG_len (x : GT w g) : (encG x).length = 4 := rfl
theorem encG_one (x : GT w g) : ∀ u ∈ encG x, u.oneCell' = true := encT_one x.1
theorem own_G {base : Nat} {v : Value} {W : World} (l : List (GT w g)) : OwnT W base v (l.map (·.1)) ↔ Own encG 4 51 W base v l := by
  unfold OwnT Own
  rw [List.length_map, List.flatMap_map]
  exact Iff.rfl
theorem ltG (x y : GT w g) : ltOf (fun x y : GT w g => tcmp x.1 y.1) x y = decide (tcmp x.1 y.1 < 0) := by
  unfold ltOf; rfl
theorem swoG : SWO (ltOf fun x y : GT w g => tcmp x.1 y.1) where
  irrefl x := by rw [ltG, decide_eq_false_iff_not]; unfold tcmp; rw [cmpT_lt]; omega
  trans x y z h1 h2 := by
    rw [ltG, decide_eq_true_eq] at *; unfold tcmp at *; rw [cmpT_lt] at *; omega
  ntrans x y z h1 h2 := by
    rw [ltG, decide_eq_false_iff_not] at *; unfold tcmp at *; rw [cmpT_lt] at *; omega
end

set_option maxHeartbeats 1000000 in
theorem sortTrips (L : List TripM) (base g n cap : Nat) (w : World) (hl : L ≠ []) (ho : OwnT w base (.slice (some ⟨g, 0, none⟩) n cap) L) (hok : ∀ t ∈ L, TOk w base t ∧ t.dep ≠ []) (hsz : L.length < 4611686018427387904) :
    Calls Try.prog 41 #[.slice (some ⟨g, 0, none⟩) n cap, .func (.func 42) #[] #[]] w fun e w' =>
      e = .returned (.tuple #[]) ∧ ∃ S : List TripM, S.Perm L ∧ S.Pairwise (fun x y => ¬ tcmp y x < 0) ∧ OwnT w' base (.slice (some ⟨g, 0, none⟩) n cap) S ∧ w.grownBy w' (some g) := by
  have hgood : ∀ t ∈ L, Good w g t := fun t ht => good_of (hok t ht).1 ho (hok t ht).2
  obtain ⟨l, rfl⟩ : ∃ l : List (GT w g), l.map (·.1) = L := ⟨L.pmap Subtype.mk hgood, by rw [List.map_pmap]; simp⟩
  have ho' := (own_G l).1 ho
  have hl' : l ≠ [] := fun e => hl (by rw [e]; rfl)
  haveI : Inhabited (GT w g) := ⟨l.head hl'⟩
  have hn : n = l.length := by
    obtain ⟨A, c', hv⟩ := ho'.form
    injection hv
  subst hn
  have eg : ∀ args w, (callFunc 42 args).run Try.prog w = .ok (.enter 42 args) w := enters_of Try.func42 (by kernel_rfl) rfl
  have hcon := AnyQ.slices_SortFunc Try.sortS 4 Try.isAgg51 Try.sizeOf51 encG encG_len encG_one (fun x y : GT w g => tcmp x.1 y.1) swoG 42 #[] g 0 cap l.toArray w eg
    (fun m os dk hd x y => by
      obtain ⟨tx, hx⟩ := x
      obtain ⟨ty, hy⟩ := y
      obtain ⟨lx, dx, px, qx, ⟨va, vn, vc⟩, ux⟩ := tx
      obtain ⟨ly, dy, py, qy, ⟨wa, wn, wc⟩, uy⟩ := ty
      obtain ⟨gx, cx, u, e1, e2, e3, e4, e5, e6⟩ := hx
      obtain ⟨gy, cy, v, f1, f2, f3, f4, f5, f6⟩ := hy
      simp only at e2 e3 f2 f3
      injection e1 with e11 e12 e13
      injection f1 with f11 f12 f13
      simp only at e11 e12 e13 f11 f12 f13
      subst e11 e12 e13 f11 f12 f13 e3 f3
      have hgr := (ho'.sorted encG_len (by omega) m dk (by simpa using hd) os).2
      have c1 : (sortWorldK encG 4 w g 0 m dk os).cell? ⟨gx, 0, none⟩ = some (.int .i64 (px.getD 0 0)) := by rw [← e6]; simp [World.cell?, hgr.block gx e4 (fun e => by injection e with e; exact e5 e)]
      have c2 : (sortWorldK encG 4 w g 0 m dk os).cell? ⟨gy, 0, none⟩ = some (.int .i64 (py.getD 0 0)) := by rw [← f6]; simp [World.cell?, hgr.block gy f4 (fun e => by injection e with e; exact f5 e)]
      exact tripCmp_any lx dx ly dy _ _ gx px.length _ gy py.length _ ux.v uy.v _ c1 c2 e2 f2)
    (ho'.holdsK encG_len (by omega)) (World.ownsRow.lt ho' g rfl).2 (by simpa using hsz)
  change Calls Try.prog 41 _ _ _ at hcon
  have e0 : l.toArray.size = l.length := by simp
  rw [e0] at hcon
  refine hcon.mono fun e w' ⟨he, d', m, os, hp, hs, hw⟩ => ⟨he, d'.toList.map (·.1), ?_⟩
  subst hw
  obtain ⟨p1, p2, p3⟩ := perm_sorted (by rw [e0]; exact hp) (by rw [e0]; exact hs)
  obtain ⟨q1, q2⟩ := ho'.sorted encG_len (by omega) m d' p2 os
  refine ⟨p1.map _, ?_, (own_G _).2 q1, q2⟩
  rw [List.pairwise_map]
  refine p3.imp fun h => ?_
  rw [ltG] at h
  simpa using h
theorem sortTripNone (p : Option Addr) (cap : Nat) (fv : Value) (w : World) :
    Calls Try.prog 41 #[.slice p 0 cap, fv] w fun e w' => e = .returned (.tuple #[]) ∧ w' = w :=
  AnyF.slices_SortFunc_none (P := Try.prog) (ρ := Try.sortS_ren) Try.sortS p cap fv w

end Go.Proofs.Ytaongejpbgjbiaa
