/-
  Plain: the trips of a timetable, as a set, and what an exception and a horizon do to them.
-/
import Derived.Test.YtaongejpbgjbiaaCalAw
import Derived.Test.YtaongejpbgjbiaaPatP
set_option linter.unusedVariables false
set_option linter.unusedSimpArgs false
namespace RP
section
variable {T : Nat} {s : List Svc} {x : List Exc} {pf : Int → PatP}
theorem mem_allT {D : Nat} {l : List Svc} {t : TripP} : t ∈ allT T s x pf D l ↔ ∃ a ∈ l, ∃ d : Nat, d < D ∧ runsB s x a.line d = true ∧ ∃ i : Nat, (i : Int) < depN T d a (pf a.line).res ∧ t = mkT a.line d (pf a.line) (depF T d a (pf a.line).res + i * T) := by
  unfold allT svcT
  simp only [List.mem_flatMap, List.mem_range]
  constructor
  · rintro ⟨a, ha, d, hd, ht⟩
    unfold dayT at ht
    by_cases hr : runsB s x a.line d = true
    · rw [if_pos hr] at ht
      unfold runT at ht
      obtain ⟨i, hi, rfl⟩ := List.mem_map.1 ht
      rw [List.mem_range] at hi
      exact ⟨a, ha, d, hd, hr, i, by omega, rfl⟩
    · rw [if_neg hr] at ht; cases ht
  · rintro ⟨a, ha, d, hd, hr, i, hi, rfl⟩
    refine ⟨a, ha, d, hd, ?_⟩
    unfold dayT
    rw [if_pos hr]
    unfold runT
    exact List.mem_map.2 ⟨i, by rw [List.mem_range]; omega, rfl⟩
end
/-- The first departure of a pattern is its second 0. -/
def Zero (p : PatP) : Prop := p.dep.getD 0 0 = 0 ∧ 1 ≤ p.dep.length
theorem mkT_dep0 {line day : Int} {p : PatP} {sec : Int} (h : Zero p) : (mkT line day p sec).dep.getD 0 0 = sec := by
  obtain ⟨h1, h2⟩ := h
  cases hd : p.dep with
  | nil => rw [hd] at h2; simp at h2
  | cons a r => rw [hd] at h1; simp at h1; subst h1; simp [mkT, hd]
/-- What all is known of a trip of a timetable. -/
theorem trip_known {T : Nat} (h1 : 1 ≤ T) {s : List Svc} {x : List Exc} {pf : Int → PatP} {D : Nat} {t : TripP} (hok : ∀ a ∈ s, SvcOk T pf a) (ht : t ∈ allT T s x pf D s) :
    ∃ a ∈ s, ∃ d : Nat, d < D ∧ runsB s x a.line d = true ∧ ∃ sec : Int, t = mkT a.line d (pf a.line) sec ∧ (d : Int) * 86400 + a.fst ≤ sec ∧ sec ≤ (d : Int) * 86400 + a.lst ∧ sec % (T : Int) = (pf a.line).res := by
  obtain ⟨a, ha, d, hd, hr, i, hi, rfl⟩ := mem_allT.1 ht
  obtain ⟨f0, f1, f2, r0, r1⟩ := hok a ha
  have hin := dep_in (T := T) (day := d) (a := a) (res := (pf a.line).res) (i := i) h1 f1 hi
  refine ⟨a, ha, d, hd, hr, _, rfl, hin.1, hin.2, ?_⟩
  rw [Int.mul_comm, Int.add_mul_emod_self_left]
  unfold depF
  rw [Int.add_emod_emod]
  have e : (d : Int) * 86400 + a.fst + ((pf a.line).res - ((d : Int) * 86400 + a.fst)) = (pf a.line).res := by omega
  rw [e]
  exact Int.emod_eq_of_lt r0 r1
/-- A trip is known by its first departure and its line. -/
theorem allT_anti {T : Nat} (h1 : 1 ≤ T) {s : List Svc} {x y : List Exc} {pf : Int → PatP} {D E : Nat} (hok : ∀ a ∈ s, SvcOk T pf a) (hz : ∀ a ∈ s, Zero (pf a.line)) {s' : List Svc} (hok' : ∀ a ∈ s', SvcOk T pf a) (hz' : ∀ a ∈ s', Zero (pf a.line)) {t u : TripP} (ht : t ∈ allT T s x pf D s) (hu : u ∈ allT T s' y pf E s') (h : leT t u = true) (h' : leT u t = true) : t = u := by
  obtain ⟨a, ha, d, hd, hr, sec, rfl, a1, a2, a3⟩ := trip_known h1 hok ht
  obtain ⟨b, hb, e, he, hq, sec', rfl, b1, b2, b3⟩ := trip_known h1 hok' hu
  unfold leT at h h'
  rw [mkT_dep0 (hz a ha), mkT_dep0 (hz' b hb)] at h h'
  rw [decide_eq_true_eq] at h h'
  simp only [mkT] at h h' ⊢
  have hl : a.line = b.line := by omega
  have hs : sec = sec' := by omega
  have ⟨f0, f1, f2, _⟩ := hok a ha
  have ⟨g0, g1, g2, _⟩ := hok' b hb
  have hde : (d : Int) = e := by omega
  rw [hl, hs, hde]
/-- The trips of a timetable have first departures and lines of their own. -/
theorem allT_keys {T : Nat} (h1 : 1 ≤ T) {s : List Svc} {x : List Exc} {pf : Int → PatP} {D : Nat} (hok : ∀ a ∈ s, SvcOk T pf a) (hz : ∀ a ∈ s, Zero (pf a.line)) (hinc : s.Pairwise fun a b => a.line < b.line) :
    (allT T s x pf D s).Pairwise fun t u => ¬ (t.dep.getD 0 0 = u.dep.getD 0 0 ∧ t.line = u.line) := by
  have inday : ∀ a ∈ s, ∀ d : Nat, ∀ t ∈ dayT T s x pf a d, ∃ sec : Int, t = mkT a.line d (pf a.line) sec ∧ (d : Int) * 86400 + a.fst ≤ sec ∧ sec ≤ (d : Int) * 86400 + a.lst := by
    intro a ha d t ht
    unfold dayT at ht
    split at ht
    · unfold runT at ht
      obtain ⟨i, hi, rfl⟩ := List.mem_map.1 ht
      rw [List.mem_range] at hi
      have hin := dep_in (T := T) (day := d) (a := a) (res := (pf a.line).res) (i := i) h1 (hok a ha).2.1 (by omega)
      exact ⟨_, rfl, hin.1, hin.2⟩
    · cases ht
  unfold allT
  rw [List.pairwise_flatMap]
  refine ⟨fun a ha => ?_, ?_⟩
  · unfold svcT
    rw [List.pairwise_flatMap]
    have ⟨f0, f1, f2, _⟩ := hok a ha
    refine ⟨fun d _ => ?_, ?_⟩
    · unfold dayT
      split
      · unfold runT
        rw [List.pairwise_map]
        refine (List.pairwise_lt_range).imp ?_
        intro i j hij
        rw [mkT_dep0 (hz a ha), mkT_dep0 (hz a ha)]
        intro q
        have : (i : Int) * T < (j : Int) * T := Int.mul_lt_mul_of_pos_right (by omega) (by omega)
        omega
      · exact List.Pairwise.nil
    · refine (List.pairwise_lt_range).imp ?_
      intro d e hde t ht u hu
      obtain ⟨sec, rfl, a1, a2⟩ := inday a ha d t ht
      obtain ⟨sec', rfl, b1, b2⟩ := inday a ha e u hu
      rw [mkT_dep0 (hz a ha), mkT_dep0 (hz a ha)]
      omega
  · refine List.Pairwise.imp_of_mem ?_ hinc
    intro a b ha hb hab t ht u hu
    unfold svcT at ht hu
    obtain ⟨d, _, ht⟩ := List.mem_flatMap.1 ht
    obtain ⟨e, _, hu⟩ := List.mem_flatMap.1 hu
    obtain ⟨sec, rfl, _⟩ := inday a ha d t ht
    obtain ⟨sec', rfl, _⟩ := inday b hb e u hu
    simp only [mkT]
    omega
theorem filter_flatMap' {α β : Type} (q : β → Bool) (f g : α → List β) : ∀ (l : List α), (∀ a ∈ l, (f a).filter q = g a) → (l.flatMap f).filter q = l.flatMap g
  | [], _ => rfl
  | a :: l, h => by rw [List.flatMap_cons, List.flatMap_cons, List.filter_append, h a (by simp), filter_flatMap' q f g l fun b hb => h b (by simp [hb])]
theorem dayT_line {T : Nat} {s : List Svc} {x : List Exc} {pf : Int → PatP} {a : Svc} {d : Nat} {t : TripP} (h : t ∈ dayT T s x pf a d) : t.line = a.line ∧ t.day = d := by
  unfold dayT at h
  split at h
  · unfold runT at h
    obtain ⟨i, _, rfl⟩ := List.mem_map.1 h
    exact ⟨rfl, rfl⟩
  · cases h
theorem runs_exc {s : List Svc} {e : Exc} (he : e.runs = false) (line day : Int) : runsB s [e] line day = (if e.line = line ∧ e.day = day then false else runsB s [] line day) := by
  unfold runsB
  cases s.find? fun a => decide (a.line = line) with
  | none => simp
  | some a =>
    simp only [List.find?_cons, List.find?_nil]
    by_cases h1 : e.line = line ∧ e.day = day
    · rw [if_pos h1]; simp [h1.1, h1.2, he]
    · rw [if_neg h1]
      have : (decide (e.line = line) && decide (e.day = day)) = false := by
        rw [Bool.and_eq_false_iff, decide_eq_false_iff_not, decide_eq_false_iff_not]
        by_cases h : e.line = line
        · exact .inr fun q => h1 ⟨h, q⟩
        · exact .inl h
      rw [this]
/-- An exception removes the trips of its line and day. -/
theorem allT_exc {T : Nat} {s : List Svc} {pf : Int → PatP} {D : Nat} {e : Exc} (he : e.runs = false) (l : List Svc) : (allT T s [] pf D l).filter (fun t => !(decide (t.line = e.line) && decide (t.day = e.day))) = allT T s [e] pf D l := by
  unfold allT
  refine filter_flatMap' _ _ _ _ fun a _ => ?_
  unfold svcT
  refine filter_flatMap' _ _ _ _ fun d _ => ?_
  by_cases h : e.line = a.line ∧ e.day = d
  · have h2 : dayT T s [e] pf a d = [] := by unfold dayT; rw [runs_exc he, if_pos h]; rfl
    rw [h2, List.filter_eq_nil_iff]
    intro t ht
    obtain ⟨h3, h4⟩ := dayT_line ht
    simp [h3, h4, h.1, h.2]
  · have h2 : dayT T s [e] pf a d = dayT T s [] pf a d := by unfold dayT; rw [runs_exc he, if_neg h]
    rw [h2, List.filter_eq_self]
    intro t ht
    obtain ⟨h3, h4⟩ := dayT_line ht
    rw [h3, h4, Bool.not_eq_true', Bool.and_eq_false_iff, decide_eq_false_iff_not, decide_eq_false_iff_not]
    by_cases h5 : e.line = a.line
    · exact .inr fun q => h ⟨h5, q.symm⟩
    · exact .inl fun q => h5 q.symm
/-- A service without the days from day D on. -/
def cutV (D : Nat) (a : Svc) : Svc := ⟨a.line, a.days % 2 ^ D, a.fst, a.lst⟩
theorem bit_cut {z : Int} {d D : Nat} (h : d < D) : bitB (z % 2 ^ D) d = bitB z d := by
  have e : ((2 : Int) ^ D) = 2 ^ d * 2 * 2 ^ (D - d - 1) := by
    rw [← Int.pow_succ, ← Int.pow_add]; congr 1; omega
  have h2 : (0 : Int) < 2 ^ d := Int.pow_pos (by omega)
  unfold bitB
  congr 1
  have e1 : z % 2 ^ D = z - 2 ^ d * (2 * 2 ^ (D - d - 1) * (z / 2 ^ D)) := by
    rw [Int.emod_def, e]
    rw [Int.mul_assoc, Int.mul_assoc, Int.mul_assoc, Int.mul_assoc]
  rw [e1, Int.sub_mul_ediv_left _ _ (by omega), Int.mul_assoc, Int.sub_mul_emod_self_left]
theorem find_cut (D : Nat) (s : List Svc) (line : Int) : (s.map (cutV D)).find? (fun a => decide (a.line = line)) = (s.find? fun a => decide (a.line = line)).map (cutV D) := by
  rw [List.find?_map]; rfl
theorem runs_cut {s : List Svc} {line : Int} {d D : Nat} (h : d < D) : runsB (s.map (cutV D)) [] line d = runsB s [] line d := by
  unfold runsB
  rw [find_cut]
  cases s.find? fun a => decide (a.line = line) with
  | none => rfl
  | some a => simp only [Option.map_some, List.find?_nil, Int.toNat_natCast]; rw [show (cutV D a).days = a.days % 2 ^ D from rfl, bit_cut h]
theorem dep_cut {T : Nat} {d : Int} {a : Svc} {D : Nat} {r : Int} : depF T d (cutV D a) r = depF T d a r ∧ depN T d (cutV D a) r = depN T d a r := ⟨rfl, rfl⟩
/-- The trips of the first days. -/
theorem allT_cut {T : Nat} {s : List Svc} {pf : Int → PatP} {D : Nat} (l : List Svc) : (allT T s [] pf (D + 1) l).filter (fun t => decide (t.day < (D : Int))) = allT T (s.map (cutV D)) [] pf D (l.map (cutV D)) := by
  have e : allT T (s.map (cutV D)) [] pf D (l.map (cutV D)) = l.flatMap fun a => svcT T (s.map (cutV D)) [] pf (cutV D a) D := by
    unfold allT; rw [List.flatMap_map]
  rw [e]
  unfold allT
  refine filter_flatMap' _ _ _ _ fun a _ => ?_
  rw [svcT_succ, List.filter_append]
  have e1 : (dayT T s [] pf a D).filter (fun t => decide (t.day < (D : Int))) = [] := by
    rw [List.filter_eq_nil_iff]
    intro t ht
    have := (dayT_line ht).2
    simp [this]
  rw [e1, List.append_nil]
  unfold svcT
  refine filter_flatMap' _ _ _ _ fun d hd => ?_
  rw [List.mem_range] at hd
  have e2 : dayT T (s.map (cutV D)) [] pf (cutV D a) d = dayT T s [] pf a d := by
    unfold dayT
    rw [show (cutV D a).line = a.line from rfl, runs_cut hd]
    rfl
  rw [e2, List.filter_eq_self]
  intro t ht
  have := (dayT_line ht).2
  rw [decide_eq_true_eq]
  omega
/-- Two lists of trips in order, of which the second is a part of the trips of the first. -/
theorem rolled_eq {T : Nat} (h1 : 1 ≤ T) {s s' : List Svc} {x y : List Exc} {pf : Int → PatP} {D E : Nat} (hok : ∀ a ∈ s, SvcOk T pf a) (hz : ∀ a ∈ s, Zero (pf a.line)) (q : TripP → Bool)
    {A B : List TripP} (hA : A.Perm (allT T s x pf D s)) (hB : B.Perm (allT T s' y pf E s')) (hq : (allT T s x pf D s).filter q = allT T s' y pf E s')
    (sA : A.Pairwise fun a b => leT a b = true) (sB : B.Pairwise fun a b => leT a b = true) : B = A.filter q := by
  refine perm_sorted_eq (R := fun a b => leT a b = true) ?_ ?_ sB (List.Pairwise.filter _ sA)
  · intro a ha b hb h h'
    have ha' := hB.mem_iff.1 ha
    have hb' := hB.mem_iff.1 hb
    rw [← hq] at ha' hb'
    exact allT_anti h1 hok hz hok hz ((List.mem_filter.1 ha').1) ((List.mem_filter.1 hb').1) h h'
  · rw [← hq] at hB
    exact hB.trans (hA.filter q).symm
/-- The pattern of a line, with its times. -/
structure PatT (T : Nat) (ts : List Int) (ev : List (Int × Int × Int)) (line : Int) (p : PatP) : Prop where
  zero : Zero p
  len : p.arr.length = p.dep.length
  res0 : 0 ≤ p.res
  resT : p.res < T
  at_ : ∀ k, k < p.dep.length → ∃ u v : Nat, fidx (fun e => decide (e = ((1 : Int), line, (k : Int)))) ev = u ∧ fidx (fun e => decide (e = ((2 : Int), line, (k : Int)))) ev = v ∧ u < ts.length ∧ v < ts.length ∧
    0 ≤ p.dep.getD k 0 ∧ p.dep.getD k 0 ≤ p.arr.getD k 0 ∧ (p.res + p.dep.getD k 0) % (T : Int) = ts.getD u 0 ∧ (p.res + p.arr.getD k 0) % (T : Int) = ts.getD v 0
theorem mod_of {a b : Int} {T : Nat} (h0 : 0 ≤ b) (h1 : b < T) (h : (a - b) % (T : Int) = 0) : a % (T : Int) = b := by
  have h2 := Int.emod_emod_of_dvd a (Int.dvd_refl (T : Int))
  have h3 := Int.emod_add_mul_ediv (a - b) T
  rw [h] at h3
  have e : a = b + T * ((a - b) / T) := by omega
  rw [e, Int.add_mul_emod_self_left]
  exact Int.emod_eq_of_lt h0 h1
theorem mod_add {a b : Int} {T : Nat} (h : a % (T : Int) = 0) (h' : b % (T : Int) = 0) : (a + b) % (T : Int) = 0 := by
  rw [Int.add_emod, h, h']; rfl
theorem pat_times {T : Nat} {ts : List Int} {ev : List (Int × Int × Int)} {l : List Acy} {line : Int} {R : Nat} {P Q : Nat → Nat} {D W : Nat → Int} (h : PatOk T ts ev l line R P Q D W) (hn : PatNN T ts R P Q D W) (hl : ts.length = ev.length) (ht : ∀ t ∈ ts, 0 ≤ t ∧ t < (T : Int)) :
    PatT T ts ev line ⟨ts.getD (P 0) 0, depL D W R, arrL D W R⟩ := by
  have hR := h.pos
  have hu : ∀ r, r < R → P r < ts.length := fun r hr => by rw [hl]; exact fidx_lt (h.dep r hr)
  have hv : ∀ r, r < R → Q r < ts.length := fun r hr => by rw [hl]; exact fidx_lt (h.arr r hr)
  have hin : ∀ i, i < ts.length → 0 ≤ ts.getD i 0 ∧ ts.getD i 0 < (T : Int) := fun i hi => by
    have := ht ts[i] (List.getElem_mem hi)
    simpa [hi] using this
  have hd : ∀ r, r < R → (depL D W R).getD r 0 = depO D W r := fun r hr => by simp [depL, hr]
  have ha : ∀ r, r < R → (arrL D W R).getD r 0 = nowB D W (r + 1) := fun r hr => by simp [arrL, hr]
  have key : ∀ r, r < R → 0 ≤ depO D W r ∧ (ts.getD (P 0) 0 + depO D W r - ts.getD (P r) 0) % (T : Int) = 0 ∧ depO D W r ≤ nowB D W (r + 1) ∧ (ts.getD (P 0) 0 + nowB D W (r + 1) - ts.getD (Q r) 0) % (T : Int) = 0 := by
    have fin : ∀ r, r < R → 0 ≤ depO D W r ∧ (ts.getD (P 0) 0 + depO D W r - ts.getD (P r) 0) % (T : Int) = 0 → 0 ≤ depO D W r ∧ (ts.getD (P 0) 0 + depO D W r - ts.getD (P r) 0) % (T : Int) = 0 ∧ depO D W r ≤ nowB D W (r + 1) ∧ (ts.getD (P 0) 0 + nowB D W (r + 1) - ts.getD (Q r) 0) % (T : Int) = 0 := fun r hr q => by
      have e : nowB D W (r + 1) = depO D W r + W r := rfl
      refine ⟨q.1, q.2, by rw [e]; have := hn.run0 r hr; omega, ?_⟩
      have := mod_add q.2 (hn.runT r hr)
      rw [e]
      refine Eq.trans (congrArg (fun z => z % (T : Int)) ?_) this
      omega
    intro r
    induction r with
    | zero => intro hr; refine fin 0 hr ⟨by simp [depO, nowB], by simp [depO, nowB]⟩
    | succ r ih =>
      intro hr
      obtain ⟨i1, i2, i3, i4⟩ := ih (by omega)
      have e : depO D W (r + 1) = nowB D W (r + 1) + D (r + 1) := by simp [depO]
      refine fin (r + 1) hr ⟨by rw [e]; have := hn.dwell0 r hr; omega, ?_⟩
      have := mod_add i4 (hn.dwellT r hr)
      rw [e]
      refine Eq.trans (congrArg (fun z => z % (T : Int)) ?_) this
      omega
  refine ⟨⟨?_, ?_⟩, ?_, (hin _ (hu 0 (by omega))).1, (hin _ (hu 0 (by omega))).2, ?_⟩
  · show (depL D W R).getD 0 0 = 0
    rw [hd 0 (by omega)]; simp [depO, nowB]
  · show 1 ≤ (depL D W R).length
    rw [depL_len]; exact hR
  · show (arrL D W R).length = (depL D W R).length
    rw [arrL_len, depL_len]
  · intro k hk
    have hk2 : k < (depL D W R).length := hk
    have hk' : k < R := by rw [depL_len] at hk2; exact hk2
    obtain ⟨k1, k2, k3, k4⟩ := key k hk'
    refine ⟨P k, Q k, h.dep k hk', h.arr k hk', hu k hk', hv k hk', ?_⟩
    show 0 ≤ (depL D W R).getD k 0 ∧ (depL D W R).getD k 0 ≤ (arrL D W R).getD k 0 ∧ (ts.getD (P 0) 0 + (depL D W R).getD k 0) % (T : Int) = _ ∧ (ts.getD (P 0) 0 + (arrL D W R).getD k 0) % (T : Int) = _
    rw [hd k hk', ha k hk']
    exact ⟨k1, k3, mod_of (hin _ (hu k hk')).1 (hin _ (hu k hk')).2 k2, mod_of (hin _ (hv k hk')).1 (hin _ (hv k hk')).2 k4⟩
/-- The patterns of a made network. -/
theorem pats_of {T L r : Nat} {ev : List (Int × Int × Int)} {l : List Acy} {ts : List Int} (h : PatI T L 0 r ev l ts) (hr : 0 < r) (hT : 60 ≤ T) :
    ∃ pf : Int → PatP, ∀ line : Int, 0 ≤ line → line < L → PatAt T ts ev l line (pf line) ∧ PatT T ts ev line (pf line) := by
  have key : ∀ line : Int, ∃ p : PatP, 0 ≤ line → line < L → PatAt T ts ev l line p ∧ PatT T ts ev line p := fun line => by
    by_cases h0 : 0 ≤ line ∧ line < L
    · obtain ⟨R, P, Q, D, W, h1, h2⟩ := h.pat hr hT line h0.1 h0.2
      exact ⟨⟨ts.getD (P 0) 0, depL D W R, arrL D W R⟩, fun _ _ => ⟨⟨R, P, Q, D, W, h1, rfl⟩, pat_times h1 h2 h.tlen h.tin⟩⟩
    · exact ⟨⟨0, [], []⟩, fun q1 q2 => absurd ⟨q1, q2⟩ h0⟩
  exact ⟨fun line => Classical.choose (key line), fun line => Classical.choose_spec (key line)⟩
end RP
