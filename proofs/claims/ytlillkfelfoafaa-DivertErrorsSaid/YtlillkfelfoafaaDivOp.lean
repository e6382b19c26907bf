/-
  A job's option in memory, in one piece; what a plan of made jobs is.
-/
import Derived.Test.YtlillkfelfoafaaDivKj
import Derived.Test.YtlillkfelfoafaaDivZ
set_option linter.unusedVariables false
set_option linter.unusedSimpArgs false
namespace Go.Proofs.Ytlillkfelfoafaa
open Go.RowKit RP

theorem jobAt_map {L : List JobM} {i : Nat} (hi : i < L.length) : jobAt (L.map JobM.p) i = L[i].p := by
  unfold jobAt
  rw [List.getD_eq_getElem?_getD, List.getElem?_map, List.getElem?_eq_getElem hi]; rfl
/-- Job i in memory. -/
theorem Jbs.job_at {w : World} {B : Nat} {JA : Option Addr} {L : List JobM} (h : Jbs w B JA L) {i : Nat} (hi : i < L.length) :
    ∃ (jb jo : Nat) (va : Option Addr) (n c : Nat) (s : Int), JA = some ⟨jb, jo, none⟩ ∧ n = (jobAt (L.map JobM.p) i).opts.length ∧ s = (jobAt (L.map JobM.p) i).start ∧ w.cell? ⟨jb, jo + i * 2, none⟩ = some (.int .i64 s) ∧ w.cell? ⟨jb, jo + i * 2 + 1, none⟩ = some (.slice va n c) := by
  obtain ⟨jb, jo, e, _, a0, a1⟩ := h.lst.job i hi
  have hj := h.at_ L[i] (List.getElem_mem hi)
  rw [hj.jn] at a1
  exact ⟨jb, jo, _, _, _, _, e, by rw [jobAt_map hi]; exact (List.length_map ..).symm, by rw [jobAt_map hi]; rfl, a0, a1⟩
/-- Option k of job i in memory. -/
structure OptIn (w : World) (B jb jo i k ob oo nk jvk : Nat) (s : Int) (uA : Option Addr) (ucp : Nat) (ust : List Ste) (vA : Option Addr) (vcp : Nat) (uos : List Occ) : Prop where
  kn : k < nk
  c0 : w.cell? ⟨jb, jo + i * 2, none⟩ = some (.int .i64 s)
  c1 : w.cell? ⟨jb, jo + i * 2 + 1, none⟩ = some (.slice (some ⟨ob, oo, none⟩) nk jvk)
  o0 : w.cell? ⟨ob, oo + k * 2, none⟩ = some (.slice uA ust.length ucp)
  o1 : w.cell? ⟨ob, oo + k * 2 + 1, none⟩ = some (.slice vA uos.length vcp)
  ol : OLst w B ⟨ust, uos, ⟨uA, ust.length, ucp⟩, ⟨vA, uos.length, vcp⟩⟩
theorem Jbs.opt_in {w : World} {B : Nat} {JA : Option Addr} {L : List JobM} (h : Jbs w B JA L) {i k : Nat} (hi : i < L.length) (hk : k < (jobAt (L.map JobM.p) i).opts.length) :
    ∃ (jb jo ob oo nk jvk : Nat) (s : Int) (uA : Option Addr) (ucp : Nat) (ust : List Ste) (vA : Option Addr) (vcp : Nat) (uos : List Occ), JA = some ⟨jb, jo, none⟩ ∧ nk = (jobAt (L.map JobM.p) i).opts.length ∧ s = (jobAt (L.map JobM.p) i).start ∧
      optAt (jobAt (L.map JobM.p) i) k = ⟨ust, uos⟩ ∧ (∃ j ∈ L, ∃ o ∈ j.opts, o.occs = uos) ∧ OptIn w B jb jo i k ob oo nk jvk s uA ucp ust vA vcp uos := by
  obtain ⟨jb, jo, e, _, a0, a1⟩ := h.lst.job i hi
  have hm := List.getElem_mem hi
  have hj := h.at_ L[i] hm
  rw [hj.jn] at a1
  rw [jobAt_map hi] at hk ⊢
  have hk' : k < L[i].opts.length := by simpa [JobM.p] using hk
  obtain ⟨ob, oo, eo, _, u0, u1⟩ := hj.ol.opt k hk'
  have hom := List.getElem_mem hk'
  have hu := hj.at_ L[i].opts[k] hom
  rw [hu.sn] at u0
  rw [hu.on] at u1
  rw [eo] at a1
  have e3 : optAt L[i].p k = (L[i].opts[k]).p := by
    unfold optAt JobM.p
    rw [List.getD_eq_getElem?_getD, List.getElem?_map, List.getElem?_eq_getElem hk']; rfl
  refine ⟨jb, jo, ob, oo, L[i].opts.length, L[i].jv.c, L[i].start, L[i].opts[k].sv.a, L[i].opts[k].sv.c, L[i].opts[k].steps, L[i].opts[k].ov.a, L[i].opts[k].ov.c, L[i].opts[k].occs, e, (List.length_map ..).symm, rfl, e3, ⟨L[i], hm, L[i].opts[k], hom, rfl⟩, hk', a0, a1, u0, u1, rfl, rfl, hu.st, hu.oc, hu.sm, hu.om⟩
theorem OptIn.below {w w' : World} {B jb jo i k ob oo nk jvk ucp vcp : Nat} {s : Int} {uA vA : Option Addr} {ust : List Ste} {uos : List Occ} (h : OptIn w B jb jo i k ob oo nk jvk s uA ucp ust vA vcp uos) (hb : Below w.heap.size w w') (hB : B ≤ w.heap.size) (b' : Below B w w') (B2 : Nat) (h2 : B ≤ B2) : OptIn w' B2 jb jo i k ob oo nk jvk s uA ucp ust vA vcp uos :=
  ⟨h.kn, (hb.cell (p := ⟨jb, jo + i * 2, none⟩) (cell_lt h.c0)).trans h.c0, (hb.cell (p := ⟨jb, jo + i * 2 + 1, none⟩) (cell_lt h.c1)).trans h.c1, (hb.cell (p := ⟨ob, oo + k * 2, none⟩) (cell_lt h.o0)).trans h.o0, (hb.cell (p := ⟨ob, oo + k * 2 + 1, none⟩) (cell_lt h.o1)).trans h.o1, h.ol.belowMore b' h2⟩

theorem planF_cnt {jobs : List JobP} (h2 : ∀ j ∈ jobs, j.opts.length ≤ 2) (cl : List Clo) (ow : List OWy) (M : Nat) : ∀ (ord : List Nat) (st : List Cho × Nat), (ord.foldl (placeStep jobs cl ow M) st).2 ≤ st.2 + ord.length * ((M + 1) * 2)
  | [], st => by simp
  | i :: ord, st => by
    rw [List.foldl_cons]
    have h1 := planF_cnt h2 cl ow M ord (placeStep jobs cl ow M st i)
    have h3 : (foundC (jobAt jobs i) M (placeN jobs cl ow M st.1 i)).2 ≤ (M + 1) * (jobAt jobs i).opts.length := foundC_le
    have h4 : (jobAt jobs i).opts.length ≤ 2 := by
      by_cases hi : i < jobs.length
      · exact h2 _ (getD_mem' hi _)
      · unfold jobAt
        rw [List.getD_eq_getElem?_getD, List.getElem?_eq_none (by omega)]
        show 0 ≤ 2
        omega
    have h5 := Nat.mul_le_mul_left (M + 1) h4
    have h6 : (placeStep jobs cl ow M st i).2 = st.2 + (foundC (jobAt jobs i) M (placeN jobs cl ow M st.1 i)).2 := rfl
    rw [List.length_cons, Nat.add_mul, Nat.one_mul]
    generalize ord.length * ((M + 1) * 2) = z at *
    omega
/-- The plan of made jobs with the greatest budget. -/
theorem made_plan {jobs : List JobP} (h : MadeJs jobs) {cl : List Clo} {ow : List OWy} {M : Int} (h0 : 0 ≤ M) (h1 : M < 60) {l : List Cho} {n e : Int} (hp : PlanIs jobs cl ow M 1048576 l n e) : e = 0 ∧ ∃ ord, InOrd jobs ord ∧ l = (planF jobs cl ow M.toNat ord).1 := by
  rcases hp with ⟨a, _⟩ | ⟨_, b, _⟩ | ⟨_, _, _, _, _, o, ho, hq⟩
  · rw [h.ok] at a; cases a
  · omega
  · rcases hq with ⟨hx, _⟩ | ⟨_, hl, _, he⟩
    · exfalso
      have hc : (planF jobs cl ow M.toNat o).2 ≤ 0 + o.length * ((M.toNat + 1) * 2) := planF_cnt (fun j hj => (h.at_ j hj).o1) cl ow M.toNat o _
      have h3 := ho.len
      have h4 := h.l1
      have h5 : o.length * ((M.toNat + 1) * 2) ≤ 3 * ((M.toNat + 1) * 2) := Nat.mul_le_mul_right _ (by omega)
      omega
    · exact ⟨he, o, ho, hl⟩
theorem plan_rng {jobs : List JobP} (hj : checkJ jobs = true) (cl : List Clo) (ow : List OWy) (M : Nat) {ord : List Nat} (h : InOrd jobs ord) {i : Nat} (hi : i < jobs.length) :
    ((planF jobs cl ow M ord).1.getD i (0, 0)).1 < 0 ∨ ∃ k : Nat, ((planF jobs cl ow M ord).1.getD i (0, 0)).1 = (k : Int) ∧ k < (jobAt jobs i).opts.length := by
  rcases plan_one hj cl ow M h hi with e | ⟨a1, a2, _⟩
  · left; rw [e]; show (-1 : Int) < 0; omega
  · right
    exact ⟨((planF jobs cl ow M ord).1.getD i (0, 0)).1.toNat, by omega, by omega⟩
theorem MadeJs.res {L : List JobM} (h : MadeJs (L.map JobM.p)) : JobsR L := fun j hj o ho x hx => by
  have := ((h.at_ j.p (List.mem_map_of_mem hj)).at_ o.p (List.mem_map_of_mem ho)).oc x hx
  unfold R64
  omega
theorem MadeJs.len3 {L : List JobM} (h : MadeJs (L.map JobM.p)) : 1 ≤ L.length ∧ L.length ≤ 3 := by
  have h0 := h.l0; have h1 := h.l1; rw [List.length_map] at h0 h1; exact ⟨h0, h1⟩
end Go.Proofs.Ytlillkfelfoafaa
