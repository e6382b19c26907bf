/-
  Contracts of example and awake.
-/
import Derived.Test.YtaongejpbgjbiaaCalZ
set_option linter.unusedVariables false
set_option linter.unusedSimpArgs false
namespace RP
/-- Two sorted lists of the same elements are one. -/
theorem perm_sorted_eq {α : Type} {R : α → α → Prop} : ∀ {l1 l2 : List α}, (∀ a ∈ l1, ∀ b ∈ l1, R a b → R b a → a = b) → l1.Perm l2 → l1.Pairwise R → l2.Pairwise R → l1 = l2
  | [], l2, _, hp, _, _ => by rw [List.nil_perm.1 hp]
  | a :: t, [], _, hp, _, _ => by have := hp.length_eq; simp at this
  | a :: t, b :: u, han, hp, h1, h2 => by
    have hab : a = b := by
      have hb : b ∈ a :: t := hp.mem_iff.2 (by simp)
      have ha : a ∈ b :: u := hp.mem_iff.1 (by simp)
      rcases List.mem_cons.1 hb with e | hb'
      · exact e.symm
      · rcases List.mem_cons.1 ha with e | ha'
        · exact e
        · exact han a (by simp) b hb (List.rel_of_pairwise_cons h1 hb') (List.rel_of_pairwise_cons h2 ha')
    subst hab
    rw [perm_sorted_eq (fun x hx y hy => han x (by simp [hx]) y (by simp [hy])) (List.Perm.cons_inv hp) (List.Pairwise.of_cons h1) (List.Pairwise.of_cons h2)]
def leT (a b : TripP) : Bool := decide (a.dep.getD 0 0 < b.dep.getD 0 0 ∨ (a.dep.getD 0 0 = b.dep.getD 0 0 ∧ a.line ≤ b.line))
def xEv : List (Int × Int × Int) := [(1, 0, 0), (2, 0, 0)]
def xAc : List Acy := [⟨1, 0, 1, 90, 90, 0⟩]
def xSv : List Svc := [⟨0, 5, 0, 1300⟩]
def xPf (_ : Int) : PatP := ⟨100, [0], [90]⟩
theorem x_feas : feasB 600 2 xAc [100, 190] = true := by decide
theorem x_check : checkS (linesP xEv) 3 xSv [] = 0 := by decide
theorem x_pat : PatAt 600 [100, 190] xEv xAc 0 (xPf 0) := by
  refine ⟨1, fun _ => 0, fun _ => 1, fun _ => 0, fun _ => 90, ⟨by omega, by omega, ?_, ?_, by decide, ?_, ?_⟩, rfl⟩
  · intro r hr
    obtain rfl : r = 0 := by omega
    decide
  · intro r hr
    obtain rfl : r = 0 := by omega
    decide
  · intro r hr
    exact ⟨⟨1, 0, 1, 90, 90, 0⟩, rfl, by decide⟩
  · intro r hr
    omega
theorem x_ok : ∀ a ∈ xSv, SvcOk 600 xPf a := by
  intro a ha
  rw [List.mem_singleton.1 ha]
  exact ⟨by decide, by decide, by decide, by decide, by decide⟩
theorem x_cnt : cntS 600 xSv [] xPf 3 xSv = 6 := by decide
def xTr : List TripP := [⟨0, 0, [100], [190]⟩, ⟨0, 0, [700], [790]⟩, ⟨0, 0, [1300], [1390]⟩, ⟨0, 2, [172900], [172990]⟩, ⟨0, 2, [173500], [173590]⟩, ⟨0, 2, [174100], [174190]⟩]
theorem x_all : allT 600 xSv [] xPf 3 xSv = xTr := by decide
theorem x_sorted : xTr.Pairwise (fun a b => leT a b = true) := by decide
theorem x_anti : ∀ a ∈ xTr, ∀ b ∈ xTr, leT a b = true → leT b a = true → a = b := by decide
end RP
namespace Go.Proofs.Ytaongejpbgjbiaa
open Go.RowKit RP

theorem tcmp_le (a b : TripM) : ¬ tcmp b a < 0 ↔ leT a.p b.p = true := by
  unfold tcmp leT
  rw [cmpT_lt, decide_eq_true_eq]
  simp only [TripM.p]
  omega
theorem sorted_p {L : List TripM} (h : L.Pairwise (fun a b => ¬ tcmp b a < 0)) : (L.map TripM.p).Pairwise (fun a b => leT a b = true) := by
  rw [List.pairwise_map]
  exact h.imp fun h => (tcmp_le _ _).1 h

theorem x_r : ∀ e ∈ xEv, R64 e.2.1 := by
  intro e he
  simp only [xEv, List.mem_cons, List.not_mem_nil, or_false] at he
  rcases he with rfl | rfl <;> exact ⟨by decide, by decide⟩
theorem x_d : ∀ a ∈ xSv, R64 a.days := by
  intro a ha
  rw [List.mem_singleton.1 ha]
  exact ⟨by decide, by decide⟩
def ExPost (w : World) (e : Ending) (w' : World) : Prop :=
  ∃ gE gA gT : Nat, e = .returned (.tuple #[netV 600 (some ⟨gE, 0, none⟩) xEv.length 2 (some ⟨gA, 0, none⟩) xAc.length 1, .slice (some ⟨gT, 0, none⟩) 2 2]) ∧ Lst encE 3 w' w'.heap.size (some ⟨gE, 0, none⟩) xEv ∧ Lst encA 6 w' w'.heap.size (some ⟨gA, 0, none⟩) xAc ∧ Lst encI 1 w' w'.heap.size (some ⟨gT, 0, none⟩) [100, 190] ∧ Below w.heap.size w w'
theorem ex_lsts (w : World) (o n : Obj) (q1 q2 q3 : Array Value) (h1 : q1.toList = xEv.flatMap encE) (h2 : q2.toList = xAc.flatMap encA) (h3 : q3.toList = [(100 : Int), 190].flatMap encI) :
    let W := ((((w.alloc o).alloc (.cells q1 54)).alloc (.cells q2 60)).alloc n).alloc (.cells q3 3)
    Lst encE 3 W W.heap.size (some ⟨w.heap.size + 1, 0, none⟩) xEv ∧ Lst encA 6 W W.heap.size (some ⟨w.heap.size + 1 + 1, 0, none⟩) xAc ∧ Lst encI 1 W W.heap.size (some ⟨w.heap.size + 1 + 1 + 1 + 1, 0, none⟩) [100, 190] ∧ Below w.heap.size w W := by
  intro W
  have z1 : (w.alloc o).heap.size = w.heap.size + 1 := by simp
  have z2 : ((w.alloc o).alloc (.cells q1 54)).heap.size = w.heap.size + 1 + 1 := by rw [World.size_alloc, z1]
  have z3 : (((w.alloc o).alloc (.cells q1 54)).alloc (.cells q2 60)).heap.size = w.heap.size + 1 + 1 + 1 := by rw [World.size_alloc, z2]
  have z4 : ((((w.alloc o).alloc (.cells q1 54)).alloc (.cells q2 60)).alloc n).heap.size = w.heap.size + 1 + 1 + 1 + 1 := by rw [World.size_alloc, z3]
  have l1 := Own.lst encE_len (Own.lit (w.alloc o) 54 0 q1 xEv 2 rfl encE_len h1 (Nat.zero_le _) (by unfold maxLen; decide))
  have l2 := Own.lst encA_len (Own.lit ((w.alloc o).alloc (.cells q1 54)) 60 0 q2 xAc 1 rfl encA_len h2 (Nat.zero_le _) (by unfold maxLen; decide))
  have l3 := Own.lst encI_len (Own.lit ((((w.alloc o).alloc (.cells q1 54)).alloc (.cells q2 60)).alloc n) 3 0 q3 [100, 190] 2 rfl encI_len h3 (Nat.zero_le _) (by unfold maxLen; decide))
  have b1 := belA w o
  have b2 := belA (w.alloc o) (.cells q1 54)
  have b3 := belA ((w.alloc o).alloc (.cells q1 54)) (.cells q2 60)
  have b4 := belA (((w.alloc o).alloc (.cells q1 54)).alloc (.cells q2 60)) n
  have b5 := belA ((((w.alloc o).alloc (.cells q1 54)).alloc (.cells q2 60)).alloc n) (.cells q3 3)
  rw [z1] at l1
  rw [z2] at l2
  rw [z4] at l3
  exact ⟨((l1.belowMore b3 b3.size).belowMore b4 b4.size).belowMore b5 b5.size, (l2.belowMore b4 b4.size).belowMore b5 b5.size, l3, (((b1.trans (b2.mono (by omega))).trans (b3.mono (by omega))).trans (b4.mono (by omega))).trans (b5.mono (by omega))⟩
set_option maxRecDepth 100000 in
set_option maxHeartbeats 2000000 in
theorem example_any (w : World) : Calls Try.prog 24 #[] w (ExPost w) := by
  have hz := fun (cs : Array Value) => heap_alloc_new w (.cells cs 43)
  go_enter Try.func24, Try.ntmps24
  go_wp2_with fail
  refine bodyPost_ret (results_cell_tmp rfl _ _ w.heap.size 43 _ _ _ rfl (((belA _ _).block _ (by simp; omega)).trans (((belA _ _).block _ (by simp; omega)).trans (((belA _ _).block _ (by simp; omega)).trans (((belA _ _).block _ (by simp)).trans (hz _))))) Try.underlying43 rfl (by kernel_rfl) (.slice (some ⟨w.heap.size + 1 + 1 + 1 + 1, 0, none⟩) 2 2) rfl) rfl ?_
  obtain ⟨h1, h2, h3, h4⟩ := ex_lsts w _ _ _ _ _ rfl rfl rfl
  exact ⟨w.heap.size + 1, w.heap.size + 1 + 1, w.heap.size + 1 + 1 + 1 + 1, rfl, h1, h2, h3, h4⟩

set_option maxRecDepth 100000 in
set_option maxHeartbeats 8000000 in
theorem awake_any (w : World) : Calls Try.prog 13 #[] w fun e w' => e = .returned (.bool true) ∧ Below w.heap.size w w' := by
  go_enter Try.func13, Try.ntmps13
  go_wp2_with fail
  refine (example_any w).mono ?_
  rintro ex w1 ⟨gE, gA, gT, rfl, hE, hA, hT, hb1⟩
  have ba := belA w1 (.cells #[.int .i64 600, .slice (some ⟨gE, 0, none⟩) xEv.length 2, .slice (some ⟨gA, 0, none⟩) xAc.length 1] 43)
  have bb := belA (w1.alloc (.cells #[.int .i64 600, .slice (some ⟨gE, 0, none⟩) xEv.length 2, .slice (some ⟨gA, 0, none⟩) xAc.length 1] 43)) (.cells #[.int .i64 0, .int .i64 5, .int .i64 0, .int .i64 1300] 34)
  have hS := Own.lst encV_len (Own.lit (w1.alloc (.cells #[.int .i64 600, .slice (some ⟨gE, 0, none⟩) xEv.length 2, .slice (some ⟨gA, 0, none⟩) xAc.length 1] 43)) 34 0 #[.int .i64 0, .int .i64 5, .int .i64 0, .int .i64 1300] xSv 1 rfl encV_len rfl (Nat.zero_le _) (by unfold maxLen; decide))
  have hro := roll_any 600 (some ⟨gE, 0, none⟩) 2 (some ⟨gA, 0, none⟩) 1 xEv xAc (some ⟨gT, 0, none⟩) 2 [100, 190] 3 (some ⟨(w1.alloc (.cells #[.int .i64 600, .slice (some ⟨gE, 0, none⟩) xEv.length 2, .slice (some ⟨gA, 0, none⟩) xAc.length 1] 43)).heap.size, 0, none⟩) 1 xSv none 0 [] xPf _
    ((hE.belowMore ba ba.size).belowMore bb bb.size) ((hA.belowMore ba ba.size).belowMore bb bb.size) ((hT.belowMore ba ba.size).belowMore bb bb.size) hS Lst.nil x_feas x_check (fun a ha => by rw [List.mem_singleton.1 ha]; exact x_pat) x_r (by omega) (by decide) (by decide) x_ok x_d
  have hB := hb1.trans ((ba.trans (bb.mono ba.size)).mono hb1.size)
  have HB := Lib.hid hB
  have zx : (w1.alloc (.cells #[.int .i64 600, .slice (some ⟨gE, 0, none⟩) xEv.length 2, .slice (some ⟨gA, 0, none⟩) xAc.length 1] 43)).heap.size = w1.heap.size + 1 := by simp
  rw [zx] at hro
  clear hB ba bb hS hE hA hT hb1 zx
  go_wp2_with fail
  refine hro.mono ?_
  rintro ex w3 ⟨hb3, ⟨hc, _⟩ | ⟨hc, A, c, L, rfl, hTr, hp, hsrt⟩⟩
  · rw [x_cnt] at hc; omega
  · rw [x_all] at hp
    have hLp := perm_sorted_eq x_anti hp.symm x_sorted (sorted_p hsrt)
    have hlen : L.length = 6 := by have := congrArg List.length hLp; simpa [xTr] using this.symm
    have h4 : (L[4]'(by omega)).p = ⟨0, 2, [173500], [173590]⟩ := by
      have := congrArg (fun l => l[4]?) hLp
      simpa [xTr, hlen] using this.symm
    have HB3 := Lib.hid (HB.out.trans (hb3.mono HB.out.size))
    obtain ⟨g, c', hv, _, hg, _, hcell, _⟩ := hTr.1.at_ encT_len (by intro e; rw [e] at hlen; simp at hlen)
    injection hv with hv1
    have hcl := hcell 4 (L[4]'(by omega)) (by simp [hlen])
    obtain ⟨htok, _⟩ := hTr.2 (L[4]'(by omega)) (List.getElem_mem _)
    generalize L[4]'(by omega) = t at *
    obtain ⟨li, da, dp, ar, ⟨da1, dn1, dc1⟩, ⟨aa1, an1, ac1⟩⟩ := t
    simp only [TripM.p, TripP.mk.injEq] at h4
    obtain ⟨rfl, rfl, rfl, rfl⟩ := h4
    have k1 := hcl 1 _ rfl
    have k2 := hcl 2 _ rfl
    have k3 := hcl 3 _ rfl
    obtain ⟨gd, cd, e1, _, _, _, f1, _⟩ := htok.dep.at_ encI_len (by simp)
    obtain ⟨ga, ca, e2, _, _, _, f2, _⟩ := htok.arr.at_ encI_len (by simp)
    have m1 : w3.cell? ⟨gd, 0, none⟩ = some (.int .i64 173500) := f1 0 _ rfl 0 _ rfl
    have m2 : w3.cell? ⟨ga, 0, none⟩ = some (.int .i64 173590) := f2 0 _ rfl 0 _ rfl
    simp only [encT, Sv.v] at k1 k2 k3 e1 e2
    rw [e1] at k2
    rw [e2] at k3
    have k1' : w3.cell? ⟨g, 16 + 1, none⟩ = some (.int .i64 2) := k1
    have k2' : w3.cell? ⟨g, 16 + 2, none⟩ = some (.slice (some ⟨gd, 0, none⟩) 1 cd) := k2
    have k3' : w3.cell? ⟨g, 16 + 3, none⟩ = some (.slice (some ⟨ga, 0, none⟩) 1 ca) := k3
    subst hv1
    rw [hlen]
    clear hcl hcell hTr hp hsrt hLp k1 k2 k3 f1 f2 htok hro hb3 e1 e2
    have HL := Lib.hid hlen
    clear hlen
    go_wp2_with fail
    go_ret
    exact ⟨rfl, HB3.out⟩

end Go.Proofs.Ytaongejpbgjbiaa
