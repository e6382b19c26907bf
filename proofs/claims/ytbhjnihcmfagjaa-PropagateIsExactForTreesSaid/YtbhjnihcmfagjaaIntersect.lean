/-
  Contract of Intersect.
-/
import Derived.Test.YtbhjnihcmfagjaaComplement
import Derived.Test.YtbhjnihcmfagjaaRefSet
set_option linter.unusedVariables false
set_option linter.unusedSimpArgs false
namespace Go.Proofs.Ytbhjnihcmfagjaa
open Go.RowKit RP

def interI (t : Int) (a b : List Sp) : List Sp := if badI t a b = 0 then runs (interB a b) t.toNat else []
theorem interI_nat (T : Nat) (a b : List Sp) : interI T a b = interL T a b := by simp [interI, interL]

/-- A slice without its first record. -/
theorem Lst.tail {w : World} {B : Nat} {b off : Nat} {s : Sp} {l : List Sp} (h : Lst encS 2 w B (some ⟨b, off, none⟩) (s :: l)) : Lst encS 2 w B (some ⟨b, off + 2, none⟩) l := fun hl => by
  obtain ⟨b', off', e, hb, hc⟩ := h (by simp)
  injection e with e
  injection e with e1 e2
  subst e1 e2
  exact ⟨b, off + 2, rfl, hb, fun i x hx j v hv => by
    have := hc (i + 1) x (by simpa using hx) j v hv
    rw [Nat.add_mul, Nat.one_mul] at this
    rw [show off + 2 + i * 2 + j = off + (i * 2 + 2) + j by omega]
    exact this⟩

theorem inter_len {t : Int} {a b out ra rb : List Sp} (h : Inter t a b out ra rb) (ht : 0 ≤ t) : 2 * (out.length : Int) ≤ t + 1 := by
  have := valid_length h.valid (by omega)
  omega


set_option maxHeartbeats 8000000 in
theorem intersect_any (t : Int) (A B : Option Addr) (c d : Nat) (a b : List Sp) (w : World) (ha : Lst encS 2 w w.heap.size A a) (hb : Lst encS 2 w w.heap.size B b)
    (hac : a.length ≤ c) (hbd : b.length ≤ d) (hn : c ≤ 9223372036854775807) (hn' : d ≤ 9223372036854775807) :
    Calls Try.prog 66 #[.int .i64 t, .slice A a.length c, .slice B b.length d] w fun e w' =>
      ∃ v, e = .returned (.tuple #[v, .int .i64 (badI t a b)]) ∧ OwnS w' w.heap.size v (interI t a b) ∧ Below w.heap.size w w' := by
  have hba : Below w.heap.size w (w.alloc (.cells #[.slice A a.length c, .slice B b.length d] 40)) := (Below.refl _ _).alloc (Nat.le_refl _) _
  have g0 : (w.alloc (.cells #[.slice A a.length c, .slice B b.length d] 40)).cell? ⟨w.heap.size, 0, none⟩ = some (.slice A a.length c) := by rw [World.cell?_alloc_at _ _ _ _ rfl]; rfl
  have g1 : (w.alloc (.cells #[.slice A a.length c, .slice B b.length d] 40)).cell? ⟨w.heap.size, 1, none⟩ = some (.slice B b.length d) := by rw [World.cell?_alloc_at _ _ _ _ rfl]; rfl
  have hch := check2_any t A B c d a b w.heap.size 2 (w.alloc (.cells #[.slice A a.length c, .slice B b.length d] 40)) g0 g1 (by simp) (ha.belowMore hba (by simp)) (hb.belowMore hba (by simp)) (by omega) (by omega)
  clear g0 g1
  by_cases h0 : badI t a b = 0
  · obtain ⟨va, vb⟩ := badI_zero h0
    obtain ⟨t1, t2⟩ := badI_range h0
    obtain ⟨T, rfl⟩ := Int.eq_ofNat_of_zero_le (show 0 ≤ t by omega)
    have H := Lib.hid h0
    have HE := Lib.hid (show interI T a b = runs (interB a b) T by simp [interI, h0])
    have hI0 := inter_start va vb
    rw [h0] at hch
    clear h0 va vb
    go_enter Try.func66, Try.ntmps66
    go_wp2_with fail
    refine hch.mono ?_
    rintro e w1 ⟨rfl, hb1⟩
    have z0 : w.heap.size + 1 ≤ w1.heap.size := by have := hb1.size; simpa using this
    have hw1 := hba.trans (hb1.mono (by simp))
    clear hch hba hb1
    go_wp2_with fail
    go_loopg [1, 2, 9, 10, 11] (a.length + b.length) (fun g s1 s2 s9 s10 s11 wr => ∃ (ra rb out : List Sp) (A1 A2 : Option Addr) (c1 c2 : Nat), g = ra.length + rb.length ∧ s1 = .slice A1 ra.length c1 ∧ s2 = .slice A2 rb.length c2 ∧
      ra.length ≤ c1 ∧ rb.length ≤ c2 ∧ c1 ≤ c ∧ c2 ≤ d ∧ Lst encS 2 wr w.heap.size A1 ra ∧ Lst encS 2 wr w.heap.size A2 rb ∧ OwnS wr w.heap.size s9 out ∧ Inter T a b out ra rb ∧ Below w.heap.size w wr)
    case atStart => exact ⟨a, b, [], A, B, c, d, rfl, rfl, rfl, hac, hbd, Nat.le_refl _, Nat.le_refl _, ha.below hw1, hb.below hw1, Own.nil _ _ _ _ _, hI0, hw1⟩
    case round =>
      obtain ⟨ra, rb, out, A1, A2, c1, c2, hg, rfl, rfl, hc1, hc2, hc3, hc4, hla, hlb, hox, hI, hbr⟩ := hrel
      have hz := hbr.size
      have hol := inter_len hI (by omega)
      have HI := Lib.hid hI
      clear hI hI0
      cases ra with
      | nil =>
        simp only [List.length_nil] at hg hc1 ⊢
        go_wp2
        go_ret2
        obtain ⟨v1, v2⟩ := inter_done HI.out (.inl rfl)
        have e1 : out = runs (interB a b) T := eq_runs v1 fun x _ => by rw [v2]; rfl
        exact ⟨_, by rw [H.out]; rfl, by rw [HE.out, ← e1]; exact hox, hbr⟩
      | cons s ra =>
        cases rb with
        | nil =>
          simp only [List.length_nil, List.length_cons] at hg hc1 hc2 ⊢
          have hd0 : decide ((0 : Int) < ((0 : Nat) : Int)) = false := by simp
          go_wp2
          go_ret2
          obtain ⟨v1, v2⟩ := inter_done HI.out (.inr rfl)
          have e1 : out = runs (interB a b) T := eq_runs v1 fun x _ => by rw [v2]; rfl
          exact ⟨_, by rw [H.out]; rfl, by rw [HE.out, ← e1]; exact hox, hbr⟩
        | cons u rb =>
          obtain ⟨b1, o1, rfl, hb1, p0, p1⟩ := hla.sp 0 (by simp)
          obtain ⟨b2, o2, rfl, hb2, q0, q1⟩ := hlb.sp 0 (by simp)
          have hta := Lib.hid hla.tail
          have htb := Lib.hid hlb.tail
          simp only [List.getElem_cons_zero, Nat.zero_mul, Nat.add_zero, List.length_cons] at p0 p1 q0 q1 hg hc1 hc2 ⊢
          obtain ⟨sf, se⟩ := s
          obtain ⟨uf, ue⟩ := u
          simp only at p0 p1 q0 q1
          obtain ⟨A9, c9, rfl⟩ := hox.form
          have hnb1 : some b1 ≠ (Value.slice A9 out.length c9).ownBlock := fun e => by have := (World.ownsRow.lt hox _ e.symm).1; omega
          have hnb2 : some b2 ≠ (Value.slice A9 out.length c9).ownBlock := fun e => by have := (World.ownsRow.lt hox _ e.symm).1; omega
          have HLA := Lib.hid hla
          have HLB := Lib.hid hlb
          clear hla hlb
          by_cases h2 : se ≤ ue
          · have HX := Lib.hid (inter_step HI.out h2)
            have hmn : min se ue = se := Int.min_eq_left h2
            have hbe : (se == se) = true := by simp
            by_cases h3 : max sf uf < se
            · have HPt := Lib.hid (show interPart (sf, se) (uf, ue) = [(max sf uf, se)] by simp [interPart, hmn, h3])
              rw [HPt.out] at HX
              by_cases hc : c1 = 1
              · subst hc
                obtain rfl : ra = [] := List.eq_nil_of_length_eq_zero (by omega)
                simp only [List.length_nil, Nat.zero_add] at hg ⊢
                go_wp2_with fail
                go_region
                replace p0 : wr.drew.cell? ⟨b1, o1, none⟩ = some (.int .i64 sf) := p0
                replace p1 : wr.drew.cell? ⟨b1, o1 + 1, none⟩ = some (.int .i64 se) := p1
                replace q0 : wr.drew.cell? ⟨b2, o2, none⟩ = some (.int .i64 uf) := q0
                replace q1 : wr.drew.cell? ⟨b2, o2 + 1, none⟩ = some (.int .i64 ue) := q1
                have hbW : Below w.heap.size w wr.drew := hbr.drew
                have hoW := hox.drew
                have hzW : w.heap.size ≤ wr.drew.heap.size := hz
                have htaW : Hid (Lst encS 2 wr.drew w.heap.size (some ⟨b1, o1 + 2, none⟩) _) := hta
                have htbW : Hid (Lst encS 2 wr.drew w.heap.size (some ⟨b2, o2, none⟩) _) := HLB
                generalize wr.drew = W at *
                have hm1 : max sf uf < se := h3
                go_wp2_with (at_builtin; refine wpList_append_rec rfl _ _ 40 rfl w.heap.size 46 16 Try.underlying40 elemS _ out rfl hoW [(max sf uf, se)] _ rfl 1 1 rfl rfl (by simp only [Go.maxLen, List.length_cons, List.length_nil]; omega) (by simp only [List.length_cons, List.length_nil]; omega) hzW ?_; intro v1 w2 ho2 hg2 hat2; have hg3 : W.grownBy w2 (Value.slice A9 out.length c9).ownBlock := hg2; have kp1 := hg3.cell p1 hnb1; have kq1 := hg3.cell q1 hnb2; clear hg2 hat2)
                go_roundg (0 + (rb.length + 1))
                case measure => omega
                case rel =>
                  have hW2 : Below w.heap.size W w2 := below_of_grownBy hg3 hzW (hoW.le (Nat.le_refl _))
                  exact ⟨[], (uf, ue) :: rb, _, _, some ⟨b2, o2, none⟩, _, c2, rfl, rfl, rfl, by first | omega | (simp only [List.length_nil]; omega), hc2, by omega, hc4, by first | exact htaW.out.below hW2 | exact Lst.nil, htbW.out.below hW2, ho2, HX.out, hbW.trans hW2⟩
              · go_wp2_with fail
                go_region
                replace p0 : wr.drew.cell? ⟨b1, o1, none⟩ = some (.int .i64 sf) := p0
                replace p1 : wr.drew.cell? ⟨b1, o1 + 1, none⟩ = some (.int .i64 se) := p1
                replace q0 : wr.drew.cell? ⟨b2, o2, none⟩ = some (.int .i64 uf) := q0
                replace q1 : wr.drew.cell? ⟨b2, o2 + 1, none⟩ = some (.int .i64 ue) := q1
                have hbW : Below w.heap.size w wr.drew := hbr.drew
                have hoW := hox.drew
                have hzW : w.heap.size ≤ wr.drew.heap.size := hz
                have htaW : Hid (Lst encS 2 wr.drew w.heap.size (some ⟨b1, o1 + 2, none⟩) _) := hta
                have htbW : Hid (Lst encS 2 wr.drew w.heap.size (some ⟨b2, o2, none⟩) _) := HLB
                generalize wr.drew = W at *
                have hm1 : max sf uf < se := h3
                go_wp2_with (at_builtin; refine wpList_append_rec rfl _ _ 40 rfl w.heap.size 46 16 Try.underlying40 elemS _ out rfl hoW [(max sf uf, se)] _ rfl 1 1 rfl rfl (by simp only [Go.maxLen, List.length_cons, List.length_nil]; omega) (by simp only [List.length_cons, List.length_nil]; omega) hzW ?_; intro v1 w2 ho2 hg2 hat2; have hg3 : W.grownBy w2 (Value.slice A9 out.length c9).ownBlock := hg2; have kp1 := hg3.cell p1 hnb1; have kq1 := hg3.cell q1 hnb2; clear hg2 hat2)
                go_roundg (ra.length + (rb.length + 1))
                case measure => omega
                case rel =>
                  have hW2 : Below w.heap.size W w2 := below_of_grownBy hg3 hzW (hoW.le (Nat.le_refl _))
                  exact ⟨ra, (uf, ue) :: rb, _, _, some ⟨b2, o2, none⟩, _, c2, rfl, rfl, rfl, by first | omega | (simp only [List.length_nil]; omega), hc2, by omega, hc4, by first | exact htaW.out.below hW2 | exact Lst.nil, htbW.out.below hW2, ho2, HX.out, hbW.trans hW2⟩
            · have HPt := Lib.hid (show interPart (sf, se) (uf, ue) = [] by simp [interPart, hmn, h3])
              rw [HPt.out, List.append_nil] at HX
              by_cases hc : c1 = 1
              · subst hc
                obtain rfl : ra = [] := List.eq_nil_of_length_eq_zero (by omega)
                simp only [List.length_nil, Nat.zero_add] at hg ⊢
                go_wp2_with fail
                go_region
                replace p0 : wr.drew.cell? ⟨b1, o1, none⟩ = some (.int .i64 sf) := p0
                replace p1 : wr.drew.cell? ⟨b1, o1 + 1, none⟩ = some (.int .i64 se) := p1
                replace q0 : wr.drew.cell? ⟨b2, o2, none⟩ = some (.int .i64 uf) := q0
                replace q1 : wr.drew.cell? ⟨b2, o2 + 1, none⟩ = some (.int .i64 ue) := q1
                have hbW : Below w.heap.size w wr.drew := hbr.drew
                have hoW := hox.drew
                have hzW : w.heap.size ≤ wr.drew.heap.size := hz
                have htaW : Hid (Lst encS 2 wr.drew w.heap.size (some ⟨b1, o1 + 2, none⟩) _) := hta
                have htbW : Hid (Lst encS 2 wr.drew w.heap.size (some ⟨b2, o2, none⟩) _) := HLB
                generalize wr.drew = W at *
                go_wp2_with fail
                go_roundg (0 + (rb.length + 1))
                case measure => omega
                case rel =>
                  have hW2 : Below w.heap.size W W := Below.refl _ _
                  exact ⟨[], (uf, ue) :: rb, _, _, some ⟨b2, o2, none⟩, _, c2, rfl, rfl, rfl, by first | omega | (simp only [List.length_nil]; omega), hc2, by omega, hc4, by first | exact htaW.out.below hW2 | exact Lst.nil, htbW.out.below hW2, hoW, HX.out, hbW.trans hW2⟩
              · go_wp2_with fail
                go_region
                replace p0 : wr.drew.cell? ⟨b1, o1, none⟩ = some (.int .i64 sf) := p0
                replace p1 : wr.drew.cell? ⟨b1, o1 + 1, none⟩ = some (.int .i64 se) := p1
                replace q0 : wr.drew.cell? ⟨b2, o2, none⟩ = some (.int .i64 uf) := q0
                replace q1 : wr.drew.cell? ⟨b2, o2 + 1, none⟩ = some (.int .i64 ue) := q1
                have hbW : Below w.heap.size w wr.drew := hbr.drew
                have hoW := hox.drew
                have hzW : w.heap.size ≤ wr.drew.heap.size := hz
                have htaW : Hid (Lst encS 2 wr.drew w.heap.size (some ⟨b1, o1 + 2, none⟩) _) := hta
                have htbW : Hid (Lst encS 2 wr.drew w.heap.size (some ⟨b2, o2, none⟩) _) := HLB
                generalize wr.drew = W at *
                go_wp2_with fail
                go_roundg (ra.length + (rb.length + 1))
                case measure => omega
                case rel =>
                  have hW2 : Below w.heap.size W W := Below.refl _ _
                  exact ⟨ra, (uf, ue) :: rb, _, _, some ⟨b2, o2, none⟩, _, c2, rfl, rfl, rfl, by first | omega | (simp only [List.length_nil]; omega), hc2, by omega, hc4, by first | exact htaW.out.below hW2 | exact Lst.nil, htbW.out.below hW2, hoW, HX.out, hbW.trans hW2⟩
          · have HX := Lib.hid (inter_sym (inter_step (inter_sym HI.out) (show (uf, ue).2 ≤ (sf, se).2 by simp only; omega)))
            rw [interPart_sym] at HX
            have hmn : min se ue = ue := Int.min_eq_right (by omega)
            have hbe : (se == ue) = false := by rw [beq_eq_false_iff_ne]; omega
            by_cases h3 : max sf uf < ue
            · have HPt := Lib.hid (show interPart (sf, se) (uf, ue) = [(max sf uf, ue)] by simp [interPart, hmn, h3])
              rw [HPt.out] at HX
              by_cases hc : c2 = 1
              · subst hc
                obtain rfl : rb = [] := List.eq_nil_of_length_eq_zero (by omega)
                simp only [List.length_nil, Nat.zero_add] at hg ⊢
                go_wp2_with fail
                go_region
                replace p0 : wr.drew.cell? ⟨b1, o1, none⟩ = some (.int .i64 sf) := p0
                replace p1 : wr.drew.cell? ⟨b1, o1 + 1, none⟩ = some (.int .i64 se) := p1
                replace q0 : wr.drew.cell? ⟨b2, o2, none⟩ = some (.int .i64 uf) := q0
                replace q1 : wr.drew.cell? ⟨b2, o2 + 1, none⟩ = some (.int .i64 ue) := q1
                have hbW : Below w.heap.size w wr.drew := hbr.drew
                have hoW := hox.drew
                have hzW : w.heap.size ≤ wr.drew.heap.size := hz
                have htaW : Hid (Lst encS 2 wr.drew w.heap.size (some ⟨b1, o1, none⟩) _) := HLA
                have htbW : Hid (Lst encS 2 wr.drew w.heap.size (some ⟨b2, o2 + 2, none⟩) _) := htb
                generalize wr.drew = W at *
                have hm1 : max sf uf < ue := h3
                go_wp2_with (at_builtin; refine wpList_append_rec rfl _ _ 40 rfl w.heap.size 46 16 Try.underlying40 elemS _ out rfl hoW [(max sf uf, ue)] _ rfl 1 1 rfl rfl (by simp only [Go.maxLen, List.length_cons, List.length_nil]; omega) (by simp only [List.length_cons, List.length_nil]; omega) hzW ?_; intro v1 w2 ho2 hg2 hat2; have hg3 : W.grownBy w2 (Value.slice A9 out.length c9).ownBlock := hg2; have kp1 := hg3.cell p1 hnb1; have kq1 := hg3.cell q1 hnb2; clear hg2 hat2)
                go_roundg (ra.length + 1 + 0)
                case measure => omega
                case rel =>
                  have hW2 : Below w.heap.size W w2 := below_of_grownBy hg3 hzW (hoW.le (Nat.le_refl _))
                  exact ⟨(sf, se) :: ra, [], _, some ⟨b1, o1, none⟩, _, c1, _, rfl, rfl, rfl, hc1, by first | omega | (simp only [List.length_nil]; omega), hc3, by omega, htaW.out.below hW2, by first | exact htbW.out.below hW2 | exact Lst.nil, ho2, HX.out, hbW.trans hW2⟩
              · go_wp2_with fail
                go_region
                replace p0 : wr.drew.cell? ⟨b1, o1, none⟩ = some (.int .i64 sf) := p0
                replace p1 : wr.drew.cell? ⟨b1, o1 + 1, none⟩ = some (.int .i64 se) := p1
                replace q0 : wr.drew.cell? ⟨b2, o2, none⟩ = some (.int .i64 uf) := q0
                replace q1 : wr.drew.cell? ⟨b2, o2 + 1, none⟩ = some (.int .i64 ue) := q1
                have hbW : Below w.heap.size w wr.drew := hbr.drew
                have hoW := hox.drew
                have hzW : w.heap.size ≤ wr.drew.heap.size := hz
                have htaW : Hid (Lst encS 2 wr.drew w.heap.size (some ⟨b1, o1, none⟩) _) := HLA
                have htbW : Hid (Lst encS 2 wr.drew w.heap.size (some ⟨b2, o2 + 2, none⟩) _) := htb
                generalize wr.drew = W at *
                have hm1 : max sf uf < ue := h3
                go_wp2_with (at_builtin; refine wpList_append_rec rfl _ _ 40 rfl w.heap.size 46 16 Try.underlying40 elemS _ out rfl hoW [(max sf uf, ue)] _ rfl 1 1 rfl rfl (by simp only [Go.maxLen, List.length_cons, List.length_nil]; omega) (by simp only [List.length_cons, List.length_nil]; omega) hzW ?_; intro v1 w2 ho2 hg2 hat2; have hg3 : W.grownBy w2 (Value.slice A9 out.length c9).ownBlock := hg2; have kp1 := hg3.cell p1 hnb1; have kq1 := hg3.cell q1 hnb2; clear hg2 hat2)
                go_roundg (ra.length + 1 + rb.length)
                case measure => omega
                case rel =>
                  have hW2 : Below w.heap.size W w2 := below_of_grownBy hg3 hzW (hoW.le (Nat.le_refl _))
                  exact ⟨(sf, se) :: ra, rb, _, some ⟨b1, o1, none⟩, _, c1, _, rfl, rfl, rfl, hc1, by first | omega | (simp only [List.length_nil]; omega), hc3, by omega, htaW.out.below hW2, by first | exact htbW.out.below hW2 | exact Lst.nil, ho2, HX.out, hbW.trans hW2⟩
            · have HPt := Lib.hid (show interPart (sf, se) (uf, ue) = [] by simp [interPart, hmn, h3])
              rw [HPt.out, List.append_nil] at HX
              by_cases hc : c2 = 1
              · subst hc
                obtain rfl : rb = [] := List.eq_nil_of_length_eq_zero (by omega)
                simp only [List.length_nil, Nat.zero_add] at hg ⊢
                go_wp2_with fail
                go_region
                replace p0 : wr.drew.cell? ⟨b1, o1, none⟩ = some (.int .i64 sf) := p0
                replace p1 : wr.drew.cell? ⟨b1, o1 + 1, none⟩ = some (.int .i64 se) := p1
                replace q0 : wr.drew.cell? ⟨b2, o2, none⟩ = some (.int .i64 uf) := q0
                replace q1 : wr.drew.cell? ⟨b2, o2 + 1, none⟩ = some (.int .i64 ue) := q1
                have hbW : Below w.heap.size w wr.drew := hbr.drew
                have hoW := hox.drew
                have hzW : w.heap.size ≤ wr.drew.heap.size := hz
                have htaW : Hid (Lst encS 2 wr.drew w.heap.size (some ⟨b1, o1, none⟩) _) := HLA
                have htbW : Hid (Lst encS 2 wr.drew w.heap.size (some ⟨b2, o2 + 2, none⟩) _) := htb
                generalize wr.drew = W at *
                go_wp2_with fail
                go_roundg (ra.length + 1 + 0)
                case measure => omega
                case rel =>
                  have hW2 : Below w.heap.size W W := Below.refl _ _
                  exact ⟨(sf, se) :: ra, [], _, some ⟨b1, o1, none⟩, _, c1, _, rfl, rfl, rfl, hc1, by first | omega | (simp only [List.length_nil]; omega), hc3, by omega, htaW.out.below hW2, by first | exact htbW.out.below hW2 | exact Lst.nil, hoW, HX.out, hbW.trans hW2⟩
              · go_wp2_with fail
                go_region
                replace p0 : wr.drew.cell? ⟨b1, o1, none⟩ = some (.int .i64 sf) := p0
                replace p1 : wr.drew.cell? ⟨b1, o1 + 1, none⟩ = some (.int .i64 se) := p1
                replace q0 : wr.drew.cell? ⟨b2, o2, none⟩ = some (.int .i64 uf) := q0
                replace q1 : wr.drew.cell? ⟨b2, o2 + 1, none⟩ = some (.int .i64 ue) := q1
                have hbW : Below w.heap.size w wr.drew := hbr.drew
                have hoW := hox.drew
                have hzW : w.heap.size ≤ wr.drew.heap.size := hz
                have htaW : Hid (Lst encS 2 wr.drew w.heap.size (some ⟨b1, o1, none⟩) _) := HLA
                have htbW : Hid (Lst encS 2 wr.drew w.heap.size (some ⟨b2, o2 + 2, none⟩) _) := htb
                generalize wr.drew = W at *
                go_wp2_with fail
                go_roundg (ra.length + 1 + rb.length)
                case measure => omega
                case rel =>
                  have hW2 : Below w.heap.size W W := Below.refl _ _
                  exact ⟨(sf, se) :: ra, rb, _, some ⟨b1, o1, none⟩, _, c1, _, rfl, rfl, rfl, hc1, by first | omega | (simp only [List.length_nil]; omega), hc3, by omega, htaW.out.below hW2, by first | exact htbW.out.below hW2 | exact Lst.nil, hoW, HX.out, hbW.trans hW2⟩
  · have hne : (badI t a b != 0) = true := by simp [h0]
    have HE := Lib.hid (show interI t a b = [] by simp [interI, h0])
    clear h0
    generalize badI t a b = E at *
    go_enter Try.func66, Try.ntmps66
    go_wp2_with (go_at_call 78; refine hch.mono ?_; rintro e w1 ⟨rfl, hb1⟩)
    go_ret2
    exact ⟨_, rfl, by rw [HE.out]; exact Own.nil _ _ _ _ _, hba.trans (hb1.mono (by simp))⟩

end Go.Proofs.Ytbhjnihcmfagjaa
