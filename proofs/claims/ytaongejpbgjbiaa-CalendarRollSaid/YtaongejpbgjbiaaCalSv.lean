/-
  Contract of keep2.Services.
-/
import Derived.Test.YtaongejpbgjbiaaCalK
import Derived.Test.YtaongejpbgjbiaaSource
set_option linter.unusedVariables false
set_option linter.unusedSimpArgs false
namespace RP
/-- What Services lays for the lines below k. -/
structure MadeV (days : Nat) (k : Nat) (o : List Svc) (y : List Exc) : Prop where
  olen : o.length ≤ k
  ylen : y.length ≤ k
  svc : ∀ a ∈ o, 0 ≤ a.line ∧ a.line < k ∧ 0 ≤ a.days ∧ a.days < 2 ^ days ∧ 0 ≤ a.fst ∧ a.fst < 600 ∧ a.fst ≤ a.lst ∧ a.lst < a.fst + 900
  inc : o.Pairwise fun a b => a.line < b.line
  exc : ∀ e ∈ y, 0 ≤ e.line ∧ e.line < k ∧ 0 ≤ e.day ∧ e.day < days ∧ ∃ a ∈ o, a.line = e.line
  incx : y.Pairwise fun a b => a.line < b.line
theorem MadeV.nil (days : Nat) : MadeV days 0 [] [] := ⟨by simp, by simp, by simp, .nil, by simp, .nil⟩
theorem MadeV.skip {days k : Nat} {o : List Svc} {y : List Exc} (h : MadeV days k o y) : MadeV days (k + 1) o y :=
  ⟨by have := h.olen; omega, by have := h.ylen; omega, fun a ha => by have := h.svc a ha; omega, h.inc, fun e he => by
    obtain ⟨a1, a2, a3, a4, a5⟩ := h.exc e he
    exact ⟨a1, by omega, a3, a4, a5⟩, h.incx⟩
theorem MadeV.one {days k : Nat} {o : List Svc} {y : List Exc} (h : MadeV days k o y) {d f l : Int} (d0 : 0 ≤ d) (d1 : d < 2 ^ days) (f0 : 0 ≤ f) (f1 : f < 600) (l0 : f ≤ l) (l1 : l < f + 900) : MadeV days (k + 1) (o ++ [⟨k, d, f, l⟩]) y :=
  ⟨by have := h.olen; simp; omega, by have := h.ylen; omega, fun a ha => by
    rcases List.mem_append.1 ha with ha | ha
    · have := h.svc a ha; omega
    · rw [List.mem_singleton] at ha; subst ha; simp only; omega, by
    rw [List.pairwise_append]
    exact ⟨h.inc, List.pairwise_singleton _ _, fun a ha b hb => by rw [List.mem_singleton] at hb; subst hb; exact (h.svc a ha).2.1⟩, fun e he => by
    obtain ⟨a1, a2, a3, a4, a, ha, e5⟩ := h.exc e he
    exact ⟨a1, by omega, a3, a4, a, List.mem_append_left _ ha, e5⟩, h.incx⟩
theorem MadeV.two {days k : Nat} {o : List Svc} {y : List Exc} (h : MadeV days k o y) {d f l : Int} (d0 : 0 ≤ d) (d1 : d < 2 ^ days) (f0 : 0 ≤ f) (f1 : f < 600) (l0 : f ≤ l) (l1 : l < f + 900) {x : Int} {r : Bool} (x0 : 0 ≤ x) (x1 : x < days) : MadeV days (k + 1) (o ++ [⟨k, d, f, l⟩]) (y ++ [⟨k, x, r⟩]) := by
  have h1 := h.one d0 d1 f0 f1 l0 l1
  refine ⟨h1.olen, by have := h.ylen; simp; omega, h1.svc, h1.inc, fun e he => ?_, ?_⟩
  · rcases List.mem_append.1 he with he | he
    · exact h1.exc e he
    · rw [List.mem_singleton] at he; subst he
      exact ⟨by simp only; omega, by simp only; omega, x0, x1, _, List.mem_append_right _ (List.mem_singleton.2 rfl), rfl⟩
  · rw [List.pairwise_append]
    exact ⟨h.incx, List.pairwise_singleton _ _, fun a ha b hb => by rw [List.mem_singleton] at hb; subst hb; exact (h.exc a ha).2.1⟩
end RP
namespace Go.Proofs.Ytaongejpbgjbiaa
open Go.RowKit RP

theorem infoSvc : (Try.prog.info? 34).map (fun i => (i.zero, i.size, i.bytes)) = some (some (.agg #[.int .i64 0, .int .i64 0, .int .i64 0, .int .i64 0]), 4, 32) := by kernel_rfl
theorem elemV : ElemOk Try.prog encV 4 34 32 :=
  ⟨fun _ => rfl, by omega, encV_one, by
    obtain ⟨i, hi, h0, h1, h2⟩ := info_parts infoSvc
    exact ⟨i, _, hi, h0, h1, h2, rfl⟩⟩
theorem infoExc : (Try.prog.info? 36).map (fun i => (i.zero, i.size, i.bytes)) = some (some (.agg #[.int .i64 0, .int .i64 0, .bool false]), 3, 24) := by kernel_rfl
theorem elemX : ElemOk Try.prog encX 3 36 24 :=
  ⟨fun _ => rfl, by omega, encX_one, by
    obtain ⟨i, hi, h0, h1, h2⟩ := info_parts infoExc
    exact ⟨i, _, hi, h0, h1, h2, rfl⟩⟩

/-- The state of the loop of Services. -/
structure SvSt (gs : Nat) (w : World) (A : Option Addr) (c : Nat) (l : List Int) (days k : Nat) (s9 s10 : Value) (wr : World) (o : List Svc) (y : List Exc) (j : Nat) : Prop where
  own : Own encV 4 34 wr gs s9 o
  lt : ∀ q, s9.ownBlock = some q → gs < q
  ownx : Own encX 3 36 wr gs s10 y
  ltx : ∀ q, s10.ownBlock = some q → gs < q
  ne : ∀ q, s9.ownBlock = some q → s10.ownBlock ≠ some q
  src : Src wr gs A c l j
  bel : Below gs w wr
theorem SvSt.next {gs : Nat} {w : World} {A : Option Addr} {c : Nat} {l : List Int} {days k : Nat} {s9 s10 : Value} {wr w3 : World} {o : List Svc} {y : List Exc} {j j3 : Nat} (h : SvSt gs w A c l days k s9 s10 wr o y j) (hs : Src w3 gs A c l j3) (hg : wr.grownBy w3 (some gs)) : SvSt gs w A c l days k s9 s10 w3 o y j3 :=
  ⟨h.own.kept hg (.inr fun e => by have := h.lt _ e; omega), h.lt, h.ownx.kept hg (.inr fun e => by have := h.ltx _ e; omega), h.ltx, h.ne, hs, h.bel.grown hg (by have := h.src.lt; omega) (fun q hq => by injection hq with hq; omega)⟩
theorem SvSt.put {gs : Nat} {w : World} {A : Option Addr} {c : Nat} {l : List Int} {days k : Nat} {s9 s10 v1 : Value} {wr w6 : World} {o : List Svc} {a : List Svc} {y : List Exc} {j : Nat} (h : SvSt gs w A c l days k s9 s10 wr o y j) (ho : Own encV 4 34 w6 gs v1 (o ++ a)) (hg : wr.grownBy w6 s9.ownBlock) (hat : v1.ownBlock = s9.ownBlock ∨ v1.ownBlock = some (wr.heap.size + 1)) : SvSt gs w A c l days k v1 s10 w6 (o ++ a) y j := by
  have hl := h.src.lt
  have hlt : ∀ q, v1.ownBlock = some q → gs < q := fun q hq => by
    rcases hat with e | e
    · rw [e] at hq; exact h.lt _ hq
    · rw [e] at hq; injection hq with hq; omega
  refine ⟨ho, hlt, h.ownx.kept hg ?_, h.ltx, fun q hq => ?_, h.src.grown hg (fun q hq => h.lt q hq), h.bel.grown hg (by omega) (fun q hq => by have := h.lt _ hq; omega)⟩
  · cases e : s9.ownBlock with
    | none =>
      cases e2 : s10.ownBlock with
      | none => exact .inl rfl
      | some q => exact .inr (by simp)
    | some q => exact .inr (h.ne q e)
  · rcases hat with e | e
    · rw [e] at hq; exact h.ne q hq
    · rw [e] at hq; injection hq with hq
      intro e2
      have := (World.ownsRow.lt h.ownx q e2).2
      omega
theorem SvSt.putx {gs : Nat} {w : World} {A : Option Addr} {c : Nat} {l : List Int} {days k : Nat} {s9 s10 v1 : Value} {wr w6 : World} {o : List Svc} {a : List Exc} {y : List Exc} {j : Nat} (h : SvSt gs w A c l days k s9 s10 wr o y j) (ho : Own encX 3 36 w6 gs v1 (y ++ a)) (hg : wr.grownBy w6 s10.ownBlock) (hat : v1.ownBlock = s10.ownBlock ∨ v1.ownBlock = some (wr.heap.size + 1)) : SvSt gs w A c l days k s9 v1 w6 o (y ++ a) j := by
  have hl := h.src.lt
  have hlt : ∀ q, v1.ownBlock = some q → gs < q := fun q hq => by
    rcases hat with e | e
    · rw [e] at hq; exact h.ltx _ hq
    · rw [e] at hq; injection hq with hq; omega
  refine ⟨h.own.kept hg ?_, h.lt, ho, hlt, fun q hq => ?_, h.src.grown hg (fun q hq => h.ltx q hq), h.bel.grown hg (by omega) (fun q hq => by have := h.ltx _ hq; omega)⟩
  · cases e : s9.ownBlock with
    | none => exact .inl rfl
    | some q => exact .inr (fun e2 => h.ne q e e2.symm)
  · intro e2
    rcases hat with e | e
    · exact h.ne q hq (e ▸ e2)
    · rw [e] at e2; injection e2 with e2
      have := (World.ownsRow.lt h.own q hq).2
      omega

set_option maxRecDepth 100000 in
set_option maxHeartbeats 4000000 in
theorem services_any (L dn : Nat) (A : Option Addr) (c : Nat) (l : List Int) (w : World) (hL : L ≤ 16) (hd0 : 1 ≤ dn) (hd : dn ≤ 31) (h : ArgI w A c l) :
    Calls Try.prog 16 #[.int .i64 L, .int .i64 dn, .slice A l.length c] w fun e w' =>
      ∃ v u o y, e = .returned (.tuple #[v, u]) ∧ Own encV 4 34 w' w.heap.size v o ∧ Own encX 3 36 w' w.heap.size u y ∧ MadeV dn L o y ∧ Below w.heap.size w w' := by
  have hpow : (2 : Int) ^ dn ≤ 2147483648 := by
    have h1 := Nat.pow_le_pow_right (n := 2) (by omega) hd
    have h2 : (2 : Nat) ^ 31 = 2147483648 := rfl
    have h3 : (2 : Int) ^ dn = ((2 ^ dn : Nat) : Int) := by simp
    omega
  have hpow0 : (0 : Int) < 2 ^ dn := Int.pow_pos (by omega)
  have sw : IntKind.i64.wrap ((2 : Int) ^ dn) = 2 ^ dn := IntWalk.i64_in _ (by omega)
  go_enter Try.func16, Try.ntmps16
  go_wp2_with fail
  refine (from_any A c l w h).mono ?_
  rintro e w1 ⟨rfl, hs1, hb1⟩
  have hst0 : SvSt w.heap.size w A c l dn 0 (.slice none 0 0) (.slice none 0 0) w1 [] [] 0 := ⟨Own.nil _ _ _ _ _, by simp [Value.ownBlock], Own.nil _ _ _ _ _, by simp [Value.ownBlock], by simp [Value.ownBlock], hs1, hb1⟩
  clear hb1 hs1
  go_wp2_with fail
  generalize hgs : w.heap.size = gs at *
  have HGS := Lib.hid hgs
  clear hgs
  go_loopg [9, 10, 11, 12] L (fun g s9 s10 s11 s12 wr => ∃ (k j : Nat) (o : List Svc) (y : List Exc), k ≤ L ∧ g = L - k ∧ s11 = .int .i64 k ∧ SvSt gs w A c l dn k s9 s10 wr o y j ∧ MadeV dn k o y)
  case atStart => exact ⟨0, _, [], [], by omega, by omega, rfl, hst0, MadeV.nil _⟩
  case round =>
    obtain ⟨k, j, o, y, hk, hg, rfl, hst, hmv⟩ := hrel
    have HM := Lib.hid hmv
    clear hmv hst0
    by_cases hlt : k < L
    · go_wp2_with fail
      refine (next_any gs A c l j 4 wr hst.src (by omega) (by omega)).mono ?_
      rintro e w3 ⟨r0, j3, r00, r01, rfl, hs3, hg3⟩
      have hst3 := hst.next hs3 hg3
      clear hst hs3 hg3
      by_cases hz : r0 = 0
      · go_wp2_with fail
        go_roundg (L - (k + 1))
        case measure => omega
        case rel => exact ⟨k + 1, j3, o, y, by omega, rfl, by go_num, ⟨hst3.own, hst3.lt, hst3.ownx, hst3.ltx, hst3.ne, hst3.src, hst3.bel⟩, HM.out.skip⟩
      · go_wp2_with fail
        refine (next_any gs A c l j3 600 w3 hst3.src (by omega) (by omega)).mono ?_
        rintro e w4 ⟨r1, j4, r10, r11, rfl, hs4, hg4⟩
        have hst4 := hst3.next hs4 hg4
        clear hst3 hs4 hg4
        go_wp2_with fail
        refine (next_any gs A c l j4 (2 ^ dn) w4 hst4.src (by omega) (by omega)).mono ?_
        rintro e w5 ⟨r2, j5, r20, r21, rfl, hs5, hg5⟩
        have hst5 := hst4.next hs5 hg5
        clear hst4 hs5 hg5
        go_wp2_with fail
        refine (next_any gs A c l j5 900 w5 hst5.src (by omega) (by omega)).mono ?_
        rintro e w6 ⟨r3, j6, r30, r31, rfl, hs6, hg6⟩
        have hst6 := hst5.next hs6 hg6
        clear hst5 hs6 hg6
        have z6 := hst6.src.lt
        have lo := HM.out.olen
        have lx := HM.out.ylen
        have HN := Lib.hid (HM.out.one r20 r21 r10 r11 (show r1 ≤ r1 + r3 by omega) (show r1 + r3 < r1 + 900 by omega))
        have HN2 := Lib.hid (fun (x : Int) (r : Bool) x0 x1 => HM.out.two (x := x) (r := r) r20 r21 r10 r11 (show r1 ≤ r1 + r3 by omega) (show r1 + r3 < r1 + 900 by omega) x0 x1)
        obtain ⟨A5, c5, rfl⟩ := hst6.own.form
        go_wp2_with (at_builtin; refine wpList_append_rec rfl _ _ 22 rfl gs 34 32 Try.underlying22 elemV _ o rfl hst6.own [⟨k, r2, r1, r1 + r3⟩] _ rfl 1 1 rfl rfl (by simp only [maxLen, List.length_cons, List.length_nil]; omega) (by simp only [List.length_cons, List.length_nil]; omega) (by omega) ?_; intro v1 w7 ho7 hg7 hat7)
        have hst7 := hst6.put ho7 hg7 hat7
        clear hst6 ho7 hg7 hat7
        refine (next_any gs A c l j6 3 w7 hst7.src (by omega) (by omega)).mono ?_
        rintro e w8 ⟨r4, j8, r40, r41, rfl, hs8, hg8⟩
        have hst8 := hst7.next hs8 hg8
        clear hst7 hs8 hg8
        by_cases hy : r4 = 0
        · go_wp2_with fail
          refine (next_any gs A c l j8 dn w8 hst8.src (by omega) (by omega)).mono ?_
          rintro e w9 ⟨r5, j9, r50, r51, rfl, hs9, hg9⟩
          have hst9 := hst8.next hs9 hg9
          clear hst8 hs9 hg9
          go_wp2_with fail
          refine (next_any gs A c l j9 2 w9 hst9.src (by omega) (by omega)).mono ?_
          rintro e w10 ⟨r6, j10, r60, r61, rfl, hs10, hg10⟩
          have hst10 := hst9.next hs10 hg10
          clear hst9 hs10 hg10
          have z10 := hst10.src.lt
          obtain ⟨A6, c6, rfl⟩ := hst10.ownx.form
          obtain ⟨q6, hq6⟩ : ∃ q, (r6 == 0) = q := ⟨_, rfl⟩
          go_wp2_with (at_builtin; refine wpList_append_rec rfl _ _ 23 rfl gs 36 24 Try.underlying23 elemX _ y rfl hst10.ownx [⟨k, r5, q6⟩] _ rfl 1 1 rfl rfl (by simp only [maxLen, List.length_cons, List.length_nil]; omega) (by simp only [List.length_cons, List.length_nil]; omega) (by omega) ?_; intro v2 w11 ho11 hg11 hat11)
          have hst11 := hst10.putx ho11 hg11 hat11
          clear hst10 ho11 hg11 hat11
          go_roundg (L - (k + 1))
          case measure => omega
          case rel => exact ⟨k + 1, j10, _, _, by omega, rfl, by go_num, ⟨hst11.own, hst11.lt, hst11.ownx, hst11.ltx, hst11.ne, hst11.src, hst11.bel⟩, HN2.out r5 _ r50 r51⟩
        · go_wp2_with fail
          go_roundg (L - (k + 1))
          case measure => omega
          case rel => exact ⟨k + 1, j8, _, y, by omega, rfl, by go_num, ⟨hst8.own, hst8.lt, hst8.ownx, hst8.ltx, hst8.ne, hst8.src, hst8.bel⟩, HN.out⟩
    · obtain rfl : k = L := by omega
      go_wp2_with fail
      go_ret2
      exact ⟨_, _, o, y, rfl, HGS.out ▸ hst.own, HGS.out ▸ hst.ownx, HM.out, HGS.out ▸ hst.bel⟩

end Go.Proofs.Ytaongejpbgjbiaa
