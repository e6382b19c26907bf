/-
  Contracts of check (one list, two lists), Grow at nil and Concat of two lists.
-/
import Derived.Test.YtabcbkgnhdijpaaMerge
import Derived.Lib.AppendZerosOnto
set_option linter.unusedVariables false
set_option linter.unusedSimpArgs false
namespace Go.Proofs.Ytabcbkgnhdijpaa
open Go.RowKit RP

set_option maxHeartbeats 2000000 in
theorem check2_any (t : Int) (A B : Option Addr) (c d : Nat) (a b : List Sp) (g cc : Nat) (w : World) (g0 : w.cell? ⟨g, 0, none⟩ = some (.slice A a.length c)) (g1 : w.cell? ⟨g, 1, none⟩ = some (.slice B b.length d)) (hg : g < w.heap.size)
    (ha : Lst encS 2 w w.heap.size A a) (hb : Lst encS 2 w w.heap.size B b) (hn : a.length ≤ 9223372036854775807) (hn' : b.length ≤ 9223372036854775807) :
    Calls Try.prog 51 #[.int .i64 t, .slice (some ⟨g, 0, none⟩) 2 cc] w fun e w' => e = .returned (.int .i64 (badI t a b)) ∧ Below w.heap.size w w' := by
  have hcon := fun W => inRange_any t W
  cases hr : inRange t with
  | false =>
    have H := Lib.hid hr
    rw [hr] at hcon
    clear hr
    go_enter Try.func51, Try.ntmps51
    go_wp2_with (go_at_call 42; refine (hcon _).mono ?_; rintro e w' ⟨rfl, rfl⟩)
    go_ret
    exact ⟨ret_int (by simp [badI, H.out]), Below.refl _ _⟩
  | true =>
    have H := Lib.hid hr
    rw [hr] at hcon
    clear hr
    go_enter Try.func51, Try.ntmps51
    go_wp2_with (go_at_call 42; refine (hcon _).mono ?_; rintro e w' ⟨rfl, rfl⟩)
    clear hcon
    go_loopg [12, 6] 2 (fun gk s12 s6 wr => ∃ k : Nat, k ≤ 2 ∧ gk = 2 - k ∧ s12 = .int .i64 k ∧ (1 ≤ k → validL t a = true) ∧ (2 ≤ k → validL t b = true) ∧ Below w.heap.size w wr)
    case atStart => exact ⟨0, by omega, by omega, rfl, by omega, by omega, Below.refl _ _⟩
    case round =>
      obtain ⟨k, hk, hgk, rfl, h1, h2, hbw⟩ := hrel
      have q0 := (hbw.cell (p := ⟨g, 0, none⟩) hg).trans g0
      have q1 := (hbw.cell (p := ⟨g, 1, none⟩) hg).trans g1
      have hz := hbw.size
      have H1 := Lib.hid h1
      have H2 := Lib.hid h2
      clear h1 h2
      obtain rfl | rfl | rfl : k = 0 ∨ k = 1 ∨ k = 2 := by omega
      · have hv := valid_any t A c a wr (ha.belowMore hbw hz) hn
        cases hx : validL t a with
        | true =>
          rw [hx] at hv
          have HX := Lib.hid hx
          clear hx
          go_wp2_with (go_at_call 21; refine hv.mono ?_; rintro e w1 ⟨rfl, hb1⟩)
          go_roundg 1
          case measure => omega
          case rel => exact ⟨1, by omega, by omega, rfl, fun _ => HX.out, by omega, hbw.trans (hb1.mono hz)⟩
        | false =>
          rw [hx] at hv
          have HX := Lib.hid hx
          clear hx
          go_wp2_with (go_at_call 21; refine hv.mono ?_; rintro e w1 ⟨rfl, hb1⟩)
          go_ret
          exact ⟨ret_int (by simp [badI, H.out, HX.out]), hbw.trans (hb1.mono hz)⟩
      · have hv := valid_any t B d b wr (hb.belowMore hbw hz) hn'
        cases hx : validL t b with
        | true =>
          rw [hx] at hv
          have HX := Lib.hid hx
          clear hx
          go_wp2_with (go_at_call 21; refine hv.mono ?_; rintro e w1 ⟨rfl, hb1⟩)
          go_roundg 0
          case measure => omega
          case rel => exact ⟨2, by omega, by omega, rfl, fun _ => H1.out (by omega), fun _ => HX.out, hbw.trans (hb1.mono hz)⟩
        | false =>
          rw [hx] at hv
          have HX := Lib.hid hx
          clear hx
          go_wp2_with (go_at_call 21; refine hv.mono ?_; rintro e w1 ⟨rfl, hb1⟩)
          go_ret
          exact ⟨ret_int (by simp [badI, H.out, HX.out]), hbw.trans (hb1.mono hz)⟩
      · go_wp2
        go_ret
        exact ⟨ret_int (by simp [badI, H.out, H1.out (by omega), H2.out (by omega)]), hbw⟩

set_option maxHeartbeats 2000000 in
theorem check1_any (t : Int) (A : Option Addr) (c : Nat) (a : List Sp) (g cc : Nat) (w : World) (g0 : w.cell? ⟨g, 0, none⟩ = some (.slice A a.length c)) (hg : g < w.heap.size)
    (ha : Lst encS 2 w w.heap.size A a) (hn : a.length ≤ 9223372036854775807) :
    Calls Try.prog 51 #[.int .i64 t, .slice (some ⟨g, 0, none⟩) 1 cc] w fun e w' => e = .returned (.int .i64 (badI t a [])) ∧ Below w.heap.size w w' := by
  have hcon := fun W => inRange_any t W
  cases hr : inRange t with
  | false =>
    have H := Lib.hid hr
    rw [hr] at hcon
    clear hr
    go_enter Try.func51, Try.ntmps51
    go_wp2_with (go_at_call 42; refine (hcon _).mono ?_; rintro e w' ⟨rfl, rfl⟩)
    go_ret
    exact ⟨ret_int (by simp [badI, H.out]), Below.refl _ _⟩
  | true =>
    have H := Lib.hid hr
    rw [hr] at hcon
    clear hr
    go_enter Try.func51, Try.ntmps51
    go_wp2_with (go_at_call 42; refine (hcon _).mono ?_; rintro e w' ⟨rfl, rfl⟩)
    clear hcon
    go_loopg [12, 6] 1 (fun gk s12 s6 wr => ∃ k : Nat, k ≤ 1 ∧ gk = 1 - k ∧ s12 = .int .i64 k ∧ (1 ≤ k → validL t a = true) ∧ Below w.heap.size w wr)
    case atStart => exact ⟨0, by omega, by omega, rfl, by omega, Below.refl _ _⟩
    case round =>
      obtain ⟨k, hk, hgk, rfl, h1, hbw⟩ := hrel
      have q0 := (hbw.cell (p := ⟨g, 0, none⟩) hg).trans g0
      have hz := hbw.size
      have H1 := Lib.hid h1
      clear h1
      obtain rfl | rfl : k = 0 ∨ k = 1 := by omega
      · have hv := valid_any t A c a wr (ha.belowMore hbw hz) hn
        cases hx : validL t a with
        | true =>
          rw [hx] at hv
          have HX := Lib.hid hx
          clear hx
          go_wp2_with (go_at_call 21; refine hv.mono ?_; rintro e w1 ⟨rfl, hb1⟩)
          go_roundg 0
          case measure => omega
          case rel => exact ⟨1, by omega, by omega, rfl, fun _ => HX.out, hbw.trans (hb1.mono hz)⟩
        | false =>
          rw [hx] at hv
          have HX := Lib.hid hx
          clear hx
          go_wp2_with (go_at_call 21; refine hv.mono ?_; rintro e w1 ⟨rfl, hb1⟩)
          go_ret
          exact ⟨ret_int (by simp [badI, H.out, HX.out]), hbw.trans (hb1.mono hz)⟩
      · go_wp2
        go_ret
        have hv0 : validL t [] = true := by simp [validL, validFrom, H.out]
        exact ⟨ret_int (by simp [badI, H.out, H1.out (by omega), hv0]), hbw⟩

/-- append of a slice that lies below, or is nil, onto a row of the call's own. -/
theorem wpList_append_lst {α : Type} {enc : α → List Value} {k : Nat} {P : Program} {ops : Array Oper} {rest : List Oper} {o : Oper} {a : Act} {Q : Exit → Act → World → Prop} {W : World}
    (hgd : o.guard = none) (s x : Operand) (t : TypeId)
    (ho : o.op = .call { callee := .builtin .append, args := #[s, x], argTypes := #[t, t] })
    (base : Nat) (e : TypeId) (bytes : Nat) (ht : P.underlying t = some (.slice e)) (E : ElemOk P enc k e bytes)
    (v : Value) (l : List α) (hs : a.eval s = v) (hown : Own enc k e W base v l)
    (new : List α) (A : Option Addr) (m c B : Nat) (hx : a.eval x = .slice A m c) (hm : m = new.length) (hl : Lst enc k W B A new)
    (h63 : l.length + new.length ≤ maxLen) (hbytes : (l.length + new.length) * bytes ≤ 140737488355328) (hbase : base ≤ W.heap.size)
    (h : ∀ v' w', Own enc k e w' base v' (l ++ new) → W.grownBy w' v.ownBlock → (v'.ownBlock = v.ownBlock ∨ v'.ownBlock = some W.heap.size) → wpList P ops Q rest (a.put o.dst v') w') :
    wpList P ops Q (o :: rest) a W := by
  subst hm
  obtain ⟨i, z, hi, hz, hsz, hby, hzs⟩ := E.info
  refine wpList_plain hgd fun K hK => ?_
  have key : ∃ v' w', (Builtin.append_ #[t, t] o.type #[v, .slice A new.length c]).run P W = .ok v' w' ∧ Own enc k e w' base v' (l ++ new) ∧ W.grownBy w' v.ownBlock ∧ (v'.ownBlock = v.ownBlock ∨ v'.ownBlock = some W.heap.size) := by
    rcases A with _ | ad
    · have hnil : new = [] := by
        cases new with
        | nil => rfl
        | cons x r => obtain ⟨b, off, h0, _⟩ := hl (by simp); cases h0
      subst hnil
      refine ⟨v, W, ?_, by rw [List.append_nil]; exact hown, grownBy_refl _ _, .inl rfl⟩
      rcases hown.2 with ⟨rfl, h0⟩ | ⟨g, cap, cur, rfl, _, _, hnc, _⟩
      · simp [Builtin.append_, run_underlying ht, sizeOf, typeInfo, hi, Builtin.lenOf, Builtin.firstCells]
      · simp [Builtin.append_, run_underlying ht, sizeOf, typeInfo, hi, Builtin.lenOf, Builtin.firstCells, hnc, storeCells]
    · have hcells : ∀ j u, (new.flatMap enc)[j]? = some u → W.cell? (ad.add j) = some u := by
        intro j u hu
        by_cases h0 : new = []
        · subst h0; simp at hu
        · obtain ⟨b, off, hA, _, hc⟩ := hl h0
          injection hA with hA
          subst hA
          have hjl : j < new.length * k := by
            rw [← flatMap_length E.len]; exact (List.getElem?_eq_some_iff.1 hu).1
          have hi' : j / k < new.length := Nat.div_lt_of_lt_mul (by rw [Nat.mul_comm]; exact hjl)
          have hj' : j % k < k := Nat.mod_lt _ E.pos
          have h3 := flatMap_get E.len new (j / k) new[j / k] (by simp [hi']) (j % k) hj'
          rw [Nat.div_add_mod' j k, hu] at h3
          have := hc (j / k) new[j / k] (by simp [hi']) (j % k) u h3.symm
          rw [Nat.add_assoc, Nat.div_add_mod' j k] at this
          have e1 : (⟨b, off, none⟩ : Addr).add j = ⟨b, off + j, none⟩ := by
            unfold Addr.add
            split
            · rename_i h0; have : j = 0 := by simpa using h0
              rw [this, Nat.add_zero]
            · simp
          rw [e1]; exact this
      obtain ⟨v', w', hrun, h2, h3, _, h5⟩ := run_append_own_at (P := P) W base t o.type e i z k bytes ht hi hz hsz hby hzs E.pos v l.length (l.flatMap enc) hown
        ad new.length c (new.flatMap enc) (flatMap_length E.len new) hcells (fun u hu => by
          obtain ⟨x, _, hx⟩ := List.mem_flatMap.1 hu
          exact E.one x u hx) h63 hbytes hbase
      exact ⟨v', w', hrun, by
        show w'.ownsRow base e k v' (l ++ new).length ((l ++ new).flatMap enc)
        rw [List.length_append, List.flatMap_append]; exact h2, h3, h5⟩
  obtain ⟨v', w', hrun, h2, h3, h5⟩ := key
  have hK' := hK (a.put o.dst v') w' (h v' w' h2 h3 h5)
  unfold Oper.wp execOp
  simp only [ho, resolve, invoke, builtin, Sem.run_bind, Sem.run_pure, Result.andThen_ok, List.map_toArray, List.map_cons, List.map_nil, hs, hx, hrun]
  exact hK'

theorem size_zeros (z : Array Value) (n : Nat) : (Builtin.zeroCells z n).size = n * z.size := by simp [Builtin.zeroCells]

set_option maxHeartbeats 2000000 in
set_option maxRecDepth 100000 in
/-- slices.Grow at nil. -/
theorem growNil_any (n : Nat) (w : World) (hn : n ≤ 4294967296) :
    Calls Try.prog 60 #[.slice none 0 0, .int .i64 n] w fun e w' => ∃ v, e = .returned v ∧ OwnS w' w.heap.size v [] ∧ Below w.heap.size w w' := by
  by_cases h0 : n = 0
  · subst h0
    go_enter Try.func60, Try.ntmps60
    go_wp2
    go_ret
    exact ⟨_, rfl, Own.nil _ _ _ _ _, Below.refl _ _⟩
  · obtain ⟨i0, hi0, hz0, hs0, hby⟩ := info_parts infoSpan
    have hold : (Builtin.firstCells i0.size 0 (.slice none 0 0)).run Try.prog w.drew = .ok #[] w.drew := by simp [Builtin.firstCells]
    have hG1 : n ≤ grownCap w n 0 31 := grownCap_ge w _ _ _
    have hG2 := grownCap_le_maxLen w n 0 31 (by simp only [maxLen]; omega)
    have hrz : ∀ ty, (Builtin.append_ #[22, 3] ty #[.slice none 0 0, .int .i64 (n : Int)]).run Try.prog w =
        .ok (.slice (some ⟨w.heap.size, 0, none⟩) n (grownCap w n 0 31)) (w.drew.alloc (.cells (#[] ++ Builtin.zeroCells (Value.agg #[.int .i64 0, .int .i64 0]).cells n ++ Builtin.zeroCells (Value.agg #[.int .i64 0, .int .i64 0]).cells (grownCap w n 0 31 - n)) 31)) := fun ty => by
      have h := Lib.run_append_grow_zeros w 22 3 ty 31 i0 _ .i64 .i64 Try.underlying22 Try.underlying3 hi0 hz0 none 0 0 [] hold n (by omega) (by omega) (by omega) (by omega)
        (by rw [hby]; omega) (by rw [Nat.zero_add, hby]; exact growslice_fits (by omega) (by omega))
      rw [Nat.zero_add] at h
      exact h
    have hown : OwnS (w.drew.alloc (.cells (#[] ++ Builtin.zeroCells (Value.agg #[.int .i64 0, .int .i64 0]).cells n ++ Builtin.zeroCells (Value.agg #[.int .i64 0, .int .i64 0]).cells (grownCap w n 0 31 - n)) 31)) w.heap.size (.slice (some ⟨w.heap.size, 0, none⟩) 0 (grownCap w n 0 31)) [] := by
      refine ⟨by simp, .inr ⟨w.heap.size, _, _, rfl, Nat.le_refl _, heap_alloc_new w.drew _, Nat.zero_le _, hG2, ?_, by simp⟩⟩
      rw [Array.size_append, Array.size_append, size_zeros, size_zeros]
      simp [Value.cells]
      omega
    have hbel : Below w.heap.size w (w.drew.alloc (.cells (#[] ++ Builtin.zeroCells (Value.agg #[.int .i64 0, .int .i64 0]).cells n ++ Builtin.zeroCells (Value.agg #[.int .i64 0, .int .i64 0]).cells (grownCap w n 0 31 - n)) 31)) := (Below.refl _ _).drew.alloc (Nat.le_refl _) _
    generalize w.drew.alloc (.cells (#[] ++ Builtin.zeroCells (Value.agg #[.int .i64 0, .int .i64 0]).cells n ++ Builtin.zeroCells (Value.agg #[.int .i64 0, .int .i64 0]).cells (grownCap w n 0 31 - n)) 31) = W at *
    generalize grownCap w n 0 31 = G at *
    have hG3 : G ≤ 9223372036854775807 := by simp only [maxLen] at hG2; omega
    have hpos : (0 : Int) < (n : Int) := by omega
    clear hold hG2
    go_enter Try.func60, Try.ntmps60
    go_wp2_with (at_builtin; refine Lib.wpList_append_run _ rfl _ _ _ _ rfl _ _ rfl rfl _ _ (hrz _) ?_)
    go_ret
    exact ⟨_, rfl, hown, hbel⟩

end Go.Proofs.Ytabcbkgnhdijpaa
