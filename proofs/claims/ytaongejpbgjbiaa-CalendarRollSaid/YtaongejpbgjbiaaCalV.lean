/-
  Contract of trip.
-/
import Derived.Test.YtaongejpbgjbiaaCalU
import Derived.Test.YtaongejpbgjbiaaOrd
import Derived.Test.YtaongejpbgjbiaaStp
set_option linter.unusedVariables false
set_option linter.unusedSimpArgs false
namespace Go.Proofs.Ytaongejpbgjbiaa
open Go.RowKit RP

def TripPost (w : World) (line day : Int) (dl al : List Int) (e : Ending) (w' : World) : Prop :=
  ∃ dv av, e = .returned (.agg #[.int .i64 line, .int .i64 day, dv, av]) ∧ OwnN w' w.heap.size dv dl ∧ OwnN w' w.heap.size av al ∧ Below w.heap.size w w'

set_option maxRecDepth 100000 in
set_option maxHeartbeats 8000000 in
theorem trip_any (res : Int) (A : Option Addr) (n c : Nat) (dep : List Int) (A' : Option Addr) (c' : Nat) (arr : List Int) (line day sec : Int) (w : World) (hd : Lst encI 1 w w.heap.size A dep) (ha : Lst encI 1 w w.heap.size A' arr) (hn : dep.length = n) (hn' : arr.length = n) (h48 : n ≤ 48)
    (hdb : ∀ x ∈ dep, -100000000 ≤ x ∧ x ≤ 100000000) (hab : ∀ x ∈ arr, -100000000 ≤ x ∧ x ≤ 100000000) (s0 : -100000000 ≤ sec) (s1 : sec ≤ 100000000) :
    Calls Try.prog 40 #[.agg #[.int .i64 res, .slice A n c, .slice A' n c'], .int .i64 line, .int .i64 day, .int .i64 sec] w (TripPost w line day (dep.map (sec + ·)) (arr.map (sec + ·))) := by
  have hB0 := belA w (.cells #[.int .i64 res, .slice A n c, .slice A' n c'] 84)
  have e0 := heap_alloc_new w (.cells #[.int .i64 res, .slice A n c, .slice A' n c'] 84)
  have z0 : (w.alloc (.cells #[.int .i64 res, .slice A n c, .slice A' n c'] 84)).heap.size = w.heap.size + 1 := by simp
  have hB1 := belA (w.alloc (.cells #[.int .i64 res, .slice A n c, .slice A' n c'] 84)) (.cells #[.int .i64 0, .int .i64 0, .slice none 0 0, .slice none 0 0] 51)
  have e1 := heap_alloc_new (w.alloc (.cells #[.int .i64 res, .slice A n c, .slice A' n c'] 84)) (.cells #[.int .i64 0, .int .i64 0, .slice none 0 0, .slice none 0 0] 51)
  have z1 : ((w.alloc (.cells #[.int .i64 res, .slice A n c, .slice A' n c'] 84)).alloc (.cells #[.int .i64 0, .int .i64 0, .slice none 0 0, .slice none 0 0] 51)).heap.size = w.heap.size + 2 := by rw [World.size_alloc, z0]
  have hB2 := belA ((w.alloc (.cells #[.int .i64 res, .slice A n c, .slice A' n c'] 84)).alloc (.cells #[.int .i64 0, .int .i64 0, .slice none 0 0, .slice none 0 0] 51)) (.cells #[.int .i64 line, .int .i64 day, .slice none 0 0, .slice none 0 0] 51)
  have e2 := heap_alloc_new ((w.alloc (.cells #[.int .i64 res, .slice A n c, .slice A' n c'] 84)).alloc (.cells #[.int .i64 0, .int .i64 0, .slice none 0 0, .slice none 0 0] 51)) (.cells #[.int .i64 line, .int .i64 day, .slice none 0 0, .slice none 0 0] 51)
  have z2 : (((w.alloc (.cells #[.int .i64 res, .slice A n c, .slice A' n c'] 84)).alloc (.cells #[.int .i64 0, .int .i64 0, .slice none 0 0, .slice none 0 0] 51)).alloc (.cells #[.int .i64 line, .int .i64 day, .slice none 0 0, .slice none 0 0] 51)).heap.size = w.heap.size + 3 := by rw [World.size_alloc, z1]
  have hTS : TS w (((w.alloc (.cells #[.int .i64 res, .slice A n c, .slice A' n c'] 84)).alloc (.cells #[.int .i64 0, .int .i64 0, .slice none 0 0, .slice none 0 0] 51)).alloc (.cells #[.int .i64 line, .int .i64 day, .slice none 0 0, .slice none 0 0] 51)) w.heap.size res (.slice A n c) (.slice A' n c') line day (.slice none 0 0) (.slice none 0 0) [] [] :=
    ⟨(hB2.block _ (by omega)).trans ((hB1.block _ (by omega)).trans e0), by rw [z0] at e1; exact (hB2.block _ (by omega)).trans e1, by rw [z1] at e2; exact e2, Own.nil _ _ _ _ _, Own.nil _ _ _ _ _, (fun _ h => by cases h), hB0.trans ((hB1.trans (hB2.mono (by omega))).mono (by omega)), by omega⟩
  have c1 := hTS.cells.1.1
  have HN := Lib.hid hn
  have HNN := Lib.hid hn'
  clear hn hn'
  have HTS := Lib.hid hTS
  clear hB0 hB1 hB2 e0 e1 e2 z0 z1 z2 hTS
  go_enter Try.func40, Try.ntmps40
  go_wp2_with fail
  generalize ((w.alloc (.cells #[.int .i64 res, .slice A n c, .slice A' n c'] 84)).alloc (.cells #[.int .i64 0, .int .i64 0, .slice none 0 0, .slice none 0 0] 51)).alloc (.cells #[.int .i64 line, .int .i64 day, .slice none 0 0, .slice none 0 0] 51) = w0 at *
  clear c1
  go_loopg [10, 17] n (fun g s10 s17 wr => ∃ (k : Nat) (dv av : Value), k ≤ n ∧ g = n - k ∧ s17 = .int .i64 k ∧ TS w wr w.heap.size res (.slice A n c) (.slice A' n c') line day dv av ((dep.take k).map (sec + ·)) ((arr.take k).map (sec + ·)))
  case atStart => exact ⟨0, _, _, by omega, by omega, rfl, HTS.out⟩
  case round =>
    obtain ⟨k, dv, av, hk, hg, rfl, hT⟩ := hrel
    by_cases hlt : k < n
    · go_upto_region 5 with fail
      go_cut [10] (fun s10 wx => ∃ dv av, s10 = .int .i64 k ∧ TS w wx w.heap.size res (.slice A n c) (.slice A' n c') line day dv av ((dep.take (k + 1)).map (sec + ·)) ((arr.take k).map (sec + ·)))
      case first =>
        obtain ⟨⟨p1, p2⟩, t0, t1, t2, t3, tf⟩ := hT.cells
        have tf2 := tf 2
        obtain ⟨b, off, rfl, hbb, x0⟩ := (hd.below hT.bel).it k (by have := HN.out; have := HNN.out; omega)
        have hx := hdb (dep[k]'(by have := HN.out; have := HNN.out; omega)) (List.getElem_mem _)
        have hx0 := hx.1
        have hx1 := hx.2
        have HSN := Lib.hid (show (dep.take k).map (sec + ·) ++ [sec + dep[k]'(by have := HN.out; have := HNN.out; omega)] = (dep.take (k + 1)).map (sec + ·) by rw [List.take_succ_eq_append_getElem (by have := HN.out; have := HNN.out; omega), List.map_append]; rfl)
        have hll : ((dep.take k).map (sec + ·)).length ≤ 48 := by rw [List.length_map, List.length_take]; omega
        generalize hdk : dep[k]'(by have := HN.out; have := HNN.out; omega) = x at *
        have sw : IntKind.i64.wrap (sec + x) = sec + x := IntWalk.i64_in _ (by omega)
        have i0 : (0 : Int) ≤ (k : Int) := by omega
        have i1 : (k : Int) < (n : Int) := by omega
        obtain ⟨DA, dc, rfl⟩ := hT.dep.form
        generalize hLL : ((dep.take k).map (sec + ·)).length = LL at *
        have HLL := Lib.hid hLL
        have hsz := hT.lt
        have HT := Lib.hid hT
        clear hx hdk hT tf hLL
        refine wp_region_until (S := fun w' => w'.cell? ⟨w.heap.size, 1, none⟩ = some (.slice (some ⟨b, off, none⟩) n c) ∧ w'.cell? ⟨w.heap.size + 1 + 1, 2, none⟩ = some (.slice DA LL dc) ∧ w'.cell? ⟨b, off + k, none⟩ = some (.int .i64 x)) 12 (by kernel_rfl) ?_
        have h0 : wr.drew.cell? ⟨w.heap.size, 1, none⟩ = some (.slice (some ⟨b, off, none⟩) n c) ∧ wr.drew.cell? ⟨w.heap.size + 1 + 1, 2, none⟩ = some (.slice DA LL dc) ∧ wr.drew.cell? ⟨b, off + k, none⟩ = some (.int .i64 x) := ⟨p1, t2, x0⟩
        refine until_take (i := 0) (v := ?_) rfl (by kernel_rfl) (by kernel_rfl) (by kernel_rfl) (by kernel_rfl) (fun _ _ _ h => h) (Or.inl ⟨by rfl, ?_⟩) h0 ?_
        rotate_left
        · intro u hSu
          (try dsimp only at hSu)
          obtain ⟨hS1, hS2, hS3⟩ := hSu
          go_simp
          try rfl
        simp only [Act.put, List.setIfInBounds_toArray, List.set_cons_zero, List.set_cons_succ]
        refine until_take (i := 1) (v := ?_) rfl (by kernel_rfl) (by kernel_rfl) (by kernel_rfl) (by kernel_rfl) (fun _ _ _ h => h) (Or.inl ⟨by rfl, ?_⟩) h0 ?_
        rotate_left
        · intro u hSu
          (try dsimp only at hSu)
          obtain ⟨hS1, hS2, hS3⟩ := hSu
          go_simp
          try rfl
        simp only [Act.put, List.setIfInBounds_toArray, List.set_cons_zero, List.set_cons_succ]
        refine until_take (i := 2) (v := ?_) rfl (by kernel_rfl) (by kernel_rfl) (by kernel_rfl) (by kernel_rfl) (fun _ _ _ h => h) (Or.inl ⟨by rfl, ?_⟩) h0 ?_
        rotate_left
        · intro u hSu
          (try dsimp only at hSu)
          obtain ⟨hS1, hS2, hS3⟩ := hSu
          go_simp
          try rfl
        simp only [Act.put, List.setIfInBounds_toArray, List.set_cons_zero, List.set_cons_succ]
        refine until_take (i := 3) (v := ?_) rfl (by kernel_rfl) (by kernel_rfl) (by kernel_rfl) (by kernel_rfl) (fun _ _ _ h => h) (Or.inl ⟨by rfl, ?_⟩) h0 ?_
        rotate_left
        · intro u hSu
          (try dsimp only at hSu)
          obtain ⟨hS1, hS2, hS3⟩ := hSu
          go_simp
          try rfl
        simp only [Act.put, List.setIfInBounds_toArray, List.set_cons_zero, List.set_cons_succ]
        refine until_take (i := 4) (v := ?_) rfl (by kernel_rfl) (by kernel_rfl) (by kernel_rfl) (by kernel_rfl) (fun _ _ _ h => h) (Or.inl ⟨by rfl, ?_⟩) h0 ?_
        rotate_left
        · intro u hSu
          (try dsimp only at hSu)
          obtain ⟨hS1, hS2, hS3⟩ := hSu
          go_simp
          try rfl
        simp only [Act.put, List.setIfInBounds_toArray, List.set_cons_zero, List.set_cons_succ]
        refine until_take (i := 5) (v := ?_) rfl (by kernel_rfl) (by kernel_rfl) (by kernel_rfl) (by kernel_rfl) (fun _ _ _ h => h) (Or.inl ⟨by rfl, ?_⟩) h0 ?_
        rotate_left
        · intro u hSu
          (try dsimp only at hSu)
          obtain ⟨hS1, hS2, hS3⟩ := hSu
          go_simp
          try rfl
        simp only [Act.put, List.setIfInBounds_toArray, List.set_cons_zero, List.set_cons_succ]
        refine until_take (i := 6) (v := ?_) rfl (by kernel_rfl) (by kernel_rfl) (by kernel_rfl) (by kernel_rfl) (fun _ _ _ h => h) (Or.inl ⟨by rfl, ?_⟩) h0 ?_
        rotate_left
        · intro u hSu
          (try dsimp only at hSu)
          obtain ⟨hS1, hS2, hS3⟩ := hSu
          go_simp
          try rfl
        simp only [Act.put, List.setIfInBounds_toArray, List.set_cons_zero, List.set_cons_succ]
        refine until_take (i := 7) (v := ?_) rfl (by kernel_rfl) (by kernel_rfl) (by kernel_rfl) (by kernel_rfl) (fun _ _ _ h => h) (Or.inl ⟨by rfl, ?_⟩) h0 ?_
        rotate_left
        · intro u hSu
          (try dsimp only at hSu)
          obtain ⟨hS1, hS2, hS3⟩ := hSu
          go_simp
          try rfl
        simp only [Act.put, List.setIfInBounds_toArray, List.set_cons_zero, List.set_cons_succ]
        refine until_take (i := 8) (v := ?_) rfl (by kernel_rfl) (by kernel_rfl) (by kernel_rfl) (by kernel_rfl) (fun _ _ _ h => h) (Or.inl ⟨by rfl, ?_⟩) h0 ?_
        rotate_left
        · intro u hSu
          (try dsimp only at hSu)
          obtain ⟨hS1, hS2, hS3⟩ := hSu
          go_simp
          try rfl
        simp only [Act.put, List.setIfInBounds_toArray, List.set_cons_zero, List.set_cons_succ]
        clear sw
        refine until_one (i := 9) rfl (by kernel_rfl) (fun K hK => ?_)
        go_simp
        have bX := belA wr.drew (.cells #[.int .i64 (sec + x)] 3)
        have h1 : (wr.drew.alloc (.cells #[.int .i64 (sec + x)] 3)).cell? ⟨w.heap.size, 1, none⟩ = some (.slice (some ⟨b, off, none⟩) n c) ∧ (wr.drew.alloc (.cells #[.int .i64 (sec + x)] 3)).cell? ⟨w.heap.size + 1 + 1, 2, none⟩ = some (.slice DA LL dc) ∧ (wr.drew.alloc (.cells #[.int .i64 (sec + x)] 3)).cell? ⟨b, off + k, none⟩ = some (.int .i64 x) :=
          ⟨(bX.cell (cell_lt h0.1)).trans h0.1, (bX.cell (cell_lt h0.2.1)).trans h0.2.1, (bX.cell (cell_lt h0.2.2)).trans h0.2.2⟩
        refine hK.out _ _ (fun _ => h1) ?_
        clear hK K
        replace h0 := h1
        try simp only [Act.put, List.setIfInBounds_toArray, List.set_cons_zero, List.set_cons_succ]
        refine until_one (i := 10) rfl (by kernel_rfl) (fun K hK => ?_)
        have HT2 := HT.out.below ((Below.refl _ wr).drew.trans (bX.mono (Nat.le_refl _)))
        refine step_append_blk (by rfl) _ _ 29 (by rfl) (w.heap.size + 1 + 1 + 1) 3 8 Try.underlying29 elemN (.slice DA LL dc) ((dep.take k).map (sec + ·)) (by rfl) HT2.dep [sec + x] wr.heap.size 1 1 (by rfl) (by rfl) 3 (heap_alloc_new wr.drew _) (by rw [HLL.out]; simp only [Go.maxLen, List.length_cons, List.length_nil]; omega) (by rw [HLL.out]; simp only [List.length_cons, List.length_nil]; omega) HT2.lt ?_
        intro v8 w8 ho8 hg8 hat8
        rw [HSN.out] at ho8
        obtain ⟨A8, c8, rfl⟩ := ho8.form
        obtain ⟨k1, k2, k3, k4, k5⟩ := HT2.kept hg8 (fun q e => (World.ownsRow.lt HT2.dep q e).1)
        have y2 : w8.cell? ⟨w.heap.size + 1 + 1, 2, none⟩ = some (.slice DA LL dc) := by rw [cell_of_row w8 _ 2 _ _ _ k3]; rfl
        have yf : w8.frozen? ⟨w.heap.size + 1 + 1, 2, none⟩ = false := by simp [World.frozen?, k3]
        have y1 : w8.cell? ⟨w.heap.size, 1, none⟩ = some (.slice (some ⟨b, off, none⟩) n c) := by rw [cell_of_row w8 _ 1 _ _ _ k1]; rfl
        have bw := below_of_grownBy hg8 (B := w.heap.size) (Nat.le_of_lt (Nat.lt_of_le_of_lt (by omega) HT2.lt)) (fun q e => by have := (World.ownsRow.lt HT2.dep q e).1; omega)
        have h2 := And.intro y1 (And.intro y2 ((bw.cell (p := ⟨b, off + k, none⟩) hbb).trans h1.2.2))
        have HT3 := Lib.hid (HT2.depPut hg8 ho8 (hat8.imp id fun e => ⟨_, e, Nat.le_refl _⟩))
        generalize ((dep.take (k + 1)).map (sec + ·)).length = LM at *
        refine hK.out _ _ (fun _ => h2) ?_
        clear hK K
        replace h0 := h2
        try simp only [Act.put, List.setIfInBounds_toArray, List.set_cons_zero, List.set_cons_succ]
        clear h1 bX HT2 ho8 hg8 hat8 k1 k2 k3 k4 k5 bw y1 HT
        refine until_take (i := 11) (v := ?_) rfl (by kernel_rfl) (by kernel_rfl) (by kernel_rfl) (by kernel_rfl) (fun _ _ _ h => h) (Or.inl ⟨by rfl, ?_⟩) h0 ?_
        rotate_left
        · intro u hSu
          (try dsimp only at hSu)
          obtain ⟨hS1, hS2, hS3⟩ := hSu
          go_simp
          try rfl
        simp only [Act.put, List.setIfInBounds_toArray, List.set_cons_zero, List.set_cons_succ]
        refine until_one (i := 12) rfl (by kernel_rfl) (fun K hK => ?_)
        go_simp
        refine hK.out _ _ (fun q => absurd rfl q) ?_
        clear hK K h0 y2 yf
        refine until_done (by kernel_rfl) ?_ _
        go_wp2_with fail
        go_meet
        exact ⟨_, _, rfl, HT3.out⟩
      case rest =>
        obtain ⟨dv2, av2, rfl, hT2⟩ := hcut
        clear hT
        have hT := hT2
        clear hT2
        obtain ⟨wr, rfl⟩ : ∃ W : World, W = wc := ⟨_, rfl⟩
        go_upto_region 6 with fail
        obtain ⟨⟨p1, p2⟩, t0, t1, t2, t3, tf⟩ := hT.cells
        have tf2 := tf 3
        obtain ⟨b, off, rfl, hbb, x0⟩ := (ha.below hT.bel).it k (by have := HN.out; have := HNN.out; omega)
        have hx := hab (arr[k]'(by have := HN.out; have := HNN.out; omega)) (List.getElem_mem _)
        have hx0 := hx.1
        have hx1 := hx.2
        have HSN := Lib.hid (show (arr.take k).map (sec + ·) ++ [sec + arr[k]'(by have := HN.out; have := HNN.out; omega)] = (arr.take (k + 1)).map (sec + ·) by rw [List.take_succ_eq_append_getElem (by have := HN.out; have := HNN.out; omega), List.map_append]; rfl)
        have hll : ((arr.take k).map (sec + ·)).length ≤ 48 := by rw [List.length_map, List.length_take]; omega
        generalize hdk : arr[k]'(by have := HN.out; have := HNN.out; omega) = x at *
        have sw : IntKind.i64.wrap (sec + x) = sec + x := IntWalk.i64_in _ (by omega)
        have i0 : (0 : Int) ≤ (k : Int) := by omega
        have i1 : (k : Int) < (n : Int) := by omega
        obtain ⟨DA, dc, rfl⟩ := hT.arr.form
        generalize hLL : ((arr.take k).map (sec + ·)).length = LL at *
        have HLL := Lib.hid hLL
        have hsz := hT.lt
        have HT := Lib.hid hT
        clear hx hdk hT tf hLL
        refine wp_region_until (S := fun w' => w'.cell? ⟨w.heap.size, 2, none⟩ = some (.slice (some ⟨b, off, none⟩) n c') ∧ w'.cell? ⟨w.heap.size + 1 + 1, 3, none⟩ = some (.slice DA LL dc) ∧ w'.cell? ⟨b, off + k, none⟩ = some (.int .i64 x)) 12 (by kernel_rfl) ?_
        have h0 : wr.drew.cell? ⟨w.heap.size, 2, none⟩ = some (.slice (some ⟨b, off, none⟩) n c') ∧ wr.drew.cell? ⟨w.heap.size + 1 + 1, 3, none⟩ = some (.slice DA LL dc) ∧ wr.drew.cell? ⟨b, off + k, none⟩ = some (.int .i64 x) := ⟨p2, t3, x0⟩
        refine until_take (i := 0) (v := ?_) rfl (by kernel_rfl) (by kernel_rfl) (by kernel_rfl) (by kernel_rfl) (fun _ _ _ h => h) (Or.inl ⟨by rfl, ?_⟩) h0 ?_
        rotate_left
        · intro u hSu
          (try dsimp only at hSu)
          obtain ⟨hS1, hS2, hS3⟩ := hSu
          go_simp
          try rfl
        simp only [Act.put, List.setIfInBounds_toArray, List.set_cons_zero, List.set_cons_succ]
        refine until_take (i := 1) (v := ?_) rfl (by kernel_rfl) (by kernel_rfl) (by kernel_rfl) (by kernel_rfl) (fun _ _ _ h => h) (Or.inl ⟨by rfl, ?_⟩) h0 ?_
        rotate_left
        · intro u hSu
          (try dsimp only at hSu)
          obtain ⟨hS1, hS2, hS3⟩ := hSu
          go_simp
          try rfl
        simp only [Act.put, List.setIfInBounds_toArray, List.set_cons_zero, List.set_cons_succ]
        refine until_take (i := 2) (v := ?_) rfl (by kernel_rfl) (by kernel_rfl) (by kernel_rfl) (by kernel_rfl) (fun _ _ _ h => h) (Or.inl ⟨by rfl, ?_⟩) h0 ?_
        rotate_left
        · intro u hSu
          (try dsimp only at hSu)
          obtain ⟨hS1, hS2, hS3⟩ := hSu
          go_simp
          try rfl
        simp only [Act.put, List.setIfInBounds_toArray, List.set_cons_zero, List.set_cons_succ]
        refine until_take (i := 3) (v := ?_) rfl (by kernel_rfl) (by kernel_rfl) (by kernel_rfl) (by kernel_rfl) (fun _ _ _ h => h) (Or.inl ⟨by rfl, ?_⟩) h0 ?_
        rotate_left
        · intro u hSu
          (try dsimp only at hSu)
          obtain ⟨hS1, hS2, hS3⟩ := hSu
          go_simp
          try rfl
        simp only [Act.put, List.setIfInBounds_toArray, List.set_cons_zero, List.set_cons_succ]
        refine until_take (i := 4) (v := ?_) rfl (by kernel_rfl) (by kernel_rfl) (by kernel_rfl) (by kernel_rfl) (fun _ _ _ h => h) (Or.inl ⟨by rfl, ?_⟩) h0 ?_
        rotate_left
        · intro u hSu
          (try dsimp only at hSu)
          obtain ⟨hS1, hS2, hS3⟩ := hSu
          go_simp
          try rfl
        simp only [Act.put, List.setIfInBounds_toArray, List.set_cons_zero, List.set_cons_succ]
        refine until_take (i := 5) (v := ?_) rfl (by kernel_rfl) (by kernel_rfl) (by kernel_rfl) (by kernel_rfl) (fun _ _ _ h => h) (Or.inl ⟨by rfl, ?_⟩) h0 ?_
        rotate_left
        · intro u hSu
          (try dsimp only at hSu)
          obtain ⟨hS1, hS2, hS3⟩ := hSu
          go_simp
          try rfl
        simp only [Act.put, List.setIfInBounds_toArray, List.set_cons_zero, List.set_cons_succ]
        refine until_take (i := 6) (v := ?_) rfl (by kernel_rfl) (by kernel_rfl) (by kernel_rfl) (by kernel_rfl) (fun _ _ _ h => h) (Or.inl ⟨by rfl, ?_⟩) h0 ?_
        rotate_left
        · intro u hSu
          (try dsimp only at hSu)
          obtain ⟨hS1, hS2, hS3⟩ := hSu
          go_simp
          try rfl
        simp only [Act.put, List.setIfInBounds_toArray, List.set_cons_zero, List.set_cons_succ]
        refine until_take (i := 7) (v := ?_) rfl (by kernel_rfl) (by kernel_rfl) (by kernel_rfl) (by kernel_rfl) (fun _ _ _ h => h) (Or.inl ⟨by rfl, ?_⟩) h0 ?_
        rotate_left
        · intro u hSu
          (try dsimp only at hSu)
          obtain ⟨hS1, hS2, hS3⟩ := hSu
          go_simp
          try rfl
        simp only [Act.put, List.setIfInBounds_toArray, List.set_cons_zero, List.set_cons_succ]
        refine until_take (i := 8) (v := ?_) rfl (by kernel_rfl) (by kernel_rfl) (by kernel_rfl) (by kernel_rfl) (fun _ _ _ h => h) (Or.inl ⟨by rfl, ?_⟩) h0 ?_
        rotate_left
        · intro u hSu
          (try dsimp only at hSu)
          obtain ⟨hS1, hS2, hS3⟩ := hSu
          go_simp
          try rfl
        simp only [Act.put, List.setIfInBounds_toArray, List.set_cons_zero, List.set_cons_succ]
        clear sw
        refine until_one (i := 9) rfl (by kernel_rfl) (fun K hK => ?_)
        go_simp
        have bX := belA wr.drew (.cells #[.int .i64 (sec + x)] 3)
        have h1 : (wr.drew.alloc (.cells #[.int .i64 (sec + x)] 3)).cell? ⟨w.heap.size, 2, none⟩ = some (.slice (some ⟨b, off, none⟩) n c') ∧ (wr.drew.alloc (.cells #[.int .i64 (sec + x)] 3)).cell? ⟨w.heap.size + 1 + 1, 3, none⟩ = some (.slice DA LL dc) ∧ (wr.drew.alloc (.cells #[.int .i64 (sec + x)] 3)).cell? ⟨b, off + k, none⟩ = some (.int .i64 x) :=
          ⟨(bX.cell (cell_lt h0.1)).trans h0.1, (bX.cell (cell_lt h0.2.1)).trans h0.2.1, (bX.cell (cell_lt h0.2.2)).trans h0.2.2⟩
        refine hK.out _ _ (fun _ => h1) ?_
        clear hK K
        replace h0 := h1
        try simp only [Act.put, List.setIfInBounds_toArray, List.set_cons_zero, List.set_cons_succ]
        refine until_one (i := 10) rfl (by kernel_rfl) (fun K hK => ?_)
        have HT2 := HT.out.below ((Below.refl _ wr).drew.trans (bX.mono (Nat.le_refl _)))
        refine step_append_blk (by rfl) _ _ 29 (by rfl) (w.heap.size + 1 + 1 + 1) 3 8 Try.underlying29 elemN (.slice DA LL dc) ((arr.take k).map (sec + ·)) (by rfl) HT2.arr [sec + x] wr.heap.size 1 1 (by rfl) (by rfl) 3 (heap_alloc_new wr.drew _) (by rw [HLL.out]; simp only [Go.maxLen, List.length_cons, List.length_nil]; omega) (by rw [HLL.out]; simp only [List.length_cons, List.length_nil]; omega) HT2.lt ?_
        intro v8 w8 ho8 hg8 hat8
        rw [HSN.out] at ho8
        obtain ⟨A8, c8, rfl⟩ := ho8.form
        obtain ⟨k1, k2, k3, k4, k5⟩ := HT2.kept hg8 (fun q e => (World.ownsRow.lt HT2.arr q e).1)
        have y2 : w8.cell? ⟨w.heap.size + 1 + 1, 3, none⟩ = some (.slice DA LL dc) := by rw [cell_of_row w8 _ 3 _ _ _ k3]; rfl
        have yf : w8.frozen? ⟨w.heap.size + 1 + 1, 3, none⟩ = false := by simp [World.frozen?, k3]
        have y1 : w8.cell? ⟨w.heap.size, 2, none⟩ = some (.slice (some ⟨b, off, none⟩) n c') := by rw [cell_of_row w8 _ 2 _ _ _ k1]; rfl
        have bw := below_of_grownBy hg8 (B := w.heap.size) (Nat.le_of_lt (Nat.lt_of_le_of_lt (by omega) HT2.lt)) (fun q e => by have := (World.ownsRow.lt HT2.arr q e).1; omega)
        have h2 := And.intro y1 (And.intro y2 ((bw.cell (p := ⟨b, off + k, none⟩) hbb).trans h1.2.2))
        have HT3 := Lib.hid (HT2.arrPut hg8 ho8 (hat8.imp id fun e => ⟨_, e, Nat.le_refl _⟩))
        generalize ((arr.take (k + 1)).map (sec + ·)).length = LM at *
        refine hK.out _ _ (fun _ => h2) ?_
        clear hK K
        replace h0 := h2
        try simp only [Act.put, List.setIfInBounds_toArray, List.set_cons_zero, List.set_cons_succ]
        clear h1 bX HT2 ho8 hg8 hat8 k1 k2 k3 k4 k5 bw y1 HT
        refine until_take (i := 11) (v := ?_) rfl (by kernel_rfl) (by kernel_rfl) (by kernel_rfl) (by kernel_rfl) (fun _ _ _ h => h) (Or.inl ⟨by rfl, ?_⟩) h0 ?_
        rotate_left
        · intro u hSu
          (try dsimp only at hSu)
          obtain ⟨hS1, hS2, hS3⟩ := hSu
          go_simp
          try rfl
        simp only [Act.put, List.setIfInBounds_toArray, List.set_cons_zero, List.set_cons_succ]
        refine until_one (i := 12) rfl (by kernel_rfl) (fun K hK => ?_)
        go_simp
        refine hK.out _ _ (fun q => absurd rfl q) ?_
        clear hK K h0 y2 yf
        refine until_done (by kernel_rfl) ?_ _
        go_wp2_with fail
        go_roundg (n - (k + 1))
        case measure => omega
        case rel => exact ⟨k + 1, _, _, by omega, rfl, by go_num, HT3.out⟩
    · have hkn : k = n := by omega
      have hT' := hT
      rw [hkn, List.take_of_length_le (by have := HN.out; omega), List.take_of_length_le (by have := HNN.out; omega)] at hT'
      obtain ⟨_, t0, t1, t2, t3, tf⟩ := hT'.cells
      have hrc := hT'.rc
      have r0 : wr.cell? ⟨w.heap.size + 1, 0, none⟩ = some (.int .i64 0) := by rw [cell_of_row wr _ 0 _ _ _ hrc]; rfl
      have r1 : wr.cell? ⟨w.heap.size + 1, 1, none⟩ = some (.int .i64 0) := by rw [cell_of_row wr _ 1 _ _ _ hrc]; rfl
      have r2 : wr.cell? ⟨w.heap.size + 1, 2, none⟩ = some (.slice none 0 0) := by rw [cell_of_row wr _ 2 _ _ _ hrc]; rfl
      have r3 : wr.cell? ⟨w.heap.size + 1, 3, none⟩ = some (.slice none 0 0) := by rw [cell_of_row wr _ 3 _ _ _ hrc]; rfl
      have rf0 : wr.frozen? ⟨w.heap.size + 1, 0, none⟩ = false := by simp [World.frozen?, hrc]
      have rf1 : wr.frozen? ⟨w.heap.size + 1, 1, none⟩ = false := by simp [World.frozen?, hrc]
      have rf2 : wr.frozen? ⟨w.heap.size + 1, 2, none⟩ = false := by simp [World.frozen?, hrc]
      have rf3 : wr.frozen? ⟨w.heap.size + 1, 3, none⟩ = false := by simp [World.frozen?, hrc]
      obtain ⟨A1, c1, rfl⟩ := hT'.dep.form
      obtain ⟨A2, c2, rfl⟩ := hT'.arr.form
      generalize (dep.map (sec + ·)).length = L1 at *
      generalize (arr.map (sec + ·)).length = L2 at *
      have HRES := Lib.hid (set_block' (o := 3) (.slice A2 L2 c2) (set_block' (o := 2) (.slice A1 L1 c1) (set_block' (o := 1) (.int .i64 day) (set_block' (o := 0) (.int .i64 line) hrc))))
      have HT := Lib.hid hT'
      clear hrc hT' hT tf hkn
      go_wp2_with fail
      refine bodyPost_ret (results_cell_row rfl _ _ (w.heap.size + 1) 51 _ _ _ rfl HRES.out Try.underlying51 rfl (by kernel_rfl)) rfl ?_
      have hps := HT.out
      have hlt1 : w.heap.size + 1 < w.heap.size + 1 + 1 + 1 := by omega
      refine ⟨_, _, rfl, ?_, ?_, ?_⟩
      · exact ((((hps.dep.setBelow (a := ⟨w.heap.size + 1, _, none⟩) hlt1 _).setBelow (a := ⟨w.heap.size + 1, _, none⟩) hlt1 _).setBelow (a := ⟨w.heap.size + 1, _, none⟩) hlt1 _).setBelow (a := ⟨w.heap.size + 1, _, none⟩) hlt1 _).rebase (by omega)
      · exact ((((hps.arr.setBelow (a := ⟨w.heap.size + 1, _, none⟩) hlt1 _).setBelow (a := ⟨w.heap.size + 1, _, none⟩) hlt1 _).setBelow (a := ⟨w.heap.size + 1, _, none⟩) hlt1 _).setBelow (a := ⟨w.heap.size + 1, _, none⟩) hlt1 _).rebase (by omega)
      · have hle : w.heap.size ≤ w.heap.size + 1 := by omega
        exact (((hps.bel.setCell (p := ⟨w.heap.size + 1, _, none⟩) hle _).setCell (p := ⟨w.heap.size + 1, _, none⟩) hle _).setCell (p := ⟨w.heap.size + 1, _, none⟩) hle _).setCell (p := ⟨w.heap.size + 1, _, none⟩) hle _

end Go.Proofs.Ytaongejpbgjbiaa
