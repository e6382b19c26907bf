/-
  Contracts of the index's next and of closure.Next.
-/
import Derived.Test.YtjeocfkijbpinaaCloI
import Derived.Test.YtjeocfkijbpinaaCloB
set_option linter.unusedVariables false
set_option linter.unusedSimpArgs false
namespace Go.Proofs.Ytjeocfkijbpinaa
open Go.RowKit RP

/-- The two captured variables of the search: the list and the second. -/
def SeekAt (w : World) (gl gx : Nat) (A : Option Addr) (c : Nat) (g : List Clo) (x : Int) : Prop :=
  w.heap[gl]? = some (.cells #[.slice A g.length c] 23 (0, 0)) ∧ w.heap[gx]? = some (.cells #[.int .i64 x] 3 (0, 0)) ∧ Lst encO 3 w w.heap.size A g

set_option maxHeartbeats 1000000 in
theorem seekFn_any (gl gx : Nat) (A : Option Addr) (c : Nat) (g : List Clo) (x : Int) (k : Nat) (w : World) (h : SeekAt w gl gx A c g x) (hk : k < g.length) :
    Calls Try.prog 46 #[.int .i64 k, .pointer (some ⟨gl, 0, none⟩), .pointer (some ⟨gx, 0, none⟩)] w fun e w' => e = .returned (.bool (decide (x < g[k].2.1))) ∧ ∃ n, w' = w.drewN n := by
  obtain ⟨h1, h2, h3⟩ := h
  have q1 := cell_of_one h1
  have q2 := cell_of_one h2
  obtain ⟨b, off, rfl, hb, c0, c1, c2⟩ := h3.oc k hk
  generalize g[k].2.1 = f at *
  have i1 : (0 : Int) ≤ (k : Int) := by omega
  have i2 : (k : Int) < (g.length : Int) := by omega
  clear c0 c2 h1 h2
  go_enter Try.func46, Try.ntmps46
  go_wp2_with fail
  go_quiet (fail)
  go_wp2_with fail
  go_ret
  exact ⟨rfl, _, rfl⟩

set_option maxHeartbeats 1000000 in
theorem search_any (gl gx : Nat) (A : Option Addr) (c : Nat) (r : Int) (g : List Clo) (x : Int) (w : World) (h : SeekAt w gl gx A c g x) (hs : SepC r g) (hn : g.length ≤ 4611686018427387903) :
    Calls Try.prog 45 #[.int .i64 g.length, .func (.func 46) #[] #[.pointer (some ⟨gl, 0, none⟩), .pointer (some ⟨gx, 0, none⟩)]] w fun e w' =>
      ∃ i : Nat, e = .returned (.int .i64 i) ∧ i ≤ g.length ∧ (∀ k (hk : k < g.length), k < i → g[k].2.1 ≤ x) ∧ (∀ k (hk : k < g.length), i ≤ k → x < g[k].2.1) ∧ ∃ n, w' = w.drewN n := by
  go_enter Try.func45, Try.ntmps45
  go_wp2_with fail
  go_loopg [5, 6, 7] g.length (fun gg s5 s6 s7 wr => ∃ i j n : Nat, i ≤ j ∧ j ≤ g.length ∧ gg = j - i ∧ s5 = .int .i64 i ∧ s6 = .int .i64 j ∧ (∀ k (hk : k < g.length), k < i → g[k].2.1 ≤ x) ∧ (∀ k (hk : k < g.length), j ≤ k → x < g[k].2.1) ∧ wr = w.drewN n)
  case atStart => exact ⟨0, g.length, 0, by omega, by omega, rfl, rfl, rfl, fun k hk h => by omega, fun k hk h => by omega, rfl⟩
  case round =>
    obtain ⟨i, j, n, hij, hj, hg, rfl, rfl, hlo, hhi, rfl⟩ := hrel
    have HLO := Lib.hid hlo
    have HHI := Lib.hid hhi
    clear hlo hhi
    by_cases hlt : i < j
    · have hm : (i + j) / 2 < g.length := by omega
      have hcon := seekFn_any gl gx A c g x ((i + j) / 2) (w.drewN n) h hm
      have HSRT := Lib.hid (fun a b (ha : a < g.length) (hb : b < g.length) h => sep_sorted hs ha hb (i := a) (j := b) h)
      obtain ⟨m, hmq⟩ : ∃ m, (i + j) / 2 = m := ⟨_, rfl⟩
      have hm1 : i ≤ m := by omega
      have hm2 : m < j := by omega
      have HMI := Lib.hid (show ((i : Int) + j) / 2 = (m : Int) by omega)
      subst hmq
      generalize hmq : (i + j) / 2 = m at *
      clear hmq
      by_cases hc : x < g[m].2.1
      · have hd : decide (x < g[m].2.1) = true := by simpa using hc
        rw [hd] at hcon
        have HC := Lib.hid hc
        clear hd hc
        go_wp2_with fail
        rw [HMI.out]
        refine hcon.mono ?_
        rintro e w' ⟨rfl, n', rfl⟩
        go_wp2_with fail
        go_roundg (m - i)
        case measure => omega
        case rel => exact ⟨i, m, n + n', by omega, by omega, rfl, rfl, rfl, HLO.out, fun k hk h => by have := HSRT.out m k hm hk h; have := HC.out; omega, rfl⟩
      · have hd : decide (x < g[m].2.1) = false := by simpa using hc
        rw [hd] at hcon
        have HC := Lib.hid hc
        clear hd hc
        go_wp2_with fail
        rw [HMI.out]
        refine hcon.mono ?_
        rintro e w' ⟨rfl, n', rfl⟩
        go_wp2_with fail
        go_roundg (j - (m + 1))
        case measure => omega
        case rel => exact ⟨m + 1, j, n + n', by omega, by omega, rfl, by go_num, rfl, fun k hk h => by have := HSRT.out k m hk hm (by omega); have := HC.out; omega, HHI.out, rfl⟩
    · have HE := Lib.hid (show i = j by omega)
      go_wp2_with fail
      go_ret
      refine ⟨i, rfl, by omega, HLO.out, fun k hk h => HHI.out k hk (by omega), n, rfl⟩

/-- What next answers, of whatever list covers the same seconds. -/
def SeekPost (G : List Clo) (r x : Int) (w : World) (e : Ending) (w' : World) : Prop := ∃ n, e = .returned (.int .i64 n) ∧ NextC G r x n ∧ Below w.heap.size w w'

set_option maxHeartbeats 2000000 in
theorem inext_any (base gm n : Nat) (G : Int → List Clo) (r x : Int) (w : World) (h : Idx w base gm n G) (hr : R64 r) (hs : SepC r (G r)) (hn : (G r).length ≤ 4611686018427387903) :
    Calls Try.prog 35 #[.map (some gm), .int .i64 r, .int .i64 x] w (SeekPost (G r) r x w) := by
  have hbx := below_refl_alloc w (.cells #[.int .i64 x] 3)
  have hx1 : (w.alloc (.cells #[.int .i64 x] 3)).heap[w.heap.size]? = some (.cells #[.int .i64 x] 3 (0, 0)) := heap_alloc_new w _
  have hi1 := h.alloc (.cells #[.int .i64 x] 3)
  go_enter Try.func35, Try.ntmps35
  go_upto_region 1 with fail
  generalize w.alloc (.cells #[.int .i64 x] 3) = W at *
  have zx := lt_of_block hx1
  generalize hgx : w.heap.size = gx at *
  have HGX := Lib.hid hgx
  clear hgx
  obtain ⟨_, F, hm, hoF, _⟩ := hi1
  have hrun := hm.lookup (t := 53) Try.underlying53 (zeroSl W) hr
  have hor := hoF r hr
  clear hm hoF
  generalize G r = g at *
  obtain ⟨A, c, hv⟩ := hor.form
  rw [hv] at hrun hor
  clear hv
  have hlst := hor.lst encO_len
  clear hor
  have hbl := below_refl_alloc W (.cells #[.slice A g.length c] 23)
  have hseek : SeekAt (W.alloc (.cells #[.slice A g.length c] 23)) W.heap.size gx A c g x := ⟨heap_alloc_new W _, (Below.heap_alloc _ _ _ zx).trans hx1, hlst.belowMore hbl (by simp)⟩
  have hzl : W.heap.size < (W.alloc (.cells #[.slice A g.length c] 23)).heap.size := by simp
  go_upto_region 2 with fail
  clear hrun
  generalize W.alloc (.cells #[.slice A g.length c] 23) = W2 at *
  generalize W.heap.size = gl at *
  have HB := Lib.hid (hbx.trans (hbl.mono (by omega)))
  clear hbx hbl
  have q1 := cell_of_one hseek.1
  have q2 := cell_of_one hseek.2.1
  go_wp2_with fail
  refine (search_any gl gx A c r g x W2 hseek hs hn).mono ?_
  rintro e w3 ⟨i, rfl, hi, hlo, hhi, n', rfl⟩
  obtain ⟨nx1, nx2⟩ := next_of_index hs hi hlo hhi
  cases i with
  | succ I =>
    have hI : I < g.length := hi
    have HX1 : Hid (x < g[I].2.2 → NextC g r x g[I].2.2) := fun hx => nx1 ⟨by omega, hI⟩ hx
    have HX2 : Hid (¬ x < g[I].2.2 → NextC g r x x) := fun hx => nx2 fun _ => hx
    clear nx1 nx2 hlo hhi
    obtain ⟨b, off, rfl, hb, c0, c1, c2⟩ := hseek.2.2.oc I hI
    have dk : decide ((0 : Int) < ((I + 1 : Nat) : Int)) = true := by simp
    have dk' : decide ((0 : Int) < (I : Int) + 1) = true := by simp
    have hwr : IntKind.i64.wrap ((I : Int) + 1 - 1) = (I : Int) := by rw [IntWalk.i64_in _ (by omega)]; omega
    have j0 : (0 : Int) ≤ (I : Int) := by omega
    have j1 : (I : Int) < (g.length : Int) := by omega
    by_cases hc : x < g[I].2.2
    · have HN := Lib.hid (HX1.out hc)
      have hd : decide (x < g[I].2.2) = true := by simpa using hc
      generalize g[I].2.2 = y at *
      clear c0 c1 hseek
      go_wp2_with fail
      go_quiet (fail)
      clear hwr
      go_wp2_with fail
      go_ret
      exact ⟨y, rfl, HN.out, by rw [HGX.out]; exact below_drewN HB.out _⟩
    · have HN := Lib.hid (HX2.out hc)
      have hd : decide (x < g[I].2.2) = false := by simpa using hc
      generalize g[I].2.2 = y at *
      clear c0 c1 hseek
      go_wp2_with fail
      go_quiet (fail)
      clear hwr
      go_wp2_with fail
      go_ret
      exact ⟨x, rfl, HN.out, by rw [HGX.out]; exact below_drewN HB.out _⟩
  | zero =>
    have HN := Lib.hid (nx2 fun h => by omega)
    clear nx1 nx2 hlo hhi hseek
    go_wp2_with fail
    go_quiet (fail)
    go_wp2_with fail
    go_ret
    exact ⟨x, rfl, HN.out, by rw [HGX.out]; exact below_drewN HB.out _⟩

theorem idx_ok {l S : List Clo} (hp : S.Perm l) (hs : S.Pairwise fun x y => x.2.1 ≤ y.2.1) (r : Int) : SepC r (idxOf S r) ∧ ∀ y, coverC (idxOf S r) r y = coverC l r y := by
  obtain ⟨h1, h2⟩ := idx_spec hs r
  exact ⟨h1, fun y => by rw [h2, cover_perm hp]⟩

set_option maxHeartbeats 1000000 in
theorem cnext_any (A : Option Addr) (c : Nat) (l : List Clo) (r x : Int) (w : World) (hl : Lst encO 3 w w.heap.size A l) (hn : l.length * 24 ≤ 140737488355328) (hrng : ∀ x ∈ l, R64 x.1 ∧ R64 x.2.1 ∧ R64 x.2.2) (hr : R64 r) :
    Calls Try.prog 19 #[.slice A l.length c, .int .i64 r, .int .i64 x] w (NextPostC l r x w) := by
  go_enter Try.func19, Try.ntmps19
  go_wp2_with fail
  refine (newIndex_any A c l w hl hn hrng).mono ?_
  rintro e w1 ⟨gm, n, S, rfl, hp, hs, hi, hgm, hb⟩
  obtain ⟨h1, h2⟩ := idx_ok hp hs r
  have hlen : (idxOf S r).length ≤ 4611686018427387903 := by have := idx_len S r; have := hp.length_eq; omega
  have H2 := Lib.hid h2
  clear h2 hs hp
  go_wp2_with fail
  refine (inext_any (gm + 1) gm n (idxOf S) r x w1 hi hr h1 hlen).mono ?_
  rintro e w2 ⟨m, rfl, hm, hb2⟩
  have HM := Lib.hid (hm.of_cover H2.out)
  clear hm
  go_wp2_with fail
  go_ret
  exact ⟨m, rfl, HM.out, hb.trans (hb2.mono hb.size)⟩

end Go.Proofs.Ytjeocfkijbpinaa
