/- Plain laws of the small reference functions (Small, Ints, Same, At) and of slices.Equal; their contracts. What is asked: how the graphs and lists are read; that no list is too long, where the sentence says so. (and what the parts below say) -/
import Derived.Test.YtgcjfobmccoibaaKd
import Derived.Test.YtgcjfobmccoibaaKb
import Derived.Test.YtgcjfobmccoibaaKaG
import Derived.Deep.RegionHeld3
import Derived.RangeFuncNested
import Derived.RangeFuncBound
import Derived.RangeFuncCalls
import Derived.RangeFuncLeaves
import Derived.RangeFuncBox
import Derived.Shelf.Abstract
import Derived.WalkKit
import Derived.OwnWalkIn
import Derived.TacticsInMore
import Derived.LoopNIn
import Derived.LoopIn
import Derived.Maps.AppendAt
import Derived.WalkSpells
import Derived.LoopN
/-! Plain laws of the small reference functions (Small, Ints, Same, At) and of slices.Equal; their contracts. What is asked: how the graphs and lists are read; that no list is too long, where the sentence says so. -/
set_option linter.unusedSimpArgs false
set_option linter.unusedVariables false
namespace Go.Proofs.Ytgcjfobmccoibaa.Gr
open Go.RowKit Go.Proofs.YtgcjfobmccoibaaW.PrintWords Go.Proofs.YtgcjfobmccoibaaW.PrintLast Go.Proofs.YtgcjfobmccoibaaW.PrintMore
open Go.Proofs.Ytgcjfobmccoibaa.Nm
open Go.Proofs.Ytgcjfobmccoibaa.PGraphChecks

instance : DecidableEq S55 := fun a b => decidable_of_iff (a.f0 = b.f0 ∧ a.f1 = b.f1 ∧ a.f2 = b.f2 ∧ a.f3 = b.f3)
  ⟨fun ⟨h0, h1, h2, h3⟩ => by cases a; cases b; simp_all, fun h => by subst h; exact ⟨rfl, rfl, rfl, rfl⟩⟩

/-- Have all nodes of a list at most m arguments? -/
def argsLe (m : Nat) (ns : List S55) : Bool := ns.all fun x => decide (x.f3.length ≤ m)
def smallB (ns : List S55) (rs : List Int) (N : Nat) : Bool := decide (ns.length ≤ N) && (decide (rs.length ≤ N) && argsLe 40 ns)

theorem rdT (ns : List S55) (i : Nat) : rd_T55 ns (i : Int) = ns.getD i z55 := rfl
theorem getD_get {α : Type} {l : List α} {i : Nat} (d : α) (h : i < l.length) : l.getD i d = l[i] := by simp [h]

theorem small_loop (ns : List S55) (hl : ns.length ≤ 1000000) : ∀ (d k i : Nat), i + d = ns.length → d < k → tendrilhand_Small.l0 k ns (ns.length : Int) (i : Int) = some (argsLe 40 (ns.drop i))
  | 0, k, i, hd, hk => by
    obtain ⟨k, rfl⟩ : ∃ m, k = m + 1 := ⟨k - 1, by omega⟩
    simp only [tendrilhand_Small.l0]
    rw [if_neg (by omega), List.drop_of_length_le (by omega)]
    rfl
  | d + 1, k, i, hd, hk => by
    obtain ⟨k, rfl⟩ : ∃ m, k = m + 1 := ⟨k - 1, by omega⟩
    have hi : i < ns.length := by omega
    simp only [tendrilhand_Small.l0]
    rw [if_pos (by omega), if_pos (by omega), if_pos (by omega), rdT, getD_get z55 hi, List.drop_eq_getElem_cons hi]
    by_cases h : (ns[i].f3.length : Int) > 40
    · rw [if_pos h]
      have : ¬ ns[i].f3.length ≤ 40 := by omega
      unfold argsLe
      rw [List.all_cons, decide_eq_false this, Bool.false_and]
    · rw [if_neg h, wrap_one (by omega), small_loop ns hl d k (i + 1) (by omega) (by omega)]
      have : ns[i].f3.length ≤ 40 := by omega
      unfold argsLe
      rw [List.all_cons, decide_eq_true this, Bool.true_and]
theorem small_f (ns : List S55) (rs : List Int) (N : Nat) (hN : N ≤ 1000) {k : Nat} (hk : 1010 ≤ k) : tendrilhand_Small.f k ns rs (N : Int) = some (smallB ns rs N) := by
  obtain ⟨k, rfl⟩ : ∃ m, k = m + 1 := ⟨k - 1, by omega⟩
  unfold tendrilhand_Small.f smallB
  by_cases h1 : ns.length ≤ N
  · rw [if_neg (by omega)]
    by_cases h2 : rs.length ≤ N
    · rw [decide_eq_false (by omega)]
      simp only [tendrilhand_Small.j0]
      rw [if_neg (by simp), show (0 : Int) = ((0 : Nat) : Int) from rfl, small_loop ns (by omega) ns.length k 0 (by omega) (by omega), decide_eq_true h1, decide_eq_true h2]
      simp
    · rw [decide_eq_true (by omega)]
      simp only [tendrilhand_Small.j0]
      simp [h2]
  · rw [if_pos (by omega)]
    simp only [tendrilhand_Small.j0]
    simp [h1]
theorem large_calls (w : World) (A : Option Addr) (c : Nat) (ns : List S55) (A' : Option Addr) (c' : Nat) (rs : List Int) (h : IsG w A c ns A' c' rs) :
    Calls Try.prog 34 #[gv A c ns A' c' rs] w fun e w' => e = .returned (.bool (!smallB ns rs 300)) ∧ Below w.heap.size w w' := by
  refine (tendrillaw04_large.calls 1010 A c ns A' c' rs (!smallB ns rs 300) w h.n h.ln h.r h.lr ?_).mono ?_
  · unfold tendrillaw04_large.f
    have := small_f ns rs 300 (by omega) (k := 1010) (by omega)
    rw [show ((300 : Nat) : Int) = 300 from rfl] at this
    rw [this]; rfl
  · rintro e w' ⟨rfl, hd⟩
    exact ⟨rfl, by first | exact hd | exact hd.below⟩

theorem wrap_lt {i n : Nat} (h : i < n) (hn : n ≤ 9223372036854775807) : wrap64 ((i : Int) + 1) = ((i + 1 : Nat) : Int) := wrap_one (by omega)
theorem equal_loop (a b : List Int) (hab : a.length = b.length) (hl : a.length ≤ 9223372036854775807) : ∀ (d k i : Nat), i + d = a.length → d < k → slices_Equal_int_int.l0 k a b (a.length : Int) (i : Int) = some (decide (a.drop i = b.drop i))
  | 0, k, i, hd, hk => by
    obtain ⟨k, rfl⟩ : ∃ m, k = m + 1 := ⟨k - 1, by omega⟩
    simp only [slices_Equal_int_int.l0]
    rw [if_neg (by omega), List.drop_of_length_le (by omega), List.drop_of_length_le (by omega)]
    simp
  | d + 1, k, i, hd, hk => by
    obtain ⟨k, rfl⟩ : ∃ m, k = m + 1 := ⟨k - 1, by omega⟩
    have hi : i < a.length := by omega
    have hj : i < b.length := by omega
    simp only [slices_Equal_int_int.l0]
    rw [if_pos (by omega), if_pos (by omega), if_pos (by omega), if_pos (by omega), rd_getD, rd_getD, getD_get 0 hi, getD_get 0 hj, List.drop_eq_getElem_cons hi, List.drop_eq_getElem_cons hj]
    by_cases h : a[i] = b[i]
    · rw [if_pos h, wrap_lt hi hl, equal_loop a b hab hl d k (i + 1) (by omega) (by omega)]
      exact congrArg some (decide_eq_decide.2 ⟨fun e => by rw [h, e], fun e => (List.cons.inj e).2⟩)
    · rw [if_neg h, decide_eq_false (fun e => h (List.cons.inj e).1)]
theorem equal_calls (w : World) (A : Option Addr) (c : Nat) (a : List Int) (B : Option Addr) (c' : Nat) (b : List Int) (ha : Kd.C (Kd.int .i64) w A a.length a) (hc : a.length ≤ c) (hb : Kd.C (Kd.int .i64) w B b.length b) (hc' : b.length ≤ c') :
    Calls Try.prog 74 #[.slice A a.length c, .slice B b.length c'] w fun e w' => e = .returned (.bool (decide (a = b))) ∧ Drawn0 w w' := by
  refine slices_Equal_int_int.calls (a.length + 1) A c a B c' b _ w ha hc hb hc' ?_
  unfold slices_Equal_int_int.f
  by_cases h : a.length = b.length
  · rw [if_pos (by omega), show (0 : Int) = ((0 : Nat) : Int) from rfl, equal_loop a b h ha.2.1 a.length (a.length + 1) 0 (by omega) (by omega)]
    simp
  · rw [if_neg (by omega), decide_eq_false (fun e => h (by rw [e]))]
theorem text_eq {a b : ByteArray} : a.toList = b.toList ↔ a = b := by
  constructor
  · intro h
    by_cases e : a = b
    · exact e
    · have := bytes_ne e
      rw [h] at this
      simp at this
  · intro h; rw [h]
theorem node_eq (x y : S55) : x = y ↔ x.f0 = y.f0 ∧ x.f1.toList = y.f1.toList ∧ x.f2 = y.f2 ∧ x.f3 = y.f3 := by
  rw [text_eq]
  cases x; cases y
  simp
theorem argsLe_get {m : Nat} {ns : List S55} (h : argsLe m ns = true) {i : Nat} (hi : i < ns.length) : ns[i].f3.length ≤ m := by
  have := List.all_eq_true.1 h ns[i] (List.getElem_mem hi)
  simpa using this
end Go.Proofs.Ytgcjfobmccoibaa.Gr

/-! Same of two graphs, by its walk. What is asked: how the graphs are read. -/
set_option linter.unusedSimpArgs false
set_option linter.unusedVariables false
namespace Go.Proofs.Ytgcjfobmccoibaa.Gr
open Go.RowKit Go.Proofs.YtgcjfobmccoibaaW.PrintWords Go.Proofs.YtgcjfobmccoibaaW.PrintLast Go.Proofs.YtgcjfobmccoibaaW.PrintMore
open Go.Proofs.Ytgcjfobmccoibaa.Nm

def nv (x : S55) (A : Option Addr) (c : Nat) : Value := .agg #[.int .i64 x.f0, .string x.f1, .int .i64 x.f2, .slice A x.f3.length c]

set_option maxRecDepth 100000 in
set_option maxHeartbeats 2000000 in
theorem same1_calls (w : World) (x y : S55) (A : Option Addr) (c : Nat) (B : Option Addr) (c' : Nat) (hx : Kd.C (Kd.int .i64) w A x.f3.length x.f3) (hc : x.f3.length ≤ c) (hy : Kd.C (Kd.int .i64) w B y.f3.length y.f3) (hc' : y.f3.length ≤ c') :
    Calls Try.prog 73 #[nv x A c, nv y B c'] w fun e w' => e = .returned (.bool (decide (x = y))) ∧ Below w.heap.size w w' := by
  simp only [nv]
  have HX := Aside0.mk (Kd.C_alloc (Kd.C_alloc hx (.cells #[.int .i64 x.f0, .string x.f1, .int .i64 x.f2, .slice A x.f3.length c] 55)) (.cells #[.int .i64 y.f0, .string y.f1, .int .i64 y.f2, .slice B y.f3.length c'] 55))
  have HY := Aside0.mk (Kd.C_alloc (Kd.C_alloc hy (.cells #[.int .i64 x.f0, .string x.f1, .int .i64 x.f2, .slice A x.f3.length c] 55)) (.cells #[.int .i64 y.f0, .string y.f1, .int .i64 y.f2, .slice B y.f3.length c'] 55))
  have HB := Aside0.mk (((Below.refl w.heap.size w).alloc (Nat.le_refl _) (.cells #[.int .i64 x.f0, .string x.f1, .int .i64 x.f2, .slice A x.f3.length c] 55)).alloc (by simp) (.cells #[.int .i64 y.f0, .string y.f1, .int .i64 y.f2, .slice B y.f3.length c'] 55))
  clear hx hy
  have hne := fun h => decide_eq_false (mt (node_eq x y).1 h)
  by_cases h0 : x.f0 = y.f0
  · have d0 : (x.f0 == y.f0) = true := by simpa using h0
    by_cases h1 : x.f1 = y.f1
    · have d1 : (x.f1.toList == y.f1.toList) = true := by rw [h1]; simp
      by_cases h2 : x.f2 = y.f2
      · have d2 : (x.f2 == y.f2) = true := by simpa using h2
        have hv : decide (x = y) = decide (x.f3 = y.f3) := decide_eq_decide.2 ⟨fun e => by rw [e], fun e => (node_eq x y).2 ⟨h0, by rw [h1], h2, e⟩⟩
        rw [hv]
        clear hv hne h0 h1 h2
        go_enter Try.func73, Try.ntmps73
        go_wp2_with fail
        refine (equal_calls _ A c x.f3 B c' y.f3 HX.out hc HY.out hc').mono ?_
        rintro e w1 ⟨rfl, hd⟩
        go_wp2_with fail
        go_ret
        exact ⟨rfl, below_then HB.out HB.out.size hd.below⟩
      · have d2 : (x.f2 == y.f2) = false := by simpa using h2
        rw [hne (fun e => h2 e.2.2.1)]
        clear hne h0 h1 h2
        go_enter Try.func73, Try.ntmps73
        go_wp2_with fail
        go_ret
        exact ⟨rfl, HB.out⟩
    · have d1 : (x.f1.toList == y.f1.toList) = false := bytes_ne h1
      rw [hne (fun e => h1 (text_eq.1 e.2.1))]
      clear hne h0 h1
      go_enter Try.func73, Try.ntmps73
      go_wp2_with fail
      go_ret
      exact ⟨rfl, HB.out⟩
  · have d0 : (x.f0 == y.f0) = false := by simpa using h0
    rw [hne (fun e => h0 e.1)]
    clear hne h0
    go_enter Try.func73, Try.ntmps73
    go_wp2_with fail
    go_ret
    exact ⟨rfl, HB.out⟩

theorem cell_up {w : World} {p : Addr} {v : Value} (h : w.cell? p = some v) (o : Obj) : (w.alloc o).cell? p = some v := ((below_alloc (Below.refl _ w) o).cell (World.block_lt_of_cell? w _ h)).trans h

set_option maxRecDepth 100000 in
set_option maxHeartbeats 2000000 in
theorem equalF_calls (w : World) (A : Option Addr) (c : Nat) (ns : List S55) (B : Option Addr) (k0 : Nat) (ms : List S55) (hn : Kd.C k55 w A ns.length ns) (hm : Kd.C k55 w B ms.length ms) :
    Calls Try.prog 75 #[.slice A ns.length c, .slice B ms.length k0, .func (.func 73) #[] #[]] w fun e w' => e = .returned (.bool (decide (ns = ms))) ∧ Below w.heap.size w w' := by
  have HN := Aside0.mk hn
  have HM := Aside0.mk hm
  have hln : ns.length ≤ 9223372036854775807 := hn.2.1
  clear hn hm
  by_cases hab : ns.length = ms.length
  · have d0 : ((ns.length : Int) != (ms.length : Int)) = false := by rw [hab]; simp
    have HAB := Aside0.mk hab
    clear hab
    obtain ⟨b, hb⟩ : ∃ b, decide (ns = ms) = b := ⟨_, rfl⟩
    rw [hb]
    have HBB := Aside0.mk hb
    clear hb
    go_enter Try.func75, Try.ntmps75
    go_wp2_with fail
    go_loopw [17] (fun i wr => ∃ k : Nat, k ≤ ns.length ∧ i = .int .i64 (k : Int) ∧ Aside0 (Below w.heap.size w wr ∧ b = decide (ns.drop k = ms.drop k))) (fun i _ => ns.length - (intOf i).toNat)
    case atStart => exact ⟨0, Nat.zero_le _, rfl, ⟨Below.refl _ _, HBB.out.symm⟩⟩
    case round =>
      obtain ⟨k, hk, rfl, HS⟩ := hrel
      by_cases hlt : k < ns.length
      · have hlt2 : k < ms.length := by have := HAB.out; omega
        obtain ⟨ad, A3, c3, rfl, n0, n1, n2, n3, l3, g3⟩ := node_at (Kd.C_below HN.out HS.out.1) hlt
        obtain ⟨ad', A4, c4, rfl, m0, m1, m2, m3, l4, g4⟩ := node_at (Kd.C_below HM.out HS.out.1) hlt2
        have HD := Aside0.mk (show b = decide (ns.getD k z55 :: ns.drop (k + 1) = ms.getD k z55 :: ms.drop (k + 1)) by
          rw [HS.out.2, List.drop_eq_getElem_cons hlt, List.drop_eq_getElem_cons hlt2, getD_get z55 hlt, getD_get z55 hlt2])
        generalize ns.getD k z55 = x at *
        generalize ms.getD k z55 = y at *
        have HG3 := Aside0.mk g3
        have HG4 := Aside0.mk g4
        clear g3 g4
        have M0 := cell_up m0
        have M1 := cell_up m1
        have M2 := cell_up m2
        have M3 := cell_up m3
        go_wp2_with fail
        refine (same1_calls _ x y A3 c3 A4 c4 (Kd.C_alloc (Kd.C_alloc HG3.out _) _) l3 (Kd.C_alloc (Kd.C_alloc HG4.out _) _) l4).mono ?_
        clear M0 M1 M2 M3 n0 n1 n2 n3 m0 m1 m2 m3
        have HB2 := Aside0.mk ((HS.out.1.alloc HS.out.1.size (.cells #[.int .i64 x.f0, .string x.f1, .int .i64 x.f2, .slice A3 x.f3.length c3] 55)).alloc (by have := HS.out.1.size; simp; omega) (.cells #[.int .i64 y.f0, .string y.f1, .int .i64 y.f2, .slice A4 y.f3.length c4] 55))
        cases hxy : decide (x = y) with
        | true =>
          rintro e w1 ⟨rfl, hB1⟩
          have HS1 : Aside0 (Below w.heap.size w w1 ∧ b = decide (ns.drop (k + 1) = ms.drop (k + 1))) :=
            ⟨below_then HB2.out HB2.out.size hB1, by rw [HD.out, of_decide_eq_true hxy]; exact decide_eq_decide.2 ⟨fun e => (List.cons.inj e).2, fun e => by rw [e]⟩⟩
          clear HS HD hB1 HB2 hxy
          go_wp2_with fail
          go_roundw
          case rel => exact ⟨k + 1, by omega, by go_num, HS1⟩
          case measure => simp [intOf]; omega
        | false =>
          rintro e w1 ⟨rfl, hB1⟩
          have HB1 := Aside0.mk (below_then HB2.out HB2.out.size hB1)
          have hv : b = false := by rw [HD.out]; exact decide_eq_false (fun e => of_decide_eq_false hxy (List.cons.inj e).1)
          subst hv
          clear HS HD hB1 HB2 hxy
          go_wp2_with fail
          go_ret
          exact ⟨rfl, HB1.out⟩
      · obtain rfl : k = ns.length := by omega
        have hv : b = true := by have := HS.out.2; rw [List.drop_length, List.drop_of_length_le (by have := HAB.out; omega)] at this; simpa using this
        subst hv
        go_wp2_with fail
        go_ret
        exact ⟨rfl, HS.out.1⟩
  · have d0 : ((ns.length : Int) != (ms.length : Int)) = true := by simp; omega
    rw [decide_eq_false (fun e => hab (by rw [e]))]
    go_enter Try.func75, Try.ntmps75
    go_wp2_with fail
    go_ret
    exact ⟨rfl, Below.refl _ _⟩

set_option maxRecDepth 100000 in
set_option maxHeartbeats 1000000 in
theorem same_calls4 (w : World) (A : Option Addr) (c : Nat) (ns : List S55) (A' : Option Addr) (c' : Nat) (rs : List Int) (h : IsG w A c ns A' c' rs) (B : Option Addr) (k : Nat) (ms : List S55) (B' : Option Addr) (k' : Nat) (ss : List Int) (h2 : IsG w B k ms B' k' ss) :
    Calls Try.prog 41 #[gv A c ns A' c' rs, gv B k ms B' k' ss] w fun e w' => e = .returned (.bool (decide (ns = ms ∧ rs = ss))) ∧ Below w.heap.size w w' := by
  simp only [gv]
  have HB := Aside0.mk (((Below.refl w.heap.size w).alloc (Nat.le_refl _) (.cells #[.slice A ns.length c, .slice A' rs.length c'] 52)).alloc (by simp) (.cells #[.slice B ms.length k, .slice B' ss.length k'] 52))
  have HX := Aside0.mk (blk_old (.cells #[.slice B ms.length k, .slice B' ss.length k'] 52) (blk_last w (.cells #[.slice A ns.length c, .slice A' rs.length c'] 52)))
  have HY := Aside0.mk (blk_last (w.alloc (.cells #[.slice A ns.length c, .slice A' rs.length c'] 52)) (.cells #[.slice B ms.length k, .slice B' ss.length k'] 52))
  rw [World.size_alloc] at HY
  have H1 := Aside0.mk (h.below (((Below.refl w.heap.size w).alloc (Nat.le_refl _) (.cells #[.slice A ns.length c, .slice A' rs.length c'] 52)).alloc (by simp) (.cells #[.slice B ms.length k, .slice B' ss.length k'] 52)))
  have H2 := Aside0.mk (h2.below (((Below.refl w.heap.size w).alloc (Nat.le_refl _) (.cells #[.slice A ns.length c, .slice A' rs.length c'] 52)).alloc (by simp) (.cells #[.slice B ms.length k, .slice B' ss.length k'] 52)))
  clear h h2
  obtain ⟨b, hb⟩ : ∃ b, decide (ns = ms ∧ rs = ss) = b := ⟨_, rfl⟩
  rw [hb]
  have HBB := Aside0.mk hb
  clear hb
  go_enter Try.func41, Try.ntmps41
  go_wp2_with fail
  refine (equalF_calls _ A c ns B k ms H1.out.n H2.out.n).mono ?_
  cases hn : decide (ns = ms) with
  | true =>
    rintro e w1 ⟨rfl, hB1⟩
    have hx1 : w1.cell? ⟨w.heap.size, 1, none⟩ = some (.slice A' rs.length c') := blk_cell ((hB1.block _ (blk_lt HX.out)).trans HX.out) 1
    have hy1 : w1.cell? ⟨w.heap.size + 1, 1, none⟩ = some (.slice B' ss.length k') := blk_cell ((hB1.block _ (blk_lt HY.out)).trans HY.out) 1
    have H11 := Aside0.mk (H1.out.below hB1)
    have H22 := Aside0.mk (H2.out.below hB1)
    have HB1 := Aside0.mk (below_then HB.out HB.out.size hB1)
    clear hB1 H1 H2 HX HY HB
    go_wp2_with fail
    refine (equal_calls _ A' c' rs B' k' ss H11.out.r H11.out.lr H22.out.r H22.out.lr).mono ?_
    have hv : b = decide (rs = ss) := by rw [← HBB.out]; exact decide_eq_decide.2 ⟨fun e => e.2, fun e => ⟨of_decide_eq_true hn, e⟩⟩
    subst hv
    rintro e w2 ⟨rfl, hd⟩
    go_wp2_with fail
    go_ret
    exact ⟨rfl, below_then HB1.out HB1.out.size hd.below⟩
  | false =>
    rintro e w1 ⟨rfl, hB1⟩
    have hv : b = false := by rw [← HBB.out]; exact decide_eq_false (fun e => of_decide_eq_false hn e.1)
    subst hv
    go_wp2_with fail
    go_ret
    exact ⟨rfl, below_then HB.out HB.out.size hB1⟩

end Go.Proofs.Ytgcjfobmccoibaa.Gr

/-! GraphWays: every At, every Same. What is asked: how the graphs and the path are read. -/
set_option linter.unusedSimpArgs false
set_option linter.unusedVariables false
namespace Go.Proofs.Ytgcjfobmccoibaa.Gr
open Go.RowKit Go.Proofs.YtgcjfobmccoibaaW.PrintWords Go.Proofs.YtgcjfobmccoibaaW.PrintLast Go.Proofs.YtgcjfobmccoibaaW.PrintMore
open Go.Proofs.Ytgcjfobmccoibaa.Nm

theorem smallB_args {ns : List S55} {rs : List Int} {N : Nat} (h : smallB ns rs N = true) : ns.length ≤ N ∧ rs.length ≤ N ∧ argsLe 40 ns = true := by
  simpa [smallB] using h

/-- Two boxes for two graphs, and what lay before. -/
structure P2 (w0 : World) (X0 X1 Y0 Y1 : Value) (w : World) : Prop where
  b : Below w0.heap.size w0 w
  x : w.heap[w0.heap.size]? = some (.cells #[X0, X1] 52 (0, 0))
  y : w.heap[w0.heap.size + 1]? = some (.cells #[Y0, Y1] 52 (0, 0))
theorem P2.below {w0 w w' : World} {X0 X1 Y0 Y1 : Value} (h : P2 w0 X0 X1 Y0 Y1 w) (hb : Below w.heap.size w w') : P2 w0 X0 X1 Y0 Y1 w' :=
  ⟨below_then h.b h.b.size hb, (hb.block _ (blk_lt h.x)).trans h.x, (hb.block _ (blk_lt h.y)).trans h.y⟩
theorem P2.cells {w0 w : World} {X0 X1 Y0 Y1 : Value} (h : P2 w0 X0 X1 Y0 Y1 w) : w.cell? ⟨w0.heap.size, 0, none⟩ = some X0 ∧ w.cell? ⟨w0.heap.size, 1, none⟩ = some X1 ∧ w.cell? ⟨w0.heap.size + 1, 0, none⟩ = some Y0 ∧ w.cell? ⟨w0.heap.size + 1, 1, none⟩ = some Y1 :=
  ⟨blk_cell h.x 0, blk_cell h.x 1, blk_cell h.y 0, blk_cell h.y 1⟩
theorem p2_all {w0 w : World} {X0 X1 Y0 Y1 : Value} (h : P2 w0 X0 X1 Y0 Y1 w) : w.cell? ⟨w0.heap.size, 0, none⟩ = some X0 ∧ w.cell? ⟨w0.heap.size, 1, none⟩ = some X1 ∧ w.cell? ⟨w0.heap.size + 1, 0, none⟩ = some Y0 ∧ w.cell? ⟨w0.heap.size + 1, 1, none⟩ = some Y1 ∧ P2 w0 X0 X1 Y0 Y1 w :=
  ⟨h.cells.1, h.cells.2.1, h.cells.2.2.1, h.cells.2.2.2, h⟩
theorem p2_drew {w0 w : World} {X0 X1 Y0 Y1 : Value} (h : P2 w0 X0 X1 Y0 Y1 w) : P2 w0 X0 X1 Y0 Y1 w.drew := h.below (below_drew (Below.refl _ _))
theorem p2_made (w : World) (X0 X1 Y0 Y1 : Value) : P2 w X0 X1 Y0 Y1 ((w.alloc (.cells #[X0, X1] 52)).alloc (.cells #[Y0, Y1] 52)) := by
  have hy := blk_last (w.alloc (.cells #[X0, X1] 52)) (.cells #[Y0, Y1] 52)
  rw [World.size_alloc] at hy
  exact ⟨((Below.refl w.heap.size w).alloc (Nat.le_refl _) _).alloc (by simp) _, blk_old _ (blk_last w _), hy⟩

end Go.Proofs.Ytgcjfobmccoibaa.Gr

/-! Clone of a list of numbers. What is asked: how the list is read; that it has no more than 100000 numbers. -/
set_option linter.unusedSimpArgs false
set_option linter.unusedVariables false
namespace Go.Proofs.Ytgcjfobmccoibaa.Gr
open Go.RowKit Go.Proofs.YtgcjfobmccoibaaW.PrintWords Go.Proofs.YtgcjfobmccoibaaW.PrintLast Go.Proofs.YtgcjfobmccoibaaW.PrintMore
open Go.Proofs.Ytgcjfobmccoibaa.Nm

theorem R_nilI (w : World) (base : Nat) (ok : Nat → Prop) : Kd.R (Kd.int .i64) 3 w base ok (.slice none 0 0) [] :=
  ⟨fun k hk => by simp [Value.ownBlock] at hk, [], World.ownsRow_nil _ _ _ _, Reps.none _ _⟩
theorem R_emptyI (w : World) (base : Nat) (hb : base ≤ w.heap.size) : Kd.R (Kd.int .i64) 3 (w.alloc (.cells #[] 3)) base (fun k => k = w.heap.size) (.slice (some ⟨w.heap.size, 0, none⟩) 0 0) [] :=
  ⟨fun k hk => by simpa [Value.ownBlock, eq_comm] using hk, [], World.ownsRow_made w #[] 0 hb (by simp) (by simp), Reps.none _ _⟩

set_option maxRecDepth 100000 in
set_option maxHeartbeats 1000000 in
/-- slices.Clone of a list of numbers. -/
theorem cloneI_calls (w : World) (A : Option Addr) (c : Nat) (L : List Int) (hc : Kd.C (Kd.int .i64) w A L.length L) (hl : L.length ≤ 100000) :
    Calls Try.prog 69 #[.slice A L.length c] w fun e w' => ∃ v, e = .returned v ∧ Kd.R (Kd.int .i64) 3 w' w.heap.size (fun k => w.heap.size ≤ k) v L ∧ Below w.heap.size w w' := by
  have q50 : ∀ (w : World) (a : Option Addr) (n c n' c' : Nat), (binOp .eql 50 (.slice a n c) (.slice none n' c')).run Try.prog w = .ok (.bool a.isNone) w := fun w a n c n' c' => Lib.run_eql_slice_nil w _ _ a n c n' c' Try.underlying50
  have HC := Aside0.mk hc
  clear hc
  rcases A with _ | ad
  · have h0 : L = [] := by
      have := Kd.reads_of_C (d := (0 : Int)) HC.out
      rcases Nat.eq_zero_or_pos L.length with h0 | h0
      · exact List.eq_nil_of_length_eq_zero h0
      · obtain ⟨ad, h, _⟩ := this.2.2 h0
        cases h
    subst h0
    go_enter Try.func69, Try.ntmps69
    go_wp2
    go_ret
    exact ⟨_, rfl, R_nilI _ _ _, Below.refl _ _⟩
  · go_enter Try.func69, Try.ntmps69
    go_wp2_with (at_builtin; go_must (refine Kd.R_append_row (w0 := w) (Value.int .i64) (0 : Int) w.heap.size rfl (.tmp 5) (.tmp 6) 50 3 (.int .i64 0) 8 rfl Try.underlying50 PGraphChecks.info3 rfl (by decide) (.slice (some ⟨w.heap.size, 0, none⟩) 0 0) [] L (some ad) L.length c (fun k => w.heap.size ≤ k) rfl rfl (fun k hk => Nat.le_trans (by simp) hk) (Kd.R_mono (R_emptyI w w.heap.size (Nat.le_refl _)) (fun k hk => by simp [hk])) (Kd.C_alloc HC.out _) ((Below.refl _ w).alloc (Nat.le_refl _) _) (by simp) (by simp; omega) ?_; intro v1 w1 hR hB1 hg hat))
    go_ret
    exact ⟨_, rfl, hR, hB1⟩

end Go.Proofs.Ytgcjfobmccoibaa.Gr

/-! slices.Backward of a list of numbers: the iterator, for every loop body that leaves the list's blocks and the box as they are. What is asked: how the list is read. -/
set_option linter.unusedSimpArgs false
set_option linter.unusedVariables false
namespace Go.Proofs.Ytgcjfobmccoibaa.Gr
open Go.RowKit Go.Shelf Go.Proofs.YtgcjfobmccoibaaW.PrintWords Go.Proofs.YtgcjfobmccoibaaW.PrintLast Go.Proofs.YtgcjfobmccoibaaW.PrintMore
open Go.Proofs.Ytgcjfobmccoibaa.Nm

attribute [local go_sem] Oper.semAt_some

/-- What has come when k rounds are over: the last k numbers, from the end on. -/
def dn (L : List Int) (k : Nat) : List (Int × Int) := (List.range k).map fun (j : Nat) => ((L.length : Int) - 1 - (j : Int), L.getD (L.length - 1 - j) 0)
theorem dn_succ (L : List Int) (k : Nat) : dn L (k + 1) = dn L k ++ [((L.length : Int) - 1 - (k : Int), L.getD (L.length - 1 - k) 0)] := by simp [dn, List.range_succ]
theorem dn_length (L : List Int) (k : Nat) : (dn L k).length = k := by simp [dn]
theorem dn_snd (L : List Int) : (dn L L.length).map (·.2) = L.reverse := by
  apply List.ext_getElem
  · simp [dn]
  · intro i h1 h2
    have : i < L.length := by simpa [dn] using h1
    have h3 : L.length - 1 - i < L.length := by omega
    simp [dn, h3]

/-- What lay below n is as it was, and block b. -/
def KpB (n b : Nat) (X Y : World) : Prop := Below n X Y ∧ Y.heap[b]? = X.heap[b]?
theorem KpB.trans {n b : Nat} {X Y Z : World} (h : KpB n b X Y) (k : KpB n b Y Z) : KpB n b X Z := ⟨h.1.trans k.1, k.2.trans h.2⟩
theorem KpB.put {n b : Nat} {w : World} (hn : n ≤ w.heap.size) (hb : b < w.heap.size) (W : World) (l : Nat) (o o' : Obj) (hl : w.heap.size ≤ l) (h : W.heap[l]? = some o) (h1 : o.isCells = false) (h2 : o.isWalk = false) : KpB n b W (W.putObj l o') := by
  refine ⟨belowK_b hn W l o o' hl h h1 h2, ?_⟩
  simp only [World.putObj]
  rw [Array.getElem?_setIfInBounds_ne (by omega)]

set_option maxRecDepth 100000 in
set_option maxHeartbeats 2000000 in
theorem back1_in (F : Fence) (n : Nat) (h88 : F.fn 88) (hro : F.round = none) (hn : 1 ≤ n) (l Bs c : Nat) (A : Option Addr) (L : List Int) (hl : L.length ≤ 1000000) (w0 : World) (hC : Kd.C (Kd.int .i64) w0 A L.length L) (J Jx : List (Int × Int) → World → Prop)
    (hY : ∀ pre x W, J pre W → pre.length < L.length → YieldAt F (n - 1) Try.prog l #[.int .i64 x.1, .int .i64 x.2] W fun e W' =>
      (e = .returned (.bool true) ∧ J (pre ++ [x]) W' ∧ KpB w0.heap.size Bs W W') ∨ (e = .returned (.bool false) ∧ Jx (pre ++ [x]) W'))
    (W : World) (hB : Below w0.heap.size w0 W) (hBs : W.heap[Bs]? = some (.cells #[.slice A L.length c] 50 (0, 0))) (h0 : J [] W) :
    CallsIn F n Try.prog 88 #[.func (.yield l) #[] #[], .pointer (some ⟨Bs, 0, none⟩)] W fun e W' => (∃ v, e = .returned v) ∧
      ((∃ ys, ys = dn L L.length ∧ J ys W') ∨ (∃ pre, (∃ k, k ≤ L.length ∧ pre = dn L k) ∧ Jx pre W')) := by
  refine callsIn_of_wp Try.func88 rfl h88 ?_ hro
  simp only [Try.ntmps88, List.size_toArray, List.length_cons, List.length_nil, Nat.reduceAdd, Nat.reduceSub, Array.replicate_succ, Array.replicate_zero, List.push_toArray, List.append_toArray, List.nil_append, List.cons_append]
  have HC := Aside0.mk hC
  have HB := Aside0.mk hB
  have HS := Aside0.mk hBs
  have hb0 : W.cell? ⟨Bs, 0, none⟩ = some (.slice A L.length c) := blk_cell hBs 0
  clear hC hB hBs
  gi_wp2
  gi_loopw [3] (fun i wr => ∃ k : Nat, k ≤ L.length ∧ i = .int .i64 ((L.length : Int) - 1 - (k : Int)) ∧ J (dn L k) wr ∧ Aside0 (KpB w0.heap.size Bs W wr))
    (fun i _ => (intOf i + 1).toNat)
  case atStart => exact ⟨0, Nat.zero_le _, by simp, h0, ⟨Below.refl _ _, rfl⟩⟩
  case round =>
    obtain ⟨k, hk, rfl, hJs, hnx⟩ := hrel
    have hb1 : wr.cell? ⟨Bs, 0, none⟩ = some (.slice A L.length c) := blk_cell (hnx.out.2.trans HS.out) 0
    by_cases hlt : k < L.length
    · obtain ⟨m, hm⟩ : ∃ m : Nat, (L.length : Int) - 1 - (k : Int) = (m : Int) := ⟨L.length - 1 - k, by omega⟩
      have hm' : L.length - 1 - k = m := by omega
      obtain ⟨ad, cc, rfl, hcl, hK, hcc⟩ := Kd.C_get (Kd.C_below HC.out (HB.out.trans hnx.out.1)) 0 (m : Int) (by omega) (by omega)
      have hK' : cc = [.int .i64 (L.getD m 0)] := hK
      subst hK'
      have hx : wr.cell? (ad.add m) = some (.int .i64 (L.getD m 0)) := by
        have := hcc 0 _ rfl
        simpa [Kd.int, Kd.scalar] using this
      clear hK hcl hcc
      have hus := dn_succ L k
      rw [hm, hm'] at hus
      have hnext : (L.length : Int) - 1 - ((k + 1 : Nat) : Int) = (m : Int) - 1 := by omega
      have HM := Aside0.mk hnext
      rw [hm]
      clear hnext hm'
      generalize L.getD m 0 = t at hx hus
      have HU := Aside0.mk hus
      clear hus
      have hmb : m < L.length := by omega
      obtain ⟨fn, tmps, assign, body, hy, hR⟩ := hY _ ((m : Int), t) wr hJs (by rw [dn_length]; exact hlt)
      dsimp only at hy
      clear hm
      gi_wp2
      refine hR.mono ?_
      rintro e W3 (⟨rfl, hJ3, hk3⟩ | ⟨rfl, hJx3⟩)
      · have HK3 := Aside0.mk hk3
        clear hk3
        gi_wp2
        go_roundw
        case rel => exact ⟨k + 1, by omega, by rw [HM.out], by rw [HU.out]; exact hJ3, ⟨hnx.out.trans HK3.out⟩⟩
        case measure => simp [intOf]
      · gi_wp2
        refine bodyPost_ret (results_none rfl _ _ _) rfl ?_
        exact ⟨⟨_, rfl⟩, .inr ⟨_, ⟨k + 1, by omega, HU.out.symm⟩, hJx3⟩⟩
    · obtain rfl : k = L.length := by omega
      have hneg : (L.length : Int) - 1 - (L.length : Int) = -1 := by omega
      rw [hneg]
      gi_wp2
      go_end0
      exact ⟨⟨_, rfl⟩, .inl ⟨_, rfl, hJs⟩⟩

/-- slices.Backward: the list is boxed; the function value captures the box. -/
theorem back_calls (w : World) (A : Option Addr) (n c : Nat) :
    Calls Try.prog 86 #[.slice A n c] w fun e w' => e = .returned (.func (.func 88) #[] #[.pointer (some ⟨w.heap.size, 0, none⟩)]) ∧ w' = w.alloc (.cells #[.slice A n c] 50) := by
  go_enter Try.func86, Try.ntmps86
  go_wp2_with fail
  go_ret
  exact ⟨rfl, rfl⟩

theorem back_stops (F : Fence) (n : Nat) (h88 : F.fn 88) (hro : F.round = none) (hn : 1 ≤ n) (w0 w : World) (Bs c : Nat) (A : Option Addr) (L : List Int) (hl : L.length ≤ 1000000) (hC : Kd.C (Kd.int .i64) w0 A L.length L) (hB : Below w0.heap.size w0 w) (hBs : w.heap[Bs]? = some (.cells #[.slice A L.length c] 50 (0, 0))) :
    SeqStopsK F n Try.prog 88 #[.pointer (some ⟨Bs, 0, none⟩)] (fun x : Int × Int => #[Value.int .i64 x.1, Value.int .i64 x.2]) (KpB w0.heap.size Bs) (fun ys => ys = dn L L.length)
      (fun pre => ∃ k, k ≤ L.length ∧ pre = dn L k) L.length w := fun l J Jx W hW _ _ hY h0 =>
  back1_in F n h88 hro hn l Bs c A L hl w0 hC J Jx hY W (below_then hB hB.size hW) ((hW.block _ (blk_lt hBs)).trans hBs) h0

end Go.Proofs.Ytgcjfobmccoibaa.Gr

/-! The walk of a graph in plain words: what is met, from a stack; its bound. No program here. -/
set_option linter.unusedVariables false
namespace Go.Proofs.Ytgcjfobmccoibaa.Gr

/-- The arguments of node n. -/
def argsOf (ns : List S55) (n : Int) : List Int := (ns.getD n.toNat z55).f3
/-- How many nodes are not met yet. -/
def unmet (N : Nat) (met : List Int) : Nat := ((List.range N).filter fun (i : Nat) => decide ((i : Int) ∉ met)).length
theorem unmet_lt {N : Nat} {met : List Int} {n : Int} (h0 : 0 ≤ n) (h1 : n < N) (hn : n ∉ met) : unmet N (met ++ [n]) < unmet N met := by
  unfold unmet
  obtain ⟨m, rfl⟩ := Int.eq_ofNat_of_zero_le h0
  have hm : m < N := by omega
  have hsub : ((List.range N).filter fun (i : Nat) => decide ((i : Int) ∉ met ++ [(m : Int)])) = ((List.range N).filter fun (i : Nat) => decide ((i : Int) ∉ met)).filter fun (i : Nat) => decide (i ≠ m) := by
    rw [List.filter_filter]
    congr 1
    funext i
    rw [Bool.eq_iff_iff]
    simp only [List.mem_append, List.mem_singleton, decide_eq_true_eq, Bool.and_eq_true, not_or]
    constructor
    · rintro ⟨a, b⟩; exact ⟨fun e => b (by rw [e]), a⟩
    · rintro ⟨a, b⟩; exact ⟨b, fun e => a (by omega)⟩
  rw [hsub]
  have hmem : m ∈ (List.range N).filter fun (i : Nat) => decide ((i : Int) ∉ met) := by
    simp [hm, hn]
  generalize (List.range N).filter (fun (i : Nat) => decide ((i : Int) ∉ met)) = l at hmem
  rcases Nat.lt_or_ge (l.filter fun (i : Nat) => decide (i ≠ m)).length l.length with h | h
  · exact h
  · have he : l.filter (fun (i : Nat) => decide (i ≠ m)) = l := (List.filter_sublist).eq_of_length_le h
    rw [← he] at hmem
    simp at hmem

/-- All numbers of a list are numbers of nodes. -/
def allIn (N : Nat) (l : List Int) : Prop := ∀ a ∈ l, 0 ≤ a ∧ a < (N : Int)
/-- All arguments are numbers of nodes, and at most eight. -/
def goodG (ns : List S55) : Prop := ∀ n : Int, 0 ≤ n → n < (ns.length : Int) → allIn ns.length (argsOf ns n) ∧ (argsOf ns n).length ≤ 8
theorem goodG_of {ns : List S55} {rs : List Int} (h : chk ns rs = []) : goodG ns := fun n h0 h1 => by
  have := chk_arg h (n := n) (by simp [inside]; omega)
  exact ⟨fun a ha => by have := this.1 a ha; simpa [inside] using this, this.2⟩

/-- The walk from a stack. -/
inductive Run (ns : List S55) : List Int → List Int → List Int → Prop
  | nil (met : List Int) : Run ns [] met met
  | seen {n : Int} {t met r : List Int} : n ∈ met → Run ns t met r → Run ns (n :: t) met r
  | new {n : Int} {t met r : List Int} : n ∉ met → Run ns (argsOf ns n ++ t) (met ++ [n]) r → Run ns (n :: t) met r
/-- The walk by recursion: a list of nodes. -/
inductive Meets (ns : List S55) : List Int → List Int → List Int → Prop
  | nil (met : List Int) : Meets ns [] met met
  | seen {n : Int} {t met r : List Int} : n ∈ met → Meets ns t met r → Meets ns (n :: t) met r
  | new {n : Int} {t met m r : List Int} : n ∉ met → Meets ns (argsOf ns n) (met ++ [n]) m → Meets ns t m r → Meets ns (n :: t) met r

theorem Run.fn {ns : List S55} {t met r : List Int} (h : Run ns t met r) : ∀ {r' : List Int}, Run ns t met r' → r = r' := by
  induction h with
  | nil met => intro r' h'; cases h'; rfl
  | seen hn _ ih => intro r' h'; cases h' with
    | seen _ h2 => exact ih h2
    | new h1 _ => exact absurd hn h1
  | new hn _ ih => intro r' h'; cases h' with
    | seen h1 _ => exact absurd h1 hn
    | new _ h2 => exact ih h2
theorem Meets.run {ns : List S55} {l met m : List Int} (h : Meets ns l met m) : ∀ {t r : List Int}, Run ns t m r → Run ns (l ++ t) met r := by
  induction h with
  | nil met => intro t r h'; exact h'
  | seen hn _ ih => intro t r h'; exact .seen hn (ih h')
  | new hn _ _ ih1 ih2 => intro t r h'; exact .new hn (ih1 (ih2 h'))
theorem Meets.run_eq {ns : List S55} {l r r' : List Int} (h : Meets ns l [] r) (h' : Run ns l [] r') : r = r' := by
  have := h.run (Run.nil r)
  rw [List.append_nil] at this
  exact this.fn h'
theorem Meets.ext {ns : List S55} {l met r : List Int} (h : Meets ns l met r) : ∃ e, r = met ++ e := by
  induction h with
  | nil met => exact ⟨[], by simp⟩
  | seen _ _ ih => exact ih
  | new _ _ _ ih1 ih2 =>
    obtain ⟨e1, rfl⟩ := ih1
    obtain ⟨e2, rfl⟩ := ih2
    exact ⟨_, by rw [List.append_assoc, List.append_assoc]⟩

/-- What bounds the rounds. -/
def mu (N : Nat) (t met : List Int) : Nat := unmet N met * 10 + t.length
theorem run_total {ns : List S55} (hg : goodG ns) : ∀ (k : Nat) (t met : List Int), mu ns.length t met ≤ k → allIn ns.length t → ∃ r, Run ns t met r
  | k, [], met, _, _ => ⟨met, .nil met⟩
  | 0, n :: t, met, hk, _ => by simp [mu] at hk
  | k + 1, n :: t, met, hk, ha => by
    have hn := ha n (by simp)
    have ht : allIn ns.length t := fun a h => ha a (by simp [h])
    have hgn := hg n hn.1 hn.2
    by_cases hm : n ∈ met
    · obtain ⟨r, hr⟩ := run_total hg k t met (by simp only [mu, List.length_cons] at hk ⊢; omega) ht
      exact ⟨r, .seen hm hr⟩
    · have hu := unmet_lt hn.1 hn.2 hm
      obtain ⟨r, hr⟩ := run_total hg k (argsOf ns n ++ t) (met ++ [n]) (by simp only [mu, List.length_append, List.length_cons] at hk ⊢; omega) (fun a h => by
        rcases List.mem_append.1 h with h | h
        · exact hgn.1 a h
        · exact ht a h)
      exact ⟨r, .new hm hr⟩

theorem unmet_le (N : Nat) (met e : List Int) : unmet N (met ++ e) ≤ unmet N met := by
  unfold unmet
  have h : ((List.range N).filter fun (i : Nat) => decide ((i : Int) ∉ met ++ e)) = ((List.range N).filter fun (i : Nat) => decide ((i : Int) ∉ met)).filter fun (i : Nat) => decide ((i : Int) ∉ e) := by
    rw [List.filter_filter]
    congr 1
    funext i
    rw [Bool.eq_iff_iff]
    simp only [List.mem_append, decide_eq_true_eq, Bool.and_eq_true, not_or]
    exact ⟨fun ⟨a, b⟩ => ⟨b, a⟩, fun ⟨a, b⟩ => ⟨b, a⟩⟩
  rw [h]
  exact List.length_filter_le _ _
theorem meets_total {ns : List S55} (hg : goodG ns) : ∀ (u : Nat) (l met : List Int), unmet ns.length met ≤ u → allIn ns.length l → ∃ r, Meets ns l met r := by
  intro u
  induction u with
  | zero =>
    intro l
    induction l with
    | nil => exact fun met _ _ => ⟨met, .nil met⟩
    | cons n t ih =>
      intro met hu ha
      have hn := ha n (by simp)
      have ht : allIn ns.length t := fun a h => ha a (by simp [h])
      by_cases hm : n ∈ met
      · obtain ⟨r, hr⟩ := ih met hu ht
        exact ⟨r, .seen hm hr⟩
      · have := unmet_lt hn.1 hn.2 hm
        omega
  | succ u ihu =>
    intro l
    induction l with
    | nil => exact fun met _ _ => ⟨met, .nil met⟩
    | cons n t ih =>
      intro met hu ha
      have hn := ha n (by simp)
      have ht : allIn ns.length t := fun a h => ha a (by simp [h])
      by_cases hm : n ∈ met
      · obtain ⟨r, hr⟩ := ih met hu ht
        exact ⟨r, .seen hm hr⟩
      · have hlt := unmet_lt hn.1 hn.2 hm
        obtain ⟨m, h1⟩ := ihu (argsOf ns n) (met ++ [n]) (by omega) (hg n hn.1 hn.2).1
        obtain ⟨e, he⟩ := h1.ext
        have h2 := unmet_le ns.length (met ++ [n]) e
        rw [← he] at h2
        obtain ⟨r, hr⟩ := ih m (by omega) ht
        exact ⟨r, .new hm h1 hr⟩

/-- Where each node stands among what is met (-1: nowhere). -/
def pl (N : Nat) (met : List Int) : List Int := (List.range N).map fun (i : Nat) => if (i : Int) ∈ met then ((met.idxOf (i : Int) : Nat) : Int) else -1
theorem pl_length (N : Nat) (met : List Int) : (pl N met).length = N := by simp [pl]
theorem pl_get {N : Nat} (met : List Int) {i : Nat} (hi : i < N) : (pl N met).getD i 0 = if (i : Int) ∈ met then ((met.idxOf (i : Int) : Nat) : Int) else -1 := by
  simp [pl, hi]
theorem pl_set {N : Nat} {met : List Int} {n : Nat} (hn : (n : Int) ∉ met) : pl N (met ++ [(n : Int)]) = (pl N met).set n (met.length : Int) := by
  apply List.ext_getElem
  · simp [pl]
  · intro i h1 h2
    rw [List.getElem_set]
    by_cases hin : n = i
    · subst hin
      rw [if_pos rfl]
      simp [pl, List.idxOf_append, hn]
    · rw [if_neg hin]
      have : ¬ (i : Int) = (n : Int) := by omega
      simp only [pl, List.getElem_map, List.getElem_range, List.mem_append, List.mem_singleton, this, or_false]
      split
      · rename_i h; simp [List.idxOf_append, h]
      · rfl

end Go.Proofs.Ytgcjfobmccoibaa.Gr

/-! slices.Reverse of a list of numbers of the call's own: its plain law, its contract. What is asked: how the list lies. -/
set_option linter.unusedSimpArgs false
set_option linter.unusedVariables false
namespace Go.Proofs.Ytgcjfobmccoibaa.Gr
open Go.RowKit Go.Proofs.YtgcjfobmccoibaaW.PrintWords Go.Proofs.YtgcjfobmccoibaaW.PrintLast Go.Proofs.YtgcjfobmccoibaaW.PrintMore
open Go.Proofs.Ytgcjfobmccoibaa.Nm
open Go.Proofs.Ytgcjfobmccoibaa.PGraphChecks

theorem wrap_in {z : Int} (h0 : -9223372036854775808 ≤ z) (h1 : z ≤ 9223372036854775807) : wrap64 z = z := by unfold wrap64; omega
theorem rd_app (a m b : List Int) (z : Int) (i : Int) (hi : i = (a.length : Int)) : rd (a ++ z :: m ++ b) i = z := by
  subst hi
  simp [rd]
theorem rev_loop : ∀ (s k : Nat) (a m b : List Int), m.length ≤ s → s < k → (a ++ m ++ b).length ≤ 1000000 →
    slices_Reverse_int_int.l0 k (a ++ m ++ b) (a.length : Int) ((a.length : Int) + (m.length : Int) - 1) = some (a ++ m.reverse ++ b)
  | s, 0, a, m, b, h, hk, hl => by omega
  | s, k + 1, a, [], b, h, hk, hl => by
    simp only [slices_Reverse_int_int.l0]
    rw [if_neg (by simp; omega)]
    rfl
  | s, k + 1, a, [z], b, h, hk, hl => by
    simp only [slices_Reverse_int_int.l0]
    rw [if_neg (by simp)]
    rfl
  | s, k + 1, a, p :: z :: m, b, h, hk, hl => by
    obtain ⟨m', q, hq⟩ : ∃ m' q, z :: m = m' ++ [q] := ⟨(z :: m).dropLast, (z :: m).getLast (by simp), (List.dropLast_concat_getLast (by simp)).symm⟩
    have hlen : (z :: m).length = m'.length + 1 := by rw [hq]; simp
    simp only [List.length_cons] at hlen h
    rw [hq]
    simp only [List.length_append, List.length_cons, List.length_nil] at hl ⊢
    simp only [slices_Reverse_int_int.l0]
    have e1 : rd (a ++ p :: (m' ++ [q]) ++ b) (a.length : Int) = p := by simp [rd]
    have e2 : rd (a ++ p :: (m' ++ [q]) ++ b) ((a.length : Int) + ((m'.length + (0 + 1) + 1 : Nat) : Int) - 1) = q := by
      have : ((a.length : Int) + ((m'.length + (0 + 1) + 1 : Nat) : Int) - 1).toNat = (a ++ p :: m').length := by simp; omega
      unfold rd
      rw [this, show a ++ p :: (m' ++ [q]) ++ b = (a ++ p :: m') ++ (q :: b) by simp, List.getD_eq_getElem?_getD, List.getElem?_append_right (Nat.le_refl _)]
      simp
    rw [if_pos (by omega), if_pos (by omega), if_pos (by simp; omega), if_pos (by omega), if_pos (by simp; omega), e1, e2]
    have e3 : ((a ++ p :: (m' ++ [q]) ++ b).set ((a.length : Int)).toNat q).set ((a.length : Int) + ((m'.length + (0 + 1) + 1 : Nat) : Int) - 1).toNat p = (a ++ [q]) ++ m' ++ (p :: b) := by
      have h1 : ((a.length : Int) + ((m'.length + (0 + 1) + 1 : Nat) : Int) - 1).toNat = (a ++ q :: m').length := by simp; omega
      rw [h1, Int.toNat_natCast, show a ++ p :: (m' ++ [q]) ++ b = a ++ p :: (m' ++ q :: b) by simp, List.set_append_right _ _ (Nat.le_refl _), Nat.sub_self, List.set_cons_zero, show a ++ q :: (m' ++ q :: b) = (a ++ q :: m') ++ q :: b by simp, List.set_append_right _ _ (Nat.le_refl _), Nat.sub_self, List.set_cons_zero]
      simp
    rw [e3, wrap_in (by omega) (by omega), wrap_in (by omega) (by omega)]
    have ih := rev_loop (s - 2) k (a ++ [q]) m' (p :: b) (by omega) (by omega) (by simp; omega)
    have x1 : (((a ++ [q]).length : Nat) : Int) = (a.length : Int) + 1 := by simp
    rw [x1, show (a.length : Int) + 1 + (m'.length : Int) - 1 = (a.length : Int) + ((m'.length + (0 + 1) + 1 : Nat) : Int) - 1 - 1 by omega] at ih
    rw [ih]
    simp

theorem rev_calls (P0 : Nat → Prop) (v : Value) (L : List Int) (hl : L.length ≤ 1000000) (w0 w : World) (hB : Below w0.heap.size w0 w) (ho : Kd.R (Kd.int .i64) 3 w w0.heap.size P0 v L) :
    Calls Try.prog 85 #[v] w fun e w' => e = .returned (.tuple #[]) ∧ Kd.R (Kd.int .i64) 3 w' w0.heap.size (fun k => P0 k ∨ w.heap.size ≤ k) v L.reverse ∧ Below w0.heap.size w0 w' ∧ Kept w w' P0 := by
  refine slices_Reverse_int_int.calls (L.length + 1) P0 v L L.reverse w0 w hB ho ?_
  unfold slices_Reverse_int_int.f
  rw [wrap_in (by omega) (by omega)]
  have := rev_loop L.length (L.length + 1) [] L [] (Nat.le_refl _) (by omega) (by simpa using hl)
  simpa using this

end Go.Proofs.Ytgcjfobmccoibaa.Gr

/-! moved and turned: numbers turned by a table: plain laws and contracts. What is asked: that all numbers stand in the table. -/
set_option linter.unusedSimpArgs false
set_option linter.unusedVariables false
namespace Go.Proofs.Ytgcjfobmccoibaa.Gr
open Go.RowKit Go.Proofs.YtgcjfobmccoibaaW.PrintWords Go.Proofs.YtgcjfobmccoibaaW.PrintLast Go.Proofs.YtgcjfobmccoibaaW.PrintMore
open Go.Proofs.Ytgcjfobmccoibaa.Nm
open Go.Proofs.Ytgcjfobmccoibaa.PGraphChecks

/-- Numbers turned by a table. -/
def movedL (l tb : List Int) : List Int := l.map fun n => tb.getD n.toNat 0

theorem moved_loop (tb l : List Int) (hl : l.length ≤ 1000000) (ha : allIn tb.length l) : ∀ (d k i : Nat) (acc : List Int), i + d = l.length → d < k → acc.length = i →
    graph_moved.l0 k tb acc l (l.length : Int) (i : Int) = some (acc ++ movedL (l.drop i) tb)
  | 0, k, i, acc, hd, hk, hacc => by
    obtain ⟨k, rfl⟩ : ∃ m, k = m + 1 := ⟨k - 1, by omega⟩
    simp only [graph_moved.l0]
    rw [if_neg (by omega), List.drop_of_length_le (by omega)]
    simp [movedL]
  | d + 1, k, i, acc, hd, hk, hacc => by
    obtain ⟨k, rfl⟩ : ∃ m, k = m + 1 := ⟨k - 1, by omega⟩
    have hi : i < l.length := by omega
    have h1 := ha l[i] (List.getElem_mem hi)
    simp only [graph_moved.l0]
    rw [if_pos (by omega), if_pos (by omega), if_pos (by omega), rd_getD, getD_get 0 hi, if_pos h1.1, if_pos h1.2, if_pos (by omega), wrap_lt hi (by omega), moved_loop tb l hl ha d k (i + 1) _ (by omega) (by omega) (by simp [hacc]), List.drop_eq_getElem_cons hi, List.append_assoc]
    rfl
theorem moved_f (l tb : List Int) (hl : l.length ≤ 1000000) (ha : allIn tb.length l) : graph_moved.f (l.length + 1) l tb = some (movedL l tb) := by
  unfold graph_moved.f
  have := moved_loop tb l hl ha l.length (l.length + 1) 0 [] (by omega) (by omega) rfl
  simpa using this
theorem moved_calls (w : World) (A : Option Addr) (c : Nat) (l : List Int) (B : Option Addr) (c' : Nat) (tb : List Int) (hl : Kd.C (Kd.int .i64) w A l.length l) (hc : l.length ≤ c) (ht : Kd.C (Kd.int .i64) w B tb.length tb) (hc' : tb.length ≤ c') (hs : l.length ≤ 1000000) (ha : allIn tb.length l) :
    Calls Try.prog 72 #[.slice A l.length c, .slice B tb.length c'] w fun e w' => ∃ v, e = .returned v ∧ Kd.R (Kd.int .i64) 3 w' w.heap.size (fun k => w.heap.size ≤ k) v (movedL l tb) ∧ Below w.heap.size w w' := by
  refine (graph_moved.calls (l.length + 1) A c l B c' tb _ w hl hc ht hc' (moved_f l tb hs ha)).mono ?_
  rintro e w' ⟨v, rfl, hR, hB⟩
  exact ⟨v, rfl, Kd.R_mono (Kd.R_bound hR) (fun k hk => hk.2.1), hB⟩
end Go.Proofs.Ytgcjfobmccoibaa.Gr

/-! The marks that loops over an iterator leave among a function's deferred calls, when there are many: all are taken up at the return. -/
set_option linter.unusedSimpArgs false
set_option linter.unusedVariables false
namespace Go.Proofs.Ytgcjfobmccoibaa.Gr
open Go.RowKit Go.Proofs.YtgcjfobmccoibaaW.PrintWords Go.Proofs.YtgcjfobmccoibaaW.PrintLast Go.Proofs.YtgcjfobmccoibaaW.PrintMore
open Go.Proofs.Ytgcjfobmccoibaa.Nm

theorem R_lt {α : Type} {d : Kd α} {e base : Nat} {w : World} {ok : Nat → Prop} {v : Value} {xs : List α} (h : d.R e w base ok v xs) : d.R e w base (fun k => ok k ∧ k < w.heap.size) v xs :=
  Kd.R_mono (Kd.R_bound h) (fun k hk => ⟨hk.1, hk.2.2.1⟩)

def marks (ds : List Nat) : List Deferred := ds.map fun D => { target := .collected D, args := #[] }
/-- The blocks of the marks: unlike, from n0 on, empty. -/
def MarksAt (n0 : Nat) (ds : List Nat) (w : World) : Prop := ds.Nodup ∧ ∀ D ∈ ds, n0 ≤ D ∧ w.heap[D]? = some (.deferred (some []))
theorem MarksAt.step {n0 : Nat} {ds : List Nat} {w w' : World} (h : MarksAt n0 ds w) (hk : ∀ (D : Nat), w.heap[D]? = some (.deferred (some [])) → w'.heap[D]? = some (.deferred (some []))) : MarksAt n0 ds w' :=
  ⟨h.1, fun D hD => ⟨(h.2 D hD).1, hk D (h.2 D hD).2⟩⟩

theorem leaves_marks {F : Fence} {n n0 : Nat} {P : Program} {fn : Func} {tmps : Array Value} {R : Ending → World → Prop} (T : World → Prop)
    (hstep : ∀ w D, n0 ≤ D → T w → w.heap[D]? = some (.deferred (some [])) → T (w.putObj D (.deferred none))) (hend : ∀ w, T w → LeavesIn F n P fn tmps R [] .returning w) :
    ∀ (ds : List Nat) (w : World), MarksAt n0 ds w → T w → LeavesInM F n P fn tmps R (marks ds) .returning w
  | [], w, _, hT => hend w hT
  | D :: ds, w, hm, hT => by
    have hD := hm.2 D (by simp)
    refine ⟨by simp, .inl ⟨_, _, rfl, run_takeDeferred hD.2, ?_⟩⟩
    refine leaves_marks T hstep hend ds _ ⟨(List.nodup_cons.1 hm.1).2, fun E hE => ⟨(hm.2 E (by simp [hE])).1, ?_⟩⟩ (hstep w D hD.1 hT hD.2)
    have hne : E ≠ D := fun e => (List.nodup_cons.1 hm.1).1 (e ▸ hE)
    exact (World.putObj_heap_other hne).trans (hm.2 E (by simp [hE])).2

theorem R_put {w : World} {base : Nat} {ok : Nat → Prop} {v : Value} {xs : List Int} (h : Kd.R (Kd.int .i64) 3 w base ok v xs) {D : Nat} (hd : w.heap[D]? = some (.deferred (some []))) : Kd.R (Kd.int .i64) 3 (w.putObj D (.deferred none)) base ok v xs :=
  Kd.R_of_own (ownsRow_putObj (Kd.own_of_R h) _ hd rfl) h.1
/-- A loop whose rounds carry a ghost g, and whose measure is read off it. -/
theorem wp_loop_ghost {γ : Type} {P : Program} {c : Code} {Q : Exit → Act → World → Prop} {a : Act} {w : World} (I : γ → Act → World → Prop) (m : γ → Nat) (g0 : γ) (h0 : I g0 a w)
    (round : ∀ g a w, I g a w → c.wp P (Exit.then (fun a' w' => ∃ g', I g' a' w' ∧ m g' < m g) Q) a w) : (Code.loop c).wp P Q a w := by
  have key : ∀ (n : Nat) (g : γ) (a : Act) (w : World), I g a w → m g < n → Code.rounds P c Q n a w := by
    intro n
    induction n with
    | zero => intro g a w _ h; omega
    | succ n ih =>
      intro g a w hI hm
      rw [rounds_succ]
      refine Code.wp_mono ?_ (round g a w hI)
      intro e a' w' h
      cases e with
      | normal =>
        obtain ⟨g', hI', hlt⟩ := h
        exact ih g' a' w' hI' (by omega)
      | _ => exact h
  exact wp_loop_rounds (m g0 + 1) (key _ g0 a w h0 (by omega))

end Go.Proofs.Ytgcjfobmccoibaa.Gr
