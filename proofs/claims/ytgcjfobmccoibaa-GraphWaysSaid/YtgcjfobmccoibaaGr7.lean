/- Same of two graphs, by its walk. What is asked: how the graphs are read. -/
import Derived.Test.YtgcjfobmccoibaaGr6
set_option linter.unusedSimpArgs false
set_option linter.unusedVariables false
namespace Go.Proofs.Ytgcjfobmccoibaa.Gr
open Go.RowKit Go.Proofs.YtgcjfobmccoibaaW.PrintWords Go.Proofs.YtgcjfobmccoibaaW.PrintLast Go.Proofs.YtgcjfobmccoibaaW.PrintMore
open Go.Proofs.Ytgcjfobmccoibaa.Nm

def nv (x : S55) (A : Option Addr) (c : Nat) : Value := .agg #[.int .i64 x.f0, .string x.f1, .int .i64 x.f2, .slice A x.f3.length c]

set_option maxRecDepth 100000 in
set_option maxHeartbeats 2000000 in
theorem same1_calls (w : World) (x y : S55) (A : Option Addr) (c : Nat) (B : Option Addr) (c' : Nat) (hx : Kd.C (Kd.int .i64) w A x.f3.length x.f3) (hc : x.f3.length ≤ c) (hy : Kd.C (Kd.int .i64) w B y.f3.length y.f3) (hc' : y.f3.length ≤ c') :
    Calls Try.prog 73 #[nv x A c, nv y B c'] w fun e w' => e = .returned (.bool (decide (x = y))) ∧ Below w.heap.size w w' := by
  simp only [nv]
  have HX := Aside0.mk (Kd.C_alloc (Kd.C_alloc hx (.cells #[.int .i64 x.f0, .string x.f1, .int .i64 x.f2, .slice A x.f3.length c] 55)) (.cells #[.int .i64 y.f0, .string y.f1, .int .i64 y.f2, .slice B y.f3.length c'] 55))
  have HY := Aside0.mk (Kd.C_alloc (Kd.C_alloc hy (.cells #[.int .i64 x.f0, .string x.f1, .int .i64 x.f2, .slice A x.f3.length c] 55)) (.cells #[.int .i64 y.f0, .string y.f1, .int .i64 y.f2, .slice B y.f3.length c'] 55))
  have HB := Aside0.mk (((Below.refl w.heap.size w).alloc (Nat.le_refl _) (.cells #[.int .i64 x.f0, .string x.f1, .int .i64 x.f2, .slice A x.f3.length c] 55)).alloc (by simp) (.cells #[.int .i64 y.f0, .string y.f1, .int .i64 y.f2, .slice B y.f3.length c'] 55))
  clear hx hy
  have hne := fun h => decide_eq_false (mt (node_eq x y).1 h)
  by_cases h0 : x.f0 = y.f0
  · have d0 : (x.f0 == y.f0) = true := by simpa using h0
    by_cases h1 : x.f1 = y.f1
    · have d1 : (x.f1.toList == y.f1.toList) = true := by rw [h1]; simp
      by_cases h2 : x.f2 = y.f2
      · have d2 : (x.f2 == y.f2) = true := by simpa using h2
        have hv : decide (x = y) = decide (x.f3 = y.f3) := decide_eq_decide.2 ⟨fun e => by rw [e], fun e => (node_eq x y).2 ⟨h0, by rw [h1], h2, e⟩⟩
        rw [hv]
        clear hv hne h0 h1 h2
        go_enter Try.func73, Try.ntmps73
        go_wp2_with fail
        refine (equal_calls _ A c x.f3 B c' y.f3 HX.out hc HY.out hc').mono ?_
        rintro e w1 ⟨rfl, hd⟩
        go_wp2_with fail
        go_ret
        exact ⟨rfl, below_then HB.out HB.out.size hd.below⟩
      · have d2 : (x.f2 == y.f2) = false := by simpa using h2
        rw [hne (fun e => h2 e.2.2.1)]
        clear hne h0 h1 h2
        go_enter Try.func73, Try.ntmps73
        go_wp2_with fail
        go_ret
        exact ⟨rfl, HB.out⟩
    · have d1 : (x.f1.toList == y.f1.toList) = false := bytes_ne h1
      rw [hne (fun e => h1 (text_eq.1 e.2.1))]
      clear hne h0 h1
      go_enter Try.func73, Try.ntmps73
      go_wp2_with fail
      go_ret
      exact ⟨rfl, HB.out⟩
  · have d0 : (x.f0 == y.f0) = false := by simpa using h0
    rw [hne (fun e => h0 e.1)]
    clear hne h0
    go_enter Try.func73, Try.ntmps73
    go_wp2_with fail
    go_ret
    exact ⟨rfl, HB.out⟩

theorem cell_up {w : World} {p : Addr} {v : Value} (h : w.cell? p = some v) (o : Obj) : (w.alloc o).cell? p = some v := ((below_alloc (Below.refl _ w) o).cell (World.block_lt_of_cell? w _ h)).trans h

set_option maxRecDepth 100000 in
set_option maxHeartbeats 2000000 in
theorem equalF_calls (w : World) (A : Option Addr) (c : Nat) (ns : List S55) (B : Option Addr) (k0 : Nat) (ms : List S55) (hn : Kd.C k55 w A ns.length ns) (hm : Kd.C k55 w B ms.length ms) :
    Calls Try.prog 75 #[.slice A ns.length c, .slice B ms.length k0, .func (.func 73) #[] #[]] w fun e w' => e = .returned (.bool (decide (ns = ms))) ∧ Below w.heap.size w w' := by
  have HN := Aside0.mk hn
  have HM := Aside0.mk hm
  have hln : ns.length ≤ 9223372036854775807 := hn.2.1
  clear hn hm
  by_cases hab : ns.length = ms.length
  · have d0 : ((ns.length : Int) != (ms.length : Int)) = false := by rw [hab]; simp
    have HAB := Aside0.mk hab
    clear hab
    obtain ⟨b, hb⟩ : ∃ b, decide (ns = ms) = b := ⟨_, rfl⟩
    rw [hb]
    have HBB := Aside0.mk hb
    clear hb
    go_enter Try.func75, Try.ntmps75
    go_wp2_with fail
    go_loopw [17] (fun i wr => ∃ k : Nat, k ≤ ns.length ∧ i = .int .i64 (k : Int) ∧ Aside0 (Below w.heap.size w wr ∧ b = decide (ns.drop k = ms.drop k))) (fun i _ => ns.length - (intOf i).toNat)
    case atStart => exact ⟨0, Nat.zero_le _, rfl, ⟨Below.refl _ _, HBB.out.symm⟩⟩
    case round =>
      obtain ⟨k, hk, rfl, HS⟩ := hrel
      by_cases hlt : k < ns.length
      · have hlt2 : k < ms.length := by have := HAB.out; omega
        obtain ⟨ad, A3, c3, rfl, n0, n1, n2, n3, l3, g3⟩ := node_at (Kd.C_below HN.out HS.out.1) hlt
        obtain ⟨ad', A4, c4, rfl, m0, m1, m2, m3, l4, g4⟩ := node_at (Kd.C_below HM.out HS.out.1) hlt2
        have HD := Aside0.mk (show b = decide (ns.getD k z55 :: ns.drop (k + 1) = ms.getD k z55 :: ms.drop (k + 1)) by
          rw [HS.out.2, List.drop_eq_getElem_cons hlt, List.drop_eq_getElem_cons hlt2, getD_get z55 hlt, getD_get z55 hlt2])
        generalize ns.getD k z55 = x at *
        generalize ms.getD k z55 = y at *
        have HG3 := Aside0.mk g3
        have HG4 := Aside0.mk g4
        clear g3 g4
        have M0 := cell_up m0
        have M1 := cell_up m1
        have M2 := cell_up m2
        have M3 := cell_up m3
        go_wp2_with fail
        refine (same1_calls _ x y A3 c3 A4 c4 (Kd.C_alloc (Kd.C_alloc HG3.out _) _) l3 (Kd.C_alloc (Kd.C_alloc HG4.out _) _) l4).mono ?_
        clear M0 M1 M2 M3 n0 n1 n2 n3 m0 m1 m2 m3
        have HB2 := Aside0.mk ((HS.out.1.alloc HS.out.1.size (.cells #[.int .i64 x.f0, .string x.f1, .int .i64 x.f2, .slice A3 x.f3.length c3] 55)).alloc (by have := HS.out.1.size; simp; omega) (.cells #[.int .i64 y.f0, .string y.f1, .int .i64 y.f2, .slice A4 y.f3.length c4] 55))
        cases hxy : decide (x = y) with
        | true =>
          rintro e w1 ⟨rfl, hB1⟩
          have HS1 : Aside0 (Below w.heap.size w w1 ∧ b = decide (ns.drop (k + 1) = ms.drop (k + 1))) :=
            ⟨below_then HB2.out HB2.out.size hB1, by rw [HD.out, of_decide_eq_true hxy]; exact decide_eq_decide.2 ⟨fun e => (List.cons.inj e).2, fun e => by rw [e]⟩⟩
          clear HS HD hB1 HB2 hxy
          go_wp2_with fail
          go_roundw
          case rel => exact ⟨k + 1, by omega, by go_num, HS1⟩
          case measure => simp [intOf]; omega
        | false =>
          rintro e w1 ⟨rfl, hB1⟩
          have HB1 := Aside0.mk (below_then HB2.out HB2.out.size hB1)
          have hv : b = false := by rw [HD.out]; exact decide_eq_false (fun e => of_decide_eq_false hxy (List.cons.inj e).1)
          subst hv
          clear HS HD hB1 HB2 hxy
          go_wp2_with fail
          go_ret
          exact ⟨rfl, HB1.out⟩
      · obtain rfl : k = ns.length := by omega
        have hv : b = true := by have := HS.out.2; rw [List.drop_length, List.drop_of_length_le (by have := HAB.out; omega)] at this; simpa using this
        subst hv
        go_wp2_with fail
        go_ret
        exact ⟨rfl, HS.out.1⟩
  · have d0 : ((ns.length : Int) != (ms.length : Int)) = true := by simp; omega
    rw [decide_eq_false (fun e => hab (by rw [e]))]
    go_enter Try.func75, Try.ntmps75
    go_wp2_with fail
    go_ret
    exact ⟨rfl, Below.refl _ _⟩

set_option maxRecDepth 100000 in
set_option maxHeartbeats 1000000 in
theorem same_calls4 (w : World) (A : Option Addr) (c : Nat) (ns : List S55) (A' : Option Addr) (c' : Nat) (rs : List Int) (h : IsG w A c ns A' c' rs) (B : Option Addr) (k : Nat) (ms : List S55) (B' : Option Addr) (k' : Nat) (ss : List Int) (h2 : IsG w B k ms B' k' ss) :
    Calls Try.prog 41 #[gv A c ns A' c' rs, gv B k ms B' k' ss] w fun e w' => e = .returned (.bool (decide (ns = ms ∧ rs = ss))) ∧ Below w.heap.size w w' := by
  simp only [gv]
  have HB := Aside0.mk (((Below.refl w.heap.size w).alloc (Nat.le_refl _) (.cells #[.slice A ns.length c, .slice A' rs.length c'] 52)).alloc (by simp) (.cells #[.slice B ms.length k, .slice B' ss.length k'] 52))
  have HX := Aside0.mk (blk_old (.cells #[.slice B ms.length k, .slice B' ss.length k'] 52) (blk_last w (.cells #[.slice A ns.length c, .slice A' rs.length c'] 52)))
  have HY := Aside0.mk (blk_last (w.alloc (.cells #[.slice A ns.length c, .slice A' rs.length c'] 52)) (.cells #[.slice B ms.length k, .slice B' ss.length k'] 52))
  rw [World.size_alloc] at HY
  have H1 := Aside0.mk (h.below (((Below.refl w.heap.size w).alloc (Nat.le_refl _) (.cells #[.slice A ns.length c, .slice A' rs.length c'] 52)).alloc (by simp) (.cells #[.slice B ms.length k, .slice B' ss.length k'] 52)))
  have H2 := Aside0.mk (h2.below (((Below.refl w.heap.size w).alloc (Nat.le_refl _) (.cells #[.slice A ns.length c, .slice A' rs.length c'] 52)).alloc (by simp) (.cells #[.slice B ms.length k, .slice B' ss.length k'] 52)))
  clear h h2
  obtain ⟨b, hb⟩ : ∃ b, decide (ns = ms ∧ rs = ss) = b := ⟨_, rfl⟩
  rw [hb]
  have HBB := Aside0.mk hb
  clear hb
  go_enter Try.func41, Try.ntmps41
  go_wp2_with fail
  refine (equalF_calls _ A c ns B k ms H1.out.n H2.out.n).mono ?_
  cases hn : decide (ns = ms) with
  | true =>
    rintro e w1 ⟨rfl, hB1⟩
    have hx1 : w1.cell? ⟨w.heap.size, 1, none⟩ = some (.slice A' rs.length c') := blk_cell ((hB1.block _ (blk_lt HX.out)).trans HX.out) 1
    have hy1 : w1.cell? ⟨w.heap.size + 1, 1, none⟩ = some (.slice B' ss.length k') := blk_cell ((hB1.block _ (blk_lt HY.out)).trans HY.out) 1
    have H11 := Aside0.mk (H1.out.below hB1)
    have H22 := Aside0.mk (H2.out.below hB1)
    have HB1 := Aside0.mk (below_then HB.out HB.out.size hB1)
    clear hB1 H1 H2 HX HY HB
    go_wp2_with fail
    refine (equal_calls _ A' c' rs B' k' ss H11.out.r H11.out.lr H22.out.r H22.out.lr).mono ?_
    have hv : b = decide (rs = ss) := by rw [← HBB.out]; exact decide_eq_decide.2 ⟨fun e => e.2, fun e => ⟨of_decide_eq_true hn, e⟩⟩
    subst hv
    rintro e w2 ⟨rfl, hd⟩
    go_wp2_with fail
    go_ret
    exact ⟨rfl, below_then HB1.out HB1.out.size hd.below⟩
  | false =>
    rintro e w1 ⟨rfl, hB1⟩
    have hv : b = false := by rw [← HBB.out]; exact decide_eq_false (fun e => of_decide_eq_false hn e.1)
    subst hv
    go_wp2_with fail
    go_ret
    exact ⟨rfl, below_then HB.out HB.out.size hB1⟩

end Go.Proofs.Ytgcjfobmccoibaa.Gr
