/- The document's small functions on lists and graphs. What is asked: how they are read. -/
import Derived.Test.YtgcjfobmccoibaaKe
import Derived.Test.YtgcjfobmccoibaaKdR
set_option linter.unusedSimpArgs false
set_option linter.unusedVariables false
namespace Go.Proofs.Ytgcjfobmccoibaa.Gr
open Go.RowKit Go.Proofs.YtgcjfobmccoibaaW.PrintWords Go.Proofs.YtgcjfobmccoibaaW.PrintLast Go.Proofs.YtgcjfobmccoibaaW.PrintMore
open Go.Proofs.Ytgcjfobmccoibaa.Nm
open Go.Proofs.Ytgcjfobmccoibaa.PGraphChecks

theorem ints_loop (a b : List Int) (hab : a.length = b.length) (hl : a.length ≤ 9223372036854775807) : ∀ (d k i : Nat), i + d = a.length → d < k → tendrilref04_Ints.l0 k a b (i : Int) = some (decide (a.drop i = b.drop i))
  | 0, k, i, hd, hk => by
    obtain ⟨k, rfl⟩ : ∃ m, k = m + 1 := ⟨k - 1, by omega⟩
    simp only [tendrilref04_Ints.l0]
    rw [if_neg (by omega), List.drop_of_length_le (by omega), List.drop_of_length_le (by omega)]
    simp
  | d + 1, k, i, hd, hk => by
    obtain ⟨k, rfl⟩ : ∃ m, k = m + 1 := ⟨k - 1, by omega⟩
    have hi : i < a.length := by omega
    have hj : i < b.length := by omega
    simp only [tendrilref04_Ints.l0]
    rw [if_pos (by omega), if_pos (by omega), if_pos (by omega), rd_getD, rd_getD, getD_get 0 hi, getD_get 0 hj, List.drop_eq_getElem_cons hi, List.drop_eq_getElem_cons hj]
    by_cases h : a[i] = b[i]
    · rw [if_pos h, wrap_lt hi hl, ints_loop a b hab hl d k (i + 1) (by omega) (by omega)]
      exact congrArg some (decide_eq_decide.2 ⟨fun e => by rw [h, e], fun e => (List.cons.inj e).2⟩)
    · rw [if_neg h, decide_eq_false (fun e => h (List.cons.inj e).1)]
theorem ints_f (a b : List Int) (hl : a.length ≤ 9223372036854775807) {k : Nat} (hk : a.length < k) : tendrilref04_Ints.f k a b = some (decide (a = b)) := by
  unfold tendrilref04_Ints.f
  by_cases h : a.length = b.length
  · rw [if_pos (by omega), show (0 : Int) = ((0 : Nat) : Int) from rfl, ints_loop a b h hl a.length k 0 (by omega) (by omega)]
    simp
  · rw [if_neg (by omega), decide_eq_false (fun e => h (by rw [e]))]
theorem ints_calls (w : World) (A : Option Addr) (c : Nat) (a : List Int) (B : Option Addr) (c' : Nat) (b : List Int) (ha : Kd.C (Kd.int .i64) w A a.length a) (hc : a.length ≤ c) (hb : Kd.C (Kd.int .i64) w B b.length b) (hc' : b.length ≤ c') :
    Calls Try.prog 47 #[.slice A a.length c, .slice B b.length c'] w fun e w' => e = .returned (.bool (decide (a = b))) ∧ Drawn0 w w' :=
  tendrilref04_Ints.calls (a.length + 1) A c a B c' b _ w ha hc hb hc' (ints_f a b ha.2.1 (by omega))
set_option maxRecDepth 100000 in
set_option maxHeartbeats 2000000 in
theorem rsame_calls (w : World) (A : Option Addr) (c : Nat) (ns : List S55) (A' : Option Addr) (c' : Nat) (rs : List Int) (h : IsG w A c ns A' c' rs) (B : Option Addr) (k : Nat) (ms : List S55) (B' : Option Addr) (k' : Nat) (ss : List Int) (h2 : IsG w B k ms B' k' ss) :
    Calls Try.prog 37 #[gv A c ns A' c' rs, gv B k ms B' k' ss] w fun e w' => e = .returned (.bool (decide (ns = ms ∧ rs = ss))) ∧ Below w.heap.size w w' := by
  simp only [gv]
  have HQ := Aside0.mk (p2_made w (.slice A ns.length c) (.slice A' rs.length c') (.slice B ms.length k) (.slice B' ss.length k'))
  have H1 := Aside0.mk h
  have H2 := Aside0.mk h2
  have hln : ns.length ≤ 9223372036854775807 := h.n.2.1
  clear h h2
  by_cases hab : ns.length = ms.length
  · have d0 : ((ns.length : Int) != (ms.length : Int)) = false := by rw [hab]; simp
    have HAB := Aside0.mk hab
    clear hab
    obtain ⟨b, hb⟩ : ∃ b, decide (ns = ms ∧ rs = ss) = b := ⟨_, rfl⟩
    rw [hb]
    have HBB := Aside0.mk hb
    clear hb
    go_enter Try.func37, Try.ntmps37
    go_wp2_with fail
    refine (ints_calls _ A' c' rs B' k' ss (H1.out.below HQ.out.b).r H1.out.lr (H2.out.below HQ.out.b).r H2.out.lr).mono ?_
    cases hrs : decide (rs = ss) with
    | false =>
      have hv : b = false := by rw [← HBB.out]; exact decide_eq_false (fun e => of_decide_eq_false hrs e.2)
      subst hv
      rintro e w1 ⟨rfl, hd⟩
      go_wp2_with fail
      go_ret
      exact ⟨rfl, (HQ.out.below hd.below).b⟩
    | true =>
      have HBN := Aside0.mk (show b = decide (ns = ms) by rw [← HBB.out]; exact decide_eq_decide.2 ⟨fun e => e.1, fun e => ⟨e, of_decide_eq_true hrs⟩⟩)
      rintro e w1 ⟨rfl, hd⟩
      have HQ1 := Aside0.mk (HQ.out.below hd.below)
      clear HQ hd
      go_wp2_with fail
      go_loopw [5] (fun i wr => ∃ k0 : Nat, k0 ≤ ns.length ∧ i = .int .i64 (k0 : Int) ∧ Aside0 (P2 w (.slice A ns.length c) (.slice A' rs.length c') (.slice B ms.length k) (.slice B' ss.length k') wr ∧ b = decide (ns.drop k0 = ms.drop k0))) (fun i _ => ns.length - (intOf i).toNat)
      case atStart => exact ⟨0, Nat.zero_le _, rfl, ⟨HQ1.out, HBN.out⟩⟩
      case round =>
        clear HQ1
        obtain ⟨k0, hk, rfl, HS⟩ := hrel
        obtain ⟨x0, x1, y0, y1⟩ := HS.out.1.cells
        have y0' : ∀ o, (wr.alloc o).cell? ⟨w.heap.size + 1, 0, none⟩ = some (.slice B ms.length k) := fun o => cell_up y0 o
        by_cases hlt : k0 < ns.length
        · have hlt2 : k0 < ms.length := by have := HAB.out; omega
          obtain ⟨ad, A3, c3, rfl, n0, n1, n2, n3, l3, g3⟩ := node_at (Kd.C_below H1.out.n HS.out.1.b) hlt
          obtain ⟨ad', A4, c4, rfl, m0, m1, m2, m3, l4, g4⟩ := node_at (Kd.C_below H2.out.n HS.out.1.b) hlt2
          have HD := Aside0.mk (show b = decide (ns.getD k0 z55 :: ns.drop (k0 + 1) = ms.getD k0 z55 :: ms.drop (k0 + 1)) by
            rw [HS.out.2, List.drop_eq_getElem_cons hlt, List.drop_eq_getElem_cons hlt2, getD_get z55 hlt, getD_get z55 hlt2])
          generalize ns.getD k0 z55 = x at *
          generalize ms.getD k0 z55 = y at *
          have HG3 := Aside0.mk g3
          have HG4 := Aside0.mk g4
          clear g3 g4
          have M0 := cell_up m0
          have M1 := cell_up m1
          have M2 := cell_up m2
          have M3 := cell_up m3
          have HBa := Aside0.mk ((HS.out.1.below (below_alloc (Below.refl _ wr) (.cells #[.int .i64 x.f0, .string x.f1, .int .i64 x.f2, .slice A3 x.f3.length c3] 55))).below (below_alloc (Below.refl _ _) (.cells #[.int .i64 y.f0, .string y.f1, .int .i64 y.f2, .slice A4 y.f3.length c4] 55)))
          have hne : ¬ (x.f0 = y.f0 ∧ x.f1.toList = y.f1.toList ∧ x.f2 = y.f2 ∧ x.f3 = y.f3) → b = false := fun h => by
            rw [HD.out]
            exact decide_eq_false (fun e => h ((node_eq x y).1 (List.cons.inj e).1))
          by_cases h0 : x.f0 = y.f0
          · have q0 : (x.f0 != y.f0) = false := by simpa using h0
            by_cases h1 : x.f1 = y.f1
            · have q1 : (x.f1.toList != y.f1.toList) = false := by rw [h1]; simp
              have q1' : (x.f1.toList == y.f1.toList) = true := by rw [h1]; simp
              by_cases h2 : x.f2 = y.f2
              · have q2 : (x.f2 != y.f2) = false := by simpa using h2
                have HN3 := Aside0.mk (show b = decide (x.f3 = y.f3 ∧ ns.drop (k0 + 1) = ms.drop (k0 + 1)) by
                  rw [HD.out]
                  exact decide_eq_decide.2 ⟨fun e => ⟨by rw [(List.cons.inj e).1], (List.cons.inj e).2⟩, fun e => by rw [(node_eq x y).2 ⟨h0, by rw [h1], h2, e.1⟩, e.2]⟩)
                clear h0 h1 h2 hne HD
                go_wp2_with fail
                refine (ints_calls _ A3 c3 x.f3 A4 c4 y.f3 (Kd.C_alloc (Kd.C_alloc HG3.out _) _) l3 (Kd.C_alloc (Kd.C_alloc HG4.out _) _) l4).mono ?_
                cases h3 : decide (x.f3 = y.f3) with
                | true =>
                  rintro e w2 ⟨rfl, hd2⟩
                  have HS1 := Aside0.mk (And.intro (HBa.out.below hd2.below) (show b = decide (ns.drop (k0 + 1) = ms.drop (k0 + 1)) by rw [HN3.out]; exact decide_eq_decide.2 ⟨fun e => e.2, fun e => ⟨of_decide_eq_true h3, e⟩⟩))
                  clear HS HBa hd2 HN3 h3
                  go_wp2_with fail
                  go_roundw
                  case rel => exact ⟨k0 + 1, by omega, by go_num, HS1⟩
                  case measure => simp [intOf]; omega
                | false =>
                  rintro e w2 ⟨rfl, hd2⟩
                  have hv : b = false := by rw [HN3.out]; exact decide_eq_false (fun e => of_decide_eq_false h3 e.1)
                  subst hv
                  go_wp2_with fail
                  go_ret
                  exact ⟨rfl, (HBa.out.below hd2.below).b⟩
              · have q2 : (x.f2 != y.f2) = true := by simpa using h2
                obtain rfl := hne (fun e => h2 e.2.2.1)
                clear h0 h1 h2 hne HD
                go_wp2_with fail
                go_ret
                exact ⟨rfl, HBa.out.b⟩
            · have q1' : (x.f1.toList == y.f1.toList) = false := bytes_ne h1
              have q1 : (x.f1.toList != y.f1.toList) = true := by simp only [bne, q1', Bool.not_false]
              obtain rfl := hne (fun e => h1 (text_eq.1 e.2.1))
              clear h0 h1 hne HD
              go_wp2_with fail
              go_ret
              exact ⟨rfl, HBa.out.b⟩
          · have q0 : (x.f0 != y.f0) = true := by simpa using h0
            obtain rfl := hne (fun e => h0 e.1)
            clear h0 hne HD
            go_wp2_with fail
            go_ret
            exact ⟨rfl, HBa.out.b⟩
        · obtain rfl : k0 = ns.length := by omega
          have hv : b = true := by have := HS.out.2; rw [List.drop_length, List.drop_of_length_le (by have := HAB.out; omega)] at this; simpa using this
          subst hv
          go_wp2_with fail
          go_ret
          exact ⟨rfl, HS.out.1.b⟩
  · have d0 : ((ns.length : Int) != (ms.length : Int)) = true := by simp; omega
    rw [decide_eq_false (fun e => hab (by rw [e.1]))]
    go_enter Try.func37, Try.ntmps37
    go_wp2_with fail
    go_ret
    exact ⟨rfl, HQ.out.b⟩

theorem turned_loop (tb l : List Int) (hl : l.length ≤ 1000000) (ha : allIn tb.length l) : ∀ (d k i : Nat) (acc : List Int), i + d = l.length → d < k → acc.length = i →
    tendrilref04_turned.l0 k l tb acc (i : Int) = some (acc ++ movedL (l.drop i) tb)
  | 0, k, i, acc, hd, hk, hacc => by
    obtain ⟨k, rfl⟩ : ∃ m, k = m + 1 := ⟨k - 1, by omega⟩
    simp only [tendrilref04_turned.l0]
    rw [if_neg (by omega), List.drop_of_length_le (by omega)]
    simp [movedL]
  | d + 1, k, i, acc, hd, hk, hacc => by
    obtain ⟨k, rfl⟩ : ∃ m, k = m + 1 := ⟨k - 1, by omega⟩
    have hi : i < l.length := by omega
    have h1 := ha l[i] (List.getElem_mem hi)
    simp only [tendrilref04_turned.l0]
    rw [if_pos (by omega), if_pos (by omega), rd_getD, getD_get 0 hi, if_pos h1.1, if_pos h1.2, if_pos (by omega), wrap_lt hi (by omega), turned_loop tb l hl ha d k (i + 1) _ (by omega) (by omega) (by simp [hacc]), List.drop_eq_getElem_cons hi, List.append_assoc]
    rfl
theorem turned_f (l tb : List Int) (hl : l.length ≤ 1000000) (ha : allIn tb.length l) : tendrilref04_turned.f (l.length + 1) l tb = some (movedL l tb) := by
  unfold tendrilref04_turned.f
  have := turned_loop tb l hl ha l.length (l.length + 1) 0 [] (by omega) (by omega) rfl
  simpa using this
theorem turned_calls (w : World) (A : Option Addr) (c : Nat) (l : List Int) (B : Option Addr) (c' : Nat) (tb : List Int) (hl : Kd.C (Kd.int .i64) w A l.length l) (hc : l.length ≤ c) (ht : Kd.C (Kd.int .i64) w B tb.length tb) (hc' : tb.length ≤ c') (hs : l.length ≤ 1000000) (ha : allIn tb.length l) :
    Calls Try.prog 79 #[.slice A l.length c, .slice B tb.length c'] w fun e w' => ∃ v, e = .returned v ∧ Kd.R (Kd.int .i64) 3 w' w.heap.size (fun k => w.heap.size ≤ k) v (movedL l tb) ∧ Below w.heap.size w w' := by
  refine (tendrilref04_turned.calls (l.length + 1) A c l B c' tb _ w hl hc ht hc' (turned_f l tb hs ha)).mono ?_
  rintro e w' ⟨v, rfl, hR, hB⟩
  exact ⟨v, rfl, Kd.R_mono (Kd.R_bound hR) (fun k hk => hk.2.1), hB⟩

end Go.Proofs.Ytgcjfobmccoibaa.Gr
