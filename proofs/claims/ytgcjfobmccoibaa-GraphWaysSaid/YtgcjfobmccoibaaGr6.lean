/- Plain laws of the small reference functions (Small, Ints, Same, At) and of slices.Equal; their contracts. What is asked: how the graphs and lists are read; that no list is too long, where the sentence says so. -/
import Derived.Test.YtgcjfobmccoibaaGrQ1
import Derived.Test.YtgcjfobmccoibaaGrQ2
import Derived.Test.YtgcjfobmccoibaaGr4
import Derived.Test.YtgcjfobmccoibaaNm5
set_option linter.unusedSimpArgs false
set_option linter.unusedVariables false
namespace Go.Proofs.Ytgcjfobmccoibaa.Gr
open Go.RowKit Go.Proofs.YtgcjfobmccoibaaW.PrintWords Go.Proofs.YtgcjfobmccoibaaW.PrintLast Go.Proofs.YtgcjfobmccoibaaW.PrintMore
open Go.Proofs.Ytgcjfobmccoibaa.Nm
open Go.Proofs.Ytgcjfobmccoibaa.PGraphChecks

instance : DecidableEq S55 := fun a b => decidable_of_iff (a.f0 = b.f0 ∧ a.f1 = b.f1 ∧ a.f2 = b.f2 ∧ a.f3 = b.f3)
  ⟨fun ⟨h0, h1, h2, h3⟩ => by cases a; cases b; simp_all, fun h => by subst h; exact ⟨rfl, rfl, rfl, rfl⟩⟩

/-- Have all nodes of a list at most m arguments? -/
def argsLe (m : Nat) (ns : List S55) : Bool := ns.all fun x => decide (x.f3.length ≤ m)
def smallB (ns : List S55) (rs : List Int) (N : Nat) : Bool := decide (ns.length ≤ N) && (decide (rs.length ≤ N) && argsLe 40 ns)

theorem rdT (ns : List S55) (i : Nat) : rd_T55 ns (i : Int) = ns.getD i z55 := rfl
theorem getD_get {α : Type} {l : List α} {i : Nat} (d : α) (h : i < l.length) : l.getD i d = l[i] := by simp [h]

theorem small_loop (ns : List S55) (hl : ns.length ≤ 1000000) : ∀ (d k i : Nat), i + d = ns.length → d < k → tendrilhand_Small.l0 k ns (ns.length : Int) (i : Int) = some (argsLe 40 (ns.drop i))
  | 0, k, i, hd, hk => by
    obtain ⟨k, rfl⟩ : ∃ m, k = m + 1 := ⟨k - 1, by omega⟩
    simp only [tendrilhand_Small.l0]
    rw [if_neg (by omega), List.drop_of_length_le (by omega)]
    rfl
  | d + 1, k, i, hd, hk => by
    obtain ⟨k, rfl⟩ : ∃ m, k = m + 1 := ⟨k - 1, by omega⟩
    have hi : i < ns.length := by omega
    simp only [tendrilhand_Small.l0]
    rw [if_pos (by omega), if_pos (by omega), if_pos (by omega), rdT, getD_get z55 hi, List.drop_eq_getElem_cons hi]
    by_cases h : (ns[i].f3.length : Int) > 40
    · rw [if_pos h]
      have : ¬ ns[i].f3.length ≤ 40 := by omega
      unfold argsLe
      rw [List.all_cons, decide_eq_false this, Bool.false_and]
    · rw [if_neg h, wrap_one (by omega), small_loop ns hl d k (i + 1) (by omega) (by omega)]
      have : ns[i].f3.length ≤ 40 := by omega
      unfold argsLe
      rw [List.all_cons, decide_eq_true this, Bool.true_and]
theorem small_f (ns : List S55) (rs : List Int) (N : Nat) (hN : N ≤ 1000) {k : Nat} (hk : 1010 ≤ k) : tendrilhand_Small.f k ns rs (N : Int) = some (smallB ns rs N) := by
  obtain ⟨k, rfl⟩ : ∃ m, k = m + 1 := ⟨k - 1, by omega⟩
  unfold tendrilhand_Small.f smallB
  by_cases h1 : ns.length ≤ N
  · rw [if_neg (by omega)]
    by_cases h2 : rs.length ≤ N
    · rw [decide_eq_false (by omega)]
      simp only [tendrilhand_Small.j0]
      rw [if_neg (by simp), show (0 : Int) = ((0 : Nat) : Int) from rfl, small_loop ns (by omega) ns.length k 0 (by omega) (by omega), decide_eq_true h1, decide_eq_true h2]
      simp
    · rw [decide_eq_true (by omega)]
      simp only [tendrilhand_Small.j0]
      simp [h2]
  · rw [if_pos (by omega)]
    simp only [tendrilhand_Small.j0]
    simp [h1]
theorem large_calls (w : World) (A : Option Addr) (c : Nat) (ns : List S55) (A' : Option Addr) (c' : Nat) (rs : List Int) (h : IsG w A c ns A' c' rs) :
    Calls Try.prog 34 #[gv A c ns A' c' rs] w fun e w' => e = .returned (.bool (!smallB ns rs 300)) ∧ Below w.heap.size w w' := by
  refine (tendrillaw04_large.calls 1010 A c ns A' c' rs (!smallB ns rs 300) w h.n h.ln h.r h.lr ?_).mono ?_
  · unfold tendrillaw04_large.f
    have := small_f ns rs 300 (by omega) (k := 1010) (by omega)
    rw [show ((300 : Nat) : Int) = 300 from rfl] at this
    rw [this]; rfl
  · rintro e w' ⟨rfl, hd⟩
    exact ⟨rfl, by first | exact hd | exact hd.below⟩

theorem wrap_lt {i n : Nat} (h : i < n) (hn : n ≤ 9223372036854775807) : wrap64 ((i : Int) + 1) = ((i + 1 : Nat) : Int) := wrap_one (by omega)
theorem ints_loop (a b : List Int) (hab : a.length = b.length) (hl : a.length ≤ 9223372036854775807) : ∀ (d k i : Nat), i + d = a.length → d < k → tendrilref04_Ints.l0 k a b (i : Int) = some (decide (a.drop i = b.drop i))
  | 0, k, i, hd, hk => by
    obtain ⟨k, rfl⟩ : ∃ m, k = m + 1 := ⟨k - 1, by omega⟩
    simp only [tendrilref04_Ints.l0]
    rw [if_neg (by omega), List.drop_of_length_le (by omega), List.drop_of_length_le (by omega)]
    simp
  | d + 1, k, i, hd, hk => by
    obtain ⟨k, rfl⟩ : ∃ m, k = m + 1 := ⟨k - 1, by omega⟩
    have hi : i < a.length := by omega
    have hj : i < b.length := by omega
    simp only [tendrilref04_Ints.l0]
    rw [if_pos (by omega), if_pos (by omega), if_pos (by omega), rd_getD, rd_getD, getD_get 0 hi, getD_get 0 hj, List.drop_eq_getElem_cons hi, List.drop_eq_getElem_cons hj]
    by_cases h : a[i] = b[i]
    · rw [if_pos h, wrap_lt hi hl, ints_loop a b hab hl d k (i + 1) (by omega) (by omega)]
      exact congrArg some (decide_eq_decide.2 ⟨fun e => by rw [h, e], fun e => (List.cons.inj e).2⟩)
    · rw [if_neg h, decide_eq_false (fun e => h (List.cons.inj e).1)]
theorem ints_f (a b : List Int) (hl : a.length ≤ 9223372036854775807) {k : Nat} (hk : a.length < k) : tendrilref04_Ints.f k a b = some (decide (a = b)) := by
  unfold tendrilref04_Ints.f
  by_cases h : a.length = b.length
  · rw [if_pos (by omega), show (0 : Int) = ((0 : Nat) : Int) from rfl, ints_loop a b h hl a.length k 0 (by omega) (by omega)]
    simp
  · rw [if_neg (by omega), decide_eq_false (fun e => h (by rw [e]))]
theorem equal_loop (a b : List Int) (hab : a.length = b.length) (hl : a.length ≤ 9223372036854775807) : ∀ (d k i : Nat), i + d = a.length → d < k → slices_Equal_int_int.l0 k a b (a.length : Int) (i : Int) = some (decide (a.drop i = b.drop i))
  | 0, k, i, hd, hk => by
    obtain ⟨k, rfl⟩ : ∃ m, k = m + 1 := ⟨k - 1, by omega⟩
    simp only [slices_Equal_int_int.l0]
    rw [if_neg (by omega), List.drop_of_length_le (by omega), List.drop_of_length_le (by omega)]
    simp
  | d + 1, k, i, hd, hk => by
    obtain ⟨k, rfl⟩ : ∃ m, k = m + 1 := ⟨k - 1, by omega⟩
    have hi : i < a.length := by omega
    have hj : i < b.length := by omega
    simp only [slices_Equal_int_int.l0]
    rw [if_pos (by omega), if_pos (by omega), if_pos (by omega), if_pos (by omega), rd_getD, rd_getD, getD_get 0 hi, getD_get 0 hj, List.drop_eq_getElem_cons hi, List.drop_eq_getElem_cons hj]
    by_cases h : a[i] = b[i]
    · rw [if_pos h, wrap_lt hi hl, equal_loop a b hab hl d k (i + 1) (by omega) (by omega)]
      exact congrArg some (decide_eq_decide.2 ⟨fun e => by rw [h, e], fun e => (List.cons.inj e).2⟩)
    · rw [if_neg h, decide_eq_false (fun e => h (List.cons.inj e).1)]
theorem equal_calls (w : World) (A : Option Addr) (c : Nat) (a : List Int) (B : Option Addr) (c' : Nat) (b : List Int) (ha : Kd.C (Kd.int .i64) w A a.length a) (hc : a.length ≤ c) (hb : Kd.C (Kd.int .i64) w B b.length b) (hc' : b.length ≤ c') :
    Calls Try.prog 74 #[.slice A a.length c, .slice B b.length c'] w fun e w' => e = .returned (.bool (decide (a = b))) ∧ Drawn0 w w' := by
  refine slices_Equal_int_int.calls (a.length + 1) A c a B c' b _ w ha hc hb hc' ?_
  unfold slices_Equal_int_int.f
  by_cases h : a.length = b.length
  · rw [if_pos (by omega), show (0 : Int) = ((0 : Nat) : Int) from rfl, equal_loop a b h ha.2.1 a.length (a.length + 1) 0 (by omega) (by omega)]
    simp
  · rw [if_neg (by omega), decide_eq_false (fun e => h (by rw [e]))]
theorem ints_calls (w : World) (A : Option Addr) (c : Nat) (a : List Int) (B : Option Addr) (c' : Nat) (b : List Int) (ha : Kd.C (Kd.int .i64) w A a.length a) (hc : a.length ≤ c) (hb : Kd.C (Kd.int .i64) w B b.length b) (hc' : b.length ≤ c') :
    Calls Try.prog 47 #[.slice A a.length c, .slice B b.length c'] w fun e w' => e = .returned (.bool (decide (a = b))) ∧ Drawn0 w w' :=
  tendrilref04_Ints.calls (a.length + 1) A c a B c' b _ w ha hc hb hc' (ints_f a b ha.2.1 (by omega))

theorem text_eq {a b : ByteArray} : a.toList = b.toList ↔ a = b := by
  constructor
  · intro h
    by_cases e : a = b
    · exact e
    · have := bytes_ne e
      rw [h] at this
      simp at this
  · intro h; rw [h]
theorem node_eq (x y : S55) : x = y ↔ x.f0 = y.f0 ∧ x.f1.toList = y.f1.toList ∧ x.f2 = y.f2 ∧ x.f3 = y.f3 := by
  rw [text_eq]
  cases x; cases y
  simp
theorem argsLe_get {m : Nat} {ns : List S55} (h : argsLe m ns = true) {i : Nat} (hi : i < ns.length) : ns[i].f3.length ≤ m := by
  have := List.all_eq_true.1 h ns[i] (List.getElem_mem hi)
  simpa using this
theorem rsame_loop (ns ms : List S55) (rs ss : List Int) (hab : ns.length = ms.length) (hl : ns.length ≤ 9223372036854775807) (M : Nat) (hM : argsLe M ns = true) (hM2 : M ≤ 1000000) : ∀ (d k i : Nat), i + d = ns.length → d + M + 1 < k →
    tendrilref04_Same.l0 k (i : Int) ns rs ms ss = some (decide (ns.drop i = ms.drop i))
  | 0, k, i, hd, hk => by
    obtain ⟨k, rfl⟩ : ∃ m, k = m + 1 := ⟨k - 1, by omega⟩
    simp only [tendrilref04_Same.l0]
    rw [if_neg (by omega), List.drop_of_length_le (by omega), List.drop_of_length_le (by omega)]
    simp
  | d + 1, k, i, hd, hk => by
    obtain ⟨k, rfl⟩ : ∃ m, k = m + 1 := ⟨k - 1, by omega⟩
    have hi : i < ns.length := by omega
    have hj : i < ms.length := by omega
    have ha := argsLe_get hM hi
    simp only [tendrilref04_Same.l0]
    rw [if_pos (by omega), if_pos (by omega), if_pos (by omega), rdT, rdT, getD_get z55 hi, getD_get z55 hj, List.drop_eq_getElem_cons hi, List.drop_eq_getElem_cons hj]
    have hno : ns[i] ≠ ms[i] → (some false : Option Bool) = some (decide (ns[i] :: ns.drop (i + 1) = ms[i] :: ms.drop (i + 1))) := fun h => by rw [decide_eq_false (fun e => h (List.cons.inj e).1)]
    have hne := mt (node_eq ns[i] ms[i]).1
    by_cases h0 : ns[i].f0 = ms[i].f0
    · rw [if_pos h0]
      by_cases h1 : ns[i].f1.toList = ms[i].f1.toList
      · rw [if_pos h1]
        by_cases h2 : ns[i].f2 = ms[i].f2
        · rw [if_pos h2, ints_f _ _ (by omega) (by omega)]
          by_cases h3 : ns[i].f3 = ms[i].f3
          · rw [decide_eq_true h3]
            simp only [Option.bind_some, if_true]
            rw [wrap_lt hi hl, rsame_loop ns ms rs ss hab hl M hM hM2 d k (i + 1) (by omega) (by omega)]
            have he : ns[i] = ms[i] := (node_eq _ _).2 ⟨h0, h1, h2, h3⟩
            exact congrArg some (decide_eq_decide.2 ⟨fun e => by rw [he, e], fun e => (List.cons.inj e).2⟩)
          · rw [decide_eq_false h3]
            exact hno (hne (fun e => h3 e.2.2.2))
        · rw [if_neg h2]; exact hno (hne (fun e => h2 e.2.2.1))
      · rw [if_neg h1]; exact hno (hne (fun e => h1 e.2.1))
    · rw [if_neg h0]; exact hno (hne (fun e => h0 e.1))
theorem rsame_f (ns : List S55) (rs : List Int) (ms : List S55) (ss : List Int) (hl : ns.length ≤ 9223372036854775807) (hr : rs.length ≤ 9223372036854775807) (M : Nat) (hM : argsLe M ns = true) (hM2 : M ≤ 1000000) {k : Nat} (hk : ns.length + rs.length + M + 5 < k) :
    tendrilref04_Same.f k ns rs ms ss = some (decide (ns = ms ∧ rs = ss)) := by
  obtain ⟨k, rfl⟩ : ∃ m, k = m + 1 := ⟨k - 1, by omega⟩
  unfold tendrilref04_Same.f
  by_cases h : ns.length = ms.length
  · rw [if_pos (by omega), ints_f rs ss hr (by omega)]
    simp only [Option.bind_some, tendrilref04_Same.j0]
    by_cases h2 : rs = ss
    · rw [decide_eq_true h2, if_neg (by simp), show (0 : Int) = ((0 : Nat) : Int) from rfl, rsame_loop ns ms rs ss h hl M hM hM2 ns.length k 0 (by omega) (by omega)]
      simp [h2]
    · rw [decide_eq_false h2, if_pos (by simp)]
      simp [h2]
  · rw [if_neg (by omega)]
    simp only [tendrilref04_Same.j0, if_true]
    rw [decide_eq_false (fun e => h (by rw [e.1]))]
theorem rsame_calls (w : World) (A : Option Addr) (c : Nat) (ns : List S55) (A' : Option Addr) (c' : Nat) (rs : List Int) (h : IsG w A c ns A' c' rs) (B : Option Addr) (k : Nat) (ms : List S55) (B' : Option Addr) (k' : Nat) (ss : List Int) (h2 : IsG w B k ms B' k' ss) (M : Nat) (hM : argsLe M ns = true) (hM2 : M ≤ 1000000) :
    Calls Try.prog 37 #[gv A c ns A' c' rs, gv B k ms B' k' ss] w fun e w' => e = .returned (.bool (decide (ns = ms ∧ rs = ss))) ∧ Below w.heap.size w w' := by
  refine (tendrilref04_Same.calls (ns.length + rs.length + M + 6) A c ns A' c' rs B k ms B' k' ss _ w h.n h.ln h.r h.lr h2.n h2.ln h2.r h2.lr (rsame_f ns rs ms ss h.n.2.1 h.r.2.1 M hM hM2 (by omega))).mono ?_
  rintro e w' ⟨rfl, hd⟩
  exact ⟨rfl, by first | exact hd | exact hd.below⟩

theorem rat_loop (ns : List S55) (rs : List Int) (hck : chk ns rs = []) (path : List Int) (hp : path.length ≤ 9223372036854775807) : ∀ (d k i : Nat) (n : Int), i + d = path.length → d < k → inside ns.length n = true →
    tendrilref04_At.l0 k n path (i : Int) ns rs = some ((stepA ns (path.drop i) n).getD 0, (stepA ns (path.drop i) n).isSome)
  | 0, k, i, n, hd, hk, hn => by
    obtain ⟨k, rfl⟩ : ∃ m, k = m + 1 := ⟨k - 1, by omega⟩
    simp only [tendrilref04_At.l0]
    rw [if_neg (by omega), List.drop_of_length_le (by omega)]
    rfl
  | d + 1, k, i, n, hd, hk, hn => by
    obtain ⟨k, rfl⟩ : ∃ m, k = m + 1 := ⟨k - 1, by omega⟩
    have hi : i < path.length := by omega
    have hn' := inside_iff.1 hn
    have ha := chk_arg hck hn
    simp only [tendrilref04_At.l0]
    rw [if_pos (by omega), if_pos (by omega), rd_getD, getD_get 0 hi, List.drop_eq_getElem_cons hi]
    simp only [stepA]
    have hrd : rd_T55 ns n = ns.getD n.toNat z55 := rfl
    rw [hrd]
    by_cases h0 : path[i] < 0
    · rw [if_pos h0, if_neg (by omega)]; rfl
    · rw [if_neg h0, if_pos hn'.1, if_pos hn'.2]
      by_cases h1 : path[i] ≥ ((ns.getD n.toNat z55).f3.length : Int)
      · rw [if_pos h1, if_neg (by omega)]; rfl
      · rw [if_neg h1, if_pos (by omega), if_pos (by omega), if_pos (by omega)]
        have hr : rd (ns.getD n.toNat z55).f3 path[i] = (ns.getD n.toNat z55).f3.getD path[i].toNat 0 := rfl
        rw [hr, wrap_lt hi hp]
        exact rat_loop ns rs hck path hp d k (i + 1) _ (by omega) (by omega) (ha.1 _ (getD_mem (by omega)))
theorem rat_f (ns : List S55) (rs : List Int) (node : Int) (path : List Int) (hp : path.length ≤ 1000000) {k : Nat} (hk : 9005 + path.length ≤ k) : tendrilref04_At.f k ns rs node path = some ((atV ns rs node path).getD 0, (atV ns rs node path).isSome) := by
  obtain ⟨k, rfl⟩ : ∃ m, k = m + 1 := ⟨k - 1, by omega⟩
  unfold tendrilref04_At.f atV
  rcases chk_len ns rs with h0 | ⟨c0, a0, h0, h1⟩
  · have hc : tendrilref04_Check.f (k + 1) ns rs = some (0, 0, ⟨#[]⟩, []) := by rw [rcheck_f ns rs (by omega), h0]; rfl
    rw [hc, h0]
    simp only [Option.bind_some, tendrilnum_F_Bad.f]
    rw [if_neg (show ¬ ((0 : Int) != 0) = true by decide)]
    by_cases hn : node < 0
    · rw [if_pos hn, if_neg (fun h => by have := inside_iff.1 h.2; omega)]
      simp [tendrilref04_At.j0]
    · rw [if_neg hn]
      by_cases hN : node ≥ (ns.length : Int)
      · rw [decide_eq_true hN, if_neg (fun h => by have := inside_iff.1 h.2; omega)]
        simp [tendrilref04_At.j0]
      · rw [decide_eq_false hN]
        have hin : inside ns.length node = true := inside_iff.2 (by omega)
        rw [if_pos ⟨trivial, hin⟩]
        simp only [tendrilref04_At.j0]
        rw [if_neg (by simp), show (0 : Int) = ((0 : Nat) : Int) from rfl]
        exact rat_loop ns rs h0 path (by omega) path.length k 0 node (by omega) (by omega) hin
  · have hc : tendrilref04_Check.f (k + 1) ns rs = some (c0, a0, ⟨#[]⟩, []) := by rw [rcheck_f ns rs (by omega), h0]; rfl
    rw [hc, h0]
    simp only [Option.bind_some, tendrilnum_F_Bad.f]
    rw [if_pos (show (c0 != 0) = true by simpa using h1), if_neg (fun h => by cases h.1)]
    simp [tendrilref04_At.j0]
theorem rat_calls (w : World) (A : Option Addr) (c : Nat) (ns : List S55) (A' : Option Addr) (c' : Nat) (rs : List Int) (h : IsG w A c ns A' c' rs) (node : Int) (P : Option Addr) (pc : Nat) (path : List Int) (hp : Kd.C (Kd.int .i64) w P path.length path) (hpc : path.length ≤ pc) (hpl : path.length ≤ 1000000) :
    Calls Try.prog 67 #[gv A c ns A' c' rs, .int .i64 node, .slice P path.length pc] w fun e w' => e = .returned (.tuple #[.int .i64 ((atV ns rs node path).getD 0), .bool (atV ns rs node path).isSome]) ∧ Below w.heap.size w w' := by
  refine (tendrilref04_At.calls (9005 + path.length) A c ns A' c' rs node P pc path _ _ w h.n h.ln h.r h.lr hp hpc (rat_f ns rs node path hpl (by omega))).mono ?_
  rintro e w' ⟨rfl, hd⟩
  exact ⟨rfl, by first | exact hd | exact hd.below⟩

end Go.Proofs.Ytgcjfobmccoibaa.Gr
