/- Whether a node is good: the program's good, by its walk. What is asked: how the node's list of arguments is read. -/
import Derived.Test.YtgcjfobmccoibaaPGraphChecksx3
import Derived.Test.YtgcjfobmccoibaaNm6
set_option linter.unusedSimpArgs false
set_option linter.unusedVariables false
namespace Go.Proofs.Ytgcjfobmccoibaa.Gr
open Go.RowKit Go.Proofs.YtgcjfobmccoibaaW.PrintWords Go.Proofs.YtgcjfobmccoibaaW.PrintLast Go.Proofs.YtgcjfobmccoibaaW.PrintMore
open Go.Proofs.Ytgcjfobmccoibaa.Nm
export Go.Proofs.Ytgcjfobmccoibaa.PGraphChecks (S55 k55 z55 S33 k33)

/-- A number of a node among so many. -/
def inside (N : Int) (a : Int) : Bool := decide (0 ≤ a) && decide (a < N)

theorem outside_calls (w : World) (a N : Int) (b : Nat) (hb : w.cell? ⟨b, 0, none⟩ = some (.int .i64 N)) :
    Calls Try.prog 82 #[.int .i64 a, .pointer (some ⟨b, 0, none⟩)] w fun e w' => e = .returned (.bool (!(inside N a))) ∧ w = w' := by
  by_cases h0 : a < 0
  · have h1 : inside N a = false := by simp [inside]; omega
    rw [h1]
    go_enter Try.func82, Try.ntmps82
    go_wp2
    go_ret
    exact ⟨rfl, rfl⟩
  · have h1 : inside N a = decide (a < N) := by simp [inside]; omega
    have h2 : decide (N ≤ a) = !(decide (a < N)) := by
      by_cases h : a < N
      · simp [h]; try omega
      · simp [h]; try omega
    rw [h1]
    go_enter Try.func82, Try.ntmps82
    go_wp2
    go_ret
    exact ⟨by simp [h2], rfl⟩

set_option maxRecDepth 100000 in
set_option maxHeartbeats 1000000 in
theorem index_calls (w : World) (N : Int) (b : Nat) (hb : w.cell? ⟨b, 0, none⟩ = some (.int .i64 N)) (A : Option Addr) (c : Nat) (l : List Int) (hc : Kd.C (Kd.int .i64) w A l.length l) (hl : l.length ≤ 1000000) :
    Calls Try.prog 87 #[.slice A l.length c, .func (.func 82) #[] #[.pointer (some ⟨b, 0, none⟩)]] w fun e w' => ∃ i : Int, e = .returned (.int .i64 i) ∧ decide (0 ≤ i) = !(l.all (inside N)) ∧ w = w' := by
  have HC := Aside0.mk hc
  clear hc
  go_enter Try.func87, Try.ntmps87
  go_wp2_with fail
  go_loopw [8] (fun i wr => ∃ k : Nat, k ≤ l.length ∧ i = .int .i64 (k : Int) ∧ Aside0 ((l.take k).all (inside N) = true) ∧ w = wr) (fun i _ => l.length - (intOf i).toNat)
  case atStart => exact ⟨0, Nat.zero_le _, rfl, ⟨by simp⟩, rfl⟩
  case round =>
    obtain ⟨k, hk, rfl, HA, rfl⟩ := hrel
    by_cases hlt : k < l.length
    · obtain ⟨ad, cc, rfl, hcl, hK, hcc⟩ := Kd.C_get HC.out 0 (k : Int) (by omega) (by omega)
      have hK' : cc = [.int .i64 (l.getD k 0)] := hK
      subst hK'
      have hx : w.cell? (ad.add k) = some (.int .i64 (l.getD k 0)) := by
        have := hcc 0 _ rfl
        simpa [Kd.int, Kd.scalar] using this
      clear hK hcl hcc
      have HT := Aside0.mk (show (l.take (k + 1)).all (inside N) = inside N (l.getD k 0) by
        rw [List.take_succ_eq_append_getElem hlt, List.all_append, HA.out]; simp [hlt])
      have HF := Aside0.mk (show inside N (l.getD k 0) = false → l.all (inside N) = false by
        intro h
        have : l.getD k 0 ∈ l := by simp [hlt]
        exact Bool.eq_false_iff.2 fun e => by rw [List.all_eq_true.1 e _ this] at h; cases h)
      generalize l.getD k 0 = t at hx HT HF
      cases hi : inside N t with
      | true =>
        go_wp2_with fail
        refine (outside_calls _ t N b hb).mono ?_
        rw [hi]
        rintro e w1 ⟨rfl, rfl⟩
        go_wp2_with fail
        go_roundw
        case rel => exact ⟨k + 1, by omega, by go_num, ⟨by rw [HT.out, hi]⟩, trivial⟩
        case measure => simp [intOf]; omega
      | false =>
        go_wp2_with fail
        refine (outside_calls _ t N b hb).mono ?_
        rw [hi]
        rintro e w1 ⟨rfl, rfl⟩
        go_wp2_with fail
        go_ret
        exact ⟨k, rfl, by rw [HF.out hi]; simp, rfl⟩
    · obtain rfl : k = l.length := by omega
      go_wp2_with fail
      go_ret
      refine ⟨-1, rfl, ?_, rfl⟩
      have := HA.out
      rw [List.take_length] at this
      rw [this]; rfl

theorem contains_calls (w : World) (N : Int) (b : Nat) (hb : w.cell? ⟨b, 0, none⟩ = some (.int .i64 N)) (A : Option Addr) (c : Nat) (l : List Int) (hc : Kd.C (Kd.int .i64) w A l.length l) (hl : l.length ≤ 1000000) :
    Calls Try.prog 83 #[.slice A l.length c, .func (.func 82) #[] #[.pointer (some ⟨b, 0, none⟩)]] w fun e w' => e = .returned (.bool (!(l.all (inside N)))) ∧ w = w' := by
  go_enter Try.func83, Try.ntmps83
  go_wp2_with fail
  refine (index_calls w N b hb A c l hc hl).mono ?_
  rintro e w1 ⟨i, rfl, hi, rfl⟩
  go_wp2_with fail
  go_ret
  exact ⟨rfl, rfl⟩

/-- Is a node good among so many? -/
def goodN (x : S55) (N : Int) : Bool :=
  if x.f0 = 4 then goodB x.f1 && (decide (x.f2 = 0) && (decide (1 ≤ x.f3.length) && (decide (x.f3.length ≤ 8) && x.f3.all (inside N))))
  else if 0 < x.f3.length then false
  else if x.f0 = 1 then decide (x.f1.size = 0) && decide (x.f2 = 0)
  else if x.f0 = 2 then goodB x.f1 && decide (x.f2 = 0)
  else if x.f0 = 3 then decide (x.f1.size = 0) && (decide (-1125899906842624 ≤ x.f2) && decide (x.f2 ≤ 1125899906842624))
  else false

theorem empty_text {s : ByteArray} : (s.toList == []) = decide (s.size = 0) := by
  rw [Bool.eq_iff_iff]
  simp [toList_nil]

set_option maxRecDepth 100000 in
set_option maxHeartbeats 2000000 in
theorem node_calls (w : World) (x : S55) (A : Option Addr) (c : Nat) (N : Int) (hc : Kd.C (Kd.int .i64) w A x.f3.length x.f3) :
    Calls Try.prog 61 #[.agg #[.int .i64 x.f0, .string x.f1, .int .i64 x.f2, .slice A x.f3.length c], .int .i64 N] w fun e w' => e = .returned (.bool (goodN x N)) ∧ Below w.heap.size w w' := by
  obtain ⟨f0, f1, f2, f3⟩ := x
  dsimp only at hc ⊢
  have HC := Aside0.mk (Kd.C_alloc (Kd.C_alloc hc (.cells #[.int .i64 f0, .string f1, .int .i64 f2, .slice A f3.length c] 55)) (.cells #[.int .i64 N] 3))
  have HB := Aside0.mk (((Below.refl w.heap.size w).alloc (Nat.le_refl _) (.cells #[.int .i64 f0, .string f1, .int .i64 f2, .slice A f3.length c] 55)).alloc (by simp) (.cells #[.int .i64 N] 3))
  clear hc
  have HE := @empty_text f1
  by_cases h4 : f0 = 4
  · subst h4
    unfold goodN
    rw [if_pos rfl]
    dsimp only
    go_enter Try.func61, Try.ntmps61
    go_wp2_with fail
    refine (good_calls f1 _).mono ?_
    cases hg : goodB f1 with
    | false =>
      rintro e w1 ⟨rfl, ⟨⟨nq, rfl⟩⟩⟩
      go_wp2_with fail
      go_ret
      exact ⟨by simp [hg], pw_below_drewN HB.out nq⟩
    | true =>
      rintro e w1 ⟨rfl, ⟨⟨nq, rfl⟩⟩⟩
      by_cases h2 : f2 = 0
      · subst h2
        by_cases h1 : 1 ≤ f3.length
        · have d1 : decide (1 ≤ f3.length) = true := decide_eq_true (by omega)
          have d1' : decide (1 ≤ (f3.length : Int)) = true := decide_eq_true (by omega)
          by_cases h8 : f3.length ≤ 8
          · have d8 : decide (f3.length ≤ 8) = true := decide_eq_true (by omega)
            have d8' : decide ((f3.length : Int) ≤ 8) = true := decide_eq_true (by omega)
            go_wp2_with fail
            refine (contains_calls _ N _ ?_ A c f3 (Kd.C_drewN HC.out nq) (by omega)).mono ?_
            · exact blk_cell (show (World.drewN _ nq).heap[w.heap.size + 1]? = some (.cells #[.int .i64 N] 3 (0, 0)) from by have := blk_last (w.alloc (.cells #[.int .i64 4, .string f1, .int .i64 0, .slice A f3.length c] 55)) (.cells #[.int .i64 N] 3); rwa [World.size_alloc] at this) 0
            rintro e w1 ⟨rfl, rfl⟩
            go_wp2_with fail
            go_ret
            exact ⟨by simp [hg, d1, d8], pw_below_drewN HB.out nq⟩
          · have d8 : decide (f3.length ≤ 8) = false := decide_eq_false (by omega)
            have d8' : decide ((f3.length : Int) ≤ 8) = false := decide_eq_false (by omega)
            go_wp2_with fail
            go_ret
            exact ⟨by simp [hg, d8], pw_below_drewN HB.out nq⟩
        · have d1 : decide (1 ≤ f3.length) = false := decide_eq_false (by omega)
          have d1' : decide (1 ≤ (f3.length : Int)) = false := decide_eq_false (by omega)
          go_wp2_with fail
          go_ret
          exact ⟨by simp [hg, d1], pw_below_drewN HB.out nq⟩
      · have d2 : (f2 == 0) = false := by simpa using h2
        have d2' : decide (f2 = 0) = false := by simpa using h2
        go_wp2_with fail
        go_ret
        exact ⟨by simp [hg, d2'], pw_below_drewN HB.out nq⟩
  · have d4 : (f0 != 4) = true := by simpa using h4
    have d4' : (f0 == 4) = false := by simpa using h4
    unfold goodN
    rw [if_neg h4]
    dsimp only
    by_cases h0 : 0 < f3.length
    · have d0 : decide (0 < f3.length) = true := decide_eq_true (by omega)
      have d0' : decide (0 < (f3.length : Int)) = true := decide_eq_true (by omega)
      rw [if_pos h0]
      go_enter Try.func61, Try.ntmps61
      go_wp2_with fail
      go_ret
      exact ⟨rfl, HB.out⟩
    · have d0 : decide (0 < f3.length) = false := decide_eq_false (by omega)
      have d0' : decide (0 < (f3.length : Int)) = false := decide_eq_false (by omega)
      rw [if_neg h0]
      by_cases h1 : f0 = 1
      · subst h1
        rw [if_pos rfl]
        cases hs : decide (f1.size = 0) with
        | true =>
          rw [hs] at HE
          go_enter Try.func61, Try.ntmps61
          go_wp2_with fail
          go_ret
          exact ⟨by simp; try rfl, HB.out⟩
        | false =>
          rw [hs] at HE
          go_enter Try.func61, Try.ntmps61
          go_wp2_with fail
          go_ret
          exact ⟨rfl, HB.out⟩
      · rw [if_neg h1]
        by_cases h2 : f0 = 2
        · subst h2
          rw [if_pos rfl]
          go_enter Try.func61, Try.ntmps61
          go_wp2_with fail
          refine (good_calls f1 _).mono ?_
          cases hg : goodB f1 with
          | true =>
            rintro e w1 ⟨rfl, ⟨⟨nq, rfl⟩⟩⟩
            go_wp2_with fail
            go_ret
            exact ⟨by simp [hg]; try rfl, pw_below_drewN HB.out nq⟩
          | false =>
            rintro e w1 ⟨rfl, ⟨⟨nq, rfl⟩⟩⟩
            go_wp2_with fail
            go_ret
            exact ⟨by simp [hg], pw_below_drewN HB.out nq⟩
        · rw [if_neg h2]
          by_cases h3 : f0 = 3
          · subst h3
            rw [if_pos rfl]
            cases hs : decide (f1.size = 0) with
            | true =>
              rw [hs] at HE
              by_cases hm : -1125899906842624 ≤ f2
              · have dm : decide (-1125899906842624 ≤ f2) = true := by simpa using hm
                go_enter Try.func61, Try.ntmps61
                go_wp2_with fail
                go_ret
                exact ⟨by simp [hm], HB.out⟩
              · have dm : decide (-1125899906842624 ≤ f2) = false := by simpa using hm
                go_enter Try.func61, Try.ntmps61
                go_wp2_with fail
                go_ret
                exact ⟨by simp [dm], HB.out⟩
            | false =>
              rw [hs] at HE
              go_enter Try.func61, Try.ntmps61
              go_wp2_with fail
              go_ret
              exact ⟨rfl, HB.out⟩
          · rw [if_neg h3]
            have e1 : (f0 == 1) = false := by simpa using h1
            have e2 : (f0 == 2) = false := by simpa using h2
            have e3 : (f0 == 3) = false := by simpa using h3
            go_enter Try.func61, Try.ntmps61
            go_wp2_with fail
            go_ret
            exact ⟨rfl, HB.out⟩

end Go.Proofs.Ytgcjfobmccoibaa.Gr
