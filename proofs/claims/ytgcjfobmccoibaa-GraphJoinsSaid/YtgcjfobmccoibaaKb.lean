/- Whether a node is good: the program's good, by its walk. What is asked: how the node's list of arguments is read. (and what the parts below say) -/
import Derived.Test.YtgcjfobmccoibaaPGraphChecksx1
import Derived.Test.YtgcjfobmccoibaaKaG
/-! Whether a node is good: the program's good, by its walk. What is asked: how the node's list of arguments is read. -/
set_option linter.unusedSimpArgs false
set_option linter.unusedVariables false
namespace Go.Proofs.Ytgcjfobmccoibaa.Gr
open Go.RowKit Go.Proofs.YtgcjfobmccoibaaW.PrintWords Go.Proofs.YtgcjfobmccoibaaW.PrintLast Go.Proofs.YtgcjfobmccoibaaW.PrintMore
open Go.Proofs.Ytgcjfobmccoibaa.Nm
export Go.Proofs.Ytgcjfobmccoibaa.PGraphChecks (S55 k55 z55 S33 k33)

/-- A number of a node among so many. -/
def inside (N : Int) (a : Int) : Bool := decide (0 ≤ a) && decide (a < N)

theorem outside_calls (w : World) (a N : Int) (b : Nat) (hb : w.cell? ⟨b, 0, none⟩ = some (.int .i64 N)) :
    Calls Try.prog 82 #[.int .i64 a, .pointer (some ⟨b, 0, none⟩)] w fun e w' => e = .returned (.bool (!(inside N a))) ∧ w = w' := by
  by_cases h0 : a < 0
  · have h1 : inside N a = false := by simp [inside]; omega
    rw [h1]
    go_enter Try.func82, Try.ntmps82
    go_wp2
    go_ret
    exact ⟨rfl, rfl⟩
  · have h1 : inside N a = decide (a < N) := by simp [inside]; omega
    have h2 : decide (N ≤ a) = !(decide (a < N)) := by
      by_cases h : a < N
      · simp [h]; try omega
      · simp [h]; try omega
    rw [h1]
    go_enter Try.func82, Try.ntmps82
    go_wp2
    go_ret
    exact ⟨by simp [h2], rfl⟩

set_option maxRecDepth 100000 in
set_option maxHeartbeats 1000000 in
theorem index_calls (w : World) (N : Int) (b : Nat) (hb : w.cell? ⟨b, 0, none⟩ = some (.int .i64 N)) (A : Option Addr) (c : Nat) (l : List Int) (hc : Kd.C (Kd.int .i64) w A l.length l) (hl : l.length ≤ 1000000) :
    Calls Try.prog 87 #[.slice A l.length c, .func (.func 82) #[] #[.pointer (some ⟨b, 0, none⟩)]] w fun e w' => ∃ i : Int, e = .returned (.int .i64 i) ∧ decide (0 ≤ i) = !(l.all (inside N)) ∧ w = w' := by
  have HC := Aside0.mk hc
  clear hc
  go_enter Try.func87, Try.ntmps87
  go_wp2_with fail
  go_loopw [8] (fun i wr => ∃ k : Nat, k ≤ l.length ∧ i = .int .i64 (k : Int) ∧ Aside0 ((l.take k).all (inside N) = true) ∧ w = wr) (fun i _ => l.length - (intOf i).toNat)
  case atStart => exact ⟨0, Nat.zero_le _, rfl, ⟨by simp⟩, rfl⟩
  case round =>
    obtain ⟨k, hk, rfl, HA, rfl⟩ := hrel
    by_cases hlt : k < l.length
    · obtain ⟨ad, cc, rfl, hcl, hK, hcc⟩ := Kd.C_get HC.out 0 (k : Int) (by omega) (by omega)
      have hK' : cc = [.int .i64 (l.getD k 0)] := hK
      subst hK'
      have hx : w.cell? (ad.add k) = some (.int .i64 (l.getD k 0)) := by
        have := hcc 0 _ rfl
        simpa [Kd.int, Kd.scalar] using this
      clear hK hcl hcc
      have HT := Aside0.mk (show (l.take (k + 1)).all (inside N) = inside N (l.getD k 0) by
        rw [List.take_succ_eq_append_getElem hlt, List.all_append, HA.out]; simp [hlt])
      have HF := Aside0.mk (show inside N (l.getD k 0) = false → l.all (inside N) = false by
        intro h
        have : l.getD k 0 ∈ l := by simp [hlt]
        exact Bool.eq_false_iff.2 fun e => by rw [List.all_eq_true.1 e _ this] at h; cases h)
      generalize l.getD k 0 = t at hx HT HF
      cases hi : inside N t with
      | true =>
        go_wp2_with fail
        refine (outside_calls _ t N b hb).mono ?_
        rw [hi]
        rintro e w1 ⟨rfl, rfl⟩
        go_wp2_with fail
        go_roundw
        case rel => exact ⟨k + 1, by omega, by go_num, ⟨by rw [HT.out, hi]⟩, trivial⟩
        case measure => simp [intOf]; omega
      | false =>
        go_wp2_with fail
        refine (outside_calls _ t N b hb).mono ?_
        rw [hi]
        rintro e w1 ⟨rfl, rfl⟩
        go_wp2_with fail
        go_ret
        exact ⟨k, rfl, by rw [HF.out hi]; simp, rfl⟩
    · obtain rfl : k = l.length := by omega
      go_wp2_with fail
      go_ret
      refine ⟨-1, rfl, ?_, rfl⟩
      have := HA.out
      rw [List.take_length] at this
      rw [this]; rfl

theorem contains_calls (w : World) (N : Int) (b : Nat) (hb : w.cell? ⟨b, 0, none⟩ = some (.int .i64 N)) (A : Option Addr) (c : Nat) (l : List Int) (hc : Kd.C (Kd.int .i64) w A l.length l) (hl : l.length ≤ 1000000) :
    Calls Try.prog 83 #[.slice A l.length c, .func (.func 82) #[] #[.pointer (some ⟨b, 0, none⟩)]] w fun e w' => e = .returned (.bool (!(l.all (inside N)))) ∧ w = w' := by
  go_enter Try.func83, Try.ntmps83
  go_wp2_with fail
  refine (index_calls w N b hb A c l hc hl).mono ?_
  rintro e w1 ⟨i, rfl, hi, rfl⟩
  go_wp2_with fail
  go_ret
  exact ⟨rfl, rfl⟩

/-- Is a node good among so many? -/
def goodN (x : S55) (N : Int) : Bool :=
  if x.f0 = 4 then goodB x.f1 && (decide (x.f2 = 0) && (decide (1 ≤ x.f3.length) && (decide (x.f3.length ≤ 8) && x.f3.all (inside N))))
  else if 0 < x.f3.length then false
  else if x.f0 = 1 then decide (x.f1.size = 0) && decide (x.f2 = 0)
  else if x.f0 = 2 then goodB x.f1 && decide (x.f2 = 0)
  else if x.f0 = 3 then decide (x.f1.size = 0) && (decide (-1125899906842624 ≤ x.f2) && decide (x.f2 ≤ 1125899906842624))
  else false

theorem empty_text {s : ByteArray} : (s.toList == []) = decide (s.size = 0) := by
  rw [Bool.eq_iff_iff]
  simp [toList_nil]

set_option maxRecDepth 100000 in
set_option maxHeartbeats 2000000 in
theorem node_calls (w : World) (x : S55) (A : Option Addr) (c : Nat) (N : Int) (hc : Kd.C (Kd.int .i64) w A x.f3.length x.f3) :
    Calls Try.prog 61 #[.agg #[.int .i64 x.f0, .string x.f1, .int .i64 x.f2, .slice A x.f3.length c], .int .i64 N] w fun e w' => e = .returned (.bool (goodN x N)) ∧ Below w.heap.size w w' := by
  obtain ⟨f0, f1, f2, f3⟩ := x
  dsimp only at hc ⊢
  have HC := Aside0.mk (Kd.C_alloc (Kd.C_alloc hc (.cells #[.int .i64 f0, .string f1, .int .i64 f2, .slice A f3.length c] 55)) (.cells #[.int .i64 N] 3))
  have HB := Aside0.mk (((Below.refl w.heap.size w).alloc (Nat.le_refl _) (.cells #[.int .i64 f0, .string f1, .int .i64 f2, .slice A f3.length c] 55)).alloc (by simp) (.cells #[.int .i64 N] 3))
  clear hc
  have HE := @empty_text f1
  by_cases h4 : f0 = 4
  · subst h4
    unfold goodN
    rw [if_pos rfl]
    dsimp only
    go_enter Try.func61, Try.ntmps61
    go_wp2_with fail
    refine (good_calls f1 _).mono ?_
    cases hg : goodB f1 with
    | false =>
      rintro e w1 ⟨rfl, ⟨⟨nq, rfl⟩⟩⟩
      go_wp2_with fail
      go_ret
      exact ⟨by simp [hg], pw_below_drewN HB.out nq⟩
    | true =>
      rintro e w1 ⟨rfl, ⟨⟨nq, rfl⟩⟩⟩
      by_cases h2 : f2 = 0
      · subst h2
        by_cases h1 : 1 ≤ f3.length
        · have d1 : decide (1 ≤ f3.length) = true := decide_eq_true (by omega)
          have d1' : decide (1 ≤ (f3.length : Int)) = true := decide_eq_true (by omega)
          by_cases h8 : f3.length ≤ 8
          · have d8 : decide (f3.length ≤ 8) = true := decide_eq_true (by omega)
            have d8' : decide ((f3.length : Int) ≤ 8) = true := decide_eq_true (by omega)
            go_wp2_with fail
            refine (contains_calls _ N _ ?_ A c f3 (Kd.C_drewN HC.out nq) (by omega)).mono ?_
            · exact blk_cell (show (World.drewN _ nq).heap[w.heap.size + 1]? = some (.cells #[.int .i64 N] 3 (0, 0)) from by have := blk_last (w.alloc (.cells #[.int .i64 4, .string f1, .int .i64 0, .slice A f3.length c] 55)) (.cells #[.int .i64 N] 3); rwa [World.size_alloc] at this) 0
            rintro e w1 ⟨rfl, rfl⟩
            go_wp2_with fail
            go_ret
            exact ⟨by simp [hg, d1, d8], pw_below_drewN HB.out nq⟩
          · have d8 : decide (f3.length ≤ 8) = false := decide_eq_false (by omega)
            have d8' : decide ((f3.length : Int) ≤ 8) = false := decide_eq_false (by omega)
            go_wp2_with fail
            go_ret
            exact ⟨by simp [hg, d8], pw_below_drewN HB.out nq⟩
        · have d1 : decide (1 ≤ f3.length) = false := decide_eq_false (by omega)
          have d1' : decide (1 ≤ (f3.length : Int)) = false := decide_eq_false (by omega)
          go_wp2_with fail
          go_ret
          exact ⟨by simp [hg, d1], pw_below_drewN HB.out nq⟩
      · have d2 : (f2 == 0) = false := by simpa using h2
        have d2' : decide (f2 = 0) = false := by simpa using h2
        go_wp2_with fail
        go_ret
        exact ⟨by simp [hg, d2'], pw_below_drewN HB.out nq⟩
  · have d4 : (f0 != 4) = true := by simpa using h4
    have d4' : (f0 == 4) = false := by simpa using h4
    unfold goodN
    rw [if_neg h4]
    dsimp only
    by_cases h0 : 0 < f3.length
    · have d0 : decide (0 < f3.length) = true := decide_eq_true (by omega)
      have d0' : decide (0 < (f3.length : Int)) = true := decide_eq_true (by omega)
      rw [if_pos h0]
      go_enter Try.func61, Try.ntmps61
      go_wp2_with fail
      go_ret
      exact ⟨rfl, HB.out⟩
    · have d0 : decide (0 < f3.length) = false := decide_eq_false (by omega)
      have d0' : decide (0 < (f3.length : Int)) = false := decide_eq_false (by omega)
      rw [if_neg h0]
      by_cases h1 : f0 = 1
      · subst h1
        rw [if_pos rfl]
        cases hs : decide (f1.size = 0) with
        | true =>
          rw [hs] at HE
          go_enter Try.func61, Try.ntmps61
          go_wp2_with fail
          go_ret
          exact ⟨by simp; try rfl, HB.out⟩
        | false =>
          rw [hs] at HE
          go_enter Try.func61, Try.ntmps61
          go_wp2_with fail
          go_ret
          exact ⟨rfl, HB.out⟩
      · rw [if_neg h1]
        by_cases h2 : f0 = 2
        · subst h2
          rw [if_pos rfl]
          go_enter Try.func61, Try.ntmps61
          go_wp2_with fail
          refine (good_calls f1 _).mono ?_
          cases hg : goodB f1 with
          | true =>
            rintro e w1 ⟨rfl, ⟨⟨nq, rfl⟩⟩⟩
            go_wp2_with fail
            go_ret
            exact ⟨by simp [hg]; try rfl, pw_below_drewN HB.out nq⟩
          | false =>
            rintro e w1 ⟨rfl, ⟨⟨nq, rfl⟩⟩⟩
            go_wp2_with fail
            go_ret
            exact ⟨by simp [hg], pw_below_drewN HB.out nq⟩
        · rw [if_neg h2]
          by_cases h3 : f0 = 3
          · subst h3
            rw [if_pos rfl]
            cases hs : decide (f1.size = 0) with
            | true =>
              rw [hs] at HE
              by_cases hm : -1125899906842624 ≤ f2
              · have dm : decide (-1125899906842624 ≤ f2) = true := by simpa using hm
                go_enter Try.func61, Try.ntmps61
                go_wp2_with fail
                go_ret
                exact ⟨by simp [hm], HB.out⟩
              · have dm : decide (-1125899906842624 ≤ f2) = false := by simpa using hm
                go_enter Try.func61, Try.ntmps61
                go_wp2_with fail
                go_ret
                exact ⟨by simp [dm], HB.out⟩
            | false =>
              rw [hs] at HE
              go_enter Try.func61, Try.ntmps61
              go_wp2_with fail
              go_ret
              exact ⟨rfl, HB.out⟩
          · rw [if_neg h3]
            have e1 : (f0 == 1) = false := by simpa using h1
            have e2 : (f0 == 2) = false := by simpa using h2
            have e3 : (f0 == 3) = false := by simpa using h3
            go_enter Try.func61, Try.ntmps61
            go_wp2_with fail
            go_ret
            exact ⟨rfl, HB.out⟩

end Go.Proofs.Ytgcjfobmccoibaa.Gr

/-! Check of a graph, by its walk. What is asked: how the graph's nodes and roots are read. -/
set_option linter.unusedSimpArgs false
set_option linter.unusedVariables false
namespace Go.Proofs.Ytgcjfobmccoibaa.Gr
open Go.RowKit Go.Proofs.YtgcjfobmccoibaaW.PrintWords Go.Proofs.YtgcjfobmccoibaaW.PrintLast Go.Proofs.YtgcjfobmccoibaaW.PrintMore
open Go.Proofs.Ytgcjfobmccoibaa.Nm

theorem fault_calls (w : World) (c a : Int) :
    Calls Try.prog 60 #[.int .i64 c, .int .i64 a] w fun e w' => ∃ ev, e = .returned ev ∧ IsErr w' (fun k => w.heap.size ≤ k) ev [(c, a, ⟨#[]⟩)] ∧ Below w.heap.size w w' := by
  go_enter Try.func60, Try.ntmps60
  go_wp2
  go_ret
  exact ⟨_, rfl, isErr_made (Below.refl _ w) c a ⟨#[]⟩, below_alloc (Below.refl _ w) _⟩

/-- The fault of a graph (none: []). -/
def chk (ns : List S55) (rs : List Int) : List (Int × Int × ByteArray) :=
  if 4096 < ns.length then [(41, (ns.length : Int), ⟨#[]⟩)]
  else if 4096 < rs.length then [(42, (rs.length : Int), ⟨#[]⟩)]
  else match ns.findIdx? (fun x => !goodN x ns.length) with
    | some i => [(40, (i : Int), ⟨#[]⟩)]
    | none => match rs.findIdx? (fun r => !inside ns.length r) with
      | some i => [(43, (i : Int), ⟨#[]⟩)]
      | none => []

theorem findIdx_at {α : Type} {p : α → Bool} {l : List α} {k : Nat} (hk : k < l.length) (h : ∀ x ∈ l.take k, p x = false) (d : α) (hp : p (l.getD k d) = true) : l.findIdx? p = some k := by
  rw [List.findIdx?_eq_some_iff_getElem]
  refine ⟨hk, by simpa [hk] using hp, fun j hj => ?_⟩
  have : l[j] ∈ l.take k := List.mem_take_iff_getElem.2 ⟨j, by omega, rfl⟩
  simp [h _ this]
theorem findIdx_no {α : Type} {p : α → Bool} {l : List α} (h : ∀ x ∈ l, p x = false) : l.findIdx? p = none := by
  rw [List.findIdx?_eq_none_iff]
  exact fun x hx => h x hx
theorem take_step {α : Type} {p : α → Bool} {l : List α} {k : Nat} (hk : k < l.length) (h : ∀ x ∈ l.take k, p x = false) (d : α) (hp : p (l.getD k d) = false) : ∀ x ∈ l.take (k + 1), p x = false := by
  intro x hx
  rw [List.take_succ_eq_append_getElem hk] at hx
  rcases List.mem_append.1 hx with h1 | h1
  · exact h x h1
  · have := List.mem_singleton.1 h1
    rw [this]
    simpa [hk] using hp

/-- How a graph lies: its nodes, its roots. -/
structure IsG (w : World) (A : Option Addr) (c : Nat) (ns : List S55) (A' : Option Addr) (c' : Nat) (rs : List Int) : Prop where
  n : Kd.C k55 w A ns.length ns
  r : Kd.C (Kd.int .i64) w A' rs.length rs
  ln : ns.length ≤ c
  lr : rs.length ≤ c'
theorem IsG.below {w w1 : World} {A : Option Addr} {c : Nat} {ns : List S55} {A' : Option Addr} {c' : Nat} {rs : List Int} (h : IsG w A c ns A' c' rs) (hb : Below w.heap.size w w1) : IsG w1 A c ns A' c' rs :=
  ⟨Kd.C_below h.n hb, Kd.C_below h.r hb, h.ln, h.lr⟩
def gv (A : Option Addr) (c : Nat) (ns : List S55) (A' : Option Addr) (c' : Nat) (rs : List Int) : Value := .agg #[.slice A ns.length c, .slice A' rs.length c']

/-- Node k as the walk reads it. -/
theorem node_at {w : World} {A : Option Addr} {n : Nat} {ns : List S55} (h : Kd.C k55 w A n ns) {k : Nat} (hk : k < n) : ∃ ad A3 c3, A = some ad ∧ w.cell? (ad.add (k * 4)) = some (.int .i64 (ns.getD k z55).f0) ∧
    w.cell? ⟨(ad.add (k * 4)).block, (ad.add (k * 4)).off + 1, none⟩ = some (.string (ns.getD k z55).f1) ∧ w.cell? ⟨(ad.add (k * 4)).block, (ad.add (k * 4)).off + 2, none⟩ = some (.int .i64 (ns.getD k z55).f2) ∧
    w.cell? ⟨(ad.add (k * 4)).block, (ad.add (k * 4)).off + 3, none⟩ = some (.slice A3 (ns.getD k z55).f3.length c3) ∧ (ns.getD k z55).f3.length ≤ c3 ∧ (Kd.int .i64).C w A3 (ns.getD k z55).f3.length (ns.getD k z55).f3 := by
  obtain ⟨ad, A3, c3, hA, n0, n1, n2, n3, l3, g3⟩ := PGraphChecks.at_T55 h (k : Int) (by omega) (by omega)
  exact ⟨ad, A3, c3, hA, n0, n1, n2, n3, l3, g3⟩

set_option maxRecDepth 100000 in
set_option maxHeartbeats 2000000 in
theorem check_calls (w : World) (A : Option Addr) (c : Nat) (ns : List S55) (A' : Option Addr) (c' : Nat) (rs : List Int) (h : IsG w A c ns A' c' rs) :
    Calls Try.prog 29 #[gv A c ns A' c' rs] w fun e w' => ∃ ev, e = .returned ev ∧ IsErr w' (fun k => w.heap.size ≤ k) ev (chk ns rs) ∧ Below w.heap.size w w' := by
  have HG := Aside0.mk h
  clear h
  simp only [gv]
  by_cases h1 : 4096 < ns.length
  · have d1 : decide (4096 < ns.length) = true := decide_eq_true h1
    have d1' : decide (4096 < (ns.length : Int)) = true := decide_eq_true (by omega)
    have HK : Aside0 (chk ns rs = [(41, (ns.length : Int), ⟨#[]⟩)]) := ⟨by unfold chk; rw [if_pos h1]⟩
    have HB1 := Aside0.mk (below_alloc (Below.refl w.heap.size w) (.cells #[.slice A ns.length c, .slice A' rs.length c'] 52))
    go_enter Try.func29, Try.ntmps29
    go_wp2_with fail
    refine (fault_calls _ 41 (ns.length : Int)).mono ?_
    rintro e w2 ⟨ev, rfl, he, hB2⟩
    go_wp2_with fail
    go_ret
    exact ⟨ev, rfl, by rw [HK.out]; exact he.mono (fun j hj => Nat.le_trans HB1.out.size hj), below_then HB1.out HB1.out.size hB2⟩
  · have d1 : decide (4096 < ns.length) = false := decide_eq_false h1
    have d1' : decide (4096 < (ns.length : Int)) = false := decide_eq_false (by omega)
    by_cases h2 : 4096 < rs.length
    · have d2 : decide (4096 < rs.length) = true := decide_eq_true h2
      have d2' : decide (4096 < (rs.length : Int)) = true := decide_eq_true (by omega)
      have HK : Aside0 (chk ns rs = [(42, (rs.length : Int), ⟨#[]⟩)]) := ⟨by unfold chk; rw [if_neg h1, if_pos h2]⟩
      have HB1 := Aside0.mk (below_alloc (Below.refl w.heap.size w) (.cells #[.slice A ns.length c, .slice A' rs.length c'] 52))
      go_enter Try.func29, Try.ntmps29
      go_wp2_with fail
      refine (fault_calls _ 42 (rs.length : Int)).mono ?_
      rintro e w2 ⟨ev, rfl, he, hB2⟩
      go_wp2_with fail
      go_ret
      exact ⟨ev, rfl, by rw [HK.out]; exact he.mono (fun j hj => Nat.le_trans HB1.out.size hj), below_then HB1.out HB1.out.size hB2⟩
    · have d2 : decide (4096 < rs.length) = false := decide_eq_false h2
      have d2' : decide (4096 < (rs.length : Int)) = false := decide_eq_false (by omega)
      have HB0 := Aside0.mk (below_alloc (Below.refl w.heap.size w) (.cells #[.slice A ns.length c, .slice A' rs.length c'] 52))
      have HX0 := Aside0.mk (blk_last w (.cells #[.slice A ns.length c, .slice A' rs.length c'] 52))
      go_enter Try.func29, Try.ntmps29
      go_wp2_with fail
      go_loopw [26] (fun i wr => ∃ k : Nat, k ≤ ns.length ∧ i = .int .i64 (k : Int) ∧ Aside0 ((∀ x ∈ ns.take k, (!goodN x ns.length) = false) ∧ Below w.heap.size w wr ∧ wr.heap[w.heap.size]? = some (.cells #[.slice A ns.length c, .slice A' rs.length c'] 52 (0, 0)))) (fun i _ => ns.length - (intOf i).toNat)
      case atStart => exact ⟨0, Nat.zero_le _, rfl, ⟨by simp, HB0.out, HX0.out⟩⟩
      case round =>
        clear HB0 HX0
        obtain ⟨k, hk, rfl, HS⟩ := hrel
        have hx0 : wr.cell? ⟨w.heap.size, 0, none⟩ = some (.slice A ns.length c) := blk_cell HS.out.2.2 0
        have hx1 : wr.cell? ⟨w.heap.size, 1, none⟩ = some (.slice A' rs.length c') := blk_cell HS.out.2.2 1
        have hy0 : ∀ o, (wr.alloc o).cell? ⟨w.heap.size, 0, none⟩ = some (.slice A ns.length c) := fun o => blk_cell (blk_old o HS.out.2.2) 0
        by_cases hlt : k < ns.length
        · obtain ⟨ad, A3, c3, rfl, n0, n1, n2, n3, l3, g3⟩ := node_at (Kd.C_below HG.out.n HS.out.2.1) hlt
          generalize hx : ns.getD k z55 = x at *
          have HC3 := Aside0.mk g3
          clear g3
          go_wp2_with fail
          refine (node_calls _ x A3 c3 _ (Kd.C_alloc HC3.out _)).mono ?_
          cases hg : goodN x ns.length with
          | true =>
            rintro e w1 ⟨rfl, hB1⟩
            have HS1 : Aside0 ((∀ x ∈ ns.take (k + 1), (!goodN x ns.length) = false) ∧ Below w.heap.size w w1 ∧ w1.heap[w.heap.size]? = some (.cells #[.slice (some ad) ns.length c, .slice A' rs.length c'] 52 (0, 0))) :=
              ⟨take_step hlt HS.out.1 z55 (by rw [hx, hg]; rfl), below_then (HS.out.2.1.alloc HS.out.2.1.size _) (by have := HS.out.2.1.size; simp; omega) hB1, (hB1.block _ (by have := blk_lt HS.out.2.2; simp; omega)).trans (blk_old _ HS.out.2.2)⟩
            clear HS
            go_wp2_with fail
            go_roundw
            case rel => exact ⟨k + 1, by omega, by go_num, HS1⟩
            case measure => simp [intOf]; omega
          | false =>
            have hfi : ns.findIdx? (fun x => !goodN x ns.length) = some k := findIdx_at hlt HS.out.1 z55 (by rw [hx, hg]; rfl)
            rintro e w1 ⟨rfl, hB1⟩
            have HB1 := Aside0.mk (below_then (HS.out.2.1.alloc HS.out.2.1.size _) (by have := HS.out.2.1.size; simp; omega) hB1)
            have HK : Aside0 (chk ns rs = [(40, (k : Int), ⟨#[]⟩)]) := ⟨by unfold chk; rw [if_neg h1, if_neg h2, hfi]⟩
            clear HS hB1 hfi
            go_wp2_with fail
            refine (fault_calls _ 40 (k : Int)).mono ?_
            rintro e w2 ⟨ev, rfl, he, hB2⟩
            go_wp2_with fail
            go_ret
            exact ⟨ev, rfl, by rw [HK.out]; exact he.mono (fun j hj => Nat.le_trans HB1.out.size hj), below_then HB1.out HB1.out.size hB2⟩
        · obtain rfl : k = ns.length := by omega
          clear hlt hk
          have HN : Aside0 (ns.findIdx? (fun x => !goodN x ns.length) = none) := ⟨findIdx_no (by have := HS.out.1; rwa [List.take_length] at this)⟩
          have HB1 := Aside0.mk HS.out.2
          clear HS
          go_wp2_with fail
          go_loopw [43] (fun i wr => ∃ k : Nat, k ≤ rs.length ∧ i = .int .i64 (k : Int) ∧ Aside0 ((∀ x ∈ rs.take k, (!inside ns.length x) = false) ∧ Below w.heap.size w wr ∧ wr.heap[w.heap.size]? = some (.cells #[.slice A ns.length c, .slice A' rs.length c'] 52 (0, 0)))) (fun i _ => rs.length - (intOf i).toNat)
          case atStart => exact ⟨0, Nat.zero_le _, rfl, ⟨by simp, HB1.out.1, HB1.out.2⟩⟩
          case round =>
            clear HB1 hx0 hx1 hy0
            obtain ⟨k, hk, rfl, HS⟩ := hrel
            have hx0 : wr.cell? ⟨w.heap.size, 0, none⟩ = some (.slice A ns.length c) := blk_cell HS.out.2.2 0
            have hx1 : wr.cell? ⟨w.heap.size, 1, none⟩ = some (.slice A' rs.length c') := blk_cell HS.out.2.2 1
            by_cases hlt : k < rs.length
            · obtain ⟨ad, cc, rfl, hcl, hK, hcc⟩ := Kd.C_get (Kd.C_below HG.out.r HS.out.2.1) 0 (k : Int) (by omega) (by omega)
              have hK' : cc = [.int .i64 (rs.getD k 0)] := hK
              subst hK'
              have hx : wr.cell? (ad.add k) = some (.int .i64 (rs.getD k 0)) := by
                have := hcc 0 _ rfl
                simpa [Kd.int, Kd.scalar] using this
              clear hK hcl hcc
              generalize hr : rs.getD k 0 = r at *
              cases hi : inside ns.length r with
              | true =>
                have HS1 : Aside0 ((∀ x ∈ rs.take (k + 1), (!inside ns.length x) = false) ∧ Below w.heap.size w wr ∧ wr.heap[w.heap.size]? = some (.cells #[.slice A ns.length c, .slice (some ad) rs.length c'] 52 (0, 0))) :=
                  ⟨take_step hlt HS.out.1 0 (by rw [hr, hi]; rfl), HS.out.2⟩
                have i1 : decide (r < 0) = false := by simp [inside] at hi; simp; omega
                have i2 : decide ((ns.length : Int) ≤ r) = false := by simp [inside] at hi; simp; omega
                clear HS
                go_wp2_with fail
                go_roundw
                case rel => exact ⟨k + 1, by omega, by go_num, HS1⟩
                case measure => simp [intOf]; omega
              | false =>
                have hfi : rs.findIdx? (fun x => !inside ns.length x) = some k := findIdx_at hlt HS.out.1 0 (by rw [hr, hi]; rfl)
                have HB1 := Aside0.mk HS.out.2.1
                have HK : Aside0 (chk ns rs = [(43, (k : Int), ⟨#[]⟩)]) := ⟨by unfold chk; rw [if_neg h1, if_neg h2, HN.out, hfi]⟩
                clear HS hfi
                by_cases h0 : r < 0
                · go_wp2_with fail
                  refine (fault_calls _ 43 (k : Int)).mono ?_
                  rintro e w2 ⟨ev, rfl, he, hB2⟩
                  go_wp2_with fail
                  go_ret
                  exact ⟨ev, rfl, by rw [HK.out]; exact he.mono (fun j hj => Nat.le_trans HB1.out.size hj), below_then HB1.out HB1.out.size hB2⟩
                · have i2 : decide ((ns.length : Int) ≤ r) = true := by simp [inside] at hi; simp; omega
                  go_wp2_with fail
                  refine (fault_calls _ 43 (k : Int)).mono ?_
                  rintro e w2 ⟨ev, rfl, he, hB2⟩
                  go_wp2_with fail
                  go_ret
                  exact ⟨ev, rfl, by rw [HK.out]; exact he.mono (fun j hj => Nat.le_trans HB1.out.size hj), below_then HB1.out HB1.out.size hB2⟩
            · obtain rfl : k = rs.length := by omega
              clear hlt hk
              have HK : Aside0 (chk ns rs = []) := ⟨by unfold chk; rw [if_neg h1, if_neg h2, HN.out, findIdx_no (by have := HS.out.1; rwa [List.take_length] at this)]⟩
              have HB1 := Aside0.mk HS.out.2.1
              clear HS
              go_wp2_with fail
              go_ret
              exact ⟨_, rfl, by rw [HK.out]; rfl, HB1.out⟩

end Go.Proofs.Ytgcjfobmccoibaa.Gr

/-! At: where a path leads; the fixed fact of the laws of graphs. What is asked: how the graph and the path are read. -/
set_option linter.unusedSimpArgs false
set_option linter.unusedVariables false
namespace Go.Proofs.Ytgcjfobmccoibaa.Gr
open Go.RowKit Go.Proofs.YtgcjfobmccoibaaW.PrintWords Go.Proofs.YtgcjfobmccoibaaW.PrintLast Go.Proofs.YtgcjfobmccoibaaW.PrintMore
open Go.Proofs.Ytgcjfobmccoibaa.Nm

/-- Where a path leads from a node. -/
def stepA (ns : List S55) : List Int → Int → Option Int
  | [], n => some n
  | k :: r, n => if 0 ≤ k ∧ k < ((ns.getD n.toNat z55).f3.length : Int) then stepA ns r ((ns.getD n.toNat z55).f3.getD k.toNat 0) else none
def atV (ns : List S55) (rs : List Int) (node : Int) (path : List Int) : Option Int := if chk ns rs = [] ∧ inside ns.length node = true then stepA ns path node else none

theorem getD_mem {α : Type} {l : List α} {j : Nat} {d : α} (h : j < l.length) : l.getD j d ∈ l := by simp [h]
theorem findIdx_none_all {α : Type} {p : α → Bool} {l : List α} (h : l.findIdx? p = none) : ∀ x ∈ l, p x = false := by
  rw [List.findIdx?_eq_none_iff] at h
  exact fun x hx => by simpa using h x hx
theorem chk_parts {ns : List S55} {rs : List Int} (h : chk ns rs = []) : ns.length ≤ 4096 ∧ rs.length ≤ 4096 ∧ (∀ x ∈ ns, goodN x ns.length = true) ∧ (∀ r ∈ rs, inside ns.length r = true) := by
  unfold chk at h
  by_cases h1 : 4096 < ns.length
  · rw [if_pos h1] at h; cases h
  · rw [if_neg h1] at h
    by_cases h2 : 4096 < rs.length
    · rw [if_pos h2] at h; cases h
    · rw [if_neg h2] at h
      cases h3 : ns.findIdx? (fun x => !goodN x ns.length) with
      | some i => rw [h3] at h; cases h
      | none =>
        rw [h3] at h
        cases h4 : rs.findIdx? (fun r => !inside ns.length r) with
        | some i => rw [h4] at h; cases h
        | none => exact ⟨by omega, by omega, fun x hx => by have := findIdx_none_all h3 x hx; simpa using this, fun x hx => by have := findIdx_none_all h4 x hx; simpa using this⟩
theorem goodN_args {x : S55} {N : Int} (h : goodN x N = true) : (∀ a ∈ x.f3, inside N a = true) ∧ x.f3.length ≤ 8 := by
  unfold goodN at h
  split at h
  · simp only [Bool.and_eq_true, decide_eq_true_eq] at h
    exact ⟨List.all_eq_true.1 h.2.2.2.2, h.2.2.2.1⟩
  · split at h
    · cases h
    · rename_i h0
      have : x.f3 = [] := List.eq_nil_of_length_eq_zero (by omega)
      rw [this]
      simp
theorem chk_arg {ns : List S55} {rs : List Int} (h : chk ns rs = []) {n : Int} (hn : inside ns.length n = true) : (∀ a ∈ (ns.getD n.toNat z55).f3, inside ns.length a = true) ∧ (ns.getD n.toNat z55).f3.length ≤ 8 := by
  have hn' := hn
  simp [inside] at hn'
  have hm : ns.getD n.toNat z55 ∈ ns := by
    have : n.toNat < ns.length := by omega
    simp [this]
  exact goodN_args ((chk_parts h).2.2.1 _ hm)
theorem isErr_nil {w : World} {ok : Nat → Prop} {ev : Value} {r : List (Int × Int × ByteArray)} (h : IsErr w ok ev r) (hr : r = []) : ev = .nilIface := by rw [hr] at h; exact h
theorem isErr_some {w : World} {ok : Nat → Prop} {ev : Value} {r : List (Int × Int × ByteArray)} (h : IsErr w ok ev r) (hr : r ≠ []) : ∃ b, ev = .iface 93 (.pointer (some ⟨b, 0, none⟩)) := by
  cases r with
  | nil => exact absurd rfl hr
  | cons x r =>
    obtain ⟨c, a, n⟩ := x
    obtain ⟨b, cv, h1, _⟩ := h
    exact ⟨b, h1⟩

set_option maxRecDepth 100000 in
set_option maxHeartbeats 2000000 in
theorem at_calls (w : World) (A : Option Addr) (c : Nat) (ns : List S55) (A' : Option Addr) (c' : Nat) (rs : List Int) (h : IsG w A c ns A' c' rs) (node : Int) (P : Option Addr) (pc : Nat) (path : List Int) (hp : Kd.C (Kd.int .i64) w P path.length path) (hpl : path.length ≤ 1000000) :
    Calls Try.prog 42 #[gv A c ns A' c' rs, .int .i64 node, .slice P path.length pc] w fun e w' => e = .returned (.tuple #[.int .i64 ((atV ns rs node path).getD 0), .bool (atV ns rs node path).isSome]) ∧ Below w.heap.size w w' := by
  have HG := Aside0.mk (h.below (below_alloc (Below.refl w.heap.size w) (.cells #[.slice A ns.length c, .slice A' rs.length c'] 52)))
  have HP := Aside0.mk hp
  have HB0 := Aside0.mk (below_alloc (Below.refl w.heap.size w) (.cells #[.slice A ns.length c, .slice A' rs.length c'] 52))
  have HX0 := Aside0.mk (blk_last w (.cells #[.slice A ns.length c, .slice A' rs.length c'] 52))
  clear h hp
  have HK := check_calls (w.alloc (.cells #[.slice A ns.length c, .slice A' rs.length c'] 52)) A c ns A' c' rs HG.out
  simp only [gv] at HK ⊢
  by_cases hck : chk ns rs = []
  · by_cases h0 : node < 0
    · have hat : atV ns rs node path = none := by unfold atV; rw [if_neg (by simp [inside]; omega)]
      rw [hat]
      go_enter Try.func42, Try.ntmps42
      go_wp2_with fail
      refine HK.mono ?_
      rintro e w1 ⟨ev, rfl, he, hB1⟩
      obtain rfl := isErr_nil he hck
      have HB1 := Aside0.mk (below_then HB0.out HB0.out.size hB1)
      clear he hB1
      go_wp2_with fail
      go_ret2
      exact ⟨rfl, HB1.out⟩
    · by_cases hN : (ns.length : Int) ≤ node
      · have hat : atV ns rs node path = none := by unfold atV; rw [if_neg (by simp [inside]; omega)]
        have d1 : decide ((ns.length : Int) ≤ node) = true := decide_eq_true hN
        rw [hat]
        go_enter Try.func42, Try.ntmps42
        go_wp2_with fail
        refine HK.mono ?_
        rintro e w1 ⟨ev, rfl, he, hB1⟩
        obtain rfl := isErr_nil he hck
        have hX1 := (hB1.block _ (blk_lt HX0.out)).trans HX0.out
        have hx0 : w1.cell? ⟨w.heap.size, 0, none⟩ = some (.slice A ns.length c) := blk_cell hX1 0
        have HB1 := Aside0.mk (below_then HB0.out HB0.out.size hB1)
        clear he hB1
        go_wp2_with fail
        go_ret2
        exact ⟨rfl, HB1.out⟩
      · have d1 : decide ((ns.length : Int) ≤ node) = false := decide_eq_false hN
        have hins : inside ns.length node = true := by simp [inside]; omega
        have hat : atV ns rs node path = stepA ns path node := by unfold atV; rw [if_pos ⟨hck, hins⟩]
        rw [hat]
        clear hat
        obtain ⟨o, ho⟩ : ∃ o, stepA ns path node = o := ⟨_, rfl⟩
        rw [ho]
        have HO := Aside0.mk ho
        clear ho
        go_enter Try.func42, Try.ntmps42
        go_wp2_with fail
        refine HK.mono ?_
        rintro e w1 ⟨ev, rfl, he, hB1⟩
        obtain rfl := isErr_nil he hck
        have hX1 := (hB1.block _ (blk_lt HX0.out)).trans HX0.out
        have hx0 : w1.cell? ⟨w.heap.size, 0, none⟩ = some (.slice A ns.length c) := blk_cell hX1 0
        have HB1 := Aside0.mk (below_then HB0.out HB0.out.size hB1)
        have HG1 := Aside0.mk (HG.out.below hB1)
        have HP1 := Aside0.mk (Kd.C_below HP.out HB1.out)
        have HI0 := Aside0.mk hins
        clear he hB1 hX1 HB0 HX0 HK HG HP hins
        go_wp2_with fail
        go_loopw [1, 27] (fun nv i wr => ∃ (k : Nat) (n : Int), k ≤ path.length ∧ i = .int .i64 (k : Int) ∧ nv = .int .i64 n ∧ Aside0 (inside ns.length n = true ∧ o = stepA ns (path.drop k) n) ∧ w1 = wr) (fun _ i _ => path.length - (intOf i).toNat)
        case atStart => exact ⟨0, node, Nat.zero_le _, rfl, rfl, ⟨HI0.out, HO.out.symm⟩, rfl⟩
        case round =>
          obtain ⟨k, n, hk, rfl, rfl, HS, rfl⟩ := hrel
          by_cases hlt : k < path.length
          · obtain ⟨m, rfl⟩ : ∃ m : Nat, n = (m : Int) := Int.eq_ofNat_of_zero_le (by have := HS.out.1; simp [inside] at this; omega)
            have hm : m < ns.length := by have := HS.out.1; simp [inside] at this; omega
            obtain ⟨ad, cc, rfl, hcl, hK, hcc⟩ := Kd.C_get HP1.out 0 (k : Int) (by omega) (by omega)
            have hK' : cc = [.int .i64 (path.getD k 0)] := hK
            subst hK'
            have hx : w1.cell? (ad.add k) = some (.int .i64 (path.getD k 0)) := by
              have := hcc 0 _ rfl
              simpa [Kd.int, Kd.scalar] using this
            clear hK hcl hcc
            obtain ⟨ad2, A3, c3, rfl, n0', n1, n2, n3, l3, g3⟩ := node_at HG1.out.n hm
            have HD := Aside0.mk (show o = if 0 ≤ path.getD k 0 ∧ path.getD k 0 < ((ns.getD m z55).f3.length : Int) then stepA ns (path.drop (k + 1)) ((ns.getD m z55).f3.getD (path.getD k 0).toNat 0) else none by
              rw [HS.out.2, List.drop_eq_getElem_cons hlt]
              simp only [stepA, Int.toNat_natCast]
              simp [hlt])
            have HA := Aside0.mk (chk_arg hck HS.out.1)
            rw [Int.toNat_natCast] at HA
            clear n0' n1 n2
            generalize path.getD k 0 = t at *
            generalize hxx : ns.getD m z55 = x at *
            clear HS hxx
            have HC3 := Aside0.mk g3
            clear g3
            by_cases h0 : t < 0
            · have hv : o = none := by rw [HD.out, if_neg (by omega)]
              subst hv
              go_wp2_with fail
              go_ret2
              exact ⟨rfl, HB1.out⟩
            · by_cases hl : (x.f3.length : Int) ≤ t
              · have d3 : decide ((x.f3.length : Int) ≤ t) = true := decide_eq_true hl
                have hv : o = none := by rw [HD.out, if_neg (by omega)]
                subst hv
                go_wp2_with fail
                go_ret2
                exact ⟨rfl, HB1.out⟩
              · have d3 : decide ((x.f3.length : Int) ≤ t) = false := decide_eq_false hl
                obtain ⟨j, rfl⟩ : ∃ j : Nat, t = (j : Int) := Int.eq_ofNat_of_zero_le (by omega)
                obtain ⟨ad4, cc4, rfl, hcl4, hK4, hcc4⟩ := Kd.C_get HC3.out 0 (j : Int) (by omega) (by omega)
                have hK4' : cc4 = [.int .i64 (x.f3.getD j 0)] := hK4
                subst hK4'
                have hx4 : w1.cell? (ad4.add j) = some (.int .i64 (x.f3.getD j 0)) := by
                  have := hcc4 0 _ rfl
                  simpa [Kd.int, Kd.scalar] using this
                clear hK4 hcl4 hcc4
                have HN := Aside0.mk (And.intro (HA.out.1 (x.f3.getD j 0) (getD_mem (by omega))) (show o = stepA ns (path.drop (k + 1)) (x.f3.getD j 0) by rw [HD.out, if_pos (by omega), Int.toNat_natCast]))
                generalize x.f3.getD j 0 = u at *
                clear HD HA
                go_wp2_with fail
                go_roundw
                case rel => exact ⟨k + 1, u, by omega, by go_num, rfl, HN, trivial⟩
                case measure => simp [intOf]; omega
          · obtain rfl : k = path.length := by omega
            have hv : o = some n := by have := HS.out.2; rw [List.drop_length] at this; exact this
            subst hv
            go_wp2_with fail
            go_ret2
            exact ⟨rfl, HB1.out⟩
  · have hat : atV ns rs node path = none := by unfold atV; rw [if_neg (fun h => hck h.1)]
    rw [hat]
    go_enter Try.func42, Try.ntmps42
    go_wp2_with fail
    refine HK.mono ?_
    rintro e w1 ⟨ev, rfl, he, hB1⟩
    obtain ⟨b, rfl⟩ := isErr_some he hck
    have HB1 := Aside0.mk (below_then HB0.out HB0.out.size hB1)
    clear he hB1
    go_wp2_with fail
    go_ret2
    exact ⟨rfl, HB1.out⟩

end Go.Proofs.Ytgcjfobmccoibaa.Gr

/-! The fixed fact of the laws of graphs; the document's Check. What is asked: how the graph is read. -/
set_option linter.unusedSimpArgs false
set_option linter.unusedVariables false
namespace Go.Proofs.Ytgcjfobmccoibaa.Gr
open Go.RowKit Go.Proofs.YtgcjfobmccoibaaW.PrintWords Go.Proofs.YtgcjfobmccoibaaW.PrintLast Go.Proofs.YtgcjfobmccoibaaW.PrintMore
open Go.Proofs.Ytgcjfobmccoibaa.Nm

/-- A new list of numbers. -/
theorem ints_made (w : World) (l : List Int) (hl : l.length ≤ 1000000) : Kd.C (Kd.int .i64) (w.alloc (.cells (l.map (Value.int .i64)).toArray 3)) (some ⟨w.heap.size, 0, none⟩) l.length l := by
  have h2 : (w.alloc (.cells (l.map (Value.int .i64)).toArray 3)).ownsRow w.heap.size 3 1 (.slice (some ⟨w.heap.size, 0, none⟩) l.length l.length) l.length (encs (Value.int .i64) l) :=
    ⟨by simp [encs], .inr ⟨w.heap.size, l.length, _, rfl, Nat.le_refl _, blk_last w _, Nat.le_refl _, by simp only [maxLen]; omega, by simp, by simp only [encs, Nat.mul_one]; exact List.take_of_length_le (by simp)⟩⟩
  exact (Kd.R_reads' (Kd.R_of_own (h1 := fun _ => rfl) (ok := fun _ => True) h2 (fun _ _ => trivial))).2.2

def loopN : List S55 := [⟨4, ⟨#[102]⟩, 0, [1, 0]⟩, ⟨1, ⟨#[]⟩, 0, []⟩]
theorem loop_chk : chk loopN [0] = [] := by decide +kernel
theorem loop_at : atV loopN [0] 0 [1, 1, 0] = some 1 := by decide +kernel
theorem bad_chk : chk [z55] [] = [(40, 0, ⟨#[]⟩)] := by decide +kernel

theorem loop_calls (w : World) : Calls Try.prog 59 #[] w fun e w' => ∃ A c A' c', e = .returned (gv A c loopN A' c' [0]) ∧ IsG w' A c loopN A' c' [0] ∧ Below w.heap.size w w' := by
  refine (PGraphChecks.tendrillaw04_loop.calls loopN [0] w rfl).mono ?_
  rintro e w' ⟨v0, v1, rfl, h0, h1, hb⟩
  obtain ⟨A, c, rfl, l0, g0⟩ := Kd.N_reads h0
  obtain ⟨A', c', rfl, l1, g1⟩ := Kd.R_reads h1
  exact ⟨A, c, A', c', rfl, ⟨g0, g1, l0, l1⟩, hb⟩

set_option maxRecDepth 100000 in
set_option maxHeartbeats 1000000 in
theorem lives4_calls (w : World) : Calls Try.prog 28 #[] w fun e w' => e = .returned (.bool true) ∧ Below w.heap.size w w' := by
  go_enter Try.func28, Try.ntmps28
  go_wp2_with fail
  refine (loop_calls _).mono ?_
  rintro e w1 ⟨A, c, A', c', rfl, hG, hB⟩
  have HB := Aside0.mk hB
  have HG := Aside0.mk hG
  have HL := Aside0.mk (show loopN.length = 2 from rfl)
  simp only [gv]
  generalize hln : loopN = L at *
  clear hB hG
  go_wp2_with fail
  have HP := ints_made w1 [1, 1, 0] (by simp)
  have h := at_calls _ A c L A' c' [0] (HG.out.below (below_alloc (Below.refl _ w1) _)) 0 _ 3 [1, 1, 0] HP (by simp)
  subst hln
  rw [loop_at] at h
  refine h.mono ?_
  rintro e w2 ⟨rfl, hB2⟩
  have HB2 := Aside0.mk (below_then (HB.out.alloc HB.out.size _) (by have := HB.out.size; simp; omega) hB2)
  clear HB hB2 HG HP h
  go_wp2_with fail
  refine (loop_calls _).mono ?_
  rintro e w3 ⟨A, c, A', c', rfl, hG, hB⟩
  have HB3 := Aside0.mk (below_then HB2.out HB2.out.size hB)
  have HG3 := Aside0.mk hG
  clear hB hG HB2
  go_wp2_with fail
  refine (check_calls _ A c loopN A' c' [0] HG3.out).mono ?_
  rintro e w4 ⟨ev, rfl, he, hB4⟩
  obtain rfl := isErr_nil he loop_chk
  go_wp2_with fail
  go_ret
  exact ⟨rfl, below_then HB3.out HB3.out.size hB4⟩

theorem inside_iff {N a : Int} : inside N a = true ↔ 0 ≤ a ∧ a < N := by simp [inside]
theorem beqd (a b : Int) : (a == b) = decide (a = b) := by rw [Bool.eq_iff_iff]; simp
theorem rd_getD (l : List Int) (i : Nat) : rd l (i : Int) = l.getD i 0 := rfl
/-- The reference's fault, of which Is asks. -/
theorem chk_len (ns : List S55) (rs : List Int) : chk ns rs = [] ∨ ∃ c a, chk ns rs = [(c, a, ⟨#[]⟩)] ∧ c ≠ 0 := by
  unfold chk
  repeat' first
    | split
    | exact .inl rfl
    | exact .inr ⟨_, _, rfl, by decide⟩
end Go.Proofs.Ytgcjfobmccoibaa.Gr
