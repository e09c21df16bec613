/- Check of a graph, by its walk. What is asked: how the graph's nodes and roots are read. -/
import Derived.Test.YtgcjfobmccoibaaGr1
set_option linter.unusedSimpArgs false
set_option linter.unusedVariables false
namespace Go.Proofs.Ytgcjfobmccoibaa.Gr
open Go.RowKit Go.Proofs.YtgcjfobmccoibaaW.PrintWords Go.Proofs.YtgcjfobmccoibaaW.PrintLast Go.Proofs.YtgcjfobmccoibaaW.PrintMore
open Go.Proofs.Ytgcjfobmccoibaa.Nm

theorem fault_calls (w : World) (c a : Int) :
    Calls Try.prog 60 #[.int .i64 c, .int .i64 a] w fun e w' => ∃ ev, e = .returned ev ∧ IsErr w' (fun k => w.heap.size ≤ k) ev [(c, a, ⟨#[]⟩)] ∧ Below w.heap.size w w' := by
  go_enter Try.func60, Try.ntmps60
  go_wp2
  go_ret
  exact ⟨_, rfl, isErr_made (Below.refl _ w) c a ⟨#[]⟩, below_alloc (Below.refl _ w) _⟩

/-- The fault of a graph (none: []). -/
def chk (ns : List S55) (rs : List Int) : List (Int × Int × ByteArray) :=
  if 4096 < ns.length then [(41, (ns.length : Int), ⟨#[]⟩)]
  else if 4096 < rs.length then [(42, (rs.length : Int), ⟨#[]⟩)]
  else match ns.findIdx? (fun x => !goodN x ns.length) with
    | some i => [(40, (i : Int), ⟨#[]⟩)]
    | none => match rs.findIdx? (fun r => !inside ns.length r) with
      | some i => [(43, (i : Int), ⟨#[]⟩)]
      | none => []

theorem findIdx_at {α : Type} {p : α → Bool} {l : List α} {k : Nat} (hk : k < l.length) (h : ∀ x ∈ l.take k, p x = false) (d : α) (hp : p (l.getD k d) = true) : l.findIdx? p = some k := by
  rw [List.findIdx?_eq_some_iff_getElem]
  refine ⟨hk, by simpa [hk] using hp, fun j hj => ?_⟩
  have : l[j] ∈ l.take k := List.mem_take_iff_getElem.2 ⟨j, by omega, rfl⟩
  simp [h _ this]
theorem findIdx_no {α : Type} {p : α → Bool} {l : List α} (h : ∀ x ∈ l, p x = false) : l.findIdx? p = none := by
  rw [List.findIdx?_eq_none_iff]
  exact fun x hx => h x hx
theorem take_step {α : Type} {p : α → Bool} {l : List α} {k : Nat} (hk : k < l.length) (h : ∀ x ∈ l.take k, p x = false) (d : α) (hp : p (l.getD k d) = false) : ∀ x ∈ l.take (k + 1), p x = false := by
  intro x hx
  rw [List.take_succ_eq_append_getElem hk] at hx
  rcases List.mem_append.1 hx with h1 | h1
  · exact h x h1
  · have := List.mem_singleton.1 h1
    rw [this]
    simpa [hk] using hp

/-- How a graph lies: its nodes, its roots. -/
structure IsG (w : World) (A : Option Addr) (c : Nat) (ns : List S55) (A' : Option Addr) (c' : Nat) (rs : List Int) : Prop where
  n : Kd.C k55 w A ns.length ns
  r : Kd.C (Kd.int .i64) w A' rs.length rs
  ln : ns.length ≤ c
  lr : rs.length ≤ c'
theorem IsG.below {w w1 : World} {A : Option Addr} {c : Nat} {ns : List S55} {A' : Option Addr} {c' : Nat} {rs : List Int} (h : IsG w A c ns A' c' rs) (hb : Below w.heap.size w w1) : IsG w1 A c ns A' c' rs :=
  ⟨Kd.C_below h.n hb, Kd.C_below h.r hb, h.ln, h.lr⟩
def gv (A : Option Addr) (c : Nat) (ns : List S55) (A' : Option Addr) (c' : Nat) (rs : List Int) : Value := .agg #[.slice A ns.length c, .slice A' rs.length c']

/-- Node k as the walk reads it. -/
theorem node_at {w : World} {A : Option Addr} {n : Nat} {ns : List S55} (h : Kd.C k55 w A n ns) {k : Nat} (hk : k < n) : ∃ ad A3 c3, A = some ad ∧ w.cell? (ad.add (k * 4)) = some (.int .i64 (ns.getD k z55).f0) ∧
    w.cell? ⟨(ad.add (k * 4)).block, (ad.add (k * 4)).off + 1, none⟩ = some (.string (ns.getD k z55).f1) ∧ w.cell? ⟨(ad.add (k * 4)).block, (ad.add (k * 4)).off + 2, none⟩ = some (.int .i64 (ns.getD k z55).f2) ∧
    w.cell? ⟨(ad.add (k * 4)).block, (ad.add (k * 4)).off + 3, none⟩ = some (.slice A3 (ns.getD k z55).f3.length c3) ∧ (ns.getD k z55).f3.length ≤ c3 ∧ (Kd.int .i64).C w A3 (ns.getD k z55).f3.length (ns.getD k z55).f3 := by
  obtain ⟨ad, A3, c3, hA, n0, n1, n2, n3, l3, g3⟩ := PGraphChecks.at_T55 h (k : Int) (by omega) (by omega)
  exact ⟨ad, A3, c3, hA, n0, n1, n2, n3, l3, g3⟩

set_option maxRecDepth 100000 in
set_option maxHeartbeats 2000000 in
theorem check_calls (w : World) (A : Option Addr) (c : Nat) (ns : List S55) (A' : Option Addr) (c' : Nat) (rs : List Int) (h : IsG w A c ns A' c' rs) :
    Calls Try.prog 29 #[gv A c ns A' c' rs] w fun e w' => ∃ ev, e = .returned ev ∧ IsErr w' (fun k => w.heap.size ≤ k) ev (chk ns rs) ∧ Below w.heap.size w w' := by
  have HG := Aside0.mk h
  clear h
  simp only [gv]
  by_cases h1 : 4096 < ns.length
  · have d1 : decide (4096 < ns.length) = true := decide_eq_true h1
    have d1' : decide (4096 < (ns.length : Int)) = true := decide_eq_true (by omega)
    have HK : Aside0 (chk ns rs = [(41, (ns.length : Int), ⟨#[]⟩)]) := ⟨by unfold chk; rw [if_pos h1]⟩
    have HB1 := Aside0.mk (below_alloc (Below.refl w.heap.size w) (.cells #[.slice A ns.length c, .slice A' rs.length c'] 52))
    go_enter Try.func29, Try.ntmps29
    go_wp2_with fail
    refine (fault_calls _ 41 (ns.length : Int)).mono ?_
    rintro e w2 ⟨ev, rfl, he, hB2⟩
    go_wp2_with fail
    go_ret
    exact ⟨ev, rfl, by rw [HK.out]; exact he.mono (fun j hj => Nat.le_trans HB1.out.size hj), below_then HB1.out HB1.out.size hB2⟩
  · have d1 : decide (4096 < ns.length) = false := decide_eq_false h1
    have d1' : decide (4096 < (ns.length : Int)) = false := decide_eq_false (by omega)
    by_cases h2 : 4096 < rs.length
    · have d2 : decide (4096 < rs.length) = true := decide_eq_true h2
      have d2' : decide (4096 < (rs.length : Int)) = true := decide_eq_true (by omega)
      have HK : Aside0 (chk ns rs = [(42, (rs.length : Int), ⟨#[]⟩)]) := ⟨by unfold chk; rw [if_neg h1, if_pos h2]⟩
      have HB1 := Aside0.mk (below_alloc (Below.refl w.heap.size w) (.cells #[.slice A ns.length c, .slice A' rs.length c'] 52))
      go_enter Try.func29, Try.ntmps29
      go_wp2_with fail
      refine (fault_calls _ 42 (rs.length : Int)).mono ?_
      rintro e w2 ⟨ev, rfl, he, hB2⟩
      go_wp2_with fail
      go_ret
      exact ⟨ev, rfl, by rw [HK.out]; exact he.mono (fun j hj => Nat.le_trans HB1.out.size hj), below_then HB1.out HB1.out.size hB2⟩
    · have d2 : decide (4096 < rs.length) = false := decide_eq_false h2
      have d2' : decide (4096 < (rs.length : Int)) = false := decide_eq_false (by omega)
      have HB0 := Aside0.mk (below_alloc (Below.refl w.heap.size w) (.cells #[.slice A ns.length c, .slice A' rs.length c'] 52))
      have HX0 := Aside0.mk (blk_last w (.cells #[.slice A ns.length c, .slice A' rs.length c'] 52))
      go_enter Try.func29, Try.ntmps29
      go_wp2_with fail
      go_loopw [26] (fun i wr => ∃ k : Nat, k ≤ ns.length ∧ i = .int .i64 (k : Int) ∧ Aside0 ((∀ x ∈ ns.take k, (!goodN x ns.length) = false) ∧ Below w.heap.size w wr ∧ wr.heap[w.heap.size]? = some (.cells #[.slice A ns.length c, .slice A' rs.length c'] 52 (0, 0)))) (fun i _ => ns.length - (intOf i).toNat)
      case atStart => exact ⟨0, Nat.zero_le _, rfl, ⟨by simp, HB0.out, HX0.out⟩⟩
      case round =>
        clear HB0 HX0
        obtain ⟨k, hk, rfl, HS⟩ := hrel
        have hx0 : wr.cell? ⟨w.heap.size, 0, none⟩ = some (.slice A ns.length c) := blk_cell HS.out.2.2 0
        have hx1 : wr.cell? ⟨w.heap.size, 1, none⟩ = some (.slice A' rs.length c') := blk_cell HS.out.2.2 1
        have hy0 : ∀ o, (wr.alloc o).cell? ⟨w.heap.size, 0, none⟩ = some (.slice A ns.length c) := fun o => blk_cell (blk_old o HS.out.2.2) 0
        by_cases hlt : k < ns.length
        · obtain ⟨ad, A3, c3, rfl, n0, n1, n2, n3, l3, g3⟩ := node_at (Kd.C_below HG.out.n HS.out.2.1) hlt
          generalize hx : ns.getD k z55 = x at *
          have HC3 := Aside0.mk g3
          clear g3
          go_wp2_with fail
          refine (node_calls _ x A3 c3 _ (Kd.C_alloc HC3.out _)).mono ?_
          cases hg : goodN x ns.length with
          | true =>
            rintro e w1 ⟨rfl, hB1⟩
            have HS1 : Aside0 ((∀ x ∈ ns.take (k + 1), (!goodN x ns.length) = false) ∧ Below w.heap.size w w1 ∧ w1.heap[w.heap.size]? = some (.cells #[.slice (some ad) ns.length c, .slice A' rs.length c'] 52 (0, 0))) :=
              ⟨take_step hlt HS.out.1 z55 (by rw [hx, hg]; rfl), below_then (HS.out.2.1.alloc HS.out.2.1.size _) (by have := HS.out.2.1.size; simp; omega) hB1, (hB1.block _ (by have := blk_lt HS.out.2.2; simp; omega)).trans (blk_old _ HS.out.2.2)⟩
            clear HS
            go_wp2_with fail
            go_roundw
            case rel => exact ⟨k + 1, by omega, by go_num, HS1⟩
            case measure => simp [intOf]; omega
          | false =>
            have hfi : ns.findIdx? (fun x => !goodN x ns.length) = some k := findIdx_at hlt HS.out.1 z55 (by rw [hx, hg]; rfl)
            rintro e w1 ⟨rfl, hB1⟩
            have HB1 := Aside0.mk (below_then (HS.out.2.1.alloc HS.out.2.1.size _) (by have := HS.out.2.1.size; simp; omega) hB1)
            have HK : Aside0 (chk ns rs = [(40, (k : Int), ⟨#[]⟩)]) := ⟨by unfold chk; rw [if_neg h1, if_neg h2, hfi]⟩
            clear HS hB1 hfi
            go_wp2_with fail
            refine (fault_calls _ 40 (k : Int)).mono ?_
            rintro e w2 ⟨ev, rfl, he, hB2⟩
            go_wp2_with fail
            go_ret
            exact ⟨ev, rfl, by rw [HK.out]; exact he.mono (fun j hj => Nat.le_trans HB1.out.size hj), below_then HB1.out HB1.out.size hB2⟩
        · obtain rfl : k = ns.length := by omega
          clear hlt hk
          have HN : Aside0 (ns.findIdx? (fun x => !goodN x ns.length) = none) := ⟨findIdx_no (by have := HS.out.1; rwa [List.take_length] at this)⟩
          have HB1 := Aside0.mk HS.out.2
          clear HS
          go_wp2_with fail
          go_loopw [43] (fun i wr => ∃ k : Nat, k ≤ rs.length ∧ i = .int .i64 (k : Int) ∧ Aside0 ((∀ x ∈ rs.take k, (!inside ns.length x) = false) ∧ Below w.heap.size w wr ∧ wr.heap[w.heap.size]? = some (.cells #[.slice A ns.length c, .slice A' rs.length c'] 52 (0, 0)))) (fun i _ => rs.length - (intOf i).toNat)
          case atStart => exact ⟨0, Nat.zero_le _, rfl, ⟨by simp, HB1.out.1, HB1.out.2⟩⟩
          case round =>
            clear HB1 hx0 hx1 hy0
            obtain ⟨k, hk, rfl, HS⟩ := hrel
            have hx0 : wr.cell? ⟨w.heap.size, 0, none⟩ = some (.slice A ns.length c) := blk_cell HS.out.2.2 0
            have hx1 : wr.cell? ⟨w.heap.size, 1, none⟩ = some (.slice A' rs.length c') := blk_cell HS.out.2.2 1
            by_cases hlt : k < rs.length
            · obtain ⟨ad, cc, rfl, hcl, hK, hcc⟩ := Kd.C_get (Kd.C_below HG.out.r HS.out.2.1) 0 (k : Int) (by omega) (by omega)
              have hK' : cc = [.int .i64 (rs.getD k 0)] := hK
              subst hK'
              have hx : wr.cell? (ad.add k) = some (.int .i64 (rs.getD k 0)) := by
                have := hcc 0 _ rfl
                simpa [Kd.int, Kd.scalar] using this
              clear hK hcl hcc
              generalize hr : rs.getD k 0 = r at *
              cases hi : inside ns.length r with
              | true =>
                have HS1 : Aside0 ((∀ x ∈ rs.take (k + 1), (!inside ns.length x) = false) ∧ Below w.heap.size w wr ∧ wr.heap[w.heap.size]? = some (.cells #[.slice A ns.length c, .slice (some ad) rs.length c'] 52 (0, 0))) :=
                  ⟨take_step hlt HS.out.1 0 (by rw [hr, hi]; rfl), HS.out.2⟩
                have i1 : decide (r < 0) = false := by simp [inside] at hi; simp; omega
                have i2 : decide ((ns.length : Int) ≤ r) = false := by simp [inside] at hi; simp; omega
                clear HS
                go_wp2_with fail
                go_roundw
                case rel => exact ⟨k + 1, by omega, by go_num, HS1⟩
                case measure => simp [intOf]; omega
              | false =>
                have hfi : rs.findIdx? (fun x => !inside ns.length x) = some k := findIdx_at hlt HS.out.1 0 (by rw [hr, hi]; rfl)
                have HB1 := Aside0.mk HS.out.2.1
                have HK : Aside0 (chk ns rs = [(43, (k : Int), ⟨#[]⟩)]) := ⟨by unfold chk; rw [if_neg h1, if_neg h2, HN.out, hfi]⟩
                clear HS hfi
                by_cases h0 : r < 0
                · go_wp2_with fail
                  refine (fault_calls _ 43 (k : Int)).mono ?_
                  rintro e w2 ⟨ev, rfl, he, hB2⟩
                  go_wp2_with fail
                  go_ret
                  exact ⟨ev, rfl, by rw [HK.out]; exact he.mono (fun j hj => Nat.le_trans HB1.out.size hj), below_then HB1.out HB1.out.size hB2⟩
                · have i2 : decide ((ns.length : Int) ≤ r) = true := by simp [inside] at hi; simp; omega
                  go_wp2_with fail
                  refine (fault_calls _ 43 (k : Int)).mono ?_
                  rintro e w2 ⟨ev, rfl, he, hB2⟩
                  go_wp2_with fail
                  go_ret
                  exact ⟨ev, rfl, by rw [HK.out]; exact he.mono (fun j hj => Nat.le_trans HB1.out.size hj), below_then HB1.out HB1.out.size hB2⟩
            · obtain rfl : k = rs.length := by omega
              clear hlt hk
              have HK : Aside0 (chk ns rs = []) := ⟨by unfold chk; rw [if_neg h1, if_neg h2, HN.out, findIdx_no (by have := HS.out.1; rwa [List.take_length] at this)]⟩
              have HB1 := Aside0.mk HS.out.2.1
              clear HS
              go_wp2_with fail
              go_ret
              exact ⟨_, rfl, by rw [HK.out]; rfl, HB1.out⟩

end Go.Proofs.Ytgcjfobmccoibaa.Gr
