/- At: where a path leads; the fixed fact of the laws of graphs. What is asked: how the graph and the path are read. -/
import Derived.Test.YtgcjfobmccoibaaGr2
set_option linter.unusedSimpArgs false
set_option linter.unusedVariables false
namespace Go.Proofs.Ytgcjfobmccoibaa.Gr
open Go.RowKit Go.Proofs.YtgcjfobmccoibaaW.PrintWords Go.Proofs.YtgcjfobmccoibaaW.PrintLast Go.Proofs.YtgcjfobmccoibaaW.PrintMore
open Go.Proofs.Ytgcjfobmccoibaa.Nm

/-- Where a path leads from a node. -/
def stepA (ns : List S55) : List Int → Int → Option Int
  | [], n => some n
  | k :: r, n => if 0 ≤ k ∧ k < ((ns.getD n.toNat z55).f3.length : Int) then stepA ns r ((ns.getD n.toNat z55).f3.getD k.toNat 0) else none
def atV (ns : List S55) (rs : List Int) (node : Int) (path : List Int) : Option Int := if chk ns rs = [] ∧ inside ns.length node = true then stepA ns path node else none

theorem getD_mem {α : Type} {l : List α} {j : Nat} {d : α} (h : j < l.length) : l.getD j d ∈ l := by simp [h]
theorem findIdx_none_all {α : Type} {p : α → Bool} {l : List α} (h : l.findIdx? p = none) : ∀ x ∈ l, p x = false := by
  rw [List.findIdx?_eq_none_iff] at h
  exact fun x hx => by simpa using h x hx
theorem chk_parts {ns : List S55} {rs : List Int} (h : chk ns rs = []) : ns.length ≤ 4096 ∧ rs.length ≤ 4096 ∧ (∀ x ∈ ns, goodN x ns.length = true) ∧ (∀ r ∈ rs, inside ns.length r = true) := by
  unfold chk at h
  by_cases h1 : 4096 < ns.length
  · rw [if_pos h1] at h; cases h
  · rw [if_neg h1] at h
    by_cases h2 : 4096 < rs.length
    · rw [if_pos h2] at h; cases h
    · rw [if_neg h2] at h
      cases h3 : ns.findIdx? (fun x => !goodN x ns.length) with
      | some i => rw [h3] at h; cases h
      | none =>
        rw [h3] at h
        cases h4 : rs.findIdx? (fun r => !inside ns.length r) with
        | some i => rw [h4] at h; cases h
        | none => exact ⟨by omega, by omega, fun x hx => by have := findIdx_none_all h3 x hx; simpa using this, fun x hx => by have := findIdx_none_all h4 x hx; simpa using this⟩
theorem goodN_args {x : S55} {N : Int} (h : goodN x N = true) : (∀ a ∈ x.f3, inside N a = true) ∧ x.f3.length ≤ 8 := by
  unfold goodN at h
  split at h
  · simp only [Bool.and_eq_true, decide_eq_true_eq] at h
    exact ⟨List.all_eq_true.1 h.2.2.2.2, h.2.2.2.1⟩
  · split at h
    · cases h
    · rename_i h0
      have : x.f3 = [] := List.eq_nil_of_length_eq_zero (by omega)
      rw [this]
      simp
theorem chk_arg {ns : List S55} {rs : List Int} (h : chk ns rs = []) {n : Int} (hn : inside ns.length n = true) : (∀ a ∈ (ns.getD n.toNat z55).f3, inside ns.length a = true) ∧ (ns.getD n.toNat z55).f3.length ≤ 8 := by
  have hn' := hn
  simp [inside] at hn'
  have hm : ns.getD n.toNat z55 ∈ ns := by
    have : n.toNat < ns.length := by omega
    simp [this]
  exact goodN_args ((chk_parts h).2.2.1 _ hm)
theorem isErr_nil {w : World} {ok : Nat → Prop} {ev : Value} {r : List (Int × Int × ByteArray)} (h : IsErr w ok ev r) (hr : r = []) : ev = .nilIface := by rw [hr] at h; exact h
theorem isErr_some {w : World} {ok : Nat → Prop} {ev : Value} {r : List (Int × Int × ByteArray)} (h : IsErr w ok ev r) (hr : r ≠ []) : ∃ b, ev = .iface 93 (.pointer (some ⟨b, 0, none⟩)) := by
  cases r with
  | nil => exact absurd rfl hr
  | cons x r =>
    obtain ⟨c, a, n⟩ := x
    obtain ⟨b, cv, h1, _⟩ := h
    exact ⟨b, h1⟩

set_option maxRecDepth 100000 in
set_option maxHeartbeats 2000000 in
theorem at_calls (w : World) (A : Option Addr) (c : Nat) (ns : List S55) (A' : Option Addr) (c' : Nat) (rs : List Int) (h : IsG w A c ns A' c' rs) (node : Int) (P : Option Addr) (pc : Nat) (path : List Int) (hp : Kd.C (Kd.int .i64) w P path.length path) (hpl : path.length ≤ 1000000) :
    Calls Try.prog 42 #[gv A c ns A' c' rs, .int .i64 node, .slice P path.length pc] w fun e w' => e = .returned (.tuple #[.int .i64 ((atV ns rs node path).getD 0), .bool (atV ns rs node path).isSome]) ∧ Below w.heap.size w w' := by
  have HG := Aside0.mk (h.below (below_alloc (Below.refl w.heap.size w) (.cells #[.slice A ns.length c, .slice A' rs.length c'] 52)))
  have HP := Aside0.mk hp
  have HB0 := Aside0.mk (below_alloc (Below.refl w.heap.size w) (.cells #[.slice A ns.length c, .slice A' rs.length c'] 52))
  have HX0 := Aside0.mk (blk_last w (.cells #[.slice A ns.length c, .slice A' rs.length c'] 52))
  clear h hp
  have HK := check_calls (w.alloc (.cells #[.slice A ns.length c, .slice A' rs.length c'] 52)) A c ns A' c' rs HG.out
  simp only [gv] at HK ⊢
  by_cases hck : chk ns rs = []
  · by_cases h0 : node < 0
    · have hat : atV ns rs node path = none := by unfold atV; rw [if_neg (by simp [inside]; omega)]
      rw [hat]
      go_enter Try.func42, Try.ntmps42
      go_wp2_with fail
      refine HK.mono ?_
      rintro e w1 ⟨ev, rfl, he, hB1⟩
      obtain rfl := isErr_nil he hck
      have HB1 := Aside0.mk (below_then HB0.out HB0.out.size hB1)
      clear he hB1
      go_wp2_with fail
      go_ret2
      exact ⟨rfl, HB1.out⟩
    · by_cases hN : (ns.length : Int) ≤ node
      · have hat : atV ns rs node path = none := by unfold atV; rw [if_neg (by simp [inside]; omega)]
        have d1 : decide ((ns.length : Int) ≤ node) = true := decide_eq_true hN
        rw [hat]
        go_enter Try.func42, Try.ntmps42
        go_wp2_with fail
        refine HK.mono ?_
        rintro e w1 ⟨ev, rfl, he, hB1⟩
        obtain rfl := isErr_nil he hck
        have hX1 := (hB1.block _ (blk_lt HX0.out)).trans HX0.out
        have hx0 : w1.cell? ⟨w.heap.size, 0, none⟩ = some (.slice A ns.length c) := blk_cell hX1 0
        have HB1 := Aside0.mk (below_then HB0.out HB0.out.size hB1)
        clear he hB1
        go_wp2_with fail
        go_ret2
        exact ⟨rfl, HB1.out⟩
      · have d1 : decide ((ns.length : Int) ≤ node) = false := decide_eq_false hN
        have hins : inside ns.length node = true := by simp [inside]; omega
        have hat : atV ns rs node path = stepA ns path node := by unfold atV; rw [if_pos ⟨hck, hins⟩]
        rw [hat]
        clear hat
        obtain ⟨o, ho⟩ : ∃ o, stepA ns path node = o := ⟨_, rfl⟩
        rw [ho]
        have HO := Aside0.mk ho
        clear ho
        go_enter Try.func42, Try.ntmps42
        go_wp2_with fail
        refine HK.mono ?_
        rintro e w1 ⟨ev, rfl, he, hB1⟩
        obtain rfl := isErr_nil he hck
        have hX1 := (hB1.block _ (blk_lt HX0.out)).trans HX0.out
        have hx0 : w1.cell? ⟨w.heap.size, 0, none⟩ = some (.slice A ns.length c) := blk_cell hX1 0
        have HB1 := Aside0.mk (below_then HB0.out HB0.out.size hB1)
        have HG1 := Aside0.mk (HG.out.below hB1)
        have HP1 := Aside0.mk (Kd.C_below HP.out HB1.out)
        have HI0 := Aside0.mk hins
        clear he hB1 hX1 HB0 HX0 HK HG HP hins
        go_wp2_with fail
        go_loopw [1, 27] (fun nv i wr => ∃ (k : Nat) (n : Int), k ≤ path.length ∧ i = .int .i64 (k : Int) ∧ nv = .int .i64 n ∧ Aside0 (inside ns.length n = true ∧ o = stepA ns (path.drop k) n) ∧ w1 = wr) (fun _ i _ => path.length - (intOf i).toNat)
        case atStart => exact ⟨0, node, Nat.zero_le _, rfl, rfl, ⟨HI0.out, HO.out.symm⟩, rfl⟩
        case round =>
          obtain ⟨k, n, hk, rfl, rfl, HS, rfl⟩ := hrel
          by_cases hlt : k < path.length
          · obtain ⟨m, rfl⟩ : ∃ m : Nat, n = (m : Int) := Int.eq_ofNat_of_zero_le (by have := HS.out.1; simp [inside] at this; omega)
            have hm : m < ns.length := by have := HS.out.1; simp [inside] at this; omega
            obtain ⟨ad, cc, rfl, hcl, hK, hcc⟩ := Kd.C_get HP1.out 0 (k : Int) (by omega) (by omega)
            have hK' : cc = [.int .i64 (path.getD k 0)] := hK
            subst hK'
            have hx : w1.cell? (ad.add k) = some (.int .i64 (path.getD k 0)) := by
              have := hcc 0 _ rfl
              simpa [Kd.int, Kd.scalar] using this
            clear hK hcl hcc
            obtain ⟨ad2, A3, c3, rfl, n0', n1, n2, n3, l3, g3⟩ := node_at HG1.out.n hm
            have HD := Aside0.mk (show o = if 0 ≤ path.getD k 0 ∧ path.getD k 0 < ((ns.getD m z55).f3.length : Int) then stepA ns (path.drop (k + 1)) ((ns.getD m z55).f3.getD (path.getD k 0).toNat 0) else none by
              rw [HS.out.2, List.drop_eq_getElem_cons hlt]
              simp only [stepA, Int.toNat_natCast]
              simp [hlt])
            have HA := Aside0.mk (chk_arg hck HS.out.1)
            rw [Int.toNat_natCast] at HA
            clear n0' n1 n2
            generalize path.getD k 0 = t at *
            generalize hxx : ns.getD m z55 = x at *
            clear HS hxx
            have HC3 := Aside0.mk g3
            clear g3
            by_cases h0 : t < 0
            · have hv : o = none := by rw [HD.out, if_neg (by omega)]
              subst hv
              go_wp2_with fail
              go_ret2
              exact ⟨rfl, HB1.out⟩
            · by_cases hl : (x.f3.length : Int) ≤ t
              · have d3 : decide ((x.f3.length : Int) ≤ t) = true := decide_eq_true hl
                have hv : o = none := by rw [HD.out, if_neg (by omega)]
                subst hv
                go_wp2_with fail
                go_ret2
                exact ⟨rfl, HB1.out⟩
              · have d3 : decide ((x.f3.length : Int) ≤ t) = false := decide_eq_false hl
                obtain ⟨j, rfl⟩ : ∃ j : Nat, t = (j : Int) := Int.eq_ofNat_of_zero_le (by omega)
                obtain ⟨ad4, cc4, rfl, hcl4, hK4, hcc4⟩ := Kd.C_get HC3.out 0 (j : Int) (by omega) (by omega)
                have hK4' : cc4 = [.int .i64 (x.f3.getD j 0)] := hK4
                subst hK4'
                have hx4 : w1.cell? (ad4.add j) = some (.int .i64 (x.f3.getD j 0)) := by
                  have := hcc4 0 _ rfl
                  simpa [Kd.int, Kd.scalar] using this
                clear hK4 hcl4 hcc4
                have HN := Aside0.mk (And.intro (HA.out.1 (x.f3.getD j 0) (getD_mem (by omega))) (show o = stepA ns (path.drop (k + 1)) (x.f3.getD j 0) by rw [HD.out, if_pos (by omega), Int.toNat_natCast]))
                generalize x.f3.getD j 0 = u at *
                clear HD HA
                go_wp2_with fail
                go_roundw
                case rel => exact ⟨k + 1, u, by omega, by go_num, rfl, HN, trivial⟩
                case measure => simp [intOf]; omega
          · obtain rfl : k = path.length := by omega
            have hv : o = some n := by have := HS.out.2; rw [List.drop_length] at this; exact this
            subst hv
            go_wp2_with fail
            go_ret2
            exact ⟨rfl, HB1.out⟩
  · have hat : atV ns rs node path = none := by unfold atV; rw [if_neg (fun h => hck h.1)]
    rw [hat]
    go_enter Try.func42, Try.ntmps42
    go_wp2_with fail
    refine HK.mono ?_
    rintro e w1 ⟨ev, rfl, he, hB1⟩
    obtain ⟨b, rfl⟩ := isErr_some he hck
    have HB1 := Aside0.mk (below_then HB0.out HB0.out.size hB1)
    clear he hB1
    go_wp2_with fail
    go_ret2
    exact ⟨rfl, HB1.out⟩

end Go.Proofs.Ytgcjfobmccoibaa.Gr
