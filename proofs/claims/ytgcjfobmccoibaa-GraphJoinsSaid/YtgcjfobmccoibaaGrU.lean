/- Join of graphs, by its walk. What is asked: how the list of graphs is read; that it has at most 1000 graphs. -/
import Derived.Test.YtgcjfobmccoibaaKg
import Derived.Test.YtgcjfobmccoibaaGrQ5
set_option linter.unusedSimpArgs false
set_option linter.unusedVariables false
namespace Go.Proofs.Ytgcjfobmccoibaa.Gr
open Go.RowKit Go.Proofs.YtgcjfobmccoibaaW.PrintWords Go.Proofs.YtgcjfobmccoibaaW.PrintLast Go.Proofs.YtgcjfobmccoibaaW.PrintMore
open Go.Proofs.Ytgcjfobmccoibaa.Nm
open Go.Proofs.Ytgcjfobmccoibaa.PGraphChecks (S52 z52 k52 at_T52 rd_T52)

def sumN (gs : List S52) : Nat := (gs.map fun g => g.f0.length).sum
def sumR (gs : List S52) : Nat := (gs.map fun g => g.f1.length).sum
def prs (gs : List S52) : List (List S55 × List Int) := gs.map fun g => (g.f0, g.f1)
def badG (g : S52) : Bool := !(chk g.f0 g.f1).isEmpty
/-- The fault of a Join (none: []). -/
def joinE (gs : List S52) : List (Int × Int × ByteArray) := match gs.findIdx? badG with
  | some i => (44, (i : Int), ⟨#[]⟩) :: chk (gs.getD i z52).f0 (gs.getD i z52).f1
  | none => if 4096 < sumN gs then [(41, (sumN gs : Int), ⟨#[]⟩)] else if 4096 < sumR gs then [(42, (sumR gs : Int), ⟨#[]⟩)] else []
theorem take_next {gs : List S52} {k : Nat} (hk : k < gs.length) : gs.take (k + 1) = gs.take k ++ [gs.getD k z52] := by
  rw [List.take_succ_eq_append_getElem hk]
  simp [hk]
theorem sumN_take {gs : List S52} {k : Nat} (hk : k < gs.length) : sumN (gs.take (k + 1)) = sumN (gs.take k) + (gs.getD k z52).f0.length := by
  rw [take_next hk]; simp [sumN]
theorem sumR_take {gs : List S52} {k : Nat} (hk : k < gs.length) : sumR (gs.take (k + 1)) = sumR (gs.take k) + (gs.getD k z52).f1.length := by
  rw [take_next hk]; simp [sumR]
theorem sum_take_le (gs : List S52) (k : Nat) : sumN (gs.take k) ≤ sumN gs ∧ sumR (gs.take k) ≤ sumR gs := by
  have h := List.take_append_drop k gs
  have h1 : sumN (gs.take k ++ gs.drop k) = sumN (gs.take k) + sumN (gs.drop k) := by unfold sumN; rw [List.map_append, List.sum_append]
  have h2 : sumR (gs.take k ++ gs.drop k) = sumR (gs.take k) + sumR (gs.drop k) := by unfold sumR; rw [List.map_append, List.sum_append]
  rw [h] at h1 h2
  omega
theorem join_take {gs : List S52} {k : Nat} (hk : k < gs.length) : joinG (prs (gs.take (k + 1))) = joinStep (joinG (prs (gs.take k))) ((gs.getD k z52).f0, (gs.getD k z52).f1) := by
  rw [take_next hk]; simp [prs, joinG]
theorem badG_no {g : S52} (h : badG g = false) : chk g.f0 g.f1 = [] := by
  simpa [badG] using h
theorem badG_yes {g : S52} (h : badG g = true) : chk g.f0 g.f1 ≠ [] := by
  intro e
  simp [badG, e] at h
theorem sum_le {gs : List S52} (h : ∀ g ∈ gs, badG g = false) : sumN gs ≤ 4096 * gs.length ∧ sumR gs ≤ 4096 * gs.length := by
  induction gs with
  | nil => simp [sumN, sumR]
  | cons g gs ih =>
    have h1 := chk_parts (badG_no (h g (by simp)))
    have h2 := ih (fun x hx => h x (by simp [hx]))
    simp only [sumN, sumR, List.map_cons, List.sum_cons, List.length_cons] at h2 ⊢
    omega
theorem joinG_len (gs : List S52) : (joinG (prs gs)).1.length = sumN gs ∧ (joinG (prs gs)).2.length = sumR gs := by
  have key : ∀ (l : List S52) (s : List S55 × List Int), ((prs l).foldl joinStep s).1.length = s.1.length + sumN l ∧ ((prs l).foldl joinStep s).2.length = s.2.length + sumR l := by
    intro l
    induction l with
    | nil => intro s; simp [prs, sumN, sumR]
    | cons g l ih =>
      intro s
      have := ih (joinStep s (g.f0, g.f1))
      simp only [prs, List.map_cons, List.foldl_cons] at this ⊢
      rw [this.1, this.2]
      simp [joinStep, shiftL, sumN, sumR]
      omega
  have := key gs ([], [])
  simpa [joinG] using this

set_option maxRecDepth 100000 in
set_option maxHeartbeats 4000000 in
theorem join_calls (w : World) (A : Option Addr) (c : Nat) (gs : List S52) (hC : Kd.C k52 w A gs.length gs) (hl : gs.length ≤ 1000) :
    Calls Try.prog 35 #[.slice A gs.length c] w fun e w' => ∃ v0 v1 ev, e = .returned (.tuple #[.agg #[v0, v1], ev]) ∧ IsErr w' (fun k => w.heap.size ≤ k) ev (joinE gs) ∧ Below w.heap.size w w' ∧
      (joinE gs = [] → Ow w.heap.size w (joinG (prs gs)).1 (joinG (prs gs)).2 v0 v1 w') ∧ (joinE gs ≠ [] → v0 = .slice none 0 0 ∧ v1 = .slice none 0 0) := by
  have HC := Aside0.mk hC
  clear hC
  have HS0 := Aside0.mk (blk_last w (.cells #[.slice none 0 0, .slice none 0 0] 52))
  have HB0 := Aside0.mk (below_alloc (Below.refl w.heap.size w) (.cells #[.slice none 0 0, .slice none 0 0] 52))
  go_enter Try.func35, Try.ntmps35
  go_wp2_with fail
  go_loopw [4, 5, 20] (fun n r i wr => ∃ k : Nat, k ≤ gs.length ∧ n = .int .i64 (sumN (gs.take k) : Int) ∧ r = .int .i64 (sumR (gs.take k) : Int) ∧ i = .int .i64 (k : Int) ∧ Aside0 ((∀ x ∈ gs.take k, badG x = false) ∧ Below w.heap.size w wr ∧ wr.heap[w.heap.size]? = some (.cells #[.slice none 0 0, .slice none 0 0] 52 (0, 0)))) (fun _ _ i _ => gs.length - (intOf i).toNat)
  case atStart => exact ⟨0, Nat.zero_le _, by simp [sumN], by simp [sumR], rfl, ⟨by simp, HB0.out, HS0.out⟩⟩
  case round =>
    clear HS0 HB0
    obtain ⟨k, hk, rfl, rfl, rfl, HS⟩ := hrel
    by_cases hlt : k < gs.length
    · obtain ⟨ad, A0, c0, A1, c1, rfl, e0, e1, l0, g0, l1, g1⟩ := at_T52 HC.out (k : Int) (by omega) (by omega)
      have hN := sumN_take hlt
      have hR := sumR_take hlt
      have hb := sum_le HS.out.1
      rw [List.length_take, Nat.min_eq_left hk] at hb
      have hgd : rd_T52 gs (k : Int) = gs.getD k z52 := by simp [rd_T52]
      rw [Int.toNat_natCast] at e0 e1
      rw [hgd] at e0 e1 l0 g0 l1 g1
      replace e0 := pw_cell_below HS.out.2.1 e0
      replace e1 := pw_cell_below HS.out.2.1 e1
      have HG : Aside0 (IsG wr A0 c0 (gs.getD k z52).f0 A1 c1 (gs.getD k z52).f1) := ⟨(IsG.mk g0 g1 l0 l1).below HS.out.2.1⟩
      obtain ⟨g, hg⟩ : ∃ g, gs.getD k z52 = g := ⟨_, rfl⟩
      rw [hg] at e0 e1 l0 g0 l1 g1 HG hN hR
      have HGD := Aside0.mk hg
      clear hg hgd g0 g1 l0 l1
      have HS2 := Aside0.mk (And.intro (HS.out.2.1.alloc HS.out.2.1.size (.cells #[.slice A0 g.f0.length c0, .slice A1 g.f1.length c1] 52)) (And.intro (blk_old (.cells #[.slice A0 g.f0.length c0, .slice A1 g.f1.length c1] 52) HS.out.2.2) (blk_last wr (.cells #[.slice A0 g.f0.length c0, .slice A1 g.f1.length c1] 52))))
      have C1 := check_calls (A := A0) (c := c0) (A' := A1) (c' := c1) (ns := g.f0) (rs := g.f1)
      simp only [gv] at C1
      cases hbg : badG g with
      | false =>
        have hck := badG_no hbg
        have hp := chk_parts hck
        have HT := Aside0.mk (take_step hlt HS.out.1 z52 (by rw [HGD.out]; exact hbg))
        have hwN : wrap64 ((sumN (gs.take k) : Int) + (g.f0.length : Int)) = (sumN (gs.take (k + 1)) : Int) := by rw [wrap_in (by omega) (by omega), hN]; simp
        have hwR : wrap64 ((sumR (gs.take k) : Int) + (g.f1.length : Int)) = (sumR (gs.take (k + 1)) : Int) := by rw [wrap_in (by omega) (by omega), hR]; simp
        go_wp2_with fail
        refine (C1 _ (HG.out.below (below_alloc (Below.refl _ _) _))).mono ?_
        rintro e w1 ⟨ev, rfl, he, hB1⟩
        obtain rfl := isErr_nil he hck
        have HW : Aside0 ((∀ x ∈ gs.take (k + 1), badG x = false) ∧ Below w.heap.size w w1 ∧ w1.heap[w.heap.size]? = some (.cells #[.slice none 0 0, .slice none 0 0] 52 (0, 0))) :=
          ⟨HT.out, below_then HS2.out.1 HS2.out.1.size hB1, (hB1.block _ (blk_lt HS2.out.2.1)).trans HS2.out.2.1⟩
        have hbx := (hB1.block _ (blk_lt HS2.out.2.2)).trans HS2.out.2.2
        have b0 : w1.cell? ⟨wr.heap.size, 0, none⟩ = some (.slice A0 g.f0.length c0) := blk_cell hbx 0
        have b1 : w1.cell? ⟨wr.heap.size, 1, none⟩ = some (.slice A1 g.f1.length c1) := blk_cell hbx 1
        clear HS HS2 he hB1 hbx C1 e0 e1 HG HT hN hR hb
        go_wp2_with fail
        go_roundw
        case rel => exact ⟨k + 1, by omega, by first | rfl | simp [hwN], by first | rfl | simp [hwR], by go_num, HW⟩
        case measure => simp [intOf]; omega
      | true =>
        have hck := badG_yes hbg
        have HE : Aside0 (joinE gs = (44, (k : Int), ⟨#[]⟩) :: chk g.f0 g.f1) := ⟨by
          unfold joinE
          rw [findIdx_at hlt HS.out.1 z52 (by rw [HGD.out]; exact hbg)]
          dsimp only
          rw [HGD.out]⟩
        go_wp2_with fail
        refine (C1 _ (HG.out.below (below_alloc (Below.refl _ _) _))).mono ?_
        rintro e w1 ⟨ev, rfl, he, hB1⟩
        obtain ⟨b, rfl⟩ := isErr_some he hck
        have HEV := Aside0.mk he
        have HWR := Aside0.mk (blk_lt HS.out.2.2)
        have HW := Aside0.mk (And.intro (below_then HS2.out.1 HS2.out.1.size hB1) ((hB1.block _ (blk_lt HS2.out.2.1)).trans HS2.out.2.1))
        clear HS HS2 he hB1 C1 e0 e1 HG hN hR hb
        have s0 : w1.cell? ⟨w.heap.size, 0, none⟩ = some (.slice none 0 0) := blk_cell HW.out.2 0
        have s1 : w1.cell? ⟨w.heap.size, 1, none⟩ = some (.slice none 0 0) := blk_cell HW.out.2 1
        have sf : ∀ j, w1.frozen? ⟨w.heap.size, j, none⟩ = false := fun j => blk_frozen HW.out.2 j
        have s0' : ∀ o, (w1.alloc o).cell? ⟨w.heap.size, 0, none⟩ = some (.slice none 0 0) := fun o => blk_cell (blk_old o HW.out.2) 0
        have s1' : ∀ o, (w1.alloc o).cell? ⟨w.heap.size, 1, none⟩ = some (.slice none 0 0) := fun o => blk_cell (blk_old o HW.out.2) 1
        have sf' : ∀ o j, (w1.alloc o).frozen? ⟨w.heap.size, j, none⟩ = false := fun o j => blk_frozen (blk_old o HW.out.2) j
        have hwr := HWR.out
        go_wp2_with fail
        have hf1 := blk_old (.cells #[.int .i64 44, .int .i64 (k : Int), .string ⟨#[]⟩, .iface 93 (.pointer (some ⟨b, 0, none⟩))] 96) HW.out.2
        have hf2 := (set_box hf1 (.slice none 0 0)).1
        have hf3 := (set_box hf2 (.slice none 0 0)).2
        have hsz := HW.out.1.size
        refine bodyPost_ret (results_ct rfl _ _ w.heap.size 52 #[.slice none 0 0, .slice none 0 0] (0, 0) _ rfl hf3 Try.underlying52 rfl (by kernel_rfl)) rfl ⟨_, _, _, rfl, ?_, ?_, (fun h => by rw [HE.out] at h; cases h), fun _ => ⟨rfl, rfl⟩⟩
        · rw [HE.out]
          refine ⟨w1.heap.size, .iface 93 (.pointer (some ⟨b, 0, none⟩)), rfl, hsz, ?_, ?_⟩
          · have hlw := blk_lt HW.out.2
            rw [Below.heap_setCell _ _ _ _ (by simp; omega), Below.heap_setCell _ _ _ _ (by simp; omega)]
            exact blk_last w1 _
          · have hlw := blk_lt HW.out.2
            refine (IsErr.step (fun j hj hlt2 => ?_) HEV.out).mono (fun j hj => ?_)
            · simp only [World.size_alloc] at hj
              rw [Below.heap_setCell _ _ _ _ (by simp; omega), Below.heap_setCell _ _ _ _ (by simp; omega), Below.heap_alloc _ _ _ hlt2]
            · simp only [World.size_alloc] at hj
              omega
        · exact ((HW.out.1.alloc hsz _).setCell (p := ⟨w.heap.size, 0, none⟩) (by simp) _).setCell (p := ⟨w.heap.size, 1, none⟩) (by simp) _
    · obtain rfl : k = gs.length := by omega
      rw [List.take_length] at HS ⊢
      have hb := sum_le HS.out.1
      have hnf : gs.findIdx? badG = none := findIdx_no HS.out.1
      have hs0 : wr.cell? ⟨w.heap.size, 0, none⟩ = some (.slice none 0 0) := blk_cell HS.out.2.2 0
      have hs1 : wr.cell? ⟨w.heap.size, 1, none⟩ = some (.slice none 0 0) := blk_cell HS.out.2.2 1
      have hsf : ∀ j, wr.frozen? ⟨w.heap.size, j, none⟩ = false := fun j => blk_frozen HS.out.2.2 j
      have HNF := Aside0.mk hnf
      clear hnf hlt hk
      by_cases hN : 4096 < sumN gs
      · have d1 : decide (4096 < (sumN gs : Int)) = true := decide_eq_true (by omega)
        have HE : Aside0 (joinE gs = [(41, (sumN gs : Int), ⟨#[]⟩)]) := ⟨by unfold joinE; rw [HNF.out]; dsimp only; rw [if_pos hN]⟩
        generalize sumN gs = sn at *
        go_wp2_with fail
        refine (fault_calls _ 41 (sn : Int)).mono ?_
        rintro e w1 ⟨ev, rfl, he, hB1⟩
        have HEV := Aside0.mk he
        have HW := Aside0.mk (And.intro (below_then HS.out.2.1 HS.out.2.1.size hB1) ((hB1.block _ (blk_lt HS.out.2.2)).trans HS.out.2.2))
        have hwr := blk_lt HS.out.2.2
        clear hs0 hs1 hsf he hB1
        have s0 : w1.cell? ⟨w.heap.size, 0, none⟩ = some (.slice none 0 0) := blk_cell HW.out.2 0
        have s1 : w1.cell? ⟨w.heap.size, 1, none⟩ = some (.slice none 0 0) := blk_cell HW.out.2 1
        have sf : ∀ j, w1.frozen? ⟨w.heap.size, j, none⟩ = false := fun j => blk_frozen HW.out.2 j
        go_wp2_with fail
        have hf2 := (set_box HW.out.2 (.slice none 0 0)).1
        have hf3 := (set_box hf2 (.slice none 0 0)).2
        refine bodyPost_ret (results_ct rfl _ _ w.heap.size 52 #[.slice none 0 0, .slice none 0 0] (0, 0) _ rfl hf3 Try.underlying52 rfl (by kernel_rfl)) rfl ⟨_, _, _, rfl, ?_, ?_, (fun h => by rw [HE.out] at h; cases h), fun _ => ⟨rfl, rfl⟩⟩
        · rw [HE.out]
          refine (IsErr.step (fun j hj hlt2 => ?_) HEV.out).mono (fun j hj => by omega)
          rw [Below.heap_setCell _ _ _ _ (by simp; omega), Below.heap_setCell _ _ _ _ (by simp; omega)]
        · exact (HW.out.1.setCell (p := ⟨w.heap.size, 0, none⟩) (by simp) _).setCell (p := ⟨w.heap.size, 1, none⟩) (by simp) _
      · have d1 : decide (4096 < (sumN gs : Int)) = false := decide_eq_false (by omega)
        by_cases hR : 4096 < sumR gs
        · have d2 : decide (4096 < (sumR gs : Int)) = true := decide_eq_true (by omega)
          have HE : Aside0 (joinE gs = [(42, (sumR gs : Int), ⟨#[]⟩)]) := ⟨by unfold joinE; rw [HNF.out]; dsimp only; rw [if_neg hN, if_pos hR]⟩
          generalize sumN gs = sn at *
          generalize sumR gs = sr at *
          go_wp2_with fail
          refine (fault_calls _ 42 (sr : Int)).mono ?_
          rintro e w1 ⟨ev, rfl, he, hB1⟩
          have HEV := Aside0.mk he
          have HW := Aside0.mk (And.intro (below_then HS.out.2.1 HS.out.2.1.size hB1) ((hB1.block _ (blk_lt HS.out.2.2)).trans HS.out.2.2))
          have hwr := blk_lt HS.out.2.2
          clear hs0 hs1 hsf he hB1
          have s0 : w1.cell? ⟨w.heap.size, 0, none⟩ = some (.slice none 0 0) := blk_cell HW.out.2 0
          have s1 : w1.cell? ⟨w.heap.size, 1, none⟩ = some (.slice none 0 0) := blk_cell HW.out.2 1
          have sf : ∀ j, w1.frozen? ⟨w.heap.size, j, none⟩ = false := fun j => blk_frozen HW.out.2 j
          go_wp2_with fail
          have hf2 := (set_box HW.out.2 (.slice none 0 0)).1
          have hf3 := (set_box hf2 (.slice none 0 0)).2
          refine bodyPost_ret (results_ct rfl _ _ w.heap.size 52 #[.slice none 0 0, .slice none 0 0] (0, 0) _ rfl hf3 Try.underlying52 rfl (by kernel_rfl)) rfl ⟨_, _, _, rfl, ?_, ?_, (fun h => by rw [HE.out] at h; cases h), fun _ => ⟨rfl, rfl⟩⟩
          · rw [HE.out]
            refine (IsErr.step (fun j hj hlt2 => ?_) HEV.out).mono (fun j hj => by omega)
            rw [Below.heap_setCell _ _ _ _ (by simp; omega), Below.heap_setCell _ _ _ _ (by simp; omega)]
          · exact (HW.out.1.setCell (p := ⟨w.heap.size, 0, none⟩) (by simp) _).setCell (p := ⟨w.heap.size, 1, none⟩) (by simp) _
        · have d2 : decide (4096 < (sumR gs : Int)) = false := decide_eq_false (by omega)
          have HE : Aside0 (joinE gs = []) := ⟨by unfold joinE; rw [HNF.out]; dsimp only; rw [if_neg hN, if_neg hR]⟩
          rename World => wq
          have HW0 : Aside0 (Ob w.heap.size w (wq.alloc (.cells #[.slice none 0 0, .slice none 0 0] 52)) wq.heap.size [] [] (.slice none 0 0) (.slice none 0 0) (wq.alloc (.cells #[.slice none 0 0, .slice none 0 0] 52))) :=
            ⟨ob_start (HS.out.2.1.alloc HS.out.2.1.size _) (blk_last wq _)⟩
          have hn0 : w.heap.size ≤ (wq.alloc (.cells #[.slice none 0 0, .slice none 0 0] 52)).heap.size := by have := HS.out.2.1.size; simp; omega
          have hn1 := HS.out.2.1.size
          have hwlt := blk_lt HS.out.2.2
          have hbo : wq.heap.size < (wq.alloc (.cells #[.slice none 0 0, .slice none 0 0] 52)).heap.size := by simp
          clear hs0 hs1 hsf
          go_wp2_with fail
          go_loopw [58] (fun i wk => ∃ (k : Nat) (v0 v1 : Value), k ≤ gs.length ∧ i = .int .i64 (k : Int) ∧ Aside0 (Ob w.heap.size w (wq.alloc (.cells #[.slice none 0 0, .slice none 0 0] 52)) wq.heap.size (joinG (prs (gs.take k))).1 (joinG (prs (gs.take k))).2 v0 v1 wk)) (fun i _ => gs.length - (intOf i).toNat)
          case atStart => exact ⟨0, _, _, Nat.zero_le _, rfl, by simpa [prs, joinG] using HW0⟩
          case round =>
            clear HW0
            rename World => wk
            obtain ⟨k, v0, v1, hk, rfl, HO⟩ := hrel
            obtain ⟨B0, b0, B1, b1, rfl, rfl, _⟩ := HO.out.own.reads
            have hlen := joinG_len (gs.take k)
            have hbx := HO.out.box
            by_cases hlt : k < gs.length
            · obtain ⟨ad, A0, c0, A1, c1, rfl, e0, e1, l0, g0, l1, g1⟩ := at_T52 HC.out (k : Int) (by omega) (by omega)
              have hJ := join_take hlt
              have hsN := sumN_take hlt
              have hsR := sumR_take hlt
              have hbt := sum_le (gs := gs.take k) (fun x hx => HS.out.1 x (List.mem_of_mem_take hx))
              have hgd : rd_T52 gs (k : Int) = gs.getD k z52 := by simp [rd_T52]
              have hgk : badG (gs.getD k z52) = false := HS.out.1 _ (getD_mem hlt)
              rw [Int.toNat_natCast] at e0 e1
              rw [hgd] at e0 e1 l0 g0 l1 g1
              obtain ⟨g, hg⟩ : ∃ g, gs.getD k z52 = g := ⟨_, rfl⟩
              rw [hg] at e0 e1 l0 g0 l1 g1 hJ hgk hsN hsR
              clear hgd hg
              have hck := badG_no hgk
              have hp := chk_parts hck
              have HGG := Aside0.mk (goodG_of hck)
              have HG0 := Aside0.mk g0
              have HG1 := Aside0.mk g1
              replace e0 := pw_cell_below HO.out.bel e0
              replace e1 := pw_cell_below HO.out.bel e1
              have hlk : gs.take k = gs.take k := rfl
              rw [List.length_take] at hbt
              obtain ⟨J1, hJ1⟩ : ∃ J1, (joinG (prs (gs.take k))).1 = J1 := ⟨_, rfl⟩
              obtain ⟨J2, hJ2⟩ : ∃ J2, (joinG (prs (gs.take k))).2 = J2 := ⟨_, rfl⟩
              unfold joinStep at hJ
              rw [hJ1, hJ2] at hJ hlen HO
              rw [hJ1, hJ2] at *
              have HJ := Aside0.mk hJ
              have hx0 : ∀ o, (wk.alloc o).cell? ⟨wq.heap.size, 0, none⟩ = some (.slice B0 J1.length b0) := fun o => blk_cell (blk_old o HO.out.box) 0
              have hJl : J1.length ≤ 4096 * 1000 := by omega
              have hle9 := sum_take_le gs (k + 1)
              have hJl2 : J1.length + g.f0.length ≤ 4096 := by omega
              have hJl3 : J2.length + g.f1.length ≤ 4096 := by omega
              have HO1 := Aside0.mk (HO.out.below hn0 (below_alloc (Below.refl _ wk) (.cells #[.slice A0 g.f0.length c0, .slice A1 g.f1.length c1] 52)))
              have HX1 := Aside0.mk (blk_last wk (.cells #[.slice A0 g.f0.length c0, .slice A1 g.f1.length c1] 52))
              have hgl := hp.1
              have hgl1 := hp.2.1
              have HP := Aside0.mk hp.2.2
              have hkq : wq.heap.size < wk.heap.size := blk_lt HO.out.box
              clear hJ hp hlen hbt hsN hsR hbx HO hlk hle9
              go_wp2_with fail
              go_loopw [68] (fun i w3 => ∃ (j : Nat) (v0 : Value), j ≤ g.f0.length ∧ i = .int .i64 (j : Int) ∧ Aside0 (Ob w.heap.size w (wq.alloc (.cells #[.slice none 0 0, .slice none 0 0] 52)) wq.heap.size (J1 ++ (g.f0.take j).map (shiftN J1.length)) J2 v0 (.slice B1 J2.length b1) w3 ∧ w3.heap[wk.heap.size]? = some (.cells #[.slice A0 g.f0.length c0, .slice A1 g.f1.length c1] 52 (0, 0)))) (fun i _ => g.f0.length - (intOf i).toNat)
              case atStart => exact ⟨0, _, Nat.zero_le _, rfl, ⟨by simpa using HO1.out, HX1.out⟩⟩
              case round =>
                clear HO1 HX1 hx0 e0 e1
                rename World => w3
                obtain ⟨j, v0, hj, rfl, HO⟩ := hrel
                obtain ⟨E0, d0, _, _, rfl, _, _⟩ := HO.out.1.own.reads
                have hEl : (J1 ++ (g.f0.take j).map (shiftN J1.length)).length = J1.length + j := by simp; omega
                rw [hEl] at HO
                have hg0 : w3.cell? ⟨wk.heap.size, 0, none⟩ = some (.slice A0 g.f0.length c0) := blk_cell HO.out.2 0
                have hg1 : w3.cell? ⟨wk.heap.size, 1, none⟩ = some (.slice A1 g.f1.length c1) := blk_cell HO.out.2 1
                by_cases hjl : j < g.f0.length
                · obtain ⟨ad2, A7, c7, rfl, n0, n1, n2, n3, hl7, hC7⟩ := node_at HG0.out hjl
                  have hgx := HGG.out (j : Int) (by omega) (by omega)
                  have hargs : argsOf g.f0 (j : Int) = (g.f0.getD j z55).f3 := by simp [argsOf]
                  rw [hargs] at hgx
                  have HTK := Aside0.mk (show (g.f0.take (j + 1)).map (shiftN J1.length) = (g.f0.take j).map (shiftN J1.length) ++ [shiftN J1.length (g.f0.getD j z55)] by
                    rw [List.take_succ_eq_append_getElem hjl, List.map_append, List.map_cons, List.map_nil, getD_get z55 hjl])
                  generalize g.f0.getD j z55 = x at *
                  replace n0 := pw_cell_below HO.out.1.bel n0
                  replace n1 := pw_cell_below HO.out.1.bel n1
                  replace n2 := pw_cell_below HO.out.1.bel n2
                  replace n3 := pw_cell_below HO.out.1.bel n3
                  have HC7 := Aside0.mk (Kd.C_below hC7 HO.out.1.bel)
                  have HGX := Aside0.mk hgx.1
                  have hx8 := hgx.2
                  have hn3 := HO.out.1.bel.size
                  clear hC7 hargs hgx
                  go_wp2_with fail
                  refine (cloneI_calls _ A7 c7 x.f3 (Kd.C_alloc HC7.out _) (by omega)).mono ?_
                  rintro e wc ⟨vc, rfl, hRc, hBc⟩
                  obtain ⟨Ac, cc, rfl⟩ := Kd.R_slice hRc
                  have hbn : wc.heap[w3.heap.size]? = some (.cells #[.int .i64 x.f0, .string x.f1, .int .i64 x.f2, .slice A7 x.f3.length c7] 55 (0, 0)) := (hBc.block _ (by simp)).trans (blk_last w3 _)
                  have b3 : wc.cell? ⟨w3.heap.size, 3, none⟩ = some (.slice A7 x.f3.length c7) := blk_cell hbn 3
                  have f3 : wc.frozen? ⟨w3.heap.size, 3, none⟩ = false := blk_frozen hbn 3
                  have hbW : ∀ u, (wc.setCell ⟨w3.heap.size, 3, none⟩ u).heap[w3.heap.size]? = some (.cells #[.int .i64 x.f0, .string x.f1, .int .i64 x.f2, u] 55 (0, 0)) := fun u => blk_put hbn 3 u rfl
                  have z3 : ∀ u, (wc.setCell ⟨w3.heap.size, 3, none⟩ u).cell? ⟨w3.heap.size, 3, none⟩ = some u := fun u => blk_cell (hbW u) 3
                  have HW4 : Aside0 (Below w3.heap.size w3 (wc.setCell ⟨w3.heap.size, 3, none⟩ (.slice Ac x.f3.length cc)) ∧ (wc.setCell ⟨w3.heap.size, 3, none⟩ (.slice Ac x.f3.length cc)).heap[w3.heap.size]? = some (.cells #[.int .i64 x.f0, .string x.f1, .int .i64 x.f2, .slice Ac x.f3.length cc] 55 (0, 0)) ∧
                      Kd.R (Kd.int .i64) 3 (wc.setCell ⟨w3.heap.size, 3, none⟩ (.slice Ac x.f3.length cc)) w.heap.size (fun k => w3.heap.size ≤ k) (.slice Ac x.f3.length cc) x.f3) := by
                    refine ⟨(below_then (below_alloc (Below.refl _ w3) _) (by simp) hBc).setCell (p := ⟨w3.heap.size, 3, none⟩) (Nat.le_refl _) _, hbW _, Kd.R_set (Kd.R_lower (Kd.R_mono hRc (fun k hk => ?_)) ?_) hbn (by simp [Kd.int, Kd.scalar]) 3 _⟩
                    · simp only [World.size_alloc] at hk; omega
                    · simp only [World.size_alloc]; omega
                  clear hRc hBc n0 n1 n2 n3 HC7 hbn hbW
                  go_wp2_with fail
                  go_loopw [79] (fun i w5 => ∃ q : Nat, q ≤ x.f3.length ∧ i = .int .i64 (q : Int) ∧ Aside0 (Below w3.heap.size w3 w5 ∧ w5.heap[w3.heap.size]? = some (.cells #[.int .i64 x.f0, .string x.f1, .int .i64 x.f2, .slice Ac x.f3.length cc] 55 (0, 0)) ∧
                      Kd.R (Kd.int .i64) 3 w5 w.heap.size (fun k => w3.heap.size ≤ k) (.slice Ac x.f3.length cc) ((x.f3.take q).map (· + (J1.length : Int)) ++ x.f3.drop q))) (fun i _ => x.f3.length - (intOf i).toNat)
                  case atStart => exact ⟨0, Nat.zero_le _, rfl, by simpa using HW4⟩
                  case round =>
                    clear HW4 b3 f3 z3
                    rename World => w5
                    obtain ⟨q, hq, rfl, HS5⟩ := hrel
                    have m3 : w5.cell? ⟨w3.heap.size, 3, none⟩ = some (.slice Ac x.f3.length cc) := blk_cell HS5.out.2.1 3
                    by_cases hql : q < x.f3.length
                    · have hR5 := HS5.out.2.2
                      have hll : ((x.f3.take q).map (· + (J1.length : Int)) ++ x.f3.drop q).length = x.f3.length := by simp; omega
                      obtain ⟨ada, ca, hea⟩ := Kd.R_slice1 hR5 (by omega)
                      rw [hll] at hea
                      obtain ⟨rfl, -, rfl⟩ : Ac = some ada ∧ True ∧ cc = ca := by simpa using hea
                      obtain ⟨ga, rfl⟩ := Kd.R_head hR5
                      have hce := Kd.R_celln (0 : Int) hR5 (q : Int) (by omega) (by omega)
                      have hval : rdOf (0 : Int) ((x.f3.take q).map (· + (J1.length : Int)) ++ x.f3.drop q) (q : Int) = x.f3.getD q 0 := by
                        have hlt9 : ((x.f3.take q).map (· + (J1.length : Int))).length = q := by simp; omega
                        unfold rdOf
                        rw [Int.toNat_natCast, List.getD_eq_getElem?_getD, List.getElem?_append_right (by omega), hlt9, Nat.sub_self]
                        simp
                      rw [hval, Int.toNat_natCast] at hce
                      have hin := HGX.out (x.f3.getD q 0) (getD_mem hql)
                      have hset := Kd.R_putn hR5 (q : Int) (x.f3.getD q 0 + (J1.length : Int))
                      have hstep : ((x.f3.take q).map (· + (J1.length : Int)) ++ x.f3.drop q).set (q : Int).toNat (x.f3.getD q 0 + (J1.length : Int)) = (x.f3.take (q + 1)).map (· + (J1.length : Int)) ++ x.f3.drop (q + 1) := by
                        have hlt9 : ((x.f3.take q).map (· + (J1.length : Int))).length = q := by simp; omega
                        rw [Int.toNat_natCast, List.set_append_right _ _ (by omega), hlt9, Nat.sub_self, List.drop_eq_getElem_cons hql, List.set_cons_zero, List.take_succ_eq_append_getElem hql, List.map_append, List.map_cons, List.map_nil, getD_get 0 hql, List.append_assoc]
                        rfl
                      rw [hstep, Int.toNat_natCast] at hset
                      obtain ⟨cells, hty⟩ := Kd.R_typed hR5 ga rfl
                      have HS6 : Aside0 (Below w3.heap.size w3 (w5.setCell ⟨ga, q, none⟩ (.int .i64 (x.f3.getD q 0 + (J1.length : Int)))) ∧ (w5.setCell ⟨ga, q, none⟩ (.int .i64 (x.f3.getD q 0 + (J1.length : Int)))).heap[w3.heap.size]? = some (.cells #[.int .i64 x.f0, .string x.f1, .int .i64 x.f2, .slice (some ⟨ga, 0, none⟩) x.f3.length cc] 55 (0, 0)) ∧
                          Kd.R (Kd.int .i64) 3 (w5.setCell ⟨ga, q, none⟩ (.int .i64 (x.f3.getD q 0 + (J1.length : Int)))) w.heap.size (fun k => w3.heap.size ≤ k) (.slice (some ⟨ga, 0, none⟩) x.f3.length cc) ((x.f3.take (q + 1)).map (· + (J1.length : Int)) ++ x.f3.drop (q + 1))) :=
                        ⟨HS5.out.1.setCell (p := ⟨ga, q, none⟩) (hR5.1 ga rfl) _, by rw [Below.heap_setCell _ _ _ _ (ne_type HS5.out.2.1 hty (by decide))]; exact HS5.out.2.1, hset⟩
                      have hce1 := hce.1
                      have hce2 := hce.2
                      have hwr : wrap64 (x.f3.getD q 0 + (J1.length : Int)) = x.f3.getD q 0 + (J1.length : Int) := wrap_in (by omega) (by omega)
                      clear hce hval hset hstep hty HS5 hR5 hea
                      generalize x.f3.getD q 0 = y at *
                      go_wp2_with fail
                      go_roundw
                      case rel => exact ⟨q + 1, by omega, by go_num, HS6⟩
                      case measure => simp [intOf]; omega
                    · obtain rfl : q = x.f3.length := by omega
                      have hfin : (x.f3.take x.f3.length).map (· + (J1.length : Int)) ++ x.f3.drop x.f3.length = x.f3.map (· + (J1.length : Int)) := by simp
                      rw [hfin] at HS5
                      have hbo5 : w5.heap[wq.heap.size]? = some (.cells #[.slice E0 (J1.length + j) d0, .slice B1 J2.length b1] 52 (0, 0)) := (HS5.out.1.block _ (blk_lt HO.out.1.box)).trans HO.out.1.box
                      have y0 : w5.cell? ⟨wq.heap.size, 0, none⟩ = some (.slice E0 (J1.length + j) d0) := blk_cell hbo5 0
                      have z0 : w5.cell? ⟨w3.heap.size, 0, none⟩ = some (.int .i64 x.f0) := blk_cell HS5.out.2.1 0
                      have z1 : w5.cell? ⟨w3.heap.size, 1, none⟩ = some (.string x.f1) := blk_cell HS5.out.2.1 1
                      have z2 : w5.cell? ⟨w3.heap.size, 2, none⟩ = some (.int .i64 x.f2) := blk_cell HS5.out.2.1 2
                      clear hbo5 hfin hq hql
                      go_wp2_with (at_builtin; go_must (refine wp_push2 (w0 := w) hn0 hn1 hbo HO.out.1 HS5.out.1 ⟨x.f0, x.f1, x.f2, x.f3.map (· + (J1.length : Int))⟩ (.slice Ac x.f3.length cc) HS5.out.2.2 rfl (.tmp 92) (.tmp 94) rfl rfl ?hx ?hl ?_; (case hx => simp [Act.eval, Act.put]); (case hl => omega); intro A9 c9 w6 hb6 hO6 hk6; rw [hEl] at hO6 hk6 ⊢; have HO6 : Aside0 (Ob w.heap.size w (wq.alloc (.cells #[.slice none 0 0, .slice none 0 0] 52)) wq.heap.size (J1 ++ (g.f0.take (j + 1)).map (shiftN J1.length)) J2 (.slice A9 (J1.length + j + 1) c9) (.slice B1 J2.length b1) (w6.setCell ⟨wq.heap.size, 0, none⟩ (.slice A9 (J1.length + j + 1) c9)) ∧ (w6.setCell ⟨wq.heap.size, 0, none⟩ (.slice A9 (J1.length + j + 1) c9)).heap[wk.heap.size]? = some (.cells #[.slice (some ad2) g.f0.length c0, .slice A1 g.f1.length c1] 52 (0, 0))) := ⟨by rw [HTK.out, ← List.append_assoc]; exact hO6, hk6 _ _ (by omega) HO.out.2⟩; have q0 : w6.cell? ⟨wq.heap.size, 0, none⟩ = some (.slice E0 (J1.length + j) d0) := blk_cell hb6 0; have qf : w6.frozen? ⟨wq.heap.size, 0, none⟩ = false := blk_frozen hb6 0; clear hO6 hk6 hb6 z0 z1 z2 m3 y0 HS5 HO hg0 hg1))
                      go_roundw
                      case rel => exact ⟨j + 1, _, by omega, by go_num, HO6⟩
                      case measure => simp [intOf]; omega
                · obtain rfl : j = g.f0.length := by omega
                  rw [List.take_length] at HO
                  go_wp2_with fail
                  go_loopw [101] (fun i w7 => ∃ (j : Nat) (v1 : Value), j ≤ g.f1.length ∧ i = .int .i64 (j : Int) ∧ Aside0 (Ob w.heap.size w (wq.alloc (.cells #[.slice none 0 0, .slice none 0 0] 52)) wq.heap.size (J1 ++ g.f0.map (shiftN J1.length)) (J2 ++ shiftL J1.length (g.f1.take j)) (.slice E0 (J1.length + g.f0.length) d0) v1 w7)) (fun i _ => g.f1.length - (intOf i).toNat)
                  case atStart => exact ⟨0, _, Nat.zero_le _, rfl, ⟨by simpa [shiftL] using HO.out.1⟩⟩
                  case round =>
                    clear HO hg0 hg1
                    rename World => w7
                    obtain ⟨j, v1, hj1, rfl, HO⟩ := hrel
                    obtain ⟨_, _, E1, d1, _, rfl, _⟩ := HO.out.own.reads
                    have hFl : (J2 ++ shiftL J1.length (g.f1.take j)).length = J2.length + j := by simp [shiftL]; omega
                    rw [hFl] at HO
                    by_cases hjl1 : j < g.f1.length
                    · obtain ⟨adr, ccr, rfl, hclr, hKr, hccr⟩ := Kd.C_get (Kd.C_below HG1.out HO.out.bel) 0 (j : Int) (by omega) (by omega)
                      have hKr' : ccr = [.int .i64 (g.f1.getD j 0)] := hKr
                      subst hKr'
                      have hxr : w7.cell? (adr.add j) = some (.int .i64 (g.f1.getD j 0)) := by
                        have := hccr 0 _ rfl
                        simpa [Kd.int, Kd.scalar] using this
                      have hin := inside_iff.1 (HP.out.2 (g.f1.getD j 0) (getD_mem hjl1))
                      have HTK := Aside0.mk (show shiftL J1.length (g.f1.take (j + 1)) = shiftL J1.length (g.f1.take j) ++ [g.f1.getD j 0 + (J1.length : Int)] by
                        unfold shiftL
                        rw [List.take_succ_eq_append_getElem hjl1, List.map_append, List.map_cons, List.map_nil, getD_get 0 hjl1])
                      have hwr : wrap64 (g.f1.getD j 0 + (J1.length : Int)) = g.f1.getD j 0 + (J1.length : Int) := wrap_in (by omega) (by omega)
                      generalize g.f1.getD j 0 = y at *
                      have y1 : w7.cell? ⟨wq.heap.size, 1, none⟩ = some (.slice E1 (J2.length + j) d1) := blk_cell HO.out.box 1
                      clear hclr hKr hccr
                      go_wp2_with (at_builtin; go_must (refine wp_root (w0 := w) hn0 hn1 hbo HO.out (Below.refl _ w7) (y + (J1.length : Int)) rfl (.tmp 106) (.tmp 110) rfl rfl ?hx ?hl ?_; (case hx => simp [Act.eval, Act.put]); (case hl => omega); intro A9 c9 w8 hb8 hO8 _; rw [hFl] at hO8 ⊢; rw [List.append_assoc, ← HTK.out] at hO8; have HO8 := Aside0.mk hO8; have q0 : w8.cell? ⟨wq.heap.size, 1, none⟩ = some (.slice E1 (J2.length + j) d1) := blk_cell hb8 1; have qf : w8.frozen? ⟨wq.heap.size, 1, none⟩ = false := blk_frozen hb8 1; clear hO8 hb8 y1 hxr HO))
                      go_roundw
                      case rel => exact ⟨j + 1, _, by omega, by go_num, HO8⟩
                      case measure => simp [intOf]; omega
                    · obtain rfl : j = g.f1.length := by omega
                      rw [List.take_length] at HO
                      go_wp2_with fail
                      go_roundw
                      case rel => exact ⟨k + 1, _, _, by omega, by go_num, by rw [HJ.out]; exact HO⟩
                      case measure => simp [intOf]; omega
            · obtain rfl : k = gs.length := by omega
              rw [List.take_length] at HO
              clear hlen hbx
              have p0 : wk.cell? ⟨wq.heap.size, 0, none⟩ = some (.slice B0 (joinG (prs gs)).1.length b0) := blk_cell HO.out.box 0
              have p1 : wk.cell? ⟨wq.heap.size, 1, none⟩ = some (.slice B1 (joinG (prs gs)).2.length b1) := blk_cell HO.out.box 1
              have HSR : Aside0 (wk.heap[w.heap.size]? = some (.cells #[.slice none 0 0, .slice none 0 0] 52 (0, 0))) :=
                ⟨(HO.out.kept.2 _ (by simp; omega) (by omega)).trans (blk_old _ HS.out.2.2)⟩
              have s0 : wk.cell? ⟨w.heap.size, 0, none⟩ = some (.slice none 0 0) := blk_cell HSR.out 0
              have s1 : wk.cell? ⟨w.heap.size, 1, none⟩ = some (.slice none 0 0) := blk_cell HSR.out 1
              have sf : ∀ j, wk.frozen? ⟨w.heap.size, j, none⟩ = false := fun j => blk_frozen HSR.out j
              obtain ⟨J, hJ⟩ : ∃ J, joinG (prs gs) = J := ⟨_, rfl⟩
              rw [hJ] at p0 p1 HO
              have HJJ := Aside0.mk hJ
              clear hJ
              go_wp2_with fail
              have hf2 := (set_box HSR.out (.slice B0 J.1.length b0)).1
              have hf3 := (set_box hf2 (.slice B1 J.2.length b1)).2
              refine bodyPost_ret (results_ct rfl _ _ w.heap.size 52 #[.slice B0 J.1.length b0, .slice B1 J.2.length b1] (0, 0) _ rfl hf3 Try.underlying52 rfl (by kernel_rfl)) rfl ⟨_, _, _, rfl, by rw [HE.out]; rfl, ?_, fun _ => ?_, fun h => absurd HE.out h⟩
              · exact (HO.out.bel.setCell (p := ⟨w.heap.size, 0, none⟩) (by simp) _).setCell (p := ⟨w.heap.size, 1, none⟩) (by simp) _
              · rw [HJJ.out]
                exact ((HO.out.own.set HSR.out (by decide) (by decide) 0 (.slice B0 J.1.length b0)).set hf2 (by decide) (by decide) 1 (.slice B1 J.2.length b1)).mono (W0 := w) hn0

end Go.Proofs.Ytgcjfobmccoibaa.Gr
