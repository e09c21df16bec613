/- GraphJoins: every Join. What is asked: how the list of graphs is read. -/
import Derived.Test.YtgcjfobmccoibaaGrX
import Derived.Test.YtgcjfobmccoibaaKeR
set_option linter.unusedSimpArgs false
set_option linter.unusedVariables false
namespace Go.Proofs.Ytgcjfobmccoibaa.Gr
open Go.RowKit Go.Proofs.YtgcjfobmccoibaaW.PrintWords Go.Proofs.YtgcjfobmccoibaaW.PrintLast Go.Proofs.YtgcjfobmccoibaaW.PrintMore
open Go.Proofs.Ytgcjfobmccoibaa.Nm
open Go.Proofs.Ytgcjfobmccoibaa.PGraphChecks (S52 z52 k52 at_T52 rd_T52)

theorem field_code (a b : Int) (n : ByteArray) (A : Option Addr) (l k : Nat) (w : World) : (Instr.field 33 (.agg #[.int .i64 a, .int .i64 b, .string n, .slice A l k]) 0).run Try.prog w = .ok (.int .i64 a) w := by
  simp [Instr.field, go_sem]
  rfl

set_option maxRecDepth 100000 in
set_option maxHeartbeats 2000000 in
theorem joins_calls (w : World) (A : Option Addr) (c : Nat) (gs : List S52) (hC : Kd.C k52 w A gs.length gs) (hc : gs.length ≤ c) :
    Calls Try.prog 10 #[.slice A gs.length c] w fun e w' => e = .returned (.bool true) ∧ Below w.heap.size w w' := by
  have hfd := fun a b n A l k w => field_code a b n A l k w
  have HC := Aside0.mk hC
  clear hC
  by_cases h4 : 40 < gs.length
  · have d4 : decide (40 < gs.length) = true := decide_eq_true h4
    have d4' : decide (40 < (gs.length : Int)) = true := decide_eq_true (by omega)
    go_enter Try.func10, Try.ntmps10
    go_wp2_with fail
    refine (lives4_calls _).mono ?_
    rintro e w1 ⟨rfl, hB1⟩
    go_wp2_with fail
    refine (lives4_calls _).mono ?_
    rintro e w2 ⟨rfl, hB2⟩
    go_wp2_with fail
    go_ret
    exact ⟨rfl, below_then hB1 hB1.size hB2⟩
  · have d4 : decide (40 < gs.length) = false := decide_eq_false h4
    have d4' : decide (40 < (gs.length : Int)) = false := decide_eq_false (by omega)
    go_enter Try.func10, Try.ntmps10
    go_wp2_with fail
    refine (lives4_calls _).mono ?_
    rintro e w1 ⟨rfl, hB1⟩
    have HB1 := Aside0.mk hB1
    clear hB1
    go_wp2_with fail
    go_loopw [19] (fun i wr => ∃ k : Nat, k ≤ gs.length ∧ i = .int .i64 (k : Int) ∧ Aside0 (Below w.heap.size w wr)) (fun i _ => gs.length - (intOf i).toNat)
    case atStart => exact ⟨0, Nat.zero_le _, rfl, HB1⟩
    case round =>
      clear HB1
      obtain ⟨k, hk, rfl, HB⟩ := hrel
      by_cases hlt : k < gs.length
      · obtain ⟨ad, A0, c0, A1, c1, rfl, e0, e1, l0, g0, l1, g1⟩ := at_T52 HC.out (k : Int) (by omega) (by omega)
        have hgd : rd_T52 gs (k : Int) = gs.getD k z52 := by simp [rd_T52]
        rw [Int.toNat_natCast] at e0 e1
        rw [hgd] at e0 e1 l0 g0 l1 g1
        clear hgd
        generalize gs.getD k z52 = g at *
        replace e0 := pw_cell_below HB.out e0
        replace e1 := pw_cell_below HB.out e1
        have HG : Aside0 (IsG (wr.alloc (.cells #[.slice A0 g.f0.length c0, .slice A1 g.f1.length c1] 52)) A0 c0 g.f0 A1 c1 g.f1) := ⟨((IsG.mk g0 g1 l0 l1).below HB.out).below (below_alloc (Below.refl _ _) _)⟩
        have HB2 := Aside0.mk (HB.out.alloc HB.out.size (.cells #[.slice A0 g.f0.length c0, .slice A1 g.f1.length c1] 52))
        have HX2 := Aside0.mk (blk_last wr (.cells #[.slice A0 g.f0.length c0, .slice A1 g.f1.length c1] 52))
        have L1 := large_calls (A := A0) (c := c0) (A' := A1) (c' := c1) (ns := g.f0) (rs := g.f1)
        have R1 := rcheck_calls (A := A0) (c := c0) (A' := A1) (c' := c1) (ns := g.f0) (rs := g.f1)
        simp only [gv] at L1 R1
        clear g0 g1 l0 l1 HB
        cases hs : smallB g.f0 g.f1 300 with
        | true =>
          rw [hs] at L1
          go_wp2_with fail
          refine (L1 _ HG.out).mono ?_
          rintro e w2 ⟨rfl, hB2⟩
          have HB3 := Aside0.mk (below_then HB2.out HB2.out.size hB2)
          clear HB2 hB2 HX2 HG L1 R1 e0 e1
          go_wp2_with fail
          go_roundw
          case rel => exact ⟨k + 1, by omega, by go_num, HB3⟩
          case measure => simp [intOf]; omega
        | false =>
          rw [hs] at L1
          go_wp2_with fail
          refine (L1 _ HG.out).mono ?_
          rintro e w2 ⟨rfl, hB2⟩
          have HB3 := Aside0.mk (below_then HB2.out HB2.out.size hB2)
          have HG3 := Aside0.mk (HG.out.below hB2)
          have hx2 := (hB2.block _ (blk_lt HX2.out)).trans HX2.out
          have x0 : w2.cell? ⟨wr.heap.size, 0, none⟩ = some (.slice A0 g.f0.length c0) := blk_cell hx2 0
          have x1 : w2.cell? ⟨wr.heap.size, 1, none⟩ = some (.slice A1 g.f1.length c1) := blk_cell hx2 1
          clear HB2 hB2 HX2 HG L1 e0 e1 hx2
          go_wp2_with fail
          refine (R1 _ HG3.out).mono ?_
          rintro e w3 ⟨fc, fa, fn, A2, k2, rfl, _, hB3⟩
          have HB4 := Aside0.mk (below_then HB3.out HB3.out.size hB3)
          clear HB3 hB3 HG3 R1 x0 x1
          by_cases hfc : fc = 41
          · have q : (fc != 41) = false := by simp [hfc]
            go_wp2_with fail
            go_roundw
            case rel => exact ⟨k + 1, by omega, by go_num, HB4⟩
            case measure => simp [intOf]; omega
          · have q : (fc != 41) = true := by simp [hfc]
            go_wp2_with fail
            go_ret
            exact ⟨rfl, HB4.out⟩
      · obtain rfl : k = gs.length := by omega
        clear hlt hk
        go_wp2_with fail
        refine (join_calls _ A c gs (Kd.C_below HC.out HB.out) (by omega)).mono ?_
        rintro e w2 ⟨v0, v1, ev, rfl, he, hB2, hgood, hbad⟩
        have hG : ∃ E0 d0 E1 d1, v0 = .slice E0 (refJ gs).1.length d0 ∧ v1 = .slice E1 (refJ gs).2.1.length d1 ∧ IsG w2 E0 d0 (refJ gs).1 E1 d1 (refJ gs).2.1 := by
          by_cases hE : joinE gs = []
          · have h1 : (refJ gs).1 = (joinG (prs gs)).1 := by unfold refJ; rw [hE]
            have h2 : (refJ gs).2.1 = (joinG (prs gs)).2 := by unfold refJ; rw [hE]
            obtain ⟨E0, d0, E1, d1, e0, e1, hg⟩ := (hgood hE).reads
            rw [h1, h2]
            exact ⟨E0, d0, E1, d1, e0, e1, hg⟩
          · obtain ⟨rfl, rfl⟩ := hbad hE
            have h1 : (refJ gs).1 = [] ∧ (refJ gs).2.1 = [] := by
              unfold refJ
              cases hj : joinE gs with
              | nil => exact absurd hj hE
              | cons p r => exact ⟨rfl, rfl⟩
            rw [h1.1, h1.2]
            exact ⟨none, 0, none, 0, rfl, rfl, ⟨Kd.C_nil _ _, Kd.C_nil _ _, Nat.le_refl _, Nat.le_refl _⟩⟩
        obtain ⟨E0, d0, E1, d1, rfl, rfl, hG2⟩ := hG
        have HE := Aside0.mk he
        have RJ := rjoin_calls (A := A) (c := c) (gs := gs) (hc := hc) (hl := by omega)
        simp only [gv] at RJ
        clear hgood hbad he
        generalize (refJ gs).1 = jn at *
        generalize (refJ gs).2.1 = jr at *
        have HB3 := Aside0.mk ((below_then HB.out HB.out.size hB2).alloc (below_then HB.out HB.out.size hB2).size (.cells #[.slice E0 jn.length d0, .slice E1 jr.length d1] 52))
        have HG3 := Aside0.mk (hG2.below (below_alloc (Below.refl _ w2) (.cells #[.slice E0 jn.length d0, .slice E1 jr.length d1] 52)))
        have HX3 := Aside0.mk (blk_last w2 (.cells #[.slice E0 jn.length d0, .slice E1 jr.length d1] 52))
        have HE3 := Aside0.mk (HE.out.below (below_alloc (Below.refl _ w2) (.cells #[.slice E0 jn.length d0, .slice E1 jr.length d1] 52)))
        clear HE HB hB2 hG2
        go_wp2_with fail
        refine (RJ _ (Kd.C_below HC.out HB3.out)).mono ?_
        rintro e w5 ⟨B0, b0, B1, b1, fc, fa, fn, F2, l2, k2, rfl, hGr, hF, hB5⟩
        have hBb := ((Below.refl w5.heap.size w5).alloc (Nat.le_refl _) (.cells #[.slice B0 jn.length b0, .slice B1 jr.length b1] 52)).alloc (by simp) (.cells #[.int .i64 fc, .int .i64 fa, .string fn, .slice F2 l2 k2] 33)
        have hB6 := below_then hB5 hB5.size hBb
        have HB6 := Aside0.mk (below_then HB3.out HB3.out.size hB6)
        have HG6 := Aside0.mk (HG3.out.below hB6)
        have HE6 := Aside0.mk (HE3.out.below hB6)
        have HGr6 := Aside0.mk (hGr.below hBb)
        have HF6 := Aside0.mk (FIs.step (fun k _ hk => hBb.block k hk) hF)
        have HX6 := Aside0.mk ((hB6.block _ (blk_lt HX3.out)).trans HX3.out)
        have HY6 := Aside0.mk (blk_old (.cells #[.int .i64 fc, .int .i64 fa, .string fn, .slice F2 l2 k2] 33) (blk_last w5 (.cells #[.slice B0 jn.length b0, .slice B1 jr.length b1] 52)))
        clear HB3 HG3 HE3 HX3 hGr hF hB5 hBb hB6 RJ
        go_wp2_with fail
        refine (is_calls _ _ _ ev (joinE gs) (joinE gs) fc fa fn (.slice F2 l2 k2) ⟨_, _, _, rfl⟩ HE6.out HF6.out).mono ?_
        rw [show decide (joinE gs = joinE gs) = true by simp]
        rintro e w7 ⟨rfl, hB7⟩
        have HB7 := Aside0.mk (below_then HB6.out HB6.out.size hB7)
        have S1 := rsame_calls w7 E0 d0 jn E1 d1 jr (HG6.out.below hB7) B0 b0 jn B1 b1 jr (HGr6.out.below hB7)
        rw [show decide (jn = jn ∧ jr = jr) = true by simp] at S1
        simp only [gv] at S1
        have hx7 := (hB7.block _ (blk_lt HX6.out)).trans HX6.out
        have hy7 := (hB7.block _ (blk_lt HY6.out)).trans HY6.out
        have x0 : w7.cell? ⟨w2.heap.size, 0, none⟩ = some (.slice E0 jn.length d0) := blk_cell hx7 0
        have x1 : w7.cell? ⟨w2.heap.size, 1, none⟩ = some (.slice E1 jr.length d1) := blk_cell hx7 1
        have y0 : w7.cell? ⟨w5.heap.size, 0, none⟩ = some (.slice B0 jn.length b0) := blk_cell hy7 0
        have y1 : w7.cell? ⟨w5.heap.size, 1, none⟩ = some (.slice B1 jr.length b1) := blk_cell hy7 1
        clear hx7 hy7 hB7
        go_wp2_with fail
        refine S1.mono ?_
        rintro e w8 ⟨rfl, hB8⟩
        go_wp2_with fail
        go_ret
        exact ⟨rfl, below_then HB7.out HB7.out.size hB8⟩

end Go.Proofs.Ytgcjfobmccoibaa.Gr
