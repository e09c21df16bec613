/- GraphWays: every At, every Same. What is asked: how the graphs and the path are read. -/
import Derived.Test.YtgcjfobmccoibaaGr7
import Derived.Deep.RegionHeld3
set_option linter.unusedSimpArgs false
set_option linter.unusedVariables false
namespace Go.Proofs.Ytgcjfobmccoibaa.Gr
open Go.RowKit Go.Proofs.YtgcjfobmccoibaaW.PrintWords Go.Proofs.YtgcjfobmccoibaaW.PrintLast Go.Proofs.YtgcjfobmccoibaaW.PrintMore
open Go.Proofs.Ytgcjfobmccoibaa.Nm

theorem smallB_args {ns : List S55} {rs : List Int} {N : Nat} (h : smallB ns rs N = true) : ns.length ≤ N ∧ rs.length ≤ N ∧ argsLe 40 ns = true := by
  simpa [smallB] using h

/-- Two boxes for two graphs, and what lay before. -/
structure P2 (w0 : World) (X0 X1 Y0 Y1 : Value) (w : World) : Prop where
  b : Below w0.heap.size w0 w
  x : w.heap[w0.heap.size]? = some (.cells #[X0, X1] 52 (0, 0))
  y : w.heap[w0.heap.size + 1]? = some (.cells #[Y0, Y1] 52 (0, 0))
theorem P2.below {w0 w w' : World} {X0 X1 Y0 Y1 : Value} (h : P2 w0 X0 X1 Y0 Y1 w) (hb : Below w.heap.size w w') : P2 w0 X0 X1 Y0 Y1 w' :=
  ⟨below_then h.b h.b.size hb, (hb.block _ (blk_lt h.x)).trans h.x, (hb.block _ (blk_lt h.y)).trans h.y⟩
theorem P2.cells {w0 w : World} {X0 X1 Y0 Y1 : Value} (h : P2 w0 X0 X1 Y0 Y1 w) : w.cell? ⟨w0.heap.size, 0, none⟩ = some X0 ∧ w.cell? ⟨w0.heap.size, 1, none⟩ = some X1 ∧ w.cell? ⟨w0.heap.size + 1, 0, none⟩ = some Y0 ∧ w.cell? ⟨w0.heap.size + 1, 1, none⟩ = some Y1 :=
  ⟨blk_cell h.x 0, blk_cell h.x 1, blk_cell h.y 0, blk_cell h.y 1⟩
theorem p2_all {w0 w : World} {X0 X1 Y0 Y1 : Value} (h : P2 w0 X0 X1 Y0 Y1 w) : w.cell? ⟨w0.heap.size, 0, none⟩ = some X0 ∧ w.cell? ⟨w0.heap.size, 1, none⟩ = some X1 ∧ w.cell? ⟨w0.heap.size + 1, 0, none⟩ = some Y0 ∧ w.cell? ⟨w0.heap.size + 1, 1, none⟩ = some Y1 ∧ P2 w0 X0 X1 Y0 Y1 w :=
  ⟨h.cells.1, h.cells.2.1, h.cells.2.2.1, h.cells.2.2.2, h⟩
theorem p2_drew {w0 w : World} {X0 X1 Y0 Y1 : Value} (h : P2 w0 X0 X1 Y0 Y1 w) : P2 w0 X0 X1 Y0 Y1 w.drew := h.below (below_drew (Below.refl _ _))
theorem p2_made (w : World) (X0 X1 Y0 Y1 : Value) : P2 w X0 X1 Y0 Y1 ((w.alloc (.cells #[X0, X1] 52)).alloc (.cells #[Y0, Y1] 52)) := by
  have hy := blk_last (w.alloc (.cells #[X0, X1] 52)) (.cells #[Y0, Y1] 52)
  rw [World.size_alloc] at hy
  exact ⟨((Below.refl w.heap.size w).alloc (Nat.le_refl _) _).alloc (by simp) _, blk_old _ (blk_last w _), hy⟩

set_option maxRecDepth 100000 in
set_option maxHeartbeats 2000000 in
theorem paths_calls (w : World) (A : Option Addr) (c : Nat) (ns : List S55) (A' : Option Addr) (c' : Nat) (rs : List Int) (h : IsG w A c ns A' c' rs) (B : Option Addr) (k : Nat) (ms : List S55) (B' : Option Addr) (k' : Nat) (ss : List Int) (h2 : IsG w B k ms B' k' ss)
    (node : Int) (P : Option Addr) (pc : Nat) (path : List Int) (hp : Kd.C (Kd.int .i64) w P path.length path) (hpc : path.length ≤ pc) :
    Calls Try.prog 33 #[gv A c ns A' c' rs, gv B k ms B' k' ss, .int .i64 node, .slice P path.length pc] w fun e w' => e = .returned (.bool true) ∧ Below w.heap.size w w' := by
  have HQ0 := Aside0.mk (p2_made w (.slice A ns.length c) (.slice A' rs.length c') (.slice B ms.length k) (.slice B' ss.length k'))
  have H1 := Aside0.mk h
  have H2 := Aside0.mk h2
  have HP := Aside0.mk hp
  clear h h2 hp
  have hg1 := @gv
  clear hg1
  by_cases h5 : path.length ≤ 5000
  · have d5 : decide (5000 < path.length) = false := decide_eq_false (by omega)
    have d5' : decide (5000 < (path.length : Int)) = false := decide_eq_false (by omega)
    cases hs1 : smallB ns rs 300 with
    | true =>
      cases hs2 : smallB ms ss 300 with
      | true =>
        have HA1 := Aside0.mk (smallB_args hs1)
        have L1 := large_calls (ns := ns) (rs := rs) (A := A) (c := c) (A' := A') (c' := c')
        have L2 := large_calls (ns := ms) (rs := ss) (A := B) (c := k) (A' := B') (c' := k')
        have C1 := at_calls (ns := ns) (rs := rs) (A := A) (c := c) (A' := A') (c' := c') (node := node) (P := P) (pc := pc) (path := path)
        have C2 := rat_calls (ns := ns) (rs := rs) (A := A) (c := c) (A' := A') (c' := c') (node := node) (P := P) (pc := pc) (path := path)
        rw [hs1] at L1
        rw [hs2] at L2
        generalize (atV ns rs node path).getD 0 = n at C1 C2
        generalize (atV ns rs node path).isSome = bo at C1 C2
        simp only [gv] at L1 L2 C1 C2 ⊢
        go_enter Try.func33, Try.ntmps33
        go_wp2_with fail
        refine (lives4_calls _).mono ?_
        rintro e w1 ⟨rfl, hB1⟩
        have HQ1 := Aside0.mk (HQ0.out.below hB1)
        obtain ⟨x0, x1, y0, y1⟩ := HQ1.out.cells
        clear HQ0 hB1
        go_wp2_with fail
        refine (L1 _ (H1.out.below HQ1.out.b)).mono ?_
        rintro e w2 ⟨rfl, hB2⟩
        clear x0 x1 y0 y1
        have HQ2 := Aside0.mk (HQ1.out.below hB2)
        obtain ⟨x0, x1, y0, y1⟩ := HQ2.out.cells
        clear HQ1 hB2
        go_wp2_with fail
        refine (L2 _ (H2.out.below HQ2.out.b)).mono ?_
        rintro e w3 ⟨rfl, hB3⟩
        clear x0 x1 y0 y1
        have HQ3 := Aside0.mk (HQ2.out.below hB3)
        obtain ⟨x0, x1, y0, y1⟩ := HQ3.out.cells
        clear HQ2 hB3
        go_wp2_with fail
        refine (C1 _ (H1.out.below HQ3.out.b) (Kd.C_below HP.out HQ3.out.b) (by omega)).mono ?_
        rintro e w4 ⟨rfl, hB4⟩
        clear x0 x1 y0 y1
        have HQ4 := Aside0.mk (HQ3.out.below hB4)
        obtain ⟨x0, x1, y0, y1⟩ := HQ4.out.cells
        clear HQ3 hB4
        go_wp2_with fail
        refine (C2 _ (H1.out.below HQ4.out.b) (Kd.C_below HP.out HQ4.out.b) hpc (by omega)).mono ?_
        rintro e w5 ⟨rfl, hB5⟩
        clear x0 x1 y0 y1
        have e1 : (n == n) = true := by simp
        have e2 : (bo == bo) = true := by simp
        have HQ5 := Aside0.mk (HQ4.out.below hB5)
        obtain ⟨x0, x1, y0, y1⟩ := HQ5.out.cells
        clear HQ4 hB5
        go_wp2_with fail
        have S1 := same_calls4 (A := A) (c := c) (ns := ns) (A' := A') (c' := c') (rs := rs) (B := B) (k := k) (ms := ms) (B' := B') (k' := k') (ss := ss)
        have S2 := rsame_calls (A := A) (c := c) (ns := ns) (A' := A') (c' := c') (rs := rs) (B := B) (k := k) (ms := ms) (B' := B') (k' := k') (ss := ss) (M := 40) (hM := HA1.out.2.2) (hM2 := by omega)
        have S3 := same_calls4 (A := A) (c := c) (ns := ns) (A' := A') (c' := c') (rs := rs) (B := A) (k := c) (ms := ns) (B' := A') (k' := c') (ss := rs)
        generalize decide (ns = ms ∧ rs = ss) = b1 at S1 S2
        rw [show decide (ns = ns ∧ rs = rs) = true by simp] at S3
        simp only [gv] at S1 S2 S3
        have e3 : (b1 == b1) = true := by simp
        go_region_held3 (fun w' => w'.cell? ⟨w.heap.size, 0, none⟩ = some (.slice A ns.length c) ∧ w'.cell? ⟨w.heap.size, 1, none⟩ = some (.slice A' rs.length c') ∧ w'.cell? ⟨w.heap.size + 1, 0, none⟩ = some (.slice B ms.length k) ∧ w'.cell? ⟨w.heap.size + 1, 1, none⟩ = some (.slice B' ss.length k') ∧ P2 w (.slice A ns.length c) (.slice A' rs.length c') (.slice B ms.length k) (.slice B' ss.length k') w')
          (first
            | exact p2_all HQ5.out
            | exact p2_all (p2_drew HQ5.out)
            | exact p2_all HN
            | go_keep)
          (first
            | (go_at_call 41; refine (S3 _ (H1.out.below HN.b) (H1.out.below HN.b)).mono ?_; rintro e wc ⟨rfl, hBc⟩; have HN := HN.below hBc)
            | (go_at_call 41; refine (S1 _ (H1.out.below (p2_drew HQ5.out).b) (H2.out.below (p2_drew HQ5.out).b)).mono ?_; rintro e wa ⟨rfl, hBa⟩; have HN := (p2_drew HQ5.out).below hBa)
            | (go_at_call 37; refine (S2 _ (H1.out.below HN.b) (H2.out.below HN.b)).mono ?_; rintro e wb ⟨rfl, hBb⟩; have HN := HN.below hBb))
        go_wp2_with fail
        go_ret
        exact ⟨rfl, HN.b⟩
      | false =>
        have L1 := large_calls (ns := ns) (rs := rs) (A := A) (c := c) (A' := A') (c' := c')
        have L2 := large_calls (ns := ms) (rs := ss) (A := B) (c := k) (A' := B') (c' := k')
        rw [hs1] at L1
        rw [hs2] at L2
        simp only [gv] at L1 L2
        simp only [gv]
        go_enter Try.func33, Try.ntmps33
        go_wp2_with fail
        refine (lives4_calls _).mono ?_
        rintro e w1 ⟨rfl, hB1⟩
        have HQ1 := Aside0.mk (HQ0.out.below hB1)
        obtain ⟨x0, x1, y0, y1⟩ := HQ1.out.cells
        clear HQ0 hB1
        go_wp2_with fail
        refine (L1 _ (H1.out.below HQ1.out.b)).mono ?_
        rintro e w2 ⟨rfl, hB2⟩
        clear x0 x1 y0 y1
        have HQ2 := Aside0.mk (HQ1.out.below hB2)
        obtain ⟨x0, x1, y0, y1⟩ := HQ2.out.cells
        clear HQ1 hB2
        go_wp2_with fail
        refine (L2 _ (H2.out.below HQ2.out.b)).mono ?_
        rintro e w3 ⟨rfl, hB3⟩
        have HQ3 := Aside0.mk (HQ2.out.below hB3)
        clear x0 x1 y0 y1 HQ2 hB3
        go_wp2_with fail
        refine (lives4_calls _).mono ?_
        rintro e wz ⟨rfl, hBz⟩
        go_wp2_with fail
        go_ret
        exact ⟨rfl, (HQ3.out.below hBz).b⟩
    | false =>
      have L1 := large_calls (ns := ns) (rs := rs) (A := A) (c := c) (A' := A') (c' := c')
      rw [hs1] at L1
      simp only [gv] at L1
      simp only [gv]
      go_enter Try.func33, Try.ntmps33
      go_wp2_with fail
      refine (lives4_calls _).mono ?_
      rintro e w1 ⟨rfl, hB1⟩
      have HQ1 := Aside0.mk (HQ0.out.below hB1)
      obtain ⟨x0, x1, y0, y1⟩ := HQ1.out.cells
      clear HQ0 hB1
      go_wp2_with fail
      refine (L1 _ (H1.out.below HQ1.out.b)).mono ?_
      rintro e w2 ⟨rfl, hB2⟩
      have HQ2 := Aside0.mk (HQ1.out.below hB2)
      clear x0 x1 y0 y1 HQ1 hB2
      go_wp2_with fail
      refine (lives4_calls _).mono ?_
      rintro e wz ⟨rfl, hBz⟩
      go_wp2_with fail
      go_ret
      exact ⟨rfl, (HQ2.out.below hBz).b⟩
  · have d5 : decide (5000 < path.length) = true := decide_eq_true (by omega)
    have d5' : decide (5000 < (path.length : Int)) = true := decide_eq_true (by omega)
    simp only [gv]
    go_enter Try.func33, Try.ntmps33
    go_wp2_with fail
    refine (lives4_calls _).mono ?_
    rintro e w1 ⟨rfl, hB1⟩
    have HQ1 := Aside0.mk (HQ0.out.below hB1)
    obtain ⟨x0, x1, y0, y1⟩ := HQ1.out.cells
    clear HQ0 hB1
    go_wp2_with fail
    refine (lives4_calls _).mono ?_
    rintro e wz ⟨rfl, hBz⟩
    go_wp2_with fail
    go_ret
    exact ⟨rfl, (HQ1.out.below hBz).b⟩

end Go.Proofs.Ytgcjfobmccoibaa.Gr
