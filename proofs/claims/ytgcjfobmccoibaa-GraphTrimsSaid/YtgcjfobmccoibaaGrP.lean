/- GraphTrims: what a trimmed graph is. What is asked: how the graph and the path are read. -/
import Derived.Test.YtgcjfobmccoibaaKg
import Derived.Test.YtgcjfobmccoibaaKe
set_option linter.unusedSimpArgs false
set_option linter.unusedVariables false
namespace Go.Proofs.Ytgcjfobmccoibaa.Gr
open Go.RowKit Go.Proofs.YtgcjfobmccoibaaW.PrintWords Go.Proofs.YtgcjfobmccoibaaW.PrintLast Go.Proofs.YtgcjfobmccoibaaW.PrintMore
open Go.Proofs.Ytgcjfobmccoibaa.Nm

/-- Two boxes, and what lay before. -/
structure PT (w0 : World) (X0 X1 : Value) (bt : Nat) (Y0 Y1 : Value) (w : World) : Prop where
  b : Below w0.heap.size w0 w
  x : w.heap[w0.heap.size]? = some (.cells #[X0, X1] 52 (0, 0))
  y : w.heap[bt]? = some (.cells #[Y0, Y1] 52 (0, 0))
theorem PT.below {w0 w w' : World} {X0 X1 Y0 Y1 : Value} {bt : Nat} (h : PT w0 X0 X1 bt Y0 Y1 w) (hb : Below w.heap.size w w') : PT w0 X0 X1 bt Y0 Y1 w' :=
  ⟨below_then h.b h.b.size hb, (hb.block _ (blk_lt h.x)).trans h.x, (hb.block _ (blk_lt h.y)).trans h.y⟩
theorem PT.cells {w0 w : World} {X0 X1 Y0 Y1 : Value} {bt : Nat} (h : PT w0 X0 X1 bt Y0 Y1 w) : w.cell? ⟨w0.heap.size, 0, none⟩ = some X0 ∧ w.cell? ⟨w0.heap.size, 1, none⟩ = some X1 ∧ w.cell? ⟨bt, 0, none⟩ = some Y0 ∧ w.cell? ⟨bt, 1, none⟩ = some Y1 :=
  ⟨blk_cell h.x 0, blk_cell h.x 1, blk_cell h.y 0, blk_cell h.y 1⟩
theorem PT.drew {w0 w : World} {X0 X1 Y0 Y1 : Value} {bt : Nat} (h : PT w0 X0 X1 bt Y0 Y1 w) : PT w0 X0 X1 bt Y0 Y1 w.drew := h.below (below_drew (Below.refl _ _))

/-- .. and a cell. -/
structure PR (w0 : World) (X0 X1 : Value) (bt : Nat) (Y0 Y1 : Value) (a : Addr) (v : Value) (w : World) : Prop where
  p : PT w0 X0 X1 bt Y0 Y1 w
  c : w.cell? a = some v
theorem PR.below {w0 w w' : World} {X0 X1 Y0 Y1 v : Value} {bt : Nat} {a : Addr} (h : PR w0 X0 X1 bt Y0 Y1 a v w) (hb : Below w.heap.size w w') : PR w0 X0 X1 bt Y0 Y1 a v w' := ⟨h.p.below hb, pw_cell_below hb h.c⟩
theorem PR.drew {w0 w : World} {X0 X1 Y0 Y1 v : Value} {bt : Nat} {a : Addr} (h : PR w0 X0 X1 bt Y0 Y1 a v w) : PR w0 X0 X1 bt Y0 Y1 a v w.drew := h.below (below_drew (Below.refl _ _))
theorem PR.all {w0 w : World} {X0 X1 Y0 Y1 v : Value} {bt : Nat} {a : Addr} (h : PR w0 X0 X1 bt Y0 Y1 a v w) : w.cell? ⟨w0.heap.size, 0, none⟩ = some X0 ∧ w.cell? ⟨w0.heap.size, 1, none⟩ = some X1 ∧ w.cell? ⟨bt, 0, none⟩ = some Y0 ∧ w.cell? ⟨bt, 1, none⟩ = some Y1 ∧ w.cell? a = some v ∧ PR w0 X0 X1 bt Y0 Y1 a v w :=
  ⟨h.p.cells.1, h.p.cells.2.1, h.p.cells.2.2.1, h.p.cells.2.2.2, h.c, h⟩

theorem PT.all {w0 w : World} {X0 X1 Y0 Y1 : Value} {bt : Nat} (h : PT w0 X0 X1 bt Y0 Y1 w) : w.cell? ⟨w0.heap.size, 0, none⟩ = some X0 ∧ w.cell? ⟨w0.heap.size, 1, none⟩ = some X1 ∧ w.cell? ⟨bt, 0, none⟩ = some Y0 ∧ w.cell? ⟨bt, 1, none⟩ = some Y1 ∧ PT w0 X0 X1 bt Y0 Y1 w :=
  ⟨h.cells.1, h.cells.2.1, h.cells.2.2.1, h.cells.2.2.2, h⟩
/-- A node's four cells. -/
def Nc (a : Addr) (x : S55) (v : Value) (w : World) : Prop := w.cell? a = some (.int .i64 x.f0) ∧ w.cell? ⟨a.block, a.off + 1, none⟩ = some (.string x.f1) ∧ w.cell? ⟨a.block, a.off + 2, none⟩ = some (.int .i64 x.f2) ∧ w.cell? ⟨a.block, a.off + 3, none⟩ = some v
theorem Nc.below {a : Addr} {x : S55} {v : Value} {w w' : World} (h : Nc a x v w) (hb : Below w.heap.size w w') : Nc a x v w' := ⟨pw_cell_below hb h.1, pw_cell_below hb h.2.1, pw_cell_below hb h.2.2.1, pw_cell_below hb h.2.2.2⟩
/-- .. and two nodes. -/
structure PN (w0 : World) (X0 X1 : Value) (bt : Nat) (Y0 Y1 : Value) (a : Addr) (x : S55) (v : Value) (b : Addr) (y : S55) (u : Value) (w : World) : Prop where
  p : PT w0 X0 X1 bt Y0 Y1 w
  a : Nc a x v w
  b : Nc b y u w
section
variable {w0 w w' : World} {X0 X1 Y0 Y1 v u : Value} {bt : Nat} {a b : Addr} {x y : S55}
theorem PN.below (h : PN w0 X0 X1 bt Y0 Y1 a x v b y u w) (hb : Below w.heap.size w w') : PN w0 X0 X1 bt Y0 Y1 a x v b y u w' := ⟨h.p.below hb, h.a.below hb, h.b.below hb⟩
theorem PN.drew (h : PN w0 X0 X1 bt Y0 Y1 a x v b y u w) : PN w0 X0 X1 bt Y0 Y1 a x v b y u w.drew := h.below (below_drew (Below.refl _ _))
theorem PN.all (h : PN w0 X0 X1 bt Y0 Y1 a x v b y u w) : w.cell? ⟨w0.heap.size, 0, none⟩ = some X0 ∧ w.cell? ⟨w0.heap.size, 1, none⟩ = some X1 ∧ w.cell? ⟨bt, 0, none⟩ = some Y0 ∧ w.cell? ⟨bt, 1, none⟩ = some Y1 ∧
    w.cell? a = some (.int .i64 x.f0) ∧ w.cell? ⟨a.block, a.off + 1, none⟩ = some (.string x.f1) ∧ w.cell? ⟨a.block, a.off + 2, none⟩ = some (.int .i64 x.f2) ∧ w.cell? ⟨a.block, a.off + 3, none⟩ = some v ∧
    w.cell? b = some (.int .i64 y.f0) ∧ w.cell? ⟨b.block, b.off + 1, none⟩ = some (.string y.f1) ∧ w.cell? ⟨b.block, b.off + 2, none⟩ = some (.int .i64 y.f2) ∧ w.cell? ⟨b.block, b.off + 3, none⟩ = some u ∧ PN w0 X0 X1 bt Y0 Y1 a x v b y u w :=
  ⟨h.p.cells.1, h.p.cells.2.1, h.p.cells.2.2.1, h.p.cells.2.2.2, h.a.1, h.a.2.1, h.a.2.2.1, h.a.2.2.2, h.b.1, h.b.2.1, h.b.2.2.1, h.b.2.2.2, h⟩
end

/-- Where a path leads in the trimmed graph. -/
theorem trim_at {ns : List S55} {rs r : List Int} (hck : chk ns rs = []) (hr : From ns rs r) {x : Int} (hx : x ∈ r) (path : List Int) :
    atV (trimL ns r) (rs.map (at0 r)) (at0 r x) path = (atV ns rs x path).map (at0 r) ∧ (∀ y, atV ns rs x path = some y → y ∈ r) := by
  have hs := trim_step hr path x hx
  have hri : allIn ns.length r := run_in (goodG_of hck) hr (fun x hx => by simp at hx) (fun x hx => by simpa [inside] using (chk_parts hck).2.2.2 x hx)
  have hxi := hri x hx
  have hin : inside ns.length x = true := by rw [inside_iff]; exact hxi
  have hin2 : inside (trimL ns r).length (at0 r x) = true := by
    rw [inside_iff, trimL_length]
    exact ⟨by unfold at0; omega, at0_lt hx⟩
  unfold atV
  rw [if_pos ⟨trim_chk hck hr, hin2⟩, if_pos ⟨hck, hin⟩]
  exact hs

set_option maxRecDepth 100000 in
set_option maxHeartbeats 2000000 in
theorem trims_calls (w : World) (A : Option Addr) (c : Nat) (ns : List S55) (A' : Option Addr) (c' : Nat) (rs : List Int) (h : IsG w A c ns A' c' rs) (root : Int) (P : Option Addr) (pc : Nat) (path : List Int) (hp : Kd.C (Kd.int .i64) w P path.length path) :
    Calls Try.prog 12 #[gv A c ns A' c' rs, .int .i64 root, .slice P path.length pc] w fun e w' => e = .returned (.bool true) ∧ Below w.heap.size w w' := by
  have HQ0 := Aside0.mk (p1_made w (.slice A ns.length c) (.slice A' rs.length c'))
  have HG := Aside0.mk h
  have HP := Aside0.mk hp
  clear h hp
  by_cases h5 : path.length ≤ 5000
  · have d5 : decide (5000 < path.length) = false := decide_eq_false (by omega)
    have d5' : decide (5000 < (path.length : Int)) = false := decide_eq_false (by omega)
    cases hs1 : smallB ns rs 300 with
    | true =>
      have L1 := large_calls (ns := ns) (rs := rs) (A := A) (c := c) (A' := A') (c' := c')
      rw [hs1] at L1
      simp only [gv] at L1
      by_cases hck : chk ns rs = []
      · obtain ⟨r, hr⟩ := run_total (goodG_of hck) _ rs [] (Nat.le_refl _) (fun a ha => by have := (chk_parts hck).2.2.2 a ha; simpa [inside] using this)
        have T1 := trim_good (A := A) (c := c) (A' := A') (c' := c') (ns := ns) (rs := rs) (hck := hck) (r := r) (hr := hr)
        simp only [gv] at T1
        simp only [gv]
        go_enter Try.func12, Try.ntmps12
        go_wp2_with fail
        refine (lives4_calls _).mono ?_
        rintro e w1 ⟨rfl, hB1⟩
        have HQ1 := Aside0.mk (HQ0.out.below hB1)
        obtain ⟨x0, x1⟩ := HQ1.out.cells
        clear HQ0 hB1
        go_wp2_with fail
        refine (L1 _ (HG.out.below HQ1.out.b)).mono ?_
        rintro e w2 ⟨rfl, hB2⟩
        clear x0 x1
        have HQ2 := Aside0.mk (HQ1.out.below hB2)
        obtain ⟨x0, x1⟩ := HQ2.out.cells
        clear HQ1 hB2
        go_wp2_with fail
        refine (T1 _ (HG.out.below HQ2.out.b)).mono ?_
        rintro e w3 ⟨v0, v1, rfl, hO3, hB3⟩
        clear x0 x1 T1
        obtain ⟨B0, d0, B1, d1, rfl, rfl, hGt⟩ := hO3.reads
        have F1 := trim_chk hck hr
        have F2 := trim_from hr
        have F3 := trim_again hr
        have F4 := trimL_length ns r
        have F4' : (rs.map (at0 r)).length = rs.length := by simp
        have F5 : ∀ j, j < rs.length → (rs.map (at0 r)).getD j 0 = at0 r (rs.getD j 0) ∧ atV (trimL ns r) (rs.map (at0 r)) (at0 r (rs.getD j 0)) path = (atV ns rs (rs.getD j 0) path).map (at0 r) ∧ (∀ y, atV ns rs (rs.getD j 0) path = some y → y ∈ r) := fun j hj =>
          ⟨getD_map hj, trim_at hck hr (From.sup hr _ (getD_mem hj)) path⟩
        have F6 : ∀ y ∈ r, (trimL ns r).getD (at0 r y).toNat z55 = trimN ns r y := fun y hy => trimL_get hy
        have FU := upto_length r.length
        have FG : ∀ k, k < r.length → (upto r.length).getD k 0 = (k : Int) := fun k hk => by simp [upto, hk]
        generalize upto r.length = un at F2 F3 FU FG
        generalize trimL ns r = tn at *
        generalize rs.map (at0 r) = tr at *
        have e1 : ((un.length : Int) != (tn.length : Int)) = false := by rw [FU, F4]; simp
        have hri : allIn ns.length r := run_in (goodG_of hck) hr (fun x hx => by simp at hx) (fun x hx => by simpa [inside] using (chk_parts hck).2.2.2 x hx)
        have e2 : ((tr.length : Int) != (rs.length : Int)) = false := by rw [F4']; simp
        have HQ3 := Aside0.mk (show PT w (.slice A ns.length c) (.slice A' rs.length c') w3.heap.size (.slice B0 tn.length d0) (.slice B1 tr.length d1) (w3.alloc (.cells #[.slice B0 tn.length d0, .slice B1 tr.length d1] 52)) from
          ⟨(below_then HQ2.out.b HQ2.out.b.size hB3).alloc (HQ2.out.below hB3).b.size _, blk_old _ (HQ2.out.below hB3).x, blk_last w3 _⟩)
        have HGt := Aside0.mk (hGt.below (below_alloc (Below.refl _ w3) (.cells #[.slice B0 tn.length d0, .slice B1 tr.length d1] 52)))
        obtain ⟨x0, x1, y0, y1⟩ := HQ3.out.cells
        have F := Aside0.mk (And.intro F3 (And.intro F5 (And.intro F6 (And.intro F4 (And.intro F4' (And.intro FU FG))))))
        have T2 := trim_good (A := B0) (c := d0) (A' := B1) (c' := d1) (ns := tn) (rs := tr) (hck := F1) (r := un) (hr := F2)
        have R2 := reach_good (A := B0) (c := d0) (A' := B1) (c' := d1) (ns := tn) (rs := tr) (hck := F1) (r := un) (hr := F2)
        rw [F3.1, F3.2] at T2
        simp only [gv] at T2 R2
        clear hGt hO3 hB3 HQ2 F1 F2 F3 F4 F4' F5 F6 FU FG
        go_wp2_with fail
        refine (T2 _ HGt.out).mono ?_
        rintro e w4 ⟨u0, u1, rfl, hO4, hB4⟩
        obtain ⟨E0, k0, E1, k1, rfl, rfl, hGu⟩ := hO4.reads
        have HQ4 := Aside0.mk ((HQ3.out.below hB4).below (below_alloc (Below.refl _ _) (.cells #[.slice E0 tn.length k0, .slice E1 tr.length k1] 52)))
        have HGt4 := Aside0.mk ((HGt.out.below hB4).below (below_alloc (Below.refl _ w4) (.cells #[.slice E0 tn.length k0, .slice E1 tr.length k1] 52)))
        have HGu4 := Aside0.mk (hGu.below (below_alloc (Below.refl _ w4) (.cells #[.slice E0 tn.length k0, .slice E1 tr.length k1] 52)))
        have HU4 := Aside0.mk (blk_last w4 (.cells #[.slice E0 tn.length k0, .slice E1 tr.length k1] 52))
        clear x0 x1 y0 y1 T2 HGt HQ3 hO4 hB4 hGu
        obtain ⟨x0, x1, y0, y1⟩ := HQ4.out.cells
        go_wp2_with fail
        refine (R2 _ HGt4.out).mono ?_
        rintro e w5 ⟨v5, rfl, hR5, hB5⟩
        have HQ5 := Aside0.mk (HQ4.out.below hB5)
        have HGt5 := Aside0.mk (HGt4.out.below hB5)
        have HGu5 := Aside0.mk (HGu4.out.below hB5)
        have HU5 := (hB5.block _ (blk_lt HU4.out)).trans HU4.out
        have u0 : w5.cell? ⟨w4.heap.size, 0, none⟩ = some (.slice E0 tn.length k0) := blk_cell HU5 0
        have u1 : w5.cell? ⟨w4.heap.size, 1, none⟩ = some (.slice E1 tr.length k1) := blk_cell HU5 1
        obtain ⟨A5, c5, rfl, hl5, hC5⟩ := Kd.R_reads hR5
        have HC5 := Aside0.mk hC5
        clear x0 x1 y0 y1 R2 HGt4 HGu4 HQ4 hR5 hB5 HU5 HU4 hC5
        obtain ⟨x0, x1, y0, y1⟩ := HQ5.out.cells
        go_wp2_with fail
        have S1 := same_calls4 (A := B0) (c := d0) (ns := tn) (A' := B1) (c' := d1) (rs := tr) (B := E0) (k := k0) (ms := tn) (B' := E1) (k' := k1) (ss := tr)
        rw [show decide (tn = tn ∧ tr = tr) = true by simp] at S1
        simp only [gv] at S1
        refine (S1 _ HGt5.out HGu5.out).mono ?_
        rintro e w6 ⟨rfl, hB6⟩
        have HQ6 := Aside0.mk (HQ5.out.below hB6)
        have HGt6 := Aside0.mk (HGt5.out.below hB6)
        have HC6 := Aside0.mk (Kd.C_below HC5.out hB6)
        clear x0 x1 y0 y1 u0 u1 S1 HGt5 HGu5 HQ5 HC5 hB6
        obtain ⟨x0, x1, y0, y1⟩ := HQ6.out.cells
        go_wp2_with fail
        have hun := HC6.out.2.1
        go_loopw [81] (fun i wr => ∃ k : Nat, k ≤ un.length ∧ i = .int .i64 (k : Int) ∧ w6 = wr) (fun i _ => un.length - (intOf i).toNat)
        case atStart => exact ⟨0, Nat.zero_le _, rfl, rfl⟩
        case round =>
          obtain ⟨k, hk, rfl, rfl⟩ := hrel
          by_cases hlt : k < un.length
          · obtain ⟨ad, cc, rfl, hcl, hK, hcc⟩ := Kd.C_get HC6.out 0 (k : Int) (by omega) (by omega)
            have hK' : cc = [.int .i64 (un.getD k 0)] := hK
            subst hK'
            have hx : w6.cell? (ad.add k) = some (.int .i64 (un.getD k 0)) := by
              have := hcc 0 _ rfl
              simpa [Kd.int, Kd.scalar] using this
            rw [F.out.2.2.2.2.2.2 k (by have := F.out.2.2.2.2.2.1; omega)] at hx
            have e3 : ((k : Int) != (k : Int)) = false := by simp
            clear hK hcl hcc
            go_wp2_with fail
            go_roundw
            case rel => exact ⟨k + 1, by omega, by go_num, trivial⟩
            case measure => simp [intOf]; omega
          · obtain rfl : k = un.length := by omega
            clear hlt hk
            by_cases h0 : root < 0
            · have g0 : decide (root < 0) = true := decide_eq_true h0
              go_wp2_with fail
              go_ret
              exact ⟨rfl, HQ6.out.b⟩
            · have g0 : decide (root < 0) = false := decide_eq_false h0
              by_cases h1 : (rs.length : Int) ≤ root
              · have g1 : decide ((rs.length : Int) ≤ root) = true := decide_eq_true h1
                go_wp2_with fail
                go_ret
                exact ⟨rfl, HQ6.out.b⟩
              · have g1 : decide ((rs.length : Int) ≤ root) = false := decide_eq_false h1
                obtain ⟨j, rfl⟩ : ∃ j : Nat, root = (j : Int) := ⟨root.toNat, by omega⟩
                have hj : j < rs.length := by omega
                have FJ := F.out.2.1 j hj
                have hjt : j < tr.length := by have := F.out.2.2.2.2.1; omega
                obtain ⟨adr, ccr, rfl, hclr, hKr, hccr⟩ := Kd.C_get (Kd.C_below HG.out.r HQ6.out.b) 0 (j : Int) (by omega) (by omega)
                have hKr' : ccr = [.int .i64 (rs.getD j 0)] := hKr
                subst hKr'
                have hxr : w6.cell? (adr.add j) = some (.int .i64 (rs.getD j 0)) := by
                  have := hccr 0 _ rfl
                  simpa [Kd.int, Kd.scalar] using this
                obtain ⟨adt, cct, rfl, hclt, hKt, hcct⟩ := Kd.C_get HGt6.out.r 0 (j : Int) (by omega) (by omega)
                have hKt' : cct = [.int .i64 (tr.getD j 0)] := hKt
                subst hKt'
                have hxt : w6.cell? (adt.add j) = some (.int .i64 (tr.getD j 0)) := by
                  have := hcct 0 _ rfl
                  simpa [Kd.int, Kd.scalar] using this
                rw [FJ.1] at hxt
                clear hclr hKr hccr hclt hKt hcct
                have A1 := at_calls (ns := ns) (rs := rs) (A := A) (c := c) (A' := some adr) (c' := c') (node := rs.getD j 0) (P := P) (pc := pc) (path := path)
                have A2 := at_calls (ns := tn) (rs := tr) (A := B0) (c := d0) (A' := some adt) (c' := d1) (node := at0 r (rs.getD j 0)) (P := P) (pc := pc) (path := path)
                rw [FJ.2.1] at A2
                have FJ2 := Aside0.mk FJ.2.2
                clear FJ
                generalize at0 r (rs.getD j 0) = rt2 at A2 hxt
                generalize atV ns rs (rs.getD j 0) path = o at A1 A2 FJ2
                generalize rs.getD j 0 = rt at A1 hxr
                simp only [gv] at A1 A2
                have HR6 := Aside0.mk (PR.mk HQ6.out hxr)
                have HT6 := Aside0.mk hxt
                clear hxt
                go_wp2_with fail
                go_region_held3 (fun w' => w'.cell? ⟨w.heap.size, 0, none⟩ = some (.slice A ns.length c) ∧ w'.cell? ⟨w.heap.size, 1, none⟩ = some (.slice (some adr) rs.length c') ∧ w'.cell? ⟨w3.heap.size, 0, none⟩ = some (.slice B0 tn.length d0) ∧ w'.cell? ⟨w3.heap.size, 1, none⟩ = some (.slice (some adt) tr.length d1) ∧ w'.cell? (adr.add j) = some (.int .i64 rt) ∧ PR w (.slice A ns.length c) (.slice (some adr) rs.length c') w3.heap.size (.slice B0 tn.length d0) (.slice (some adt) tr.length d1) (adr.add j) (.int .i64 rt) w')
                  (first
                    | exact HR6.out.all
                    | exact HR6.out.drew.all
                    | exact HN.all
                    | go_keep)
                  (first | (go_at_call 42; refine (A1 _ (HG.out.below HR6.out.drew.p.b) (Kd.C_below HP.out HR6.out.drew.p.b) (by omega)).mono ?_; rintro e wa ⟨rfl, hBa⟩; have HN := HR6.out.drew.below hBa; have HTN := pw_cell_below hBa (pw_cell_below (below_drew (Below.refl _ _)) HT6.out)))
                have HR7 := Aside0.mk (PR.mk HN.p HTN)
                have HGt7 := Aside0.mk ((HGt6.out.below (below_drew (Below.refl _ _))).below hBa)
                clear HN HTN hBa HR6 HT6 hxr x0 x1 y0 y1 A1 HGt6 HC6 HQ6
                obtain ⟨x0, x1, y0, y1, xr, _⟩ := HR7.out.all
                go_wp2_with fail
                go_region_held3 (fun w' => w'.cell? ⟨w.heap.size, 0, none⟩ = some (.slice A ns.length c) ∧ w'.cell? ⟨w.heap.size, 1, none⟩ = some (.slice (some adr) rs.length c') ∧ w'.cell? ⟨w3.heap.size, 0, none⟩ = some (.slice B0 tn.length d0) ∧ w'.cell? ⟨w3.heap.size, 1, none⟩ = some (.slice (some adt) tr.length d1) ∧ w'.cell? (adt.add j) = some (.int .i64 rt2) ∧ PR w (.slice A ns.length c) (.slice (some adr) rs.length c') w3.heap.size (.slice B0 tn.length d0) (.slice (some adt) tr.length d1) (adt.add j) (.int .i64 rt2) w')
                  (first
                    | exact HR7.out.all
                    | exact HR7.out.drew.all
                    | exact HN.all
                    | go_keep)
                  (first | (go_at_call 42; refine (A2 _ (HGt7.out.below (below_drew (Below.refl _ _))) (Kd.C_below HP.out HR7.out.drew.p.b) (by omega)).mono ?_; rintro e wb ⟨rfl, hBb⟩; have HN := HR7.out.drew.below hBb))
                have HR8 := Aside0.mk HN.p
                have HGt8 := Aside0.mk ((HGt7.out.below (below_drew (Below.refl _ _))).below hBb)
                clear HN hBb HR7 x0 x1 y0 y1 xr A2 HGt7
                obtain ⟨x0, x1, y0, y1⟩ := HR8.out.cells
                cases o with
                | none =>
                  simp only [Option.isSome_none, Option.getD_none, Option.map_none]
                  go_wp2_with fail
                  go_region
                  go_wp2_with fail
                  go_ret
                  exact ⟨rfl, HR8.out.drew.b⟩
                | some y =>
                  have hyr := FJ2.out y rfl
                  have hyi := hri y hyr
                  have hN6 := F.out.2.2.1 y hyr
                  have hq := at0_lt hyr
                  have hq0 : 0 ≤ at0 r y := by unfold at0; omega
                  generalize hqq : at0 r y = q0 at *
                  obtain ⟨q, rfl⟩ : ∃ q : Nat, q0 = (q : Int) := ⟨q0.toNat, by omega⟩
                  obtain ⟨m, rfl⟩ : ∃ m : Nat, y = (m : Int) := ⟨y.toNat, by omega⟩
                  rw [Int.toNat_natCast] at hN6
                  have hqn : q < tn.length := by have := F.out.2.2.2.1; omega
                  have hmn : m < ns.length := by omega
                  obtain ⟨ad, A3, c3, rfl, n0, n1, n2, n3, hl3, hC3⟩ := node_at (Kd.C_below HG.out.n HR8.out.b) hmn
                  obtain ⟨be, B3, k3, rfl, m0, m1, m2, m3, hm3, hD3⟩ := node_at HGt8.out.n hqn
                  rw [hN6] at m0 m1 m2 m3 hm3 hD3
                  have htn : trimN ns r (m : Int) = ⟨(ns.getD m z55).f0, (ns.getD m z55).f1, (ns.getD m z55).f2, (argsOf ns (m : Int)).map (at0 r)⟩ := by unfold trimN; simp
                  have hargs : argsOf ns (m : Int) = (ns.getD m z55).f3 := by simp [argsOf]
                  rw [hargs] at htn
                  generalize trimN ns r (m : Int) = tx at *
                  generalize ns.getD m z55 = x at *
                  subst htn
                  have hmf : (x.f3.map (at0 r)).length = x.f3.length := by simp
                  generalize x.f3.map (at0 r) = mf at *
                  have HMF := Aside0.mk (show PGraphChecks.tendrillaw04_alike.f x.f0 x.f1 x.f2 x.f3 x.f0 x.f1 x.f2 mf = some true by simp [PGraphChecks.tendrillaw04_alike.f, hmf])
                  clear hmf
                  have HN8 := Aside0.mk (PN.mk HR8.out ⟨n0, n1, n2, n3⟩ ⟨m0, m1, m2, m3⟩)
                  have HC3 := Aside0.mk hC3
                  have HD3 := Aside0.mk hD3
                  simp only [Option.isSome_some, Option.getD_some, Option.map_some, hqq]
                  clear n0 n1 n2 n3 m0 m1 m2 m3 x0 x1 y0 y1 hC3 hD3
                  obtain ⟨x0, x1, y0, y1, n0, n1, n2, n3, m0, m1, m2, m3, _⟩ := HN8.out.all
                  have K1 := PGraphChecks.tendrillaw04_alike.calls x.f0 x.f1 x.f2 A3 c3 x.f3 x.f0 x.f1 x.f2 B3 k3 mf true
                  go_wp2_with fail
                  go_region_held3 (fun w' => w'.cell? ⟨w.heap.size, 0, none⟩ = some (.slice (some ad) ns.length c) ∧ w'.cell? ⟨w.heap.size, 1, none⟩ = some (.slice (some adr) rs.length c') ∧ w'.cell? ⟨w3.heap.size, 0, none⟩ = some (.slice (some be) tn.length d0) ∧ w'.cell? ⟨w3.heap.size, 1, none⟩ = some (.slice (some adt) tr.length d1) ∧
                      w'.cell? (ad.add (m * 4)) = some (.int .i64 x.f0) ∧ w'.cell? ⟨(ad.add (m * 4)).block, (ad.add (m * 4)).off + 1, none⟩ = some (.string x.f1) ∧ w'.cell? ⟨(ad.add (m * 4)).block, (ad.add (m * 4)).off + 2, none⟩ = some (.int .i64 x.f2) ∧ w'.cell? ⟨(ad.add (m * 4)).block, (ad.add (m * 4)).off + 3, none⟩ = some (.slice A3 x.f3.length c3) ∧
                      w'.cell? (be.add (q * 4)) = some (.int .i64 x.f0) ∧ w'.cell? ⟨(be.add (q * 4)).block, (be.add (q * 4)).off + 1, none⟩ = some (.string x.f1) ∧ w'.cell? ⟨(be.add (q * 4)).block, (be.add (q * 4)).off + 2, none⟩ = some (.int .i64 x.f2) ∧ w'.cell? ⟨(be.add (q * 4)).block, (be.add (q * 4)).off + 3, none⟩ = some (.slice B3 mf.length k3) ∧
                      PN w (.slice (some ad) ns.length c) (.slice (some adr) rs.length c') w3.heap.size (.slice (some be) tn.length d0) (.slice (some adt) tr.length d1) (ad.add (m * 4)) x (.slice A3 x.f3.length c3) (be.add (q * 4)) ⟨x.f0, x.f1, x.f2, mf⟩ (.slice B3 mf.length k3) w')
                    (first
                      | exact HN8.out.all
                      | exact HN8.out.drew.all
                      | exact HN.all
                      | go_keep)
                    (first | (go_at_call 43; refine (K1 _ (Kd.C_drewN HC3.out 1) hl3 (Kd.C_drewN HD3.out 1) hm3 HMF.out).mono ?_; rintro e wc ⟨rfl, hBc⟩; have HN := HN8.out.drew.below hBc))
                  go_wp2_with fail
                  go_ret
                  exact ⟨rfl, HN.p.b⟩
      · have T1 := trim_bad (A := A) (c := c) (A' := A') (c' := c') (ns := ns) (rs := rs) (hck := hck)
        have C1 := check_calls (A := A) (c := c) (A' := A') (c' := c') (ns := ns) (rs := rs)
        simp only [gv] at T1 C1
        simp only [gv]
        go_enter Try.func12, Try.ntmps12
        go_wp2_with fail
        refine (lives4_calls _).mono ?_
        rintro e w1 ⟨rfl, hB1⟩
        have HQ1 := Aside0.mk (HQ0.out.below hB1)
        obtain ⟨x0, x1⟩ := HQ1.out.cells
        clear HQ0 hB1
        go_wp2_with fail
        refine (L1 _ (HG.out.below HQ1.out.b)).mono ?_
        rintro e w2 ⟨rfl, hB2⟩
        clear x0 x1
        have HQ2 := Aside0.mk (HQ1.out.below hB2)
        obtain ⟨x0, x1⟩ := HQ2.out.cells
        clear HQ1 hB2
        go_wp2_with fail
        refine (T1 _ (HG.out.below HQ2.out.b)).mono ?_
        rintro e w3 ⟨ev, rfl, he, hB3⟩
        clear x0 x1
        obtain ⟨b, rfl⟩ := isErr_some he hck
        have HQ3 := Aside0.mk ((HQ2.out.below hB3).below (below_alloc (Below.refl _ _) (.cells #[.slice none 0 0, .slice none 0 0] 52)))
        obtain ⟨x0, x1⟩ := HQ3.out.cells
        clear HQ2 hB3 he
        go_wp2_with fail
        refine (C1 _ (HG.out.below HQ3.out.b)).mono ?_
        rintro e w4 ⟨ev4, rfl, he4, hB4⟩
        obtain ⟨b4, rfl⟩ := isErr_some he4 hck
        have HQ4 := Aside0.mk (HQ3.out.below hB4)
        clear x0 x1 HQ3 hB4 he4
        go_wp2_with fail
        go_ret
        exact ⟨rfl, HQ4.out.b⟩
    | false =>
      have L1 := large_calls (ns := ns) (rs := rs) (A := A) (c := c) (A' := A') (c' := c')
      rw [hs1] at L1
      simp only [gv] at L1
      simp only [gv]
      go_enter Try.func12, Try.ntmps12
      go_wp2_with fail
      refine (lives4_calls _).mono ?_
      rintro e w1 ⟨rfl, hB1⟩
      have HQ1 := Aside0.mk (HQ0.out.below hB1)
      obtain ⟨x0, x1⟩ := HQ1.out.cells
      clear HQ0 hB1
      go_wp2_with fail
      refine (L1 _ (HG.out.below HQ1.out.b)).mono ?_
      rintro e w2 ⟨rfl, hB2⟩
      have HQ2 := Aside0.mk (HQ1.out.below hB2)
      clear x0 x1 HQ1 hB2
      go_wp2_with fail
      refine (lives4_calls _).mono ?_
      rintro e wz ⟨rfl, hBz⟩
      go_wp2_with fail
      go_ret
      exact ⟨rfl, (HQ2.out.below hBz).b⟩
  · have d5 : decide (5000 < path.length) = true := decide_eq_true (by omega)
    have d5' : decide (5000 < (path.length : Int)) = true := decide_eq_true (by omega)
    simp only [gv]
    go_enter Try.func12, Try.ntmps12
    go_wp2_with fail
    refine (lives4_calls _).mono ?_
    rintro e w1 ⟨rfl, hB1⟩
    have HQ1 := Aside0.mk (HQ0.out.below hB1)
    obtain ⟨x0, x1⟩ := HQ1.out.cells
    clear HQ0 hB1
    go_wp2_with fail
    refine (lives4_calls _).mono ?_
    rintro e wz ⟨rfl, hBz⟩
    go_wp2_with fail
    go_ret
    exact ⟨rfl, (HQ1.out.below hBz).b⟩

end Go.Proofs.Ytgcjfobmccoibaa.Gr
