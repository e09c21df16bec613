/- GraphSides: the sides of a Join stand apart. What is asked: how the graphs and the path are read. -/
import Derived.Test.YtgcjfobmccoibaaGrU
set_option linter.unusedSimpArgs false
set_option linter.unusedVariables false
namespace Go.Proofs.Ytgcjfobmccoibaa.Gr
open Go.RowKit Go.Proofs.YtgcjfobmccoibaaW.PrintWords Go.Proofs.YtgcjfobmccoibaaW.PrintLast Go.Proofs.YtgcjfobmccoibaaW.PrintMore
open Go.Proofs.Ytgcjfobmccoibaa.Nm
open Go.Proofs.Ytgcjfobmccoibaa.PGraphChecks (S52 z52 k52 k52_mk)

/-- A list of graphs that the call has just laid out. -/
theorem graphs_made {w : World} {cs : List Value} {gs : List S52} (hl : gs.length ≤ 1000) (h : ∀ j g, gs[j]? = some g → ∃ a b, cs[j * 2]? = some a ∧ cs[j * 2 + 1]? = some b ∧ k52.K (w.alloc (.cells cs.toArray 52)) g [a, b]) :
    Kd.C k52 (w.alloc (.cells cs.toArray 52)) (some ⟨w.heap.size, 0, none⟩) gs.length gs := by
  have hb := blk_last w (.cells cs.toArray 52)
  refine ⟨rfl, by omega, fun _ => ⟨_, rfl, fun j g hj => ?_⟩⟩
  obtain ⟨a, b, ha, hb2, hK⟩ := h j g hj
  refine ⟨[a, b], rfl, hK, fun i u hu => ?_⟩
  rw [add_plain]
  have hcell : ∀ i : Nat, (w.alloc (.cells cs.toArray 52)).cell? ⟨w.heap.size, i, none⟩ = cs[i]? := fun i => (blk_cell hb i).trans (by simp)
  have hi : i < 2 := by have := (List.getElem?_eq_some_iff.1 hu).1; simpa using this
  rw [hcell]
  show cs[j * 2 + i]? = some u
  rcases Nat.lt_or_ge i 1 with h0 | h0
  · obtain rfl : i = 0 := by omega
    simp at hu
    subst hu
    exact ha
  · obtain rfl : i = 1 := by omega
    simp at hu
    subst hu
    exact hb2
theorem two_graphs {w : World} {A : Option Addr} {c : Nat} {ns : List S55} {A' : Option Addr} {c' : Nat} {rs : List Int} (h : IsG w A c ns A' c' rs) {B : Option Addr} {k : Nat} {ms : List S55} {B' : Option Addr} {k' : Nat} {ss : List Int} (h2 : IsG w B k ms B' k' ss) :
    Kd.C k52 (w.alloc (.cells #[.slice A ns.length c, .slice A' rs.length c', .slice B ms.length k, .slice B' ss.length k'] 52)) (some ⟨w.heap.size, 0, none⟩) 2 [⟨ns, rs⟩, ⟨ms, ss⟩] := by
  have hb := below_alloc (Below.refl _ w) (.cells #[.slice A ns.length c, .slice A' rs.length c', .slice B ms.length k, .slice B' ss.length k'] 52)
  have h' := h.below hb
  have h2' := h2.below hb
  refine graphs_made (w := w) (cs := [.slice A ns.length c, .slice A' rs.length c', .slice B ms.length k, .slice B' ss.length k']) (gs := [⟨ns, rs⟩, ⟨ms, ss⟩]) (by simp) (fun j g hj => ?_)
  match j, hj with
  | 0, hj => cases hj; exact ⟨_, _, rfl, rfl, k52_mk _ ⟨ns, rs⟩ h'.ln h'.n h'.lr h'.r⟩
  | 1, hj => cases hj; exact ⟨_, _, rfl, rfl, k52_mk _ ⟨ms, ss⟩ h2'.ln h2'.n h2'.lr h2'.r⟩
theorem one_graph {w : World} {A : Option Addr} {c : Nat} {ns : List S55} {A' : Option Addr} {c' : Nat} {rs : List Int} (h : IsG w A c ns A' c' rs) :
    Kd.C k52 (w.alloc (.cells #[.slice A ns.length c, .slice A' rs.length c'] 52)) (some ⟨w.heap.size, 0, none⟩) 1 [⟨ns, rs⟩] := by
  have h' := h.below (below_alloc (Below.refl _ w) (.cells #[.slice A ns.length c, .slice A' rs.length c'] 52))
  refine graphs_made (w := w) (cs := [.slice A ns.length c, .slice A' rs.length c']) (gs := [⟨ns, rs⟩]) (by simp) (fun j g hj => ?_)
  match j, hj with
  | 0, hj => cases hj; exact ⟨_, _, rfl, rfl, k52_mk _ ⟨ns, rs⟩ h'.ln h'.n h'.lr h'.r⟩
theorem joinE_two {ns ms : List S55} {rs ss : List Int} (h1 : chk ns rs = []) (h2 : chk ms ss = []) (hn : ns.length + ms.length ≤ 4096) (hr : rs.length + ss.length ≤ 4096) : joinE [⟨ns, rs⟩, ⟨ms, ss⟩] = [] := by
  have e1 : badG ⟨ns, rs⟩ = false := by simp [badG, h1]
  have e2 : badG ⟨ms, ss⟩ = false := by simp [badG, h2]
  have hf : List.findIdx? badG [⟨ns, rs⟩, ⟨ms, ss⟩] = none := by simp [List.findIdx?_cons, e1, e2]
  unfold joinE
  rw [hf]
  dsimp only
  rw [if_neg (by simp [sumN]; omega), if_neg (by simp [sumR]; omega)]
theorem joinE_bad1 {ns ms : List S55} {rs ss : List Int} (h1 : chk ns rs ≠ []) : joinE [⟨ns, rs⟩, ⟨ms, ss⟩] ≠ [] := by
  have e1 : badG ⟨ns, rs⟩ = true := by simpa [badG] using h1
  unfold joinE
  simp [List.findIdx?_cons, e1]
theorem joinE_bad2 {ns ms : List S55} {rs ss : List Int} (h1 : chk ns rs = []) (h2 : chk ms ss ≠ []) : joinE [⟨ns, rs⟩, ⟨ms, ss⟩] ≠ [] := by
  have e1 : badG ⟨ns, rs⟩ = false := by simp [badG, h1]
  have e2 : badG ⟨ms, ss⟩ = true := by simpa [badG] using h2
  unfold joinE
  simp [List.findIdx?_cons, e1, e2]

set_option maxRecDepth 100000 in
set_option maxHeartbeats 2000000 in
theorem sides_calls (w : World) (A : Option Addr) (c : Nat) (ns : List S55) (A' : Option Addr) (c' : Nat) (rs : List Int) (h : IsG w A c ns A' c' rs) (B : Option Addr) (k : Nat) (ms : List S55) (B' : Option Addr) (k' : Nat) (ss : List Int) (h2 : IsG w B k ms B' k' ss)
    (node : Int) (P : Option Addr) (pc : Nat) (path : List Int) (hp : Kd.C (Kd.int .i64) w P path.length path) :
    Calls Try.prog 38 #[gv A c ns A' c' rs, gv B k ms B' k' ss, .int .i64 node, .slice P path.length pc] w fun e w' => e = .returned (.bool true) ∧ Below w.heap.size w w' := by
  have HQ0 := Aside0.mk (p2_made w (.slice A ns.length c) (.slice A' rs.length c') (.slice B ms.length k) (.slice B' ss.length k'))
  have H1 := Aside0.mk h
  have H2 := Aside0.mk h2
  have HP := Aside0.mk hp
  clear h h2 hp
  by_cases h5 : path.length ≤ 5000
  · have d5 : decide (5000 < path.length) = false := decide_eq_false (by omega)
    have d5' : decide (5000 < (path.length : Int)) = false := decide_eq_false (by omega)
    cases hs1 : smallB ns rs 300 with
    | true =>
      cases hs2 : smallB ms ss 300 with
      | true =>
        have hsa := smallB_args hs1
        have hsb := smallB_args hs2
        have L1 := large_calls (ns := ns) (rs := rs) (A := A) (c := c) (A' := A') (c' := c')
        have L2 := large_calls (ns := ms) (rs := ss) (A := B) (c := k) (A' := B') (c' := k')
        rw [hs1] at L1
        rw [hs2] at L2
        simp only [gv] at L1 L2 ⊢
        go_enter Try.func38, Try.ntmps38
        go_wp2_with fail
        refine (lives4_calls _).mono ?_
        rintro e w1 ⟨rfl, hB1⟩
        have HQ1 := Aside0.mk (HQ0.out.below hB1)
        obtain ⟨x0, x1, y0, y1⟩ := HQ1.out.cells
        clear HQ0 hB1
        go_wp2_with fail
        refine (L1 _ (H1.out.below HQ1.out.b)).mono ?_
        rintro e w2 ⟨rfl, hB2⟩
        clear x0 x1 y0 y1
        have HQ2 := Aside0.mk (HQ1.out.below hB2)
        obtain ⟨x0, x1, y0, y1⟩ := HQ2.out.cells
        clear HQ1 hB2
        go_wp2_with fail
        refine (L2 _ (H2.out.below HQ2.out.b)).mono ?_
        rintro e w3 ⟨rfl, hB3⟩
        clear x0 x1 y0 y1
        have HQ3 := Aside0.mk (HQ2.out.below hB3)
        obtain ⟨x0, x1, y0, y1⟩ := HQ3.out.cells
        clear HQ2 hB3 L1 L2
        go_wp2_with fail
        have hC := two_graphs (H1.out.below HQ3.out.b) (H2.out.below HQ3.out.b)
        have J := join_calls _ _ 2 _ hC (by simp)
        refine J.mono ?_
        clear J hC
        rintro e w4 ⟨v0, v1, ev, rfl, he, hB4, hgood, hbad⟩
        have HQ4 := Aside0.mk ((HQ3.out.below (below_alloc (Below.refl _ w3) (.cells #[.slice A ns.length c, .slice A' rs.length c', .slice B ms.length k, .slice B' ss.length k'] 52))).below hB4)
        clear HQ3 hB4 x0 x1 y0 y1
        by_cases hc1 : chk ns rs = []
        · by_cases hc2 : chk ms ss = []
          · have hJE := joinE_two hc1 hc2 (by omega) (by omega)
            obtain rfl := isErr_nil he hJE
            have hO := hgood hJE
            rw [show prs [⟨ns, rs⟩, ⟨ms, ss⟩] = [(ns, rs), (ms, ss)] from rfl, joinG_two] at hO
            clear hgood hbad he
            dsimp only at hO
            obtain ⟨E0, e0, E1, e1, rfl, rfl, hGj⟩ := hO.reads
            have hjl : (ns ++ ms.map (shiftN ns.length)).length = ns.length + ms.length := by simp
            have hrl : (rs ++ shiftL ns.length ss).length = rs.length + ss.length := by simp [shiftL]
            have hri : ∀ r ∈ rs, inside (ns.length + ms.length : Nat) r = true := fun r hr => by
              have := inside_iff.1 ((chk_parts hc1).2.2.2 r hr); rw [inside_iff]; omega
            have hrs : ∀ r ∈ shiftL ns.length ss, inside (ns.length + ms.length : Nat) r = true := fun r hr => by
              obtain ⟨b, hb, rfl⟩ := List.mem_map.1 hr
              have := inside_iff.1 ((chk_parts hc2).2.2.2 b hb); rw [inside_iff]; omega
            have G1 := join_chk (rs' := rs ++ shiftL ns.length ss) hc1 hc2 (by omega) (by omega) (fun r hr => (List.mem_append.1 hr).elim (hri r) (hrs r))
            have G2 := join_chk (rs' := rs) hc1 hc2 (by omega) (by omega) hri
            have G3 := join_chk (rs' := shiftL ns.length ss) hc1 hc2 (by omega) (by simp [shiftL]; omega) hrs
            have GA : inside ns.length node = true → atV (ns ++ ms.map (shiftN ns.length)) (rs ++ shiftL ns.length ss) node path = atV ns rs node path := fun hin => by
              have hin' : inside (ns ++ ms.map (shiftN ns.length)).length node = true := by rw [hjl]; have := inside_iff.1 hin; rw [inside_iff]; omega
              unfold atV
              rw [if_pos ⟨G1, hin'⟩, if_pos ⟨hc1, hin⟩, join_step hc1 path node hin]
            have GL := fun r hr => join_met_left (ms := ms) (r := r) hc1 hr
            have GR := fun r hr => join_met_right (ns := ns) (r := r) hc2 hr
            have T1 : (rs ++ shiftL ns.length ss).take rs.length = rs := by simp
            have T2 : (rs ++ shiftL ns.length ss).drop rs.length = shiftL ns.length ss := by simp
            have T3 : (shiftL ns.length ss).length = ss.length := by simp [shiftL]
            clear hri hrs hO
            generalize shiftL ns.length ss = ss' at *
            generalize ns ++ ms.map (shiftN ns.length) = jn at *
            generalize rs ++ ss' = jr at *
            obtain ⟨r1, hr1⟩ := run_total (goodG_of G2) _ rs [] (Nat.le_refl _) (fun a ha => by have := (chk_parts G2).2.2.2 a ha; simpa [inside] using this)
            obtain ⟨r2, hr2⟩ := run_total (goodG_of G3) _ ss' [] (Nat.le_refl _) (fun a ha => by have := (chk_parts G3).2.2.2 a ha; simpa [inside] using this)
            have HL1 := Aside0.mk (GL r1 hr1)
            have HR1 := Aside0.mk (GR r2 hr2)
            have HQ5 := Aside0.mk (HQ4.out.below (below_alloc (Below.refl _ w4) (.cells #[.slice E0 jn.length e0, .slice E1 jr.length e1] 52)))
            have HG5 := Aside0.mk (hGj.below (below_alloc (Below.refl _ w4) (.cells #[.slice E0 jn.length e0, .slice E1 jr.length e1] 52)))
            have HJ5 := Aside0.mk (blk_last w4 (.cells #[.slice E0 jn.length e0, .slice E1 jr.length e1] 52))
            obtain ⟨x0, x1, y0, y1⟩ := HQ5.out.cells
            have A1 := at_calls (ns := ns) (rs := rs) (A := A) (c := c) (A' := A') (c' := c') (node := node) (P := P) (pc := pc) (path := path)
            have A2 := at_calls (ns := jn) (rs := jr) (A := E0) (c := e0) (A' := E1) (c' := e1) (node := node) (P := P) (pc := pc) (path := path)
            have hle1 : rs.length ≤ jr.length := by omega
            have hle2 : jr.length ≤ e1 := hGj.lr
            have hle3 : rs.length ≤ e1 := by omega
            have R1 := reach_good (A := E0) (c := e0) (A' := E1) (c' := e1) (ns := jn) (rs := rs) (hck := G2) (r := r1) (hr := hr1)
            simp only [gv] at A1 A2 R1
            have HLN := Aside0.mk (And.intro hjl (And.intro hrl (And.intro T1 (And.intro T2 T3))))
            clear GL GR HQ4 hGj hjl hrl T1 T2 T3
            go_wp2_with fail
            refine (A1 _ (H1.out.below HQ5.out.b) (Kd.C_below HP.out HQ5.out.b) (by omega)).mono ?_
            rintro e w5 ⟨rfl, hB5⟩
            clear x0 x1 y0 y1
            have HQ6 := Aside0.mk (HQ5.out.below hB5)
            have HG6 := Aside0.mk (HG5.out.below hB5)
            have HJ6 := Aside0.mk ((hB5.block _ (blk_lt HJ5.out)).trans HJ5.out)
            obtain ⟨x0, x1, y0, y1⟩ := HQ6.out.cells
            have j0 : w5.cell? ⟨w4.heap.size, 0, none⟩ = some (.slice E0 jn.length e0) := blk_cell HJ6.out 0
            have j1 : w5.cell? ⟨w4.heap.size, 1, none⟩ = some (.slice E1 jr.length e1) := blk_cell HJ6.out 1
            clear HQ5 HG5 HJ5 hB5 A1
            go_wp2_with fail
            refine (A2 _ HG6.out (Kd.C_below HP.out HQ6.out.b) (by omega)).mono ?_
            rintro e w6 ⟨rfl, hB6⟩
            clear x0 x1 y0 y1 j0 j1
            have HQ7 := Aside0.mk (HQ6.out.below hB6)
            have HG7 := Aside0.mk (HG6.out.below hB6)
            have HJ7 := Aside0.mk ((hB6.block _ (blk_lt HJ6.out)).trans HJ6.out)
            obtain ⟨x0, x1, y0, y1⟩ := HQ7.out.cells
            have j0 : w6.cell? ⟨w4.heap.size, 0, none⟩ = some (.slice E0 jn.length e0) := blk_cell HJ7.out 0
            have j1 : w6.cell? ⟨w4.heap.size, 1, none⟩ = some (.slice E1 jr.length e1) := blk_cell HJ7.out 1
            have jo : ∀ o, (w6.alloc o).cell? ⟨w4.heap.size, 1, none⟩ = some (.slice E1 jr.length e1) := fun o => blk_cell (blk_old o HJ7.out) 1
            have xo : ∀ o, (w6.alloc o).cell? ⟨w.heap.size, 1, none⟩ = some (.slice A' rs.length c') := fun o => blk_cell (blk_old o HQ7.out.x) 1
            clear HQ6 HG6 HJ6 hB6 A2
            have hcase : ∃ b1 b2 : Bool, decide (0 ≤ node) = b1 ∧ decide (node < (ns.length : Int)) = b2 ∧ (b1 = true → b2 = true → atV jn jr node path = atV ns rs node path) :=
              ⟨_, _, rfl, rfl, fun a b => GA (inside_iff.2 ⟨of_decide_eq_true a, of_decide_eq_true b⟩)⟩
            obtain ⟨b1, b2, hb1, hb2, hb3⟩ := hcase
            have HX := Aside0.mk hb3
            generalize atV ns rs node path = oa at *
            generalize atV jn jr node path = oj at *
            clear hb3 GA
            have HGr : Aside0 (∀ W, Below w6.heap.size w6 W → IsG W E0 e0 jn E1 e1 rs) := ⟨fun W hW => by
              have h1 := HG7.out.below hW
              have h2 := Kd.C_take h1.r hle1
              rw [HLN.out.2.2.1] at h2
              exact ⟨h1.n, h2, h1.ln, hle3⟩⟩
            have q1 : (oj.isSome != oj.isSome) = false := by simp
            have q2 : (oj.getD 0 != oj.getD 0) = false := by simp
            have hpick : (b1 = true ∧ b2 = true ∧ oj = oa) ∨ (b1 = true ∧ b2 = false) ∨ b1 = false := by
              cases b1 with
              | false => exact .inr (.inr rfl)
              | true => cases b2 with
                | false => exact .inr (.inl ⟨rfl, rfl⟩)
                | true => exact .inl ⟨rfl, rfl, HX.out rfl rfl⟩
            clear HX
            rcases hpick with ⟨rfl, rfl, rfl⟩ | ⟨rfl, rfl⟩ | rfl
            all_goals (
              go_wp2_with fail
              refine (R1 _ (HGr.out _ (below_alloc (Below.refl _ _) _))).mono ?_
              rintro e w8 ⟨v8, rfl, hR8, hB8⟩
              obtain ⟨A8, c8, rfl, hl8, hC8⟩ := Kd.R_reads hR8
              have hB8' := below_then (below_alloc (Below.refl _ w6) (.cells #[.slice E0 jn.length e0, .slice E1 rs.length e1] 52)) (by simp) hB8
              have HQ8 := Aside0.mk (HQ7.out.below hB8')
              have HG8 := Aside0.mk (HG7.out.below hB8')
              have HC8 := Aside0.mk hC8
              have hJ8 := (hB8'.block _ (blk_lt HJ7.out)).trans HJ7.out
              have HT8 := Aside0.mk ((hB8.block _ (by simp)).trans (blk_last w6 (.cells #[.slice E0 jn.length e0, .slice E1 rs.length e1] 52)))
              have j1' : w8.cell? ⟨w4.heap.size, 1, none⟩ = some (.slice E1 jr.length e1) := blk_cell hJ8 1
              have t0 : w8.cell? ⟨w6.heap.size, 0, none⟩ = some (.slice E0 jn.length e0) := blk_cell HT8.out 0
              have t1 : w8.cell? ⟨w6.heap.size, 1, none⟩ = some (.slice E1 rs.length e1) := blk_cell HT8.out 1
              have tf : w8.frozen? ⟨w6.heap.size, 1, none⟩ = false := blk_frozen HT8.out 1
              have ts0 : ∀ u, (w8.setCell ⟨w6.heap.size, 1, none⟩ u).cell? ⟨w6.heap.size, 0, none⟩ = some (.slice E0 jn.length e0) := fun u => blk_cell (set_box HT8.out u).2 0
              have ts1 : ∀ u, (w8.setCell ⟨w6.heap.size, 1, none⟩ u).cell? ⟨w6.heap.size, 1, none⟩ = some u := fun u => blk_cell (set_box HT8.out u).2 1
              have HB8 := Aside0.mk hB8'
              have HW6 := Aside0.mk HQ7.out.b.size
              clear x0 x1 y0 y1 j0 j1 jo xo HQ7 HJ7 hR8 hB8 hC8 hB8' hJ8 HGr q1 q2
              have x1' : w8.cell? ⟨w.heap.size, 1, none⟩ = some (.slice A' rs.length c') := blk_cell HQ8.out.x 1
              have hrl8 := HC8.out.2.1
              go_wp2_with fail
              go_loopw [106] (fun i wr => ∃ k : Nat, k ≤ r1.length ∧ i = .int .i64 (k : Int) ∧ w8 = wr) (fun i _ => r1.length - (intOf i).toNat)
              case atStart => exact ⟨0, Nat.zero_le _, rfl, rfl⟩
              case round =>
                obtain ⟨i, hi, rfl, rfl⟩ := hrel
                by_cases hlt : i < r1.length
                · obtain ⟨ad, cc, rfl, hcl, hK, hcc⟩ := Kd.C_get HC8.out 0 (i : Int) (by omega) (by omega)
                  have hK' : cc = [.int .i64 (r1.getD i 0)] := hK
                  subst hK'
                  have hx : w8.cell? (ad.add i) = some (.int .i64 (r1.getD i 0)) := by
                    have := hcc 0 _ rfl
                    simpa [Kd.int, Kd.scalar] using this
                  have hlo : decide ((ns.length : Int) ≤ r1.getD i 0) = false := decide_eq_false (by have := (HL1.out (r1.getD i 0) (getD_mem hlt)).2; omega)
                  clear hK hcl hcc
                  generalize r1.getD i 0 = x at *
                  go_wp2_with fail
                  go_roundw
                  case rel => exact ⟨i + 1, by omega, by go_num, trivial⟩
                  case measure => simp [intOf]; omega
                · obtain rfl : i = r1.length := by omega
                  clear hlt hi
                  have HD : Aside0 (∀ W, Below w6.heap.size w6 W → Kd.C (Kd.int .i64) W (if e1 = rs.length then E1 else E1.map (·.add (rs.length * 1))) ss'.length ss') := ⟨fun W hW => by
                    have h1 := Kd.C_drop (c := e1) (HG7.out.below hW).r hle1 hle2
                    rw [HLN.out.2.2.2.1] at h1
                    exact h1⟩
                  have hls : ss'.length = jr.length - rs.length := by have := HLN.out.2.1; have := HLN.out.2.2.2.2; omega
                  have HLS := Aside0.mk hls
                  clear hls
                  by_cases he1 : e1 = rs.length
                  · subst he1
                    simp only [if_true] at HD
                    have hz : ss'.length = 0 := by have := HLS.out; omega
                    have R2 := reach_good (A := E0) (c := e0) (A' := E1) (c' := 0) (ns := jn) (rs := ss') (hck := G3) (r := r2) (hr := hr2)
                    simp only [gv] at R2
                    rw [hz] at R2
                    have hWb := HB8.out.setCell (p := ⟨w6.heap.size, 1, none⟩) (Nat.le_refl _) (.slice (E1) (0) (0))
                    have HGW := Aside0.mk (show IsG (w8.setCell ⟨w6.heap.size, 1, none⟩ (.slice (E1) (0) (0))) E0 e0 jn (E1) (0) ss' from ⟨(HG7.out.below hWb).n, HD.out _ hWb, (HG7.out.below hWb).ln, by have := HLS.out; omega⟩)
                    have HBW := Aside0.mk (below_then (HQ8.out.b) (HQ8.out.b).size (Below.refl _ w8))
                    have HBS := Aside0.mk (HQ8.out.b.setCell (p := ⟨w6.heap.size, 1, none⟩) HW6.out (.slice (E1) (0) (0)))
                    clear hWb
                    go_wp2_with fail
                    refine (R2 _ HGW.out).mono ?_
                    rintro e w9 ⟨v9, rfl, hR9, hB9⟩
                    obtain ⟨A9, c9, rfl, hl9, hC9⟩ := Kd.R_reads hR9
                    have HC9 := Aside0.mk hC9
                    have hrl9 := hC9.2.1
                    have HB9 := Aside0.mk (below_then HBS.out HBS.out.size hB9)
                    clear hR9 hB9 hC9 R2 HGW HBW HBS t0 t1 tf ts0 ts1 j1' x1' HC8
                    go_wp2_with fail
                    go_loopw [128] (fun i wr => ∃ k : Nat, k ≤ r2.length ∧ i = .int .i64 (k : Int) ∧ w9 = wr) (fun i _ => r2.length - (intOf i).toNat)
                    case atStart => exact ⟨0, Nat.zero_le _, rfl, rfl⟩
                    case round =>
                      obtain ⟨i, hi, rfl, rfl⟩ := hrel
                      by_cases hlt : i < r2.length
                      · obtain ⟨ad, cc, rfl, hcl, hK, hcc⟩ := Kd.C_get HC9.out 0 (i : Int) (by omega) (by omega)
                        have hK' : cc = [.int .i64 (r2.getD i 0)] := hK
                        subst hK'
                        have hx : w9.cell? (ad.add i) = some (.int .i64 (r2.getD i 0)) := by
                          have := hcc 0 _ rfl
                          simpa [Kd.int, Kd.scalar] using this
                        have hlo : decide (r2.getD i 0 < (ns.length : Int)) = false := decide_eq_false (by have := HR1.out (r2.getD i 0) (getD_mem hlt); omega)
                        clear hK hcl hcc
                        generalize r2.getD i 0 = x at *
                        go_wp2_with fail
                        go_roundw
                        case rel => exact ⟨i + 1, by omega, by go_num, trivial⟩
                        case measure => simp [intOf]; omega
                      · obtain rfl : i = r2.length := by omega
                        clear hlt hi
                        go_wp2_with fail
                        go_ret
                        exact ⟨rfl, HB9.out⟩
                  · simp only [if_neg he1, Nat.mul_one] at HD
                    have R2 := reach_good (A := E0) (c := e0) (A' := E1.map (fun x => x.add rs.length)) (c' := e1 - rs.length) (ns := jn) (rs := ss') (hck := G3) (r := r2) (hr := hr2)
                    simp only [gv] at R2
                    rw [HLS.out] at R2
                    have hWb := HB8.out.setCell (p := ⟨w6.heap.size, 1, none⟩) (Nat.le_refl _) (.slice (E1.map (fun x => x.add rs.length)) (jr.length - rs.length) (e1 - rs.length))
                    have HGW := Aside0.mk (show IsG (w8.setCell ⟨w6.heap.size, 1, none⟩ (.slice (E1.map (fun x => x.add rs.length)) (jr.length - rs.length) (e1 - rs.length))) E0 e0 jn (E1.map (fun x => x.add rs.length)) (e1 - rs.length) ss' from ⟨(HG7.out.below hWb).n, HD.out _ hWb, (HG7.out.below hWb).ln, by have := HLS.out; omega⟩)
                    have HBW := Aside0.mk (below_then (HQ8.out.b) (HQ8.out.b).size (Below.refl _ w8))
                    have HBS := Aside0.mk (HQ8.out.b.setCell (p := ⟨w6.heap.size, 1, none⟩) HW6.out (.slice (E1.map (fun x => x.add rs.length)) (jr.length - rs.length) (e1 - rs.length)))
                    clear hWb
                    go_wp2_with fail
                    refine (R2 _ HGW.out).mono ?_
                    rintro e w9 ⟨v9, rfl, hR9, hB9⟩
                    obtain ⟨A9, c9, rfl, hl9, hC9⟩ := Kd.R_reads hR9
                    have HC9 := Aside0.mk hC9
                    have hrl9 := hC9.2.1
                    have HB9 := Aside0.mk (below_then HBS.out HBS.out.size hB9)
                    clear hR9 hB9 hC9 R2 HGW HBW HBS t0 t1 tf ts0 ts1 j1' x1' HC8
                    go_wp2_with fail
                    go_loopw [128] (fun i wr => ∃ k : Nat, k ≤ r2.length ∧ i = .int .i64 (k : Int) ∧ w9 = wr) (fun i _ => r2.length - (intOf i).toNat)
                    case atStart => exact ⟨0, Nat.zero_le _, rfl, rfl⟩
                    case round =>
                      obtain ⟨i, hi, rfl, rfl⟩ := hrel
                      by_cases hlt : i < r2.length
                      · obtain ⟨ad, cc, rfl, hcl, hK, hcc⟩ := Kd.C_get HC9.out 0 (i : Int) (by omega) (by omega)
                        have hK' : cc = [.int .i64 (r2.getD i 0)] := hK
                        subst hK'
                        have hx : w9.cell? (ad.add i) = some (.int .i64 (r2.getD i 0)) := by
                          have := hcc 0 _ rfl
                          simpa [Kd.int, Kd.scalar] using this
                        have hlo : decide (r2.getD i 0 < (ns.length : Int)) = false := decide_eq_false (by have := HR1.out (r2.getD i 0) (getD_mem hlt); omega)
                        clear hK hcl hcc
                        generalize r2.getD i 0 = x at *
                        go_wp2_with fail
                        go_roundw
                        case rel => exact ⟨i + 1, by omega, by go_num, trivial⟩
                        case measure => simp [intOf]; omega
                      · obtain rfl : i = r2.length := by omega
                        clear hlt hi
                        go_wp2_with fail
                        go_ret
                        exact ⟨rfl, HB9.out⟩)
          · obtain ⟨b, rfl⟩ := isErr_some he (joinE_bad2 hc1 hc2)
            obtain ⟨rfl, rfl⟩ := hbad (joinE_bad2 hc1 hc2)
            have HQ5 := Aside0.mk (HQ4.out.below (below_alloc (Below.refl _ w4) (.cells #[.slice none 0 0, .slice none 0 0] 52)))
            obtain ⟨x0, x1, y0, y1⟩ := HQ5.out.cells
            have C1 := check_calls (A := A) (c := c) (A' := A') (c' := c') (ns := ns) (rs := rs)
            have C2 := check_calls (A := B) (c := k) (A' := B') (c' := k') (ns := ms) (rs := ss)
            simp only [gv] at C1 C2
            clear hgood hbad he HQ4
            go_wp2_with fail
            refine (C1 _ (H1.out.below HQ5.out.b)).mono ?_
            rintro e w5 ⟨ev5, rfl, he5, hB5⟩
            obtain rfl := isErr_nil he5 hc1
            clear x0 x1 y0 y1
            have HQ6 := Aside0.mk (HQ5.out.below hB5)
            obtain ⟨x0, x1, y0, y1⟩ := HQ6.out.cells
            clear HQ5 hB5 he5
            go_wp2_with fail
            refine (C2 _ (H2.out.below HQ6.out.b)).mono ?_
            rintro e w6 ⟨ev6, rfl, he6, hB6⟩
            obtain ⟨b6, rfl⟩ := isErr_some he6 hc2
            clear x0 x1 y0 y1 he6
            go_wp2_with fail
            go_ret
            exact ⟨rfl, (HQ6.out.below hB6).b⟩
        · obtain ⟨b, rfl⟩ := isErr_some he (joinE_bad1 hc1)
          obtain ⟨rfl, rfl⟩ := hbad (joinE_bad1 hc1)
          have HQ5 := Aside0.mk (HQ4.out.below (below_alloc (Below.refl _ w4) (.cells #[.slice none 0 0, .slice none 0 0] 52)))
          obtain ⟨x0, x1, y0, y1⟩ := HQ5.out.cells
          have C1 := check_calls (A := A) (c := c) (A' := A') (c' := c') (ns := ns) (rs := rs)
          simp only [gv] at C1
          clear hgood hbad he HQ4
          go_wp2_with fail
          refine (C1 _ (H1.out.below HQ5.out.b)).mono ?_
          rintro e w5 ⟨ev5, rfl, he5, hB5⟩
          obtain ⟨b5, rfl⟩ := isErr_some he5 hc1
          clear x0 x1 y0 y1 he5
          go_wp2_with fail
          go_ret
          exact ⟨rfl, (HQ5.out.below hB5).b⟩
      | false =>
        have L1 := large_calls (ns := ns) (rs := rs) (A := A) (c := c) (A' := A') (c' := c')
        have L2 := large_calls (ns := ms) (rs := ss) (A := B) (c := k) (A' := B') (c' := k')
        rw [hs1] at L1
        rw [hs2] at L2
        simp only [gv] at L1 L2 ⊢
        go_enter Try.func38, Try.ntmps38
        go_wp2_with fail
        refine (lives4_calls _).mono ?_
        rintro e w1 ⟨rfl, hB1⟩
        have HQ1 := Aside0.mk (HQ0.out.below hB1)
        obtain ⟨x0, x1, y0, y1⟩ := HQ1.out.cells
        clear HQ0 hB1
        go_wp2_with fail
        refine (L1 _ (H1.out.below HQ1.out.b)).mono ?_
        rintro e w2 ⟨rfl, hB2⟩
        clear x0 x1 y0 y1
        have HQ2 := Aside0.mk (HQ1.out.below hB2)
        obtain ⟨x0, x1, y0, y1⟩ := HQ2.out.cells
        clear HQ1 hB2
        go_wp2_with fail
        refine (L2 _ (H2.out.below HQ2.out.b)).mono ?_
        rintro e w3 ⟨rfl, hB3⟩
        have HQ3 := Aside0.mk (HQ2.out.below hB3)
        clear x0 x1 y0 y1 HQ2 hB3
        go_wp2_with fail
        refine (lives4_calls _).mono ?_
        rintro e wz ⟨rfl, hBz⟩
        go_wp2_with fail
        go_ret
        exact ⟨rfl, (HQ3.out.below hBz).b⟩
    | false =>
      have L1 := large_calls (ns := ns) (rs := rs) (A := A) (c := c) (A' := A') (c' := c')
      rw [hs1] at L1
      simp only [gv] at L1 ⊢
      go_enter Try.func38, Try.ntmps38
      go_wp2_with fail
      refine (lives4_calls _).mono ?_
      rintro e w1 ⟨rfl, hB1⟩
      have HQ1 := Aside0.mk (HQ0.out.below hB1)
      obtain ⟨x0, x1, y0, y1⟩ := HQ1.out.cells
      clear HQ0 hB1
      go_wp2_with fail
      refine (L1 _ (H1.out.below HQ1.out.b)).mono ?_
      rintro e w2 ⟨rfl, hB2⟩
      have HQ2 := Aside0.mk (HQ1.out.below hB2)
      clear x0 x1 y0 y1 HQ1 hB2
      go_wp2_with fail
      refine (lives4_calls _).mono ?_
      rintro e wz ⟨rfl, hBz⟩
      go_wp2_with fail
      go_ret
      exact ⟨rfl, (HQ2.out.below hBz).b⟩
  · have d5 : decide (5000 < path.length) = true := decide_eq_true (by omega)
    have d5' : decide (5000 < (path.length : Int)) = true := decide_eq_true (by omega)
    simp only [gv]
    go_enter Try.func38, Try.ntmps38
    go_wp2_with fail
    refine (lives4_calls _).mono ?_
    rintro e w1 ⟨rfl, hB1⟩
    have HQ1 := Aside0.mk (HQ0.out.below hB1)
    obtain ⟨x0, x1, y0, y1⟩ := HQ1.out.cells
    clear HQ0 hB1
    go_wp2_with fail
    refine (lives4_calls _).mono ?_
    rintro e wz ⟨rfl, hBz⟩
    go_wp2_with fail
    go_ret
    exact ⟨rfl, (HQ1.out.below hBz).b⟩

end Go.Proofs.Ytgcjfobmccoibaa.Gr
