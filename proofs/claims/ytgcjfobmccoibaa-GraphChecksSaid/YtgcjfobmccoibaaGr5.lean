/- GraphChecks: the calls answer just what the chapter says: every Check. What is asked: how the graph is read. -/
import Derived.Test.YtgcjfobmccoibaaGr4
import Derived.Deep.RegionWith
set_option linter.unusedSimpArgs false
set_option linter.unusedVariables false
namespace Go.Proofs.Ytgcjfobmccoibaa.Gr
open Go.RowKit Go.Proofs.YtgcjfobmccoibaaW.PrintWords Go.Proofs.YtgcjfobmccoibaaW.PrintLast Go.Proofs.YtgcjfobmccoibaaW.PrintMore
open Go.Proofs.Ytgcjfobmccoibaa.Nm

theorem z_made (w : World) : IsG (w.alloc (.cells #[.int .i64 0, .string ⟨#[]⟩, .int .i64 0, .slice none 0 0] 55)) (some ⟨w.heap.size, 0, none⟩) 1 [z55] none 0 [] := by
  refine ⟨⟨rfl, by simp, fun _ => ⟨_, rfl, fun j p hj => ?_⟩⟩, Kd.C_nil _ _, by simp, by simp⟩
  have hj0 : j = 0 := by
    rcases Nat.eq_zero_or_pos j with h | h
    · exact h
    · rw [List.getElem?_eq_none (by simp; omega)] at hj; cases hj
  subst hj0
  obtain rfl : z55 = p := by simpa using hj
  refine ⟨[.int .i64 0, .string ⟨#[]⟩, .int .i64 0, .slice none 0 0], rfl, PGraphChecks.k55_mk _ z55 (A3 := none) (c3 := 0) (by simp [z55, PGraphChecks.z55]) (Kd.C_nil _ _), fun i u hi => ?_⟩
  rw [← hi]
  have h1 := blk_cell (blk_last w (.cells #[.int .i64 0, .string ⟨#[]⟩, .int .i64 0, .slice none 0 0] 55)) i
  have h2 : (Addr.add ⟨w.heap.size, 0, none⟩ (0 * Kd.sz k55 + i)) = ⟨w.heap.size, i, none⟩ := by
    unfold Addr.add
    split
    · rename_i h; simp at h; simp [h]
    · simp
  rw [h2]
  exact h1.trans (by rw [← List.getElem?_toArray])
theorem drew_then {w W : World} (h : Below w.drew.heap.size w.drew W) : Below w.heap.size w W := by
  have h0 := below_drew (Below.refl w.heap.size w)
  exact below_then h0 h0.size h
/-- Both worlds of a drawn region: the box, the graph. -/
theorem box_below {w W : World} {b : Nat} {o : Obj} (hx : w.heap[b]? = some o) (hb : Below w.heap.size w W) : W.heap[b]? = some o := (hb.block _ (blk_lt hx)).trans hx

set_option maxRecDepth 100000 in
set_option maxHeartbeats 2000000 in
theorem checks_calls (w : World) (A : Option Addr) (c : Nat) (ns : List S55) (A' : Option Addr) (c' : Nat) (rs : List Int) (h : IsG w A c ns A' c' rs) :
    Calls Try.prog 6 #[gv A c ns A' c' rs] w fun e w' => e = .returned (.bool true) ∧ Below w.heap.size w w' := by
  have HG := Aside0.mk h
  clear h
  have HB0 := Aside0.mk (below_alloc (Below.refl w.heap.size w) (.cells #[.slice A ns.length c, .slice A' rs.length c'] 52))
  have HX0 := Aside0.mk (blk_last w (.cells #[.slice A ns.length c, .slice A' rs.length c'] 52))
  simp only [gv]
  go_enter Try.func6, Try.ntmps6
  go_wp2_with fail
  refine (lives4_calls _).mono ?_
  rintro e w1 ⟨rfl, hB1⟩
  have HB1 := Aside0.mk (below_then HB0.out HB0.out.size hB1)
  have HX1 := Aside0.mk ((hB1.block _ (blk_lt HX0.out)).trans HX0.out)
  clear hB1 HB0 HX0
  go_wp2_with fail
  refine (check_calls _ _ 1 [z55] none 0 [] (z_made w1)).mono ?_
  rw [bad_chk]
  rintro e w2 ⟨ev, rfl, he, hB2⟩
  obtain ⟨b, rfl⟩ := isErr_some he (by simp)
  have hB12 := below_then (below_alloc (Below.refl w1.heap.size w1) (.cells #[.int .i64 0, .string ⟨#[]⟩, .int .i64 0, .slice none 0 0] 55)) (by simp) hB2
  have HB2 := Aside0.mk (below_then HB1.out HB1.out.size hB12)
  have HX2 := Aside0.mk (box_below HX1.out hB12)
  have HG2 := Aside0.mk (HG.out.below HB2.out)
  clear he hB2 hB12 HB1 HX1 HG
  have hx2 : ∀ m, (w2.drewN m).heap[w.heap.size]? = some (.cells #[.slice A ns.length c, .slice A' rs.length c'] 52 (0, 0)) := fun m => HX2.out
  have hc0 : w2.cell? ⟨w.heap.size, 0, none⟩ = some (.slice A ns.length c) := blk_cell HX2.out 0
  have hc1 : w2.cell? ⟨w.heap.size, 1, none⟩ = some (.slice A' rs.length c') := blk_cell HX2.out 1
  go_wp2_with fail
  go_region_with (first
    | (go_at_call 29; refine (check_calls _ A c ns A' c' rs (HG2.out.below (below_drew (Below.refl _ _)))).mono ?_; rintro e w3 ⟨ev, rfl, he, hB3⟩; have HE := Aside0.mk he; have HB3 := Aside0.mk (drew_then hB3); have hd0 : w3.cell? ⟨w.heap.size, 0, none⟩ = some (.slice A ns.length c) := blk_cell (box_below HX2.out (drew_then hB3)) 0; have hd1 : w3.cell? ⟨w.heap.size, 1, none⟩ = some (.slice A' rs.length c') := blk_cell (box_below HX2.out (drew_then hB3)) 1; clear he hB3)
    | (go_at_call 30; refine (rcheck_calls _ A c ns A' c' rs (HG2.out.below HB3.out)).mono ?_; rintro e w4 ⟨fc, fa, fn, A2, k2, rfl, hf, hB4⟩; have HF := Aside0.mk hf; have HB4 := Aside0.mk hB4; clear hf hB4)
    | (go_at_call 19; refine (is_calls _ _ _ ev (chk ns rs) (chk ns rs) fc fa fn (.slice A2 0 k2) ⟨_, _, _, rfl⟩ (HE.out.below HB4.out) HF.out).mono ?_; rw [show decide (chk ns rs = chk ns rs) = true by simp]; rintro e w5 ⟨rfl, hB5⟩; have HB5 := Aside0.mk hB5; clear hB5))
  all_goals (go_wp2_with fail)
  all_goals go_ret
  all_goals exact ⟨rfl, below_then (below_then (below_then HB2.out HB2.out.size HB3.out) (Nat.le_trans HB2.out.size HB3.out.size) HB4.out) (Nat.le_trans (Nat.le_trans HB2.out.size HB3.out.size) HB4.out.size) HB5.out⟩

end Go.Proofs.Ytgcjfobmccoibaa.Gr
