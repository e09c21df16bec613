/- Printed contracts of functions of this seat, gathered under one namespace (the kit's printer wrote them for other laws of the seat); each states its own conditions. -/
import Derived.Test.YtgcjfobmccoibaaKdR
import Derived.Test.YtgcjfobmccoibaaGrQ5
import Derived.Test.YtgcjfobmccoibaaPGraphChecksx3
namespace Go.Proofs.Ytgcjfobmccoibaa.PGraphChecks
open Go.RowKit Go.Proofs.YtgcjfobmccoibaaW.PrintWords Go.Proofs.YtgcjfobmccoibaaW.PrintLast Go.Proofs.YtgcjfobmccoibaaW.PrintMore
attribute [local go_sem] max2_int min2_int max_two min_two max_three min_three max_four min_four
set_option linter.unusedVariables false
set_option linter.unusedSimpArgs false

/-! ### tendrilnum_Led: function 70 -/
def tendrilnum_Led.f (a0 : Int) (a1 : Int) (a2_0 : Int) (a2_1 : Int) (a2_2 : ByteArray) (l2_3 : List (S33)) : Option (Int × Int × ByteArray × (List (S33))) := some (a0, a1, (⟨#[]⟩ : ByteArray), (([(⟨a2_0, a2_1, a2_2, l2_3⟩ : S33)] : List (S33))))
set_option maxHeartbeats 8000000 in
set_option maxRecDepth 100000 in
theorem tendrilnum_Led.calls (a0 : Int) (a1 : Int) (a2_0 : Int) (a2_1 : Int) (a2_2 : ByteArray) (P2_3_ : Nat → Prop) (A2_3 : Option Addr) (c2_3 : Nat) (l2_3 : List (S33)) (r1 : Int) (r2 : Int) (r3 : ByteArray) (r4 : List (S33)) (w : World) (hs2_3 : Kd.V k33 33 w w.heap.size (fun k_ => P2_3_ k_) (.slice A2_3 l2_3.length c2_3) l2_3) (h : tendrilnum_Led.f a0 a1 a2_0 a2_1 a2_2 l2_3 = some (r1, r2, r3, r4)) :
    Calls Try.prog 70 #[.int .i64 a0, .int .i64 a1, .agg #[.int .i64 a2_0, .int .i64 a2_1, .string a2_2, .slice A2_3 l2_3.length c2_3]] w fun e w' => ∃ v3_ : Value, e = .returned (.agg #[.int .i64 r1, .int .i64 r2, .string r3, v3_]) ∧ Kd.N k33 33 w' w.heap.size (fun k_ => (P2_3_ k_ ∨ w.heap.size ≤ k_)) v3_ r4 ∧ Below w.heap.size w w' := by
  have hu33 := Try.underlying33
  have HO2_3 := Aside0.mk (show Kd.V k33 33 w w.heap.size (fun k_ => (P2_3_ k_ ∨ w.heap.size ≤ k_)) (.slice A2_3 l2_3.length c2_3) l2_3 from Kd.V_mono hs2_3 (fun k_ hk => .inl hk))
  have HB := Aside0.mk (Below.refl w.heap.size w)
  have H : (some (a0, a1, (⟨#[]⟩ : ByteArray), (([(⟨a2_0, a2_1, a2_2, l2_3⟩ : S33)] : List (S33))))) = some (r1, r2, r3, r4) := h
  clear h
  obtain ⟨y186, hy186⟩ : ∃ y_ : List (S33), y_ = (([(⟨a2_0, a2_1, a2_2, l2_3⟩ : S33)] : List (S33))) := ⟨_, rfl⟩
  replace H : (some (a0, a1, (⟨#[]⟩ : ByteArray), y186)) = some (r1, r2, r3, r4) := by first | (rw [hy186]; with_reducible exact H) | (have H2_ := (Option.bind_some _ _).symm.trans H; rw [hy186]; with_reducible exact H2_) | (have H2_ := (Option.bind_some _ _).symm.trans H; with_reducible exact H2_) | with_reducible exact H | (rw [hy186]; exact H) | exact H
  have Ny186 := Aside0.mk hy186
  clear hy186
  simp only [Option.some.injEq, Prod.mk.injEq] at H
  obtain ⟨rfl, rfl, rfl, rfl⟩ := H
  go_enter Try.func70, Try.ntmps70
  go_wp2_with (first | ((with_reducible refine gate_dst (N := 5) rfl ?_); refine box_event ?hg (N := 5) ?hd (cs := #[.int .i64 a2_0, .int .i64 a2_1, .string a2_2, .slice A2_3 l2_3.length c2_3]) (t := 33) ?hr ?_; (case hd => rfl); (case hg => rfl); (case hr => first | (go_simp; done) | (go_simp; rfl)); intro gb184 hg w4 hbox hb; have n0_ := Aside0.mk (Kd.V_below (Kd.V_elderB (by (with_reducible repeat (first | apply Kd.V_alloc | apply Kd.V_drewN | apply Kd.V_drew)); exact HO2_3.out) gb184 (Nat.le_of_eq hg.symm)) hb); have n1_ := Aside0.mk (below_step (by repeat (first | (with_reducible first | exact HB.out | apply below_alloc | apply pw_below_drewN | apply below_drew1) | exact HB.out)) hb); have n2_ := Aside0.mk (hbox); have n3_ := Aside0.mk ((by rw [hg]; exact (below_size (by repeat (first | (with_reducible first | exact HB.out | apply below_alloc | apply pw_below_drewN | apply below_drew1) | exact HB.out))) : w.heap.size ≤ gb184)); have n4_ := Aside0.mk ((by rw [hg]; exact (below_size (by repeat (first | (with_reducible first | exact HB.out | apply below_alloc | apply pw_below_drewN | apply below_drew1) | exact HB.out))) : w.heap.size ≤ gb184)); clear HO2_3; clear HB; have HO2_3 := n0_; have HB := n1_; have BK184 := n2_; have GW184 := n3_; have GE184 := n4_; clear n0_ n1_ n2_ n3_ n4_; clear hb hbox hg) | ((with_reducible refine gate_dst (N := 6) rfl ?_); refine box_event ?hg (N := 6) ?hd (cs := #[.int .i64 0, .int .i64 0, .string (⟨#[]⟩ : ByteArray), .slice none 0 0]) (t := 33) ?hr ?_; (case hd => rfl); (case hg => rfl); (case hr => first | (go_simp; done) | (go_simp; rfl)); intro gb185 hg w5 hbox hb; have n0_ := Aside0.mk (Kd.V_below (Kd.V_elderB (by (with_reducible repeat (first | apply Kd.V_alloc | apply Kd.V_drewN | apply Kd.V_drew)); exact HO2_3.out) gb185 (Nat.le_of_eq hg.symm)) hb); have n1_ := Aside0.mk (blk_below (g := gb184) (o := .cells #[.int .i64 a2_0, .int .i64 a2_1, .string a2_2, .slice A2_3 l2_3.length c2_3] 33 (0, 0)) (by (with_reducible repeat (first | refine blk_drewN ?_ _ | refine blk_drew ?_ | refine blk_alloc ?_ _)); exact BK184.out) hb); have n2_ := Aside0.mk (below_step (by repeat (first | (with_reducible first | exact HB.out | apply below_alloc | apply pw_below_drewN | apply below_drew1 | refine below_set ?_ GE184.out) | exact HB.out)) hb); have n3_ := Aside0.mk (hbox); have n4_ := Aside0.mk ((by rw [hg]; exact (below_size (by repeat (first | (with_reducible first | exact HB.out | apply below_alloc | apply pw_below_drewN | apply below_drew1 | refine below_set ?_ GE184.out) | exact HB.out))) : w.heap.size ≤ gb185)); have n5_ := Aside0.mk ((by rw [hg]; exact (below_size (by repeat (first | (with_reducible first | exact HB.out | apply below_alloc | apply pw_below_drewN | apply below_drew1 | refine below_set ?_ GE184.out) | exact HB.out))) : w.heap.size ≤ gb185)); have n6_ := Aside0.mk ((by rw [hg]; exact Nat.ne_of_lt (blk_lt (g := gb184) (o := .cells #[.int .i64 a2_0, .int .i64 a2_1, .string a2_2, .slice A2_3 l2_3.length c2_3] 33 (0, 0)) (by (with_reducible repeat (first | refine blk_drewN ?_ _ | refine blk_drew ?_ | refine blk_alloc ?_ _)); exact BK184.out)) : gb184 ≠ gb185)); have n7_ := Aside0.mk ((by rw [hg]; exact Nat.ne_of_gt (blk_lt (g := gb184) (o := .cells #[.int .i64 a2_0, .int .i64 a2_1, .string a2_2, .slice A2_3 l2_3.length c2_3] 33 (0, 0)) (by (with_reducible repeat (first | refine blk_drewN ?_ _ | refine blk_drew ?_ | refine blk_alloc ?_ _)); exact BK184.out)) : gb185 ≠ gb184)); clear HO2_3; clear BK184; clear HB; have HO2_3 := n0_; have BK184 := n1_; have HB := n2_; have BK185 := n3_; have GW185 := n4_; have GE185 := n5_; have NB184_185 := n6_; have NB185_184 := n7_; clear n0_ n1_ n2_ n3_ n4_ n5_ n6_ n7_; clear hb hbox hg; have hnb6 := NB184_185.out; have hnc6 := NB185_184.out; have hcz7_0 : w5.cell? ⟨gb184, 0, none⟩ = some (.int .i64 a2_0) := (blk_cell BK184.out 0).trans rfl; have hcz7_1 : w5.cell? ⟨gb184, 1, none⟩ = some (.int .i64 a2_1) := (blk_cell BK184.out 1).trans rfl; have hcz7_2 : w5.cell? ⟨gb184, 2, none⟩ = some (.string a2_2) := (blk_cell BK184.out 2).trans rfl; have hcz7_3 : w5.cell? ⟨gb184, 3, none⟩ = some (.slice A2_3 l2_3.length c2_3) := (blk_cell BK184.out 3).trans rfl; have hfz7_0 := blk_frozen BK184.out 0; have hfz7_1 := blk_frozen BK184.out 1; have hfz7_2 := blk_frozen BK184.out 2; have hfz7_3 := blk_frozen BK184.out 3) | ((with_reducible refine gate_dst (N := 10) rfl ?_); refine Kd.N_lit k33 _ 33 ?hg (N' := 10) ?hd (xs := ([(⟨a2_0, a2_1, a2_2, l2_3⟩ : S33)] : List (S33))) (inner := [.int .i64 a2_0, .int .i64 a2_1, .string a2_2, .slice A2_3 l2_3.length c2_3]) (ok := (fun k_ => (P2_3_ k_ ∨ w.heap.size ≤ k_) ∧ k_ ≠ gb184 ∧ k_ ≠ gb185)) (okp := (fun k_ => (P2_3_ k_ ∨ w.heap.size ≤ k_) ∧ k_ ≠ gb184 ∧ k_ ≠ gb185)) ?hr ?hp (fun _ hk => hk) ((show ∀ k_, w5.heap.size ≤ k_ → (fun k_ => (P2_3_ k_ ∨ w.heap.size ≤ k_) ∧ k_ ≠ gb184 ∧ k_ ≠ gb185) k_ from fun k_ hk => ⟨(.inr (Nat.le_trans (below_size (by repeat (first | (with_reducible first | exact HB.out | apply below_alloc | apply pw_below_drewN | apply below_drew1 | refine below_set ?_ GE184.out | refine below_set ?_ GE185.out) | exact HB.out))) hk)), Kd.freshB (g := gb184) (o := .cells #[.int .i64 a2_0, .int .i64 a2_1, .string a2_2, .slice A2_3 l2_3.length c2_3] 33 (0, 0)) (by (with_reducible repeat (first | refine blk_drewN ?_ _ | refine blk_drew ?_ | refine blk_alloc ?_ _)); exact BK184.out) k_ hk, Kd.freshB (g := gb185) (o := .cells #[.int .i64 0, .int .i64 0, .string (⟨#[]⟩ : ByteArray), .slice none 0 0] 33 (0, 0)) (by (with_reducible repeat (first | refine blk_drewN ?_ _ | refine blk_drew ?_ | refine blk_alloc ?_ _)); exact BK185.out) k_ hk⟩) _ (Nat.le_refl _)) (Below.refl _ _) (Nat.le_refl _) (by simp) ?_; (case hd => rfl); (case hg => rfl); (case hr => first | (go_simp; done) | (go_simp; rfl)); (case hp => exact (Reps.c4 (show Kd.FK k33 _ _ (⟨a2_0, a2_1, a2_2, l2_3⟩ : S33) [.int .i64 a2_0, .int .i64 a2_1, .string a2_2, .slice A2_3 l2_3.length c2_3] from (k33_mkF _ _ (⟨a2_0, a2_1, a2_2, l2_3⟩ : S33) (Kd.V_reads' (Kd.V_mono (ok' := (fun k_ => (P2_3_ k_ ∨ w.heap.size ≤ k_) ∧ k_ ≠ gb184 ∧ k_ ≠ gb185)) (HO2_3.out) (fun k_ hk => ⟨hk.1.1, ⟨hk.1.2, hk.2⟩⟩))).2.1 (Kd.V_F (Kd.V_mono (ok' := (fun k_ => (P2_3_ k_ ∨ w.heap.size ≤ k_) ∧ k_ ≠ gb184 ∧ k_ ≠ gb185)) (HO2_3.out) (fun k_ hk => ⟨hk.1.1, ⟨hk.1.2, hk.2⟩⟩))))) (Reps.none _ _))); intro v187 w8 ho9 hb hg_ hnew_; clear hg_ hnew_; (first | rw [← Ny186.out] at ho9 | (simp only [Int.reduceToNat] at ho9; rw [← Ny186.out] at ho9)); have n0_ := Aside0.mk (Kd.V_elder' (by (with_reducible repeat (first | apply Kd.V_alloc | apply Kd.V_drewN | apply Kd.V_drew)); exact HO2_3.out) (Kd.N_base ho9) hb); have n1_ := Aside0.mk (Kd.N_lower ho9 (below_size (by repeat (first | (with_reducible first | exact HB.out | apply below_alloc | apply pw_below_drewN | apply below_drew1 | refine below_set ?_ GE184.out | refine below_set ?_ GE185.out) | exact HB.out)))); have n2_ := Aside0.mk (blk_below (g := gb184) (o := .cells #[.int .i64 a2_0, .int .i64 a2_1, .string a2_2, .slice A2_3 l2_3.length c2_3] 33 (0, 0)) (by (with_reducible repeat (first | refine blk_drewN ?_ _ | refine blk_drew ?_ | refine blk_alloc ?_ _)); exact BK184.out) hb); have n3_ := Aside0.mk (blk_below (g := gb185) (o := .cells #[.int .i64 0, .int .i64 0, .string (⟨#[]⟩ : ByteArray), .slice none 0 0] 33 (0, 0)) (by (with_reducible repeat (first | refine blk_drewN ?_ _ | refine blk_drew ?_ | refine blk_alloc ?_ _)); exact BK185.out) hb); have n4_ := Aside0.mk (below_step (by repeat (first | (with_reducible first | exact HB.out | apply below_alloc | apply pw_below_drewN | apply below_drew1 | refine below_set ?_ GE184.out | refine below_set ?_ GE185.out) | exact HB.out)) hb); clear HO2_3; clear BK184; clear BK185; clear HB; have HO2_3 := n0_; have HO188 := n1_; have BK184 := n2_; have BK185 := n3_; have HB := n4_; clear n0_ n1_ n2_ n3_ n4_; clear hb ho9; obtain ⟨Ao10, co10, eo10⟩ := Kd.N_slice HO188.out; subst eo10; have hcz11_0 : w8.cell? ⟨gb185, 0, none⟩ = some (.int .i64 0) := (blk_cell BK185.out 0).trans rfl; have hcz11_1 : w8.cell? ⟨gb185, 1, none⟩ = some (.int .i64 0) := (blk_cell BK185.out 1).trans rfl; have hcz11_2 : w8.cell? ⟨gb185, 2, none⟩ = some (.string (⟨#[]⟩ : ByteArray)) := (blk_cell BK185.out 2).trans rfl; have hcz11_3 : w8.cell? ⟨gb185, 3, none⟩ = some (.slice none 0 0) := (blk_cell BK185.out 3).trans rfl; have hfz11_0 := blk_frozen BK185.out 0; have hfz11_1 := blk_frozen BK185.out 1; have hfz11_2 := blk_frozen BK185.out 2; have hfz11_3 := blk_frozen BK185.out 3))
  refine bodyPost_ret (results_cell_row rfl _ _ gb185 33 #[.int .i64 a0, .int .i64 a1, .string (⟨#[]⟩ : ByteArray), .slice Ao10 y186.length co10] (0, 0) _ rfl (by (with_reducible repeat (first | refine blk_drewN ?_ _ | refine blk_drew ?_ | refine blk_alloc ?_ _)); refine blk_put (cs := #[.int .i64 a0, .int .i64 a1, .string (⟨#[]⟩ : ByteArray), .slice none 0 0]) ?_ 3 _ rfl; (with_reducible repeat (first | refine blk_drewN ?_ _ | refine blk_drew ?_ | refine blk_alloc ?_ _)); refine blk_put (cs := #[.int .i64 a0, .int .i64 a1, .string (⟨#[]⟩ : ByteArray), .slice none 0 0]) ?_ 2 _ rfl; (with_reducible repeat (first | refine blk_drewN ?_ _ | refine blk_drew ?_ | refine blk_alloc ?_ _)); refine blk_put (cs := #[.int .i64 a0, .int .i64 0, .string (⟨#[]⟩ : ByteArray), .slice none 0 0]) ?_ 1 _ rfl; (with_reducible repeat (first | refine blk_drewN ?_ _ | refine blk_drew ?_ | refine blk_alloc ?_ _)); refine blk_put (cs := #[.int .i64 0, .int .i64 0, .string (⟨#[]⟩ : ByteArray), .slice none 0 0]) ?_ 0 _ rfl; (with_reducible repeat (first | refine blk_drewN ?_ _ | refine blk_drew ?_ | refine blk_alloc ?_ _)); exact BK185.out) Try.underlying33 rfl (by kernel_rfl)) rfl ?_
  exact ⟨_, by first | rfl | (simp [errW_none, errW_some] <;> rfl) | (simp [*, errW_none, errW_some] <;> rfl), by (with_reducible repeat (first | apply Kd.N_alloc | apply Kd.N_drewN | apply Kd.N_drew)); exact Kd.N_mono (Kd.N_far (p := ⟨gb185, 3, none⟩) (Kd.N_far (p := ⟨gb185, 2, none⟩) (Kd.N_far (p := ⟨gb185, 1, none⟩) (Kd.N_far (p := ⟨gb185, 0, none⟩) (Kd.N_mono HO188.out (fun k_ hk => (⟨hk, hk.2.2⟩ : _ ∧ k_ ≠ gb185))) (fun _ hk => hk.2) (.int .i64 a0)) (fun _ hk => hk.2) (.int .i64 a1)) (fun _ hk => hk.2) (.string (⟨#[]⟩ : ByteArray))) (fun _ hk => hk.2) (.slice Ao10 y186.length co10)) (fun _ hk => hk.1.1), by repeat (first | (with_reducible first | exact HB.out | apply below_alloc | apply pw_below_drewN | apply below_drew1 | refine below_set ?_ GE184.out | refine below_set ?_ GE185.out) | exact HB.out)⟩

/-! ### tendrilref04_Join: function 36 -/
mutual
def tendrilref04_Join.l0 : Nat → List (S52) → Int → Int → Int → Option ((List (S55)) × List Int × Int × Int × ByteArray × (List (S33)))
  | 0, _, _, _, _ => none
  | k + 1, x0, x4, x5, x6 => if x6 < (x0.length : Int) then (if 0 ≤ x6 then ((tendrilref04_Check.f k ((rd_T52 x0 x6).f0) ((rd_T52 x0 x6).f1)).bind fun bt192 => ((tendrilnum_F_Bad.f bt192.1 bt192.2.1 bt192.2.2.1 bt192.2.2.2).bind fun t199 => (if t199 = true then ((tendrilnum_Led.f 44 x6 bt192.1 bt192.2.1 bt192.2.2.1 bt192.2.2.2).bind fun bt200 => (some (([] : List (S55)), ([] : List Int), bt200.1, bt200.2.1, bt200.2.2.1, bt200.2.2.2))) else (tendrilref04_Join.l0 k x0 (wrap64 (x4 + (((rd_T52 x0 x6).f0).length : Int))) (wrap64 (x5 + (((rd_T52 x0 x6).f1).length : Int))) (wrap64 (x6 + 1)))))) else (none)) else (if x4 > 4096 then ((tendrilnum_At.f 41 x4).bind fun bt208 => (some (([] : List (S55)), ([] : List Int), bt208.1, bt208.2.1, bt208.2.2.1, bt208.2.2.2))) else (if x5 > 4096 then ((tendrilnum_At.f 42 x5).bind fun bt214 => (some (([] : List (S55)), ([] : List Int), bt214.1, bt214.2.1, bt214.2.2.1, bt214.2.2.2))) else (tendrilref04_Join.l1 k x0 0 ([] : List (S55)) ([] : List Int))))
def tendrilref04_Join.l1 : Nat → List (S52) → Int → List (S55) → List Int → Option ((List (S55)) × List Int × Int × Int × ByteArray × (List (S33)))
  | 0, _, _, _, _ => none
  | k + 1, x0, x9, x221000, x221001 => if x9 < (x0.length : Int) then (tendrilref04_Join.l2 k x0 x9 (x221000.length : Int) 0 x221000 x221001) else ((tendrilnum_No.f).bind fun bt221 => (some (x221000, x221001, bt221.1, bt221.2.1, bt221.2.2.1, bt221.2.2.2)))
def tendrilref04_Join.l2 : Nat → List (S52) → Int → Int → Int → List (S55) → List Int → Option ((List (S55)) × List Int × Int × Int × ByteArray × (List (S33)))
  | 0, _, _, _, _, _, _ => none
  | k + 1, x0, x9, x10, x11, x221000, x221001 => if 0 ≤ x9 then (if x9 < (x0.length : Int) then (if x11 < (((rd_T52 x0 x9).f0).length : Int) then (if 0 ≤ x11 then (tendrilref04_Join.l3 k x0 x9 x10 x11 ([] : List Int) 0 x221000 x221001 ((rd_T55 ((rd_T52 x0 x9).f0) x11).f0) ((rd_T55 ((rd_T52 x0 x9).f0) x11).f1) ((rd_T55 ((rd_T52 x0 x9).f0) x11).f2) ((rd_T55 ((rd_T52 x0 x9).f0) x11).f3)) else (none)) else (tendrilref04_Join.l4 k x0 x9 x10 0 x221000 x221001)) else (none)) else (none)
def tendrilref04_Join.l3 : Nat → List (S52) → Int → Int → Int → List Int → Int → List (S55) → List Int → Int → ByteArray → Int → List Int → Option ((List (S55)) × List Int × Int × Int × ByteArray × (List (S33)))
  | 0, _, _, _, _, _, _, _, _, _, _, _, _ => none
  | k + 1, x0, x9, x10, x11, x13, x14, x221000, x221001, x231000, x231001, x231002, x231003 => if x14 < (x231003.length : Int) then (if 0 ≤ x14 then (if x13.length < 17592186044416 then (tendrilref04_Join.l3 k x0 x9 x10 x11 (x13 ++ [wrap64 ((rd x231003 x14) + x10)]) (wrap64 (x14 + 1)) x221000 x221001 x231000 x231001 x231002 x231003) else (none)) else (none)) else (if x221000.length < 2513169434916 then (tendrilref04_Join.l2 k x0 x9 x10 (wrap64 (x11 + 1)) (x221000 ++ [(⟨x231000, x231001, x231002, x13⟩ : S55)]) x221001) else (none))
def tendrilref04_Join.l4 : Nat → List (S52) → Int → Int → Int → List (S55) → List Int → Option ((List (S55)) × List Int × Int × Int × ByteArray × (List (S33)))
  | 0, _, _, _, _, _, _ => none
  | k + 1, x0, x9, x10, x15, x221000, x221001 => if 0 ≤ x9 then (if x9 < (x0.length : Int) then (if x15 < (((rd_T52 x0 x9).f1).length : Int) then (if 0 ≤ x15 then (if x221001.length < 17592186044416 then (tendrilref04_Join.l4 k x0 x9 x10 (wrap64 (x15 + 1)) x221000 (x221001 ++ [wrap64 ((rd ((rd_T52 x0 x9).f1) x15) + x10)])) else (none)) else (none)) else (tendrilref04_Join.l1 k x0 (wrap64 (x9 + 1)) x221000 x221001)) else (none)) else (none)
end
def tendrilref04_Join.f (k : Nat) (l0 : List (S52)) : Option ((List (S55)) × List Int × Int × Int × ByteArray × (List (S33))) := tendrilref04_Join.l0 k l0 0 0 0
theorem tendrilref04_Join.mono_l : ∀ k, (∀ y0 y1 y2 y3, LeO (tendrilref04_Join.l0 k y0 y1 y2 y3) (tendrilref04_Join.l0 (k + 1) y0 y1 y2 y3)) ∧ (∀ y0 y1 y2 y3, LeO (tendrilref04_Join.l1 k y0 y1 y2 y3) (tendrilref04_Join.l1 (k + 1) y0 y1 y2 y3)) ∧ (∀ y0 y1 y2 y3 y4 y5, LeO (tendrilref04_Join.l2 k y0 y1 y2 y3 y4 y5) (tendrilref04_Join.l2 (k + 1) y0 y1 y2 y3 y4 y5)) ∧ (∀ y0 y1 y2 y3 y4 y5 y6 y7 y8 y9 y10 y11, LeO (tendrilref04_Join.l3 k y0 y1 y2 y3 y4 y5 y6 y7 y8 y9 y10 y11) (tendrilref04_Join.l3 (k + 1) y0 y1 y2 y3 y4 y5 y6 y7 y8 y9 y10 y11)) ∧ (∀ y0 y1 y2 y3 y4 y5, LeO (tendrilref04_Join.l4 k y0 y1 y2 y3 y4 y5) (tendrilref04_Join.l4 (k + 1) y0 y1 y2 y3 y4 y5))
  | 0 => ⟨fun _ _ _ _ r h => by simp [tendrilref04_Join.l0] at h, fun _ _ _ _ r h => by simp [tendrilref04_Join.l1] at h, fun _ _ _ _ _ _ r h => by simp [tendrilref04_Join.l2] at h, fun _ _ _ _ _ _ _ _ _ _ _ _ r h => by simp [tendrilref04_Join.l3] at h, fun _ _ _ _ _ _ r h => by simp [tendrilref04_Join.l4] at h⟩
  | k + 1 => by
    obtain ⟨ih0, ih1, ih2, ih3, ih4⟩ := tendrilref04_Join.mono_l k
    refine ⟨?_, ?_, ?_, ?_, ?_⟩
    · intro y0 y1 y2 y3
      unfold tendrilref04_Join.l0
      repeat' first
      | (with_reducible exact ih0 _ _ _ _)
      | (with_reducible exact ih1 _ _ _ _)
      | (with_reducible exact ih2 _ _ _ _ _ _)
      | (with_reducible exact ih3 _ _ _ _ _ _ _ _ _ _ _ _)
      | (with_reducible exact ih4 _ _ _ _ _ _)
      | (with_reducible exact tendrilref04_Check.mono _ _ _)
      | (with_reducible exact LeO.refl _)
      | (with_reducible exact LeO.none _)
      | (with_reducible refine LeO.ite ?_ ?_)
      | (with_reducible refine LeO.bind ?_ (fun _ => ?_))
      | exact ih0 _ _ _ _
      | exact ih1 _ _ _ _
      | exact ih2 _ _ _ _ _ _
      | exact ih3 _ _ _ _ _ _ _ _ _ _ _ _
      | exact ih4 _ _ _ _ _ _
      | exact tendrilref04_Check.mono _ _ _
      | exact LeO.none _
      | refine LeO.ite ?_ ?_
      | refine LeO.bind ?_ (fun _ => ?_)
    · intro y0 y1 y2 y3
      unfold tendrilref04_Join.l1
      repeat' first
      | (with_reducible exact ih0 _ _ _ _)
      | (with_reducible exact ih1 _ _ _ _)
      | (with_reducible exact ih2 _ _ _ _ _ _)
      | (with_reducible exact ih3 _ _ _ _ _ _ _ _ _ _ _ _)
      | (with_reducible exact ih4 _ _ _ _ _ _)
      | (with_reducible exact tendrilref04_Check.mono _ _ _)
      | (with_reducible exact LeO.refl _)
      | (with_reducible exact LeO.none _)
      | (with_reducible refine LeO.ite ?_ ?_)
      | (with_reducible refine LeO.bind ?_ (fun _ => ?_))
      | exact ih0 _ _ _ _
      | exact ih1 _ _ _ _
      | exact ih2 _ _ _ _ _ _
      | exact ih3 _ _ _ _ _ _ _ _ _ _ _ _
      | exact ih4 _ _ _ _ _ _
      | exact tendrilref04_Check.mono _ _ _
      | exact LeO.none _
      | refine LeO.ite ?_ ?_
      | refine LeO.bind ?_ (fun _ => ?_)
    · intro y0 y1 y2 y3 y4 y5
      unfold tendrilref04_Join.l2
      repeat' first
      | (with_reducible exact ih0 _ _ _ _)
      | (with_reducible exact ih1 _ _ _ _)
      | (with_reducible exact ih2 _ _ _ _ _ _)
      | (with_reducible exact ih3 _ _ _ _ _ _ _ _ _ _ _ _)
      | (with_reducible exact ih4 _ _ _ _ _ _)
      | (with_reducible exact tendrilref04_Check.mono _ _ _)
      | (with_reducible exact LeO.refl _)
      | (with_reducible exact LeO.none _)
      | (with_reducible refine LeO.ite ?_ ?_)
      | (with_reducible refine LeO.bind ?_ (fun _ => ?_))
      | exact ih0 _ _ _ _
      | exact ih1 _ _ _ _
      | exact ih2 _ _ _ _ _ _
      | exact ih3 _ _ _ _ _ _ _ _ _ _ _ _
      | exact ih4 _ _ _ _ _ _
      | exact tendrilref04_Check.mono _ _ _
      | exact LeO.none _
      | refine LeO.ite ?_ ?_
      | refine LeO.bind ?_ (fun _ => ?_)
    · intro y0 y1 y2 y3 y4 y5 y6 y7 y8 y9 y10 y11
      unfold tendrilref04_Join.l3
      repeat' first
      | (with_reducible exact ih0 _ _ _ _)
      | (with_reducible exact ih1 _ _ _ _)
      | (with_reducible exact ih2 _ _ _ _ _ _)
      | (with_reducible exact ih3 _ _ _ _ _ _ _ _ _ _ _ _)
      | (with_reducible exact ih4 _ _ _ _ _ _)
      | (with_reducible exact tendrilref04_Check.mono _ _ _)
      | (with_reducible exact LeO.refl _)
      | (with_reducible exact LeO.none _)
      | (with_reducible refine LeO.ite ?_ ?_)
      | (with_reducible refine LeO.bind ?_ (fun _ => ?_))
      | exact ih0 _ _ _ _
      | exact ih1 _ _ _ _
      | exact ih2 _ _ _ _ _ _
      | exact ih3 _ _ _ _ _ _ _ _ _ _ _ _
      | exact ih4 _ _ _ _ _ _
      | exact tendrilref04_Check.mono _ _ _
      | exact LeO.none _
      | refine LeO.ite ?_ ?_
      | refine LeO.bind ?_ (fun _ => ?_)
    · intro y0 y1 y2 y3 y4 y5
      unfold tendrilref04_Join.l4
      repeat' first
      | (with_reducible exact ih0 _ _ _ _)
      | (with_reducible exact ih1 _ _ _ _)
      | (with_reducible exact ih2 _ _ _ _ _ _)
      | (with_reducible exact ih3 _ _ _ _ _ _ _ _ _ _ _ _)
      | (with_reducible exact ih4 _ _ _ _ _ _)
      | (with_reducible exact tendrilref04_Check.mono _ _ _)
      | (with_reducible exact LeO.refl _)
      | (with_reducible exact LeO.none _)
      | (with_reducible refine LeO.ite ?_ ?_)
      | (with_reducible refine LeO.bind ?_ (fun _ => ?_))
      | exact ih0 _ _ _ _
      | exact ih1 _ _ _ _
      | exact ih2 _ _ _ _ _ _
      | exact ih3 _ _ _ _ _ _ _ _ _ _ _ _
      | exact ih4 _ _ _ _ _ _
      | exact tendrilref04_Check.mono _ _ _
      | exact LeO.none _
      | refine LeO.ite ?_ ?_
      | refine LeO.bind ?_ (fun _ => ?_)
theorem tendrilref04_Join.mono : ∀ a0 k, LeO (tendrilref04_Join.f k a0) (tendrilref04_Join.f (k + 1) a0) := by
  intro a0 k
  obtain ⟨ih0, ih1, ih2, ih3, ih4⟩ := tendrilref04_Join.mono_l k
  unfold tendrilref04_Join.f
  repeat' first
      | (with_reducible exact ih0 _ _ _ _)
      | (with_reducible exact ih1 _ _ _ _)
      | (with_reducible exact ih2 _ _ _ _ _ _)
      | (with_reducible exact ih3 _ _ _ _ _ _ _ _ _ _ _ _)
      | (with_reducible exact ih4 _ _ _ _ _ _)
      | (with_reducible exact tendrilref04_Check.mono _ _ _)
      | (with_reducible exact LeO.refl _)
      | (with_reducible exact LeO.none _)
      | (with_reducible refine LeO.ite ?_ ?_)
      | (with_reducible refine LeO.bind ?_ (fun _ => ?_))
      | exact ih0 _ _ _ _
      | exact ih1 _ _ _ _
      | exact ih2 _ _ _ _ _ _
      | exact ih3 _ _ _ _ _ _ _ _ _ _ _ _
      | exact ih4 _ _ _ _ _ _
      | exact tendrilref04_Check.mono _ _ _
      | exact LeO.none _
      | refine LeO.ite ?_ ?_
      | refine LeO.bind ?_ (fun _ => ?_)
def tendrilref04_Join.T34 : Bool × List (List Nat × List Nat) := (true, [([], []), ([0], [0]), ([], []), ([], []), ([2, 3], [2, 3]), ([4], [4]), ([5], [5]), ([], []), ([6, 7], [6, 7]), ([8], [8]), ([], []), ([9, 10], [9, 10]), ([11], [11]), ([1, 12], [1, 12]), ([0, 1, 2, 3, 4, 5, 6, 7, 8, 9, 10, 11, 12, 13], []), ([14, 13, 13, 0, 1, 2, 3, 4, 5, 6, 7, 8, 9, 10, 11, 12, 13], [13, 14])])
def tendrilref04_Join.B34 : List Nat := [0, 1, 0, 0, 12, 28, 60, 0, 252, 508, 0, 2044, 4092, 8191, 16383, 32767]
theorem tendrilref04_Join.tab34 : rtab .any (opsOf Try.f36 34) = tendrilref04_Join.T34 := by kernel_rfl
theorem tendrilref04_Join.bits34 : waitsOk tendrilref04_Join.T34.2 tendrilref04_Join.B34 = true := by kernel_rfl
set_option maxHeartbeats 8000000 in
set_option maxRecDepth 100000 in
theorem tendrilref04_Join.calls (k : Nat) (A0 : Option Addr) (c0 : Nat) (l0 : List (S52)) (r1 : List (S55)) (r2 : List Int) (r3 : Int) (r4 : Int) (r5 : ByteArray) (r6 : List (S33)) (w : World) (hr0 : Kd.C k52 w A0 l0.length l0) (hc0 : l0.length ≤ c0) (h : tendrilref04_Join.f k l0 = some (r1, r2, r3, r4, r5, r6)) :
    Calls Try.prog 36 #[.slice A0 l0.length c0] w fun e w' => ∃ v0_ v1_ v5_ : Value, e = .returned (.tuple #[.agg #[v0_, v1_], .agg #[.int .i64 r3, .int .i64 r4, .string r5, v5_]]) ∧ Kd.N k55 55 w' w.heap.size (fun k_ => (w.heap.size ≤ k_) ∧ some k_ ≠ (v1_ : Value).ownBlock ∧ some k_ ≠ (v5_ : Value).ownBlock) v0_ r1 ∧ Kd.R (Kd.int .i64) 3 w' w.heap.size (fun k_ => (w.heap.size ≤ k_)) v1_ r2 ∧ Kd.N k33 33 w' w.heap.size (fun k_ => (w.heap.size ≤ k_) ∧ some k_ ≠ (v0_ : Value).ownBlock ∧ some k_ ≠ (v1_ : Value).ownBlock) v5_ r6 ∧ Below w.heap.size w w' := by
  have hu52 := Try.underlying52
  have hu33 := Try.underlying33
  have hu55 := Try.underlying55
  have HR0 := Aside0.mk hr0
  have HC0 := Aside0.mk hc0
  clear hr0 hc0
  have HB := Aside0.mk (Below.refl w.heap.size w)
  have H : (tendrilref04_Join.l0 k l0 0 0 0) = some (r1, r2, r3, r4, r5, r6) := h
  clear h
  have H' := Aside0.mk H
  clear H
  go_enter Try.func36, Try.ntmps36
  go_wp2_with (first | ((with_reducible refine gate_dst (N := 2) rfl ?_); refine box_event ?hg (N := 2) ?hd (cs := #[.slice none 0 0, .slice none 0 0]) (t := 52) ?hr ?_; (case hd => rfl); (case hg => rfl); (case hr => first | (go_simp; done) | (go_simp; rfl)); intro gb189 hg w2 hbox hb; have n0_ := Aside0.mk (below_step (by repeat (first | (with_reducible first | exact HB.out | apply below_alloc | apply pw_below_drewN | apply below_drew1) | exact HB.out)) hb); have n1_ := Aside0.mk (hbox); have n2_ := Aside0.mk ((by rw [hg]; exact (below_size (by repeat (first | (with_reducible first | exact HB.out | apply below_alloc | apply pw_below_drewN | apply below_drew1) | exact HB.out))) : w.heap.size ≤ gb189)); have n3_ := Aside0.mk ((by rw [hg]; exact (below_size (by repeat (first | (with_reducible first | exact HB.out | apply below_alloc | apply pw_below_drewN | apply below_drew1) | exact HB.out))) : w.heap.size ≤ gb189)); clear HB; have HB := n0_; have BK189 := n1_; have GW189 := n2_; have GE189 := n3_; clear n0_ n1_ n2_ n3_; clear hb hbox hg) | ((with_reducible refine gate_dst (N := 3) rfl ?_); refine box_event ?hg (N := 3) ?hd (cs := #[.int .i64 0, .int .i64 0, .string (⟨#[]⟩ : ByteArray), .slice none 0 0]) (t := 33) ?hr ?_; (case hd => rfl); (case hg => rfl); (case hr => first | (go_simp; done) | (go_simp; rfl)); intro gb190 hg w3 hbox hb; have n0_ := Aside0.mk (blk_below (g := gb189) (o := .cells #[.slice none 0 0, .slice none 0 0] 52 (0, 0)) (by (with_reducible repeat (first | refine blk_drewN ?_ _ | refine blk_drew ?_ | refine blk_alloc ?_ _)); exact BK189.out) hb); have n1_ := Aside0.mk (below_step (by repeat (first | (with_reducible first | exact HB.out | apply below_alloc | apply pw_below_drewN | apply below_drew1 | refine below_set ?_ GE189.out) | exact HB.out)) hb); have n2_ := Aside0.mk (hbox); have n3_ := Aside0.mk ((by rw [hg]; exact (below_size (by repeat (first | (with_reducible first | exact HB.out | apply below_alloc | apply pw_below_drewN | apply below_drew1 | refine below_set ?_ GE189.out) | exact HB.out))) : w.heap.size ≤ gb190)); have n4_ := Aside0.mk ((by rw [hg]; exact (below_size (by repeat (first | (with_reducible first | exact HB.out | apply below_alloc | apply pw_below_drewN | apply below_drew1 | refine below_set ?_ GE189.out) | exact HB.out))) : w.heap.size ≤ gb190)); have n5_ := Aside0.mk ((by rw [hg]; exact Nat.ne_of_lt (blk_lt (g := gb189) (o := .cells #[.slice none 0 0, .slice none 0 0] 52 (0, 0)) (by (with_reducible repeat (first | refine blk_drewN ?_ _ | refine blk_drew ?_ | refine blk_alloc ?_ _)); exact BK189.out)) : gb189 ≠ gb190)); have n6_ := Aside0.mk ((by rw [hg]; exact Nat.ne_of_gt (blk_lt (g := gb189) (o := .cells #[.slice none 0 0, .slice none 0 0] 52 (0, 0)) (by (with_reducible repeat (first | refine blk_drewN ?_ _ | refine blk_drew ?_ | refine blk_alloc ?_ _)); exact BK189.out)) : gb190 ≠ gb189)); clear BK189; clear HB; have BK189 := n0_; have HB := n1_; have BK190 := n2_; have GW190 := n3_; have GE190 := n4_; have NB189_190 := n5_; have NB190_189 := n6_; clear n0_ n1_ n2_ n3_ n4_ n5_ n6_; clear hb hbox hg))
  go_loopg [4, 5, 6] k (fun kq v4 v5 v6 w' => ∃ (x4_1 : Int) (x5_1 : Int) (x6_1 : Int) (x191000_1 : Int) (x191001_1 : Int) (x191002_1 : ByteArray), v4 = .int .i64 x4_1 ∧ v5 = .int .i64 x5_1 ∧ v6 = .int .i64 x6_1 ∧ Aside0 (tendrilref04_Join.l0 kq l0 x4_1 x5_1 x6_1 = some (r1, r2, r3, r4, r5, r6)) ∧ Aside0 (kq ≤ k) ∧ Aside0 (w'.heap[gb189]? = some (.cells #[(.slice none 0 0), (.slice none 0 0)] 52 (0, 0))) ∧ Aside0 (w'.heap[gb190]? = some (.cells #[.int .i64 x191000_1, .int .i64 x191001_1, .string x191002_1, (.slice none 0 0)] 33 (0, 0))) ∧ Aside0 (Below w.heap.size w w'))
  case atStart => exact ⟨(0), (0), (0), (0), (0), ((⟨#[]⟩ : ByteArray)), (by first | rfl | (simp; done) | (simp [*]; done)), (by first | rfl | (simp; done) | (simp [*]; done)), (by first | rfl | (simp; done) | (simp [*]; done)), H', ⟨Nat.le_refl _⟩, ⟨by (with_reducible repeat (first | refine blk_drewN ?_ _ | refine blk_drew ?_ | refine blk_alloc ?_ _)); exact BK189.out⟩, ⟨by (with_reducible repeat (first | refine blk_drewN ?_ _ | refine blk_drew ?_ | refine blk_alloc ?_ _)); exact BK190.out⟩, ⟨by repeat (first | (with_reducible first | exact HB.out | apply below_alloc | apply pw_below_drewN | apply below_drew1 | refine below_set ?_ GE189.out | refine below_set ?_ GE190.out) | exact HB.out)⟩⟩
  case round =>
    clear H'
    try clear p2
    try clear c3
    obtain ⟨x4_1, x5_1, x6_1, x191000_1, x191001_1, x191002_1, rfl, rfl, rfl, HA, HK1, BK189, BK190, HB⟩ := hrel
    cases gk with
    | zero => exact absurd HA.out (by simp [tendrilref04_Join.l0])
    | succ k1 =>
      have H := HA.out
      clear HA
      simp only [tendrilref04_Join.l0] at H
      by_cases c4 : x6_1 < (l0.length : Int)
      · rw [if_pos c4] at H
        have c4b0 : decide (x6_1 < (l0.length : Int)) = true := decide_eq_true c4
        clear c4
        by_cases c5 : 0 ≤ x6_1
        · rw [if_pos c5] at H
          have c5b0 : decide (0 ≤ x6_1) = true := decide_eq_true c5
          clear c5
          replace H := Option.bind_eq_some_iff.mp H
          obtain ⟨⟨t192, t193, t194, t195⟩, A60, H⟩ := H
          replace H : ((tendrilnum_F_Bad.f t192 t193 t194 t195).bind fun t199 => (if t199 = true then ((tendrilnum_Led.f 44 x6_1 t192 t193 t194 t195).bind fun bt200 => (some (([] : List (S55)), ([] : List Int), bt200.1, bt200.2.1, bt200.2.2.1, bt200.2.2.2))) else (tendrilref04_Join.l0 k1 l0 (wrap64 (x4_1 + (((rd_T52 l0 x6_1).f0).length : Int))) (wrap64 (x5_1 + (((rd_T52 l0 x6_1).f1).length : Int))) (wrap64 (x6_1 + 1))))) = some (r1, r2, r3, r4, r5, r6) := H
          have A6 := Aside0.mk A60
          clear A60
          replace H := Option.bind_eq_some_iff.mp H
          obtain ⟨t199, A70, H⟩ := H
          replace H : (if t199 = true then ((tendrilnum_Led.f 44 x6_1 t192 t193 t194 t195).bind fun bt200 => (some (([] : List (S55)), ([] : List Int), bt200.1, bt200.2.1, bt200.2.2.1, bt200.2.2.2))) else (tendrilref04_Join.l0 k1 l0 (wrap64 (x4_1 + (((rd_T52 l0 x6_1).f0).length : Int))) (wrap64 (x5_1 + (((rd_T52 l0 x6_1).f1).length : Int))) (wrap64 (x6_1 + 1)))) = some (r1, r2, r3, r4, r5, r6) := H
          have A7 := Aside0.mk A70
          clear A70
          by_cases c8 : t199 = true
          · subst c8
            have H1 : ((tendrilnum_Led.f 44 x6_1 t192 t193 t194 t195).bind fun bt200 => (some (([] : List (S55)), ([] : List Int), bt200.1, bt200.2.1, bt200.2.2.1, bt200.2.2.2))) = some (r1, r2, r3, r4, r5, r6) := by rw [if_pos rfl] at H; exact H
            clear H
            have H := H1
            clear H1
            replace H := Option.bind_eq_some_iff.mp H
            obtain ⟨⟨t200, t201, t202, t203⟩, A90, H⟩ := H
            replace H : (some (([] : List (S55)), ([] : List Int), t200, t201, t202, t203)) = some (r1, r2, r3, r4, r5, r6) := H
            have A9 := Aside0.mk A90
            clear A90
            simp only [Option.some.injEq, Prod.mk.injEq] at H
            obtain ⟨rfl, rfl, rfl, rfl, rfl, rfl⟩ := H
            have p191 : 0 ≤ (x6_1 : Int) := of_decide_eq_true (by first | (with_reducible assumption) | assumption)
            have q191 : x6_1 < (l0.length : Int) := of_decide_eq_true (by first | (with_reducible assumption) | assumption)
            obtain ⟨ad191, A191_0, c191_0, A191_1, c191_1, e191, hx191_0, hx191_1, hl191_0, hi191_0, hl191_1, hi191_1⟩ := at_T52 HR0.out x6_1 p191 q191
            cases e191
            replace hx191_0 := (HB.out.cell (World.block_lt_of_cell? w _ hx191_0)).trans hx191_0
            replace hx191_1 := (HB.out.cell (World.block_lt_of_cell? w _ hx191_1)).trans hx191_1
            have HR191_0 := Aside0.mk hi191_0
            have HC191_0 := Aside0.mk hl191_0
            clear hi191_0 hl191_0
            have HR191_1 := Aside0.mk hi191_1
            have HC191_1 := Aside0.mk hl191_1
            clear hi191_1 hl191_1
            replace p191 := eq_true p191
            replace q191 := eq_true q191
            go_wp2_with (first | ((with_reducible refine gate_callee (f := 30) rfl ?_); refine goesL_ (some 26) rfl rfl Try.func30 (by kernel_rfl) rfl #[.agg #[.slice A191_0 ((rd_T52 l0 x6_1).f0).length c191_0, .slice A191_1 ((rd_T52 l0 x6_1).f1).length c191_1]] rfl (by (try simp only [List.map_toArray, List.map_cons, List.map_nil]); first | done | rfl | (simp only [List.length_drop, List.length_take]; rfl)) ?_; (with_reducible refine (tendrilref04_Check.calls k1 _ _ ((rd_T52 l0 x6_1).f0) _ _ ((rd_T52 l0 x6_1).f1) t192 t193 t194 t195 _ ?side1 ?side2 ?side3 ?side4 A6.out).mono ?_); (case side1 => repeat (first | exact (Kd.C_below HR191_0.out HB.out) | (with_reducible refine Kd.C_alloc ?_ _) | (with_reducible refine Kd.C_drewN ?_ _) | (with_reducible refine Kd.C_drew ?_))); (case side2 => exact HC191_0.out); (case side3 => repeat (first | exact (Kd.C_below HR191_1.out HB.out) | (with_reducible refine Kd.C_alloc ?_ _) | (with_reducible refine Kd.C_drewN ?_ _) | (with_reducible refine Kd.C_drew ?_))); (case side4 => exact HC191_1.out); rintro e w10 ⟨v196, rfl, ho0, hb⟩; refine ⟨_, rfl, ?_⟩; have n0_ := Aside0.mk (Kd.N_lower (Kd.N_mono (ok' := fun k_ => (w.heap.size ≤ k_) ∧ k_ ≠ gb189 ∧ k_ ≠ gb190) (Kd.R_N (Kd.R_bound ho0)) (fun k_ hk_ => ⟨(Nat.le_trans (below_size (by repeat (first | (with_reducible first | exact HB.out | apply below_alloc | apply pw_below_drewN | apply below_drew1 | refine below_set ?_ GE189.out | refine below_set ?_ GE190.out) | exact HB.out))) hk_.2.1), (Kd.freshB (g := gb189) (o := .cells #[.slice none 0 0, .slice none 0 0] 52 (0, 0)) (by (with_reducible repeat (first | refine blk_drewN ?_ _ | refine blk_drew ?_ | refine blk_alloc ?_ _)); exact BK189.out) k_ hk_.2.1), (Kd.freshB (g := gb190) (o := .cells #[.int .i64 x191000_1, .int .i64 x191001_1, .string x191002_1, .slice none 0 0] 33 (0, 0)) (by (with_reducible repeat (first | refine blk_drewN ?_ _ | refine blk_drew ?_ | refine blk_alloc ?_ _)); exact BK190.out) k_ hk_.2.1)⟩)) (below_size (by repeat (first | (with_reducible first | exact HB.out | apply below_alloc | apply pw_below_drewN | apply below_drew1 | refine below_set ?_ GE189.out | refine below_set ?_ GE190.out) | exact HB.out)))); have n1_ := Aside0.mk (blk_below (g := gb189) (o := .cells #[.slice none 0 0, .slice none 0 0] 52 (0, 0)) (by (with_reducible repeat (first | refine blk_drewN ?_ _ | refine blk_drew ?_ | refine blk_alloc ?_ _)); exact BK189.out) hb); have n2_ := Aside0.mk (blk_below (g := gb190) (o := .cells #[.int .i64 x191000_1, .int .i64 x191001_1, .string x191002_1, .slice none 0 0] 33 (0, 0)) (by (with_reducible repeat (first | refine blk_drewN ?_ _ | refine blk_drew ?_ | refine blk_alloc ?_ _)); exact BK190.out) hb); have n3_ := Aside0.mk (below_step (by repeat (first | (with_reducible first | exact HB.out | apply below_alloc | apply pw_below_drewN | apply below_drew1 | refine below_set ?_ GE189.out | refine below_set ?_ GE190.out) | exact HB.out)) hb); clear BK189; clear BK190; clear HB; have HO197 := n0_; have BK189 := n1_; have BK190 := n2_; have HB := n3_; clear n0_ n1_ n2_ n3_; (try clear hb); (try clear hb2); (try clear hk); (try clear hi); (try clear ho0)) | ((with_reducible refine gate_dst (N := 7) rfl ?_); refine box_event ?hg (N := 7) ?hd (cs := #[.int .i64 0, .int .i64 0, .string (⟨#[]⟩ : ByteArray), .slice none 0 0]) (t := 33) ?hr ?_; (case hd => rfl); (case hg => rfl); (case hr => first | (go_simp; done) | (go_simp; rfl)); intro gb198 hg w11 hbox hb; have n0_ := Aside0.mk (Kd.N_below (Kd.N_elderB (by (with_reducible repeat (first | apply Kd.N_alloc | apply Kd.N_drewN | apply Kd.N_drew)); exact HO197.out) gb198 (Nat.le_of_eq hg.symm)) hb); have n1_ := Aside0.mk (blk_below (g := gb189) (o := .cells #[.slice none 0 0, .slice none 0 0] 52 (0, 0)) (by (with_reducible repeat (first | refine blk_drewN ?_ _ | refine blk_drew ?_ | refine blk_alloc ?_ _)); exact BK189.out) hb); have n2_ := Aside0.mk (blk_below (g := gb190) (o := .cells #[.int .i64 x191000_1, .int .i64 x191001_1, .string x191002_1, .slice none 0 0] 33 (0, 0)) (by (with_reducible repeat (first | refine blk_drewN ?_ _ | refine blk_drew ?_ | refine blk_alloc ?_ _)); exact BK190.out) hb); have n3_ := Aside0.mk (below_step (by repeat (first | (with_reducible first | exact HB.out | apply below_alloc | apply pw_below_drewN | apply below_drew1 | refine below_set ?_ GE189.out | refine below_set ?_ GE190.out) | exact HB.out)) hb); have n4_ := Aside0.mk (hbox); have n5_ := Aside0.mk ((by rw [hg]; exact (below_size (by repeat (first | (with_reducible first | exact HB.out | apply below_alloc | apply pw_below_drewN | apply below_drew1 | refine below_set ?_ GE189.out | refine below_set ?_ GE190.out) | exact HB.out))) : w.heap.size ≤ gb198)); have n6_ := Aside0.mk ((by rw [hg]; exact (below_size (by repeat (first | (with_reducible first | exact HB.out | apply below_alloc | apply pw_below_drewN | apply below_drew1 | refine below_set ?_ GE189.out | refine below_set ?_ GE190.out) | exact HB.out))) : w.heap.size ≤ gb198)); have n7_ := Aside0.mk ((by rw [hg]; exact Nat.ne_of_lt (blk_lt (g := gb189) (o := .cells #[.slice none 0 0, .slice none 0 0] 52 (0, 0)) (by (with_reducible repeat (first | refine blk_drewN ?_ _ | refine blk_drew ?_ | refine blk_alloc ?_ _)); exact BK189.out)) : gb189 ≠ gb198)); have n8_ := Aside0.mk ((by rw [hg]; exact Nat.ne_of_gt (blk_lt (g := gb189) (o := .cells #[.slice none 0 0, .slice none 0 0] 52 (0, 0)) (by (with_reducible repeat (first | refine blk_drewN ?_ _ | refine blk_drew ?_ | refine blk_alloc ?_ _)); exact BK189.out)) : gb198 ≠ gb189)); have n9_ := Aside0.mk ((by rw [hg]; exact Nat.ne_of_lt (blk_lt (g := gb190) (o := .cells #[.int .i64 x191000_1, .int .i64 x191001_1, .string x191002_1, .slice none 0 0] 33 (0, 0)) (by (with_reducible repeat (first | refine blk_drewN ?_ _ | refine blk_drew ?_ | refine blk_alloc ?_ _)); exact BK190.out)) : gb190 ≠ gb198)); have n10_ := Aside0.mk ((by rw [hg]; exact Nat.ne_of_gt (blk_lt (g := gb190) (o := .cells #[.int .i64 x191000_1, .int .i64 x191001_1, .string x191002_1, .slice none 0 0] 33 (0, 0)) (by (with_reducible repeat (first | refine blk_drewN ?_ _ | refine blk_drew ?_ | refine blk_alloc ?_ _)); exact BK190.out)) : gb198 ≠ gb190)); clear HO197; clear BK189; clear BK190; clear HB; have HO197 := n0_; have BK189 := n1_; have BK190 := n2_; have HB := n3_; have BK198 := n4_; have GW198 := n5_; have GE198 := n6_; have NB189_198 := n7_; have NB198_189 := n8_; have NB190_198 := n9_; have NB198_190 := n10_; clear n0_ n1_ n2_ n3_ n4_ n5_ n6_ n7_ n8_ n9_ n10_; clear hb hbox hg; have hnb12 := NB198_189.out; have hnc12 := NB189_198.out; have hnb13 := NB198_190.out; have hnc13 := NB190_198.out; have hcz14_0 : w11.cell? ⟨gb198, 0, none⟩ = some (.int .i64 0) := (blk_cell BK198.out 0).trans rfl; have hcz14_1 : w11.cell? ⟨gb198, 1, none⟩ = some (.int .i64 0) := (blk_cell BK198.out 1).trans rfl; have hcz14_2 : w11.cell? ⟨gb198, 2, none⟩ = some (.string (⟨#[]⟩ : ByteArray)) := (blk_cell BK198.out 2).trans rfl; have hcz14_3 : w11.cell? ⟨gb198, 3, none⟩ = some (.slice none 0 0) := (blk_cell BK198.out 3).trans rfl; have hfz14_0 := blk_frozen BK198.out 0; have hfz14_1 := blk_frozen BK198.out 1; have hfz14_2 := blk_frozen BK198.out 2; have hfz14_3 := blk_frozen BK198.out 3; obtain ⟨Ao15, co15, eo15⟩ := Kd.N_slice HO197.out; subst eo15) | ((with_reducible refine gate_callee (f := 46) rfl ?_); refine goesL_ (some 28) rfl rfl Try.func46 (by kernel_rfl) rfl #[.agg #[.int .i64 t192, .int .i64 t193, .string t194, .slice Ao15 t195.length co15]] rfl (by (try simp only [List.map_toArray, List.map_cons, List.map_nil]); first | done | rfl | (simp only [List.length_drop, List.length_take]; rfl)) ?_; (with_reducible refine (tendrilnum_F_Bad.calls t192 t193 t194 _ _ t195 true _ ?side1 ?side2 A7.out).mono ?_); (case side1 => refine (Kd.N_reads' (e := 33) (base := w.heap.size) (ok := fun k_ => (((w.heap.size ≤ k_) ∧ (k_ ≠ gb189 ∧ k_ ≠ gb190)) ∧ k_ ≠ gb198)) (n := t195.length) (c := co15) ?_).2.2; exact (by (with_reducible repeat (first | apply Kd.N_alloc | apply Kd.N_drewN | apply Kd.N_drew)); exact (Kd.N_mono (Kd.N_far (p := ⟨gb198, 3, none⟩) (Kd.N_far (p := ⟨gb198, 2, none⟩) (Kd.N_far (p := ⟨gb198, 1, none⟩) (Kd.N_far (p := ⟨gb198, 0, none⟩) (Kd.N_mono HO197.out (fun k_ hk => (⟨hk, hk.2⟩ : _ ∧ k_ ≠ gb198))) (fun _ hk => hk.2) (.int .i64 t192)) (fun _ hk => hk.2) (.int .i64 t193)) (fun _ hk => hk.2) (.string t194)) (fun _ hk => hk.2) (.slice Ao15 t195.length co15)) (fun _ h_ => h_.1)))); (case side2 => exact (Kd.N_reads' HO197.out).2.1); rintro e w16 ⟨rfl, hb⟩; refine ⟨_, rfl, ?_⟩; have n0_ := Aside0.mk (Kd.N_below (by (with_reducible repeat (first | apply Kd.N_alloc | apply Kd.N_drewN | apply Kd.N_drew)); exact (Kd.N_mono (Kd.N_far (p := ⟨gb198, 3, none⟩) (Kd.N_far (p := ⟨gb198, 2, none⟩) (Kd.N_far (p := ⟨gb198, 1, none⟩) (Kd.N_far (p := ⟨gb198, 0, none⟩) (Kd.N_mono HO197.out (fun k_ hk => (⟨hk, hk.2⟩ : _ ∧ k_ ≠ gb198))) (fun _ hk => hk.2) (.int .i64 t192)) (fun _ hk => hk.2) (.int .i64 t193)) (fun _ hk => hk.2) (.string t194)) (fun _ hk => hk.2) (.slice Ao15 t195.length co15)) (fun _ h_ => h_.1))) hb); have n1_ := Aside0.mk (blk_below (g := gb189) (o := .cells #[.slice none 0 0, .slice none 0 0] 52 (0, 0)) (by (with_reducible repeat (first | refine blk_drewN ?_ _ | refine blk_drew ?_ | refine blk_alloc ?_ _)); refine blk_far ?_ NB189_198.out _; (with_reducible repeat (first | refine blk_drewN ?_ _ | refine blk_drew ?_ | refine blk_alloc ?_ _)); refine blk_far ?_ NB189_198.out _; (with_reducible repeat (first | refine blk_drewN ?_ _ | refine blk_drew ?_ | refine blk_alloc ?_ _)); refine blk_far ?_ NB189_198.out _; (with_reducible repeat (first | refine blk_drewN ?_ _ | refine blk_drew ?_ | refine blk_alloc ?_ _)); refine blk_far ?_ NB189_198.out _; (with_reducible repeat (first | refine blk_drewN ?_ _ | refine blk_drew ?_ | refine blk_alloc ?_ _)); exact BK189.out) hb); have n2_ := Aside0.mk (blk_below (g := gb190) (o := .cells #[.int .i64 x191000_1, .int .i64 x191001_1, .string x191002_1, .slice none 0 0] 33 (0, 0)) (by (with_reducible repeat (first | refine blk_drewN ?_ _ | refine blk_drew ?_ | refine blk_alloc ?_ _)); refine blk_far ?_ NB190_198.out _; (with_reducible repeat (first | refine blk_drewN ?_ _ | refine blk_drew ?_ | refine blk_alloc ?_ _)); refine blk_far ?_ NB190_198.out _; (with_reducible repeat (first | refine blk_drewN ?_ _ | refine blk_drew ?_ | refine blk_alloc ?_ _)); refine blk_far ?_ NB190_198.out _; (with_reducible repeat (first | refine blk_drewN ?_ _ | refine blk_drew ?_ | refine blk_alloc ?_ _)); refine blk_far ?_ NB190_198.out _; (with_reducible repeat (first | refine blk_drewN ?_ _ | refine blk_drew ?_ | refine blk_alloc ?_ _)); exact BK190.out) hb); have n3_ := Aside0.mk (blk_below (g := gb198) (o := .cells #[.int .i64 t192, .int .i64 t193, .string t194, .slice Ao15 t195.length co15] 33 (0, 0)) (by (with_reducible repeat (first | refine blk_drewN ?_ _ | refine blk_drew ?_ | refine blk_alloc ?_ _)); refine blk_put (cs := #[.int .i64 t192, .int .i64 t193, .string t194, .slice none 0 0]) ?_ 3 _ rfl; (with_reducible repeat (first | refine blk_drewN ?_ _ | refine blk_drew ?_ | refine blk_alloc ?_ _)); refine blk_put (cs := #[.int .i64 t192, .int .i64 t193, .string (⟨#[]⟩ : ByteArray), .slice none 0 0]) ?_ 2 _ rfl; (with_reducible repeat (first | refine blk_drewN ?_ _ | refine blk_drew ?_ | refine blk_alloc ?_ _)); refine blk_put (cs := #[.int .i64 t192, .int .i64 0, .string (⟨#[]⟩ : ByteArray), .slice none 0 0]) ?_ 1 _ rfl; (with_reducible repeat (first | refine blk_drewN ?_ _ | refine blk_drew ?_ | refine blk_alloc ?_ _)); refine blk_put (cs := #[.int .i64 0, .int .i64 0, .string (⟨#[]⟩ : ByteArray), .slice none 0 0]) ?_ 0 _ rfl; (with_reducible repeat (first | refine blk_drewN ?_ _ | refine blk_drew ?_ | refine blk_alloc ?_ _)); exact BK198.out) hb); have n4_ := Aside0.mk (below_step (by repeat (first | (with_reducible first | exact HB.out | apply below_alloc | apply pw_below_drewN | apply below_drew1 | refine below_set ?_ GE189.out | refine below_set ?_ GE190.out | refine below_set ?_ GE198.out) | exact HB.out)) hb); clear HO197; clear BK189; clear BK190; clear BK198; clear HB; have HO197 := n0_; have BK189 := n1_; have BK190 := n2_; have BK198 := n3_; have HB := n4_; clear n0_ n1_ n2_ n3_ n4_; (try clear hb); (try clear hb2); (try clear hk); (try clear hi); have hcz17_0 : w16.cell? ⟨gb198, 0, none⟩ = some (.int .i64 t192) := (blk_cell BK198.out 0).trans rfl; have hcz17_1 : w16.cell? ⟨gb198, 1, none⟩ = some (.int .i64 t193) := (blk_cell BK198.out 1).trans rfl; have hcz17_2 : w16.cell? ⟨gb198, 2, none⟩ = some (.string t194) := (blk_cell BK198.out 2).trans rfl; have hcz17_3 : w16.cell? ⟨gb198, 3, none⟩ = some (.slice Ao15 t195.length co15) := (blk_cell BK198.out 3).trans rfl; have hfz17_0 := blk_frozen BK198.out 0; have hfz17_1 := blk_frozen BK198.out 1; have hfz17_2 := blk_frozen BK198.out 2; have hfz17_3 := blk_frozen BK198.out 3) | ((with_reducible refine gate_callee (f := 70) rfl ?_); refine goesL_ (some 32) rfl rfl Try.func70 (by kernel_rfl) rfl #[.int .i64 44, .int .i64 x6_1, .agg #[.int .i64 t192, .int .i64 t193, .string t194, .slice Ao15 t195.length co15]] rfl (by (try simp only [List.map_toArray, List.map_cons, List.map_nil]); first | done | rfl | (simp only [List.length_drop, List.length_take]; rfl)) ?_; (with_reducible refine (tendrilnum_Led.calls 44 x6_1 t192 t193 t194 (fun k_ => (((w.heap.size ≤ k_) ∧ (k_ ≠ gb189 ∧ k_ ≠ gb190)) ∧ k_ ≠ gb198)) _ _ t195 t200 t201 t202 t203 _ ?side1 A9.out).mono ?_); (case side1 => exact Kd.N_V (HO197.out)); rintro e w18 ⟨v204, rfl, ho0, hb⟩; refine ⟨_, rfl, ?_⟩; have n0_ := Aside0.mk (Kd.N_elder' (by (with_reducible repeat (first | apply Kd.N_alloc | apply Kd.N_drewN | apply Kd.N_drew)); exact HO197.out) (Kd.N_base ho0) hb); have n1_ := Aside0.mk (Kd.N_lower (Kd.N_mono (ok' := fun k_ => (w.heap.size ≤ k_) ∧ k_ ≠ gb189 ∧ k_ ≠ gb190 ∧ k_ ≠ gb198) ho0 (fun k_ hk_ => ⟨Or.elim hk_ (fun hs_ => hs_.1.1) (fun hn_ => (Nat.le_trans (below_size (by repeat (first | (with_reducible first | exact HB.out | apply below_alloc | apply pw_below_drewN | apply below_drew1 | refine below_set ?_ GE189.out | refine below_set ?_ GE190.out | refine below_set ?_ GE198.out) | exact HB.out))) hn_)), Or.elim hk_ (fun hs_ => hs_.1.2.1) (fun hn_ => (Kd.freshB (g := gb189) (o := .cells #[.slice none 0 0, .slice none 0 0] 52 (0, 0)) (by (with_reducible repeat (first | refine blk_drewN ?_ _ | refine blk_drew ?_ | refine blk_alloc ?_ _)); exact BK189.out) k_ hn_)), Or.elim hk_ (fun hs_ => hs_.1.2.2) (fun hn_ => (Kd.freshB (g := gb190) (o := .cells #[.int .i64 x191000_1, .int .i64 x191001_1, .string x191002_1, .slice none 0 0] 33 (0, 0)) (by (with_reducible repeat (first | refine blk_drewN ?_ _ | refine blk_drew ?_ | refine blk_alloc ?_ _)); exact BK190.out) k_ hn_)), Or.elim hk_ (fun hs_ => hs_.2) (fun hn_ => (Kd.freshB (g := gb198) (o := .cells #[.int .i64 t192, .int .i64 t193, .string t194, .slice Ao15 t195.length co15] 33 (0, 0)) (by (with_reducible repeat (first | refine blk_drewN ?_ _ | refine blk_drew ?_ | refine blk_alloc ?_ _)); exact BK198.out) k_ hn_))⟩)) (below_size (by repeat (first | (with_reducible first | exact HB.out | apply below_alloc | apply pw_below_drewN | apply below_drew1 | refine below_set ?_ GE189.out | refine below_set ?_ GE190.out | refine below_set ?_ GE198.out) | exact HB.out)))); have n2_ := Aside0.mk (blk_below (g := gb189) (o := .cells #[.slice none 0 0, .slice none 0 0] 52 (0, 0)) (by (with_reducible repeat (first | refine blk_drewN ?_ _ | refine blk_drew ?_ | refine blk_alloc ?_ _)); exact BK189.out) hb); have n3_ := Aside0.mk (blk_below (g := gb190) (o := .cells #[.int .i64 x191000_1, .int .i64 x191001_1, .string x191002_1, .slice none 0 0] 33 (0, 0)) (by (with_reducible repeat (first | refine blk_drewN ?_ _ | refine blk_drew ?_ | refine blk_alloc ?_ _)); exact BK190.out) hb); have n4_ := Aside0.mk (blk_below (g := gb198) (o := .cells #[.int .i64 t192, .int .i64 t193, .string t194, .slice Ao15 t195.length co15] 33 (0, 0)) (by (with_reducible repeat (first | refine blk_drewN ?_ _ | refine blk_drew ?_ | refine blk_alloc ?_ _)); exact BK198.out) hb); have n5_ := Aside0.mk (below_step (by repeat (first | (with_reducible first | exact HB.out | apply below_alloc | apply pw_below_drewN | apply below_drew1 | refine below_set ?_ GE189.out | refine below_set ?_ GE190.out | refine below_set ?_ GE198.out) | exact HB.out)) hb); clear HO197; clear BK189; clear BK190; clear BK198; clear HB; have HO197 := n0_; have HO205 := n1_; have BK189 := n2_; have BK190 := n3_; have BK198 := n4_; have HB := n5_; clear n0_ n1_ n2_ n3_ n4_ n5_; (try clear hb); (try clear hb2); (try clear hk); (try clear hi); (try clear ho0); have hnb19 := NB189_190.out; have hnc19 := NB190_189.out; have hcz20_0 : w18.cell? ⟨gb189, 0, none⟩ = some (.slice none 0 0) := (blk_cell BK189.out 0).trans rfl; have hcz20_1 : w18.cell? ⟨gb189, 1, none⟩ = some (.slice none 0 0) := (blk_cell BK189.out 1).trans rfl; have hfz20_0 := blk_frozen BK189.out 0; have hfz20_1 := blk_frozen BK189.out 1; have hcz21_0 : w18.cell? ⟨gb190, 0, none⟩ = some (.int .i64 x191000_1) := (blk_cell BK190.out 0).trans rfl; have hcz21_1 : w18.cell? ⟨gb190, 1, none⟩ = some (.int .i64 x191001_1) := (blk_cell BK190.out 1).trans rfl; have hcz21_2 : w18.cell? ⟨gb190, 2, none⟩ = some (.string x191002_1) := (blk_cell BK190.out 2).trans rfl; have hcz21_3 : w18.cell? ⟨gb190, 3, none⟩ = some (.slice none 0 0) := (blk_cell BK190.out 3).trans rfl; have hfz21_0 := blk_frozen BK190.out 0; have hfz21_1 := blk_frozen BK190.out 1; have hfz21_2 := blk_frozen BK190.out 2; have hfz21_3 := blk_frozen BK190.out 3; obtain ⟨Ao22, co22, eo22⟩ := Kd.N_slice HO205.out; subst eo22))
            refine bodyPost_ret (results_cc rfl _ _ gb189 gb190 52 33 #[.slice none 0 0, .slice none 0 0] #[.int .i64 t200, .int .i64 t201, .string t202, .slice Ao22 t203.length co22] (0, 0) (0, 0) _ _ rfl (by (with_reducible repeat (first | refine blk_drewN ?_ _ | refine blk_drew ?_ | refine blk_alloc ?_ _)); refine blk_far ?_ NB189_190.out _; (with_reducible repeat (first | refine blk_drewN ?_ _ | refine blk_drew ?_ | refine blk_alloc ?_ _)); refine blk_far ?_ NB189_190.out _; (with_reducible repeat (first | refine blk_drewN ?_ _ | refine blk_drew ?_ | refine blk_alloc ?_ _)); refine blk_far ?_ NB189_190.out _; (with_reducible repeat (first | refine blk_drewN ?_ _ | refine blk_drew ?_ | refine blk_alloc ?_ _)); refine blk_far ?_ NB189_190.out _; (with_reducible repeat (first | refine blk_drewN ?_ _ | refine blk_drew ?_ | refine blk_alloc ?_ _)); refine blk_put (cs := #[.slice none 0 0, .slice none 0 0]) ?_ 1 _ rfl; (with_reducible repeat (first | refine blk_drewN ?_ _ | refine blk_drew ?_ | refine blk_alloc ?_ _)); refine blk_put (cs := #[.slice none 0 0, .slice none 0 0]) ?_ 0 _ rfl; (with_reducible repeat (first | refine blk_drewN ?_ _ | refine blk_drew ?_ | refine blk_alloc ?_ _)); exact BK189.out) Try.underlying52 rfl (by kernel_rfl) rfl (by (with_reducible repeat (first | refine blk_drewN ?_ _ | refine blk_drew ?_ | refine blk_alloc ?_ _)); refine blk_put (cs := #[.int .i64 t200, .int .i64 t201, .string t202, .slice none 0 0]) ?_ 3 _ rfl; (with_reducible repeat (first | refine blk_drewN ?_ _ | refine blk_drew ?_ | refine blk_alloc ?_ _)); refine blk_put (cs := #[.int .i64 t200, .int .i64 t201, .string x191002_1, .slice none 0 0]) ?_ 2 _ rfl; (with_reducible repeat (first | refine blk_drewN ?_ _ | refine blk_drew ?_ | refine blk_alloc ?_ _)); refine blk_put (cs := #[.int .i64 t200, .int .i64 x191001_1, .string x191002_1, .slice none 0 0]) ?_ 1 _ rfl; (with_reducible repeat (first | refine blk_drewN ?_ _ | refine blk_drew ?_ | refine blk_alloc ?_ _)); refine blk_put (cs := #[.int .i64 x191000_1, .int .i64 x191001_1, .string x191002_1, .slice none 0 0]) ?_ 0 _ rfl; (with_reducible repeat (first | refine blk_drewN ?_ _ | refine blk_drew ?_ | refine blk_alloc ?_ _)); refine blk_far ?_ NB190_189.out _; (with_reducible repeat (first | refine blk_drewN ?_ _ | refine blk_drew ?_ | refine blk_alloc ?_ _)); refine blk_far ?_ NB190_189.out _; (with_reducible repeat (first | refine blk_drewN ?_ _ | refine blk_drew ?_ | refine blk_alloc ?_ _)); exact BK190.out) Try.underlying33 rfl (by kernel_rfl)) rfl ?_
            exact ⟨_, _, _, by first | rfl | (simp [errW_none, errW_some] <;> rfl) | (simp [*, errW_none, errW_some] <;> rfl), by first | exact Kd.S_nil _ _ _ _ _ | exact Kd.N_nil _ _ _ _ _ | exact Kd.V_nil _ _ _ _ _ | exact Kd.Q_nil _ _ _ _ _ | exact Kd.R_nil _ _ _ _ _, by first | exact Kd.R_nil _ _ _ _ _ | exact Kd.N_nil _ _ _ _ _ | exact Kd.V_nil _ _ _ _ _ | exact Kd.Q_nil _ _ _ _ _ | exact Kd.S_nil _ _ _ _ _, by (with_reducible repeat (first | apply Kd.N_alloc | apply Kd.N_drewN | apply Kd.N_drew)); exact Kd.N_mono (Kd.N_far (p := ⟨gb190, 3, none⟩) (Kd.N_far (p := ⟨gb190, 2, none⟩) (Kd.N_far (p := ⟨gb190, 1, none⟩) (Kd.N_far (p := ⟨gb190, 0, none⟩) (Kd.N_far (p := ⟨gb189, 1, none⟩) (Kd.N_far (p := ⟨gb189, 0, none⟩) (Kd.N_mono (Kd.N_mono HO205.out (fun k_ hk => (⟨hk, hk.2.1⟩ : _ ∧ k_ ≠ gb189))) (fun k_ hk => (⟨hk, hk.1.2.2.1⟩ : _ ∧ k_ ≠ gb190))) (fun _ hk => hk.1.2) (.slice none 0 0)) (fun _ hk => hk.1.2) (.slice none 0 0)) (fun _ hk => hk.2) (.int .i64 t200)) (fun _ hk => hk.2) (.int .i64 t201)) (fun _ hk => hk.2) (.string t202)) (fun _ hk => hk.2) (.slice Ao22 t203.length co22)) (fun _ hk => ⟨hk.1.1.1, ⟨(by simp [Value.ownBlock]), (by simp [Value.ownBlock])⟩⟩), by repeat (first | (with_reducible first | exact HB.out | apply below_alloc | apply pw_below_drewN | apply below_drew1 | refine below_set ?_ GE189.out | refine below_set ?_ GE190.out | refine below_set ?_ GE198.out) | exact HB.out)⟩
          · replace c8 := Bool.eq_false_iff.mpr c8
            subst c8
            have H1 : (tendrilref04_Join.l0 k1 l0 (wrap64 (x4_1 + (((rd_T52 l0 x6_1).f0).length : Int))) (wrap64 (x5_1 + (((rd_T52 l0 x6_1).f1).length : Int))) (wrap64 (x6_1 + 1))) = some (r1, r2, r3, r4, r5, r6) := by rw [if_neg (show ¬ (false = true) by decide)] at H; exact H
            clear H
            have H := H1
            clear H1
            have H' := Aside0.mk H
            clear H
            have p191 : 0 ≤ (x6_1 : Int) := of_decide_eq_true (by first | (with_reducible assumption) | assumption)
            have q191 : x6_1 < (l0.length : Int) := of_decide_eq_true (by first | (with_reducible assumption) | assumption)
            obtain ⟨ad191, A191_0, c191_0, A191_1, c191_1, e191, hx191_0, hx191_1, hl191_0, hi191_0, hl191_1, hi191_1⟩ := at_T52 HR0.out x6_1 p191 q191
            cases e191
            replace hx191_0 := (HB.out.cell (World.block_lt_of_cell? w _ hx191_0)).trans hx191_0
            replace hx191_1 := (HB.out.cell (World.block_lt_of_cell? w _ hx191_1)).trans hx191_1
            have HR191_0 := Aside0.mk hi191_0
            have HC191_0 := Aside0.mk hl191_0
            clear hi191_0 hl191_0
            have HR191_1 := Aside0.mk hi191_1
            have HC191_1 := Aside0.mk hl191_1
            clear hi191_1 hl191_1
            replace p191 := eq_true p191
            replace q191 := eq_true q191
            go_wp2_with (first | ((with_reducible refine gate_callee (f := 30) rfl ?_); refine goesL_ (some 26) rfl rfl Try.func30 (by kernel_rfl) rfl #[.agg #[.slice A191_0 ((rd_T52 l0 x6_1).f0).length c191_0, .slice A191_1 ((rd_T52 l0 x6_1).f1).length c191_1]] rfl (by (try simp only [List.map_toArray, List.map_cons, List.map_nil]); first | done | rfl | (simp only [List.length_drop, List.length_take]; rfl)) ?_; (with_reducible refine (tendrilref04_Check.calls k1 _ _ ((rd_T52 l0 x6_1).f0) _ _ ((rd_T52 l0 x6_1).f1) t192 t193 t194 t195 _ ?side1 ?side2 ?side3 ?side4 A6.out).mono ?_); (case side1 => repeat (first | exact (Kd.C_below HR191_0.out HB.out) | (with_reducible refine Kd.C_alloc ?_ _) | (with_reducible refine Kd.C_drewN ?_ _) | (with_reducible refine Kd.C_drew ?_))); (case side2 => exact HC191_0.out); (case side3 => repeat (first | exact (Kd.C_below HR191_1.out HB.out) | (with_reducible refine Kd.C_alloc ?_ _) | (with_reducible refine Kd.C_drewN ?_ _) | (with_reducible refine Kd.C_drew ?_))); (case side4 => exact HC191_1.out); rintro e w23 ⟨v196, rfl, ho0, hb⟩; refine ⟨_, rfl, ?_⟩; have n0_ := Aside0.mk (Kd.N_lower (Kd.N_mono (ok' := fun k_ => (w.heap.size ≤ k_) ∧ k_ ≠ gb189 ∧ k_ ≠ gb190) (Kd.R_N (Kd.R_bound ho0)) (fun k_ hk_ => ⟨(Nat.le_trans (below_size (by repeat (first | (with_reducible first | exact HB.out | apply below_alloc | apply pw_below_drewN | apply below_drew1 | refine below_set ?_ GE189.out | refine below_set ?_ GE190.out) | exact HB.out))) hk_.2.1), (Kd.freshB (g := gb189) (o := .cells #[.slice none 0 0, .slice none 0 0] 52 (0, 0)) (by (with_reducible repeat (first | refine blk_drewN ?_ _ | refine blk_drew ?_ | refine blk_alloc ?_ _)); exact BK189.out) k_ hk_.2.1), (Kd.freshB (g := gb190) (o := .cells #[.int .i64 x191000_1, .int .i64 x191001_1, .string x191002_1, .slice none 0 0] 33 (0, 0)) (by (with_reducible repeat (first | refine blk_drewN ?_ _ | refine blk_drew ?_ | refine blk_alloc ?_ _)); exact BK190.out) k_ hk_.2.1)⟩)) (below_size (by repeat (first | (with_reducible first | exact HB.out | apply below_alloc | apply pw_below_drewN | apply below_drew1 | refine below_set ?_ GE189.out | refine below_set ?_ GE190.out) | exact HB.out)))); have n1_ := Aside0.mk (blk_below (g := gb189) (o := .cells #[.slice none 0 0, .slice none 0 0] 52 (0, 0)) (by (with_reducible repeat (first | refine blk_drewN ?_ _ | refine blk_drew ?_ | refine blk_alloc ?_ _)); exact BK189.out) hb); have n2_ := Aside0.mk (blk_below (g := gb190) (o := .cells #[.int .i64 x191000_1, .int .i64 x191001_1, .string x191002_1, .slice none 0 0] 33 (0, 0)) (by (with_reducible repeat (first | refine blk_drewN ?_ _ | refine blk_drew ?_ | refine blk_alloc ?_ _)); exact BK190.out) hb); have n3_ := Aside0.mk (below_step (by repeat (first | (with_reducible first | exact HB.out | apply below_alloc | apply pw_below_drewN | apply below_drew1 | refine below_set ?_ GE189.out | refine below_set ?_ GE190.out) | exact HB.out)) hb); clear BK189; clear BK190; clear HB; have HO197 := n0_; have BK189 := n1_; have BK190 := n2_; have HB := n3_; clear n0_ n1_ n2_ n3_; (try clear hb); (try clear hb2); (try clear hk); (try clear hi); (try clear ho0)) | ((with_reducible refine gate_dst (N := 7) rfl ?_); refine box_event ?hg (N := 7) ?hd (cs := #[.int .i64 0, .int .i64 0, .string (⟨#[]⟩ : ByteArray), .slice none 0 0]) (t := 33) ?hr ?_; (case hd => rfl); (case hg => rfl); (case hr => first | (go_simp; done) | (go_simp; rfl)); intro gb198 hg w24 hbox hb; have n0_ := Aside0.mk (Kd.N_below (Kd.N_elderB (by (with_reducible repeat (first | apply Kd.N_alloc | apply Kd.N_drewN | apply Kd.N_drew)); exact HO197.out) gb198 (Nat.le_of_eq hg.symm)) hb); have n1_ := Aside0.mk (blk_below (g := gb189) (o := .cells #[.slice none 0 0, .slice none 0 0] 52 (0, 0)) (by (with_reducible repeat (first | refine blk_drewN ?_ _ | refine blk_drew ?_ | refine blk_alloc ?_ _)); exact BK189.out) hb); have n2_ := Aside0.mk (blk_below (g := gb190) (o := .cells #[.int .i64 x191000_1, .int .i64 x191001_1, .string x191002_1, .slice none 0 0] 33 (0, 0)) (by (with_reducible repeat (first | refine blk_drewN ?_ _ | refine blk_drew ?_ | refine blk_alloc ?_ _)); exact BK190.out) hb); have n3_ := Aside0.mk (below_step (by repeat (first | (with_reducible first | exact HB.out | apply below_alloc | apply pw_below_drewN | apply below_drew1 | refine below_set ?_ GE189.out | refine below_set ?_ GE190.out) | exact HB.out)) hb); have n4_ := Aside0.mk (hbox); have n5_ := Aside0.mk ((by rw [hg]; exact (below_size (by repeat (first | (with_reducible first | exact HB.out | apply below_alloc | apply pw_below_drewN | apply below_drew1 | refine below_set ?_ GE189.out | refine below_set ?_ GE190.out) | exact HB.out))) : w.heap.size ≤ gb198)); have n6_ := Aside0.mk ((by rw [hg]; exact (below_size (by repeat (first | (with_reducible first | exact HB.out | apply below_alloc | apply pw_below_drewN | apply below_drew1 | refine below_set ?_ GE189.out | refine below_set ?_ GE190.out) | exact HB.out))) : w.heap.size ≤ gb198)); have n7_ := Aside0.mk ((by rw [hg]; exact Nat.ne_of_lt (blk_lt (g := gb189) (o := .cells #[.slice none 0 0, .slice none 0 0] 52 (0, 0)) (by (with_reducible repeat (first | refine blk_drewN ?_ _ | refine blk_drew ?_ | refine blk_alloc ?_ _)); exact BK189.out)) : gb189 ≠ gb198)); have n8_ := Aside0.mk ((by rw [hg]; exact Nat.ne_of_gt (blk_lt (g := gb189) (o := .cells #[.slice none 0 0, .slice none 0 0] 52 (0, 0)) (by (with_reducible repeat (first | refine blk_drewN ?_ _ | refine blk_drew ?_ | refine blk_alloc ?_ _)); exact BK189.out)) : gb198 ≠ gb189)); have n9_ := Aside0.mk ((by rw [hg]; exact Nat.ne_of_lt (blk_lt (g := gb190) (o := .cells #[.int .i64 x191000_1, .int .i64 x191001_1, .string x191002_1, .slice none 0 0] 33 (0, 0)) (by (with_reducible repeat (first | refine blk_drewN ?_ _ | refine blk_drew ?_ | refine blk_alloc ?_ _)); exact BK190.out)) : gb190 ≠ gb198)); have n10_ := Aside0.mk ((by rw [hg]; exact Nat.ne_of_gt (blk_lt (g := gb190) (o := .cells #[.int .i64 x191000_1, .int .i64 x191001_1, .string x191002_1, .slice none 0 0] 33 (0, 0)) (by (with_reducible repeat (first | refine blk_drewN ?_ _ | refine blk_drew ?_ | refine blk_alloc ?_ _)); exact BK190.out)) : gb198 ≠ gb190)); clear HO197; clear BK189; clear BK190; clear HB; have HO197 := n0_; have BK189 := n1_; have BK190 := n2_; have HB := n3_; have BK198 := n4_; have GW198 := n5_; have GE198 := n6_; have NB189_198 := n7_; have NB198_189 := n8_; have NB190_198 := n9_; have NB198_190 := n10_; clear n0_ n1_ n2_ n3_ n4_ n5_ n6_ n7_ n8_ n9_ n10_; clear hb hbox hg; have hnb25 := NB198_189.out; have hnc25 := NB189_198.out; have hnb26 := NB198_190.out; have hnc26 := NB190_198.out; have hcz27_0 : w24.cell? ⟨gb198, 0, none⟩ = some (.int .i64 0) := (blk_cell BK198.out 0).trans rfl; have hcz27_1 : w24.cell? ⟨gb198, 1, none⟩ = some (.int .i64 0) := (blk_cell BK198.out 1).trans rfl; have hcz27_2 : w24.cell? ⟨gb198, 2, none⟩ = some (.string (⟨#[]⟩ : ByteArray)) := (blk_cell BK198.out 2).trans rfl; have hcz27_3 : w24.cell? ⟨gb198, 3, none⟩ = some (.slice none 0 0) := (blk_cell BK198.out 3).trans rfl; have hfz27_0 := blk_frozen BK198.out 0; have hfz27_1 := blk_frozen BK198.out 1; have hfz27_2 := blk_frozen BK198.out 2; have hfz27_3 := blk_frozen BK198.out 3; obtain ⟨Ao28, co28, eo28⟩ := Kd.N_slice HO197.out; subst eo28) | ((with_reducible refine gate_callee (f := 46) rfl ?_); refine goesL_ (some 28) rfl rfl Try.func46 (by kernel_rfl) rfl #[.agg #[.int .i64 t192, .int .i64 t193, .string t194, .slice Ao28 t195.length co28]] rfl (by (try simp only [List.map_toArray, List.map_cons, List.map_nil]); first | done | rfl | (simp only [List.length_drop, List.length_take]; rfl)) ?_; (with_reducible refine (tendrilnum_F_Bad.calls t192 t193 t194 _ _ t195 false _ ?side1 ?side2 A7.out).mono ?_); (case side1 => refine (Kd.N_reads' (e := 33) (base := w.heap.size) (ok := fun k_ => (((w.heap.size ≤ k_) ∧ (k_ ≠ gb189 ∧ k_ ≠ gb190)) ∧ k_ ≠ gb198)) (n := t195.length) (c := co28) ?_).2.2; exact (by (with_reducible repeat (first | apply Kd.N_alloc | apply Kd.N_drewN | apply Kd.N_drew)); exact (Kd.N_mono (Kd.N_far (p := ⟨gb198, 3, none⟩) (Kd.N_far (p := ⟨gb198, 2, none⟩) (Kd.N_far (p := ⟨gb198, 1, none⟩) (Kd.N_far (p := ⟨gb198, 0, none⟩) (Kd.N_mono HO197.out (fun k_ hk => (⟨hk, hk.2⟩ : _ ∧ k_ ≠ gb198))) (fun _ hk => hk.2) (.int .i64 t192)) (fun _ hk => hk.2) (.int .i64 t193)) (fun _ hk => hk.2) (.string t194)) (fun _ hk => hk.2) (.slice Ao28 t195.length co28)) (fun _ h_ => h_.1)))); (case side2 => exact (Kd.N_reads' HO197.out).2.1); rintro e w29 ⟨rfl, hb⟩; refine ⟨_, rfl, ?_⟩; have n0_ := Aside0.mk (Kd.N_below (by (with_reducible repeat (first | apply Kd.N_alloc | apply Kd.N_drewN | apply Kd.N_drew)); exact (Kd.N_mono (Kd.N_far (p := ⟨gb198, 3, none⟩) (Kd.N_far (p := ⟨gb198, 2, none⟩) (Kd.N_far (p := ⟨gb198, 1, none⟩) (Kd.N_far (p := ⟨gb198, 0, none⟩) (Kd.N_mono HO197.out (fun k_ hk => (⟨hk, hk.2⟩ : _ ∧ k_ ≠ gb198))) (fun _ hk => hk.2) (.int .i64 t192)) (fun _ hk => hk.2) (.int .i64 t193)) (fun _ hk => hk.2) (.string t194)) (fun _ hk => hk.2) (.slice Ao28 t195.length co28)) (fun _ h_ => h_.1))) hb); have n1_ := Aside0.mk (blk_below (g := gb189) (o := .cells #[.slice none 0 0, .slice none 0 0] 52 (0, 0)) (by (with_reducible repeat (first | refine blk_drewN ?_ _ | refine blk_drew ?_ | refine blk_alloc ?_ _)); refine blk_far ?_ NB189_198.out _; (with_reducible repeat (first | refine blk_drewN ?_ _ | refine blk_drew ?_ | refine blk_alloc ?_ _)); refine blk_far ?_ NB189_198.out _; (with_reducible repeat (first | refine blk_drewN ?_ _ | refine blk_drew ?_ | refine blk_alloc ?_ _)); refine blk_far ?_ NB189_198.out _; (with_reducible repeat (first | refine blk_drewN ?_ _ | refine blk_drew ?_ | refine blk_alloc ?_ _)); refine blk_far ?_ NB189_198.out _; (with_reducible repeat (first | refine blk_drewN ?_ _ | refine blk_drew ?_ | refine blk_alloc ?_ _)); exact BK189.out) hb); have n2_ := Aside0.mk (blk_below (g := gb190) (o := .cells #[.int .i64 x191000_1, .int .i64 x191001_1, .string x191002_1, .slice none 0 0] 33 (0, 0)) (by (with_reducible repeat (first | refine blk_drewN ?_ _ | refine blk_drew ?_ | refine blk_alloc ?_ _)); refine blk_far ?_ NB190_198.out _; (with_reducible repeat (first | refine blk_drewN ?_ _ | refine blk_drew ?_ | refine blk_alloc ?_ _)); refine blk_far ?_ NB190_198.out _; (with_reducible repeat (first | refine blk_drewN ?_ _ | refine blk_drew ?_ | refine blk_alloc ?_ _)); refine blk_far ?_ NB190_198.out _; (with_reducible repeat (first | refine blk_drewN ?_ _ | refine blk_drew ?_ | refine blk_alloc ?_ _)); refine blk_far ?_ NB190_198.out _; (with_reducible repeat (first | refine blk_drewN ?_ _ | refine blk_drew ?_ | refine blk_alloc ?_ _)); exact BK190.out) hb); have n3_ := Aside0.mk (blk_below (g := gb198) (o := .cells #[.int .i64 t192, .int .i64 t193, .string t194, .slice Ao28 t195.length co28] 33 (0, 0)) (by (with_reducible repeat (first | refine blk_drewN ?_ _ | refine blk_drew ?_ | refine blk_alloc ?_ _)); refine blk_put (cs := #[.int .i64 t192, .int .i64 t193, .string t194, .slice none 0 0]) ?_ 3 _ rfl; (with_reducible repeat (first | refine blk_drewN ?_ _ | refine blk_drew ?_ | refine blk_alloc ?_ _)); refine blk_put (cs := #[.int .i64 t192, .int .i64 t193, .string (⟨#[]⟩ : ByteArray), .slice none 0 0]) ?_ 2 _ rfl; (with_reducible repeat (first | refine blk_drewN ?_ _ | refine blk_drew ?_ | refine blk_alloc ?_ _)); refine blk_put (cs := #[.int .i64 t192, .int .i64 0, .string (⟨#[]⟩ : ByteArray), .slice none 0 0]) ?_ 1 _ rfl; (with_reducible repeat (first | refine blk_drewN ?_ _ | refine blk_drew ?_ | refine blk_alloc ?_ _)); refine blk_put (cs := #[.int .i64 0, .int .i64 0, .string (⟨#[]⟩ : ByteArray), .slice none 0 0]) ?_ 0 _ rfl; (with_reducible repeat (first | refine blk_drewN ?_ _ | refine blk_drew ?_ | refine blk_alloc ?_ _)); exact BK198.out) hb); have n4_ := Aside0.mk (below_step (by repeat (first | (with_reducible first | exact HB.out | apply below_alloc | apply pw_below_drewN | apply below_drew1 | refine below_set ?_ GE189.out | refine below_set ?_ GE190.out | refine below_set ?_ GE198.out) | exact HB.out)) hb); clear HO197; clear BK189; clear BK190; clear BK198; clear HB; have HO197 := n0_; have BK189 := n1_; have BK190 := n2_; have BK198 := n3_; have HB := n4_; clear n0_ n1_ n2_ n3_ n4_; (try clear hb); (try clear hb2); (try clear hk); (try clear hi); have p206 : 0 ≤ (x6_1 : Int) := of_decide_eq_true (by first | (with_reducible assumption) | assumption); have q206 : x6_1 < (l0.length : Int) := of_decide_eq_true (by first | (with_reducible assumption) | assumption); obtain ⟨ad206, A206_0, c206_0, A206_1, c206_1, e206, hx206_0, hx206_1, hl206_0, hi206_0, hl206_1, hi206_1⟩ := at_T52 HR0.out x6_1 p206 q206; obtain rfl : ad191 = ad206 := (by injection e206); replace hx206_0 := (HB.out.cell (World.block_lt_of_cell? w _ hx206_0)).trans hx206_0; replace hx206_1 := (HB.out.cell (World.block_lt_of_cell? w _ hx206_1)).trans hx206_1; have HR206_0 := Aside0.mk hi206_0; have HC206_0 := Aside0.mk hl206_0; clear hi206_0 hl206_0; have HR206_1 := Aside0.mk hi206_1; have HC206_1 := Aside0.mk hl206_1; clear hi206_1 hl206_1; replace p206 := eq_true p206; replace q206 := eq_true q206; have p207 : 0 ≤ (x6_1 : Int) := of_decide_eq_true (by first | (with_reducible assumption) | assumption); have q207 : x6_1 < (l0.length : Int) := of_decide_eq_true (by first | (with_reducible assumption) | assumption); obtain ⟨ad207, A207_0, c207_0, A207_1, c207_1, e207, hx207_0, hx207_1, hl207_0, hi207_0, hl207_1, hi207_1⟩ := at_T52 HR0.out x6_1 p207 q207; obtain rfl : ad191 = ad207 := (by injection e207); replace hx207_0 := (HB.out.cell (World.block_lt_of_cell? w _ hx207_0)).trans hx207_0; replace hx207_1 := (HB.out.cell (World.block_lt_of_cell? w _ hx207_1)).trans hx207_1; have HR207_0 := Aside0.mk hi207_0; have HC207_0 := Aside0.mk hl207_0; clear hi207_0 hl207_0; have HR207_1 := Aside0.mk hi207_1; have HC207_1 := Aside0.mk hl207_1; clear hi207_1 hl207_1; replace p207 := eq_true p207; replace q207 := eq_true q207; have ea_ := Option.some.inj (hx206_0.symm.trans hx207_0); injection ea_ with ea_ en_ ec_; subst ea_; subst ec_; clear en_; have ea_ := Option.some.inj (hx206_1.symm.trans hx207_1); injection ea_ with ea_ en_ ec_; subst ea_; subst ec_; clear en_))
            go_roundg k1
            case measure => have := HK1.out; omega
            case rel => exact ⟨(wrap64 (x4_1 + (((rd_T52 l0 x6_1).f0).length : Int))), (wrap64 (x5_1 + (((rd_T52 l0 x6_1).f1).length : Int))), (wrap64 (x6_1 + 1)), (x191000_1), (x191001_1), (x191002_1), (by first | rfl | (simp; done) | (simp [*]; done)), (by first | rfl | (simp; done) | (simp [*]; done)), (by first | rfl | (simp; done) | (simp [*]; done)), H', ⟨by have := HK1.out; omega⟩, ⟨by (with_reducible repeat (first | refine blk_drewN ?_ _ | refine blk_drew ?_ | refine blk_alloc ?_ _)); exact BK189.out⟩, ⟨by (with_reducible repeat (first | refine blk_drewN ?_ _ | refine blk_drew ?_ | refine blk_alloc ?_ _)); exact BK190.out⟩, ⟨by repeat (first | (with_reducible first | exact HB.out | apply below_alloc | apply pw_below_drewN | apply below_drew1 | refine below_set ?_ GE189.out | refine below_set ?_ GE190.out | refine below_set ?_ GE198.out) | exact HB.out)⟩⟩
        · rw [if_neg c5] at H
          exact absurd H (by simp)
      · rw [if_neg c4] at H
        have c4b0 : decide (x6_1 < (l0.length : Int)) = false := decide_eq_false c4
        clear c4
        by_cases c30 : x4_1 > 4096
        · rw [if_pos c30] at H
          have c30b0 : decide (4096 < x4_1) = true := decide_eq_true c30
          clear c30
          replace H := Option.bind_eq_some_iff.mp H
          obtain ⟨⟨t208, t209, t210, t211⟩, A310, H⟩ := H
          replace H : (some (([] : List (S55)), ([] : List Int), t208, t209, t210, t211)) = some (r1, r2, r3, r4, r5, r6) := H
          have A31 := Aside0.mk A310
          clear A310
          simp only [Option.some.injEq, Prod.mk.injEq] at H
          obtain ⟨rfl, rfl, rfl, rfl, rfl, rfl⟩ := H
          go_wp2_with (first | ((with_reducible refine gate_callee (f := 62) rfl ?_); refine goesL_ (some 53) rfl rfl Try.func62 (by kernel_rfl) rfl #[.int .i64 41, .int .i64 x4_1] rfl (by (try simp only [List.map_toArray, List.map_cons, List.map_nil]); first | done | rfl | (simp only [List.length_drop, List.length_take]; rfl)) ?_; (with_reducible refine (tendrilnum_At.calls 41 x4_1 t208 t209 t210 t211 _ A31.out).mono ?_); rintro e w32 ⟨v212, rfl, ho0, hb⟩; refine ⟨_, rfl, ?_⟩; have n0_ := Aside0.mk (Kd.N_lower (Kd.N_mono (ok' := fun k_ => (w.heap.size ≤ k_) ∧ k_ ≠ gb189 ∧ k_ ≠ gb190) (Kd.R_N (Kd.R_bound ho0)) (fun k_ hk_ => ⟨(Nat.le_trans (below_size (by repeat (first | (with_reducible first | exact HB.out | apply below_alloc | apply pw_below_drewN | apply below_drew1 | refine below_set ?_ GE189.out | refine below_set ?_ GE190.out) | exact HB.out))) hk_.2.1), (Kd.freshB (g := gb189) (o := .cells #[.slice none 0 0, .slice none 0 0] 52 (0, 0)) (by (with_reducible repeat (first | refine blk_drewN ?_ _ | refine blk_drew ?_ | refine blk_alloc ?_ _)); exact BK189.out) k_ hk_.2.1), (Kd.freshB (g := gb190) (o := .cells #[.int .i64 x191000_1, .int .i64 x191001_1, .string x191002_1, .slice none 0 0] 33 (0, 0)) (by (with_reducible repeat (first | refine blk_drewN ?_ _ | refine blk_drew ?_ | refine blk_alloc ?_ _)); exact BK190.out) k_ hk_.2.1)⟩)) (below_size (by repeat (first | (with_reducible first | exact HB.out | apply below_alloc | apply pw_below_drewN | apply below_drew1 | refine below_set ?_ GE189.out | refine below_set ?_ GE190.out) | exact HB.out)))); have n1_ := Aside0.mk (blk_below (g := gb189) (o := .cells #[.slice none 0 0, .slice none 0 0] 52 (0, 0)) (by (with_reducible repeat (first | refine blk_drewN ?_ _ | refine blk_drew ?_ | refine blk_alloc ?_ _)); exact BK189.out) hb); have n2_ := Aside0.mk (blk_below (g := gb190) (o := .cells #[.int .i64 x191000_1, .int .i64 x191001_1, .string x191002_1, .slice none 0 0] 33 (0, 0)) (by (with_reducible repeat (first | refine blk_drewN ?_ _ | refine blk_drew ?_ | refine blk_alloc ?_ _)); exact BK190.out) hb); have n3_ := Aside0.mk (below_step (by repeat (first | (with_reducible first | exact HB.out | apply below_alloc | apply pw_below_drewN | apply below_drew1 | refine below_set ?_ GE189.out | refine below_set ?_ GE190.out) | exact HB.out)) hb); clear BK189; clear BK190; clear HB; have HO213 := n0_; have BK189 := n1_; have BK190 := n2_; have HB := n3_; clear n0_ n1_ n2_ n3_; (try clear hb); (try clear hb2); (try clear hk); (try clear hi); (try clear ho0); have hnb33 := NB189_190.out; have hnc33 := NB190_189.out; have hcz34_0 : w32.cell? ⟨gb189, 0, none⟩ = some (.slice none 0 0) := (blk_cell BK189.out 0).trans rfl; have hcz34_1 : w32.cell? ⟨gb189, 1, none⟩ = some (.slice none 0 0) := (blk_cell BK189.out 1).trans rfl; have hfz34_0 := blk_frozen BK189.out 0; have hfz34_1 := blk_frozen BK189.out 1; have hcz35_0 : w32.cell? ⟨gb190, 0, none⟩ = some (.int .i64 x191000_1) := (blk_cell BK190.out 0).trans rfl; have hcz35_1 : w32.cell? ⟨gb190, 1, none⟩ = some (.int .i64 x191001_1) := (blk_cell BK190.out 1).trans rfl; have hcz35_2 : w32.cell? ⟨gb190, 2, none⟩ = some (.string x191002_1) := (blk_cell BK190.out 2).trans rfl; have hcz35_3 : w32.cell? ⟨gb190, 3, none⟩ = some (.slice none 0 0) := (blk_cell BK190.out 3).trans rfl; have hfz35_0 := blk_frozen BK190.out 0; have hfz35_1 := blk_frozen BK190.out 1; have hfz35_2 := blk_frozen BK190.out 2; have hfz35_3 := blk_frozen BK190.out 3; obtain ⟨Ao36, co36, eo36⟩ := Kd.N_slice HO213.out; subst eo36))
          refine bodyPost_ret (results_cc rfl _ _ gb189 gb190 52 33 #[.slice none 0 0, .slice none 0 0] #[.int .i64 t208, .int .i64 t209, .string t210, .slice Ao36 t211.length co36] (0, 0) (0, 0) _ _ rfl (by (with_reducible repeat (first | refine blk_drewN ?_ _ | refine blk_drew ?_ | refine blk_alloc ?_ _)); refine blk_far ?_ NB189_190.out _; (with_reducible repeat (first | refine blk_drewN ?_ _ | refine blk_drew ?_ | refine blk_alloc ?_ _)); refine blk_far ?_ NB189_190.out _; (with_reducible repeat (first | refine blk_drewN ?_ _ | refine blk_drew ?_ | refine blk_alloc ?_ _)); refine blk_far ?_ NB189_190.out _; (with_reducible repeat (first | refine blk_drewN ?_ _ | refine blk_drew ?_ | refine blk_alloc ?_ _)); refine blk_far ?_ NB189_190.out _; (with_reducible repeat (first | refine blk_drewN ?_ _ | refine blk_drew ?_ | refine blk_alloc ?_ _)); refine blk_put (cs := #[.slice none 0 0, .slice none 0 0]) ?_ 1 _ rfl; (with_reducible repeat (first | refine blk_drewN ?_ _ | refine blk_drew ?_ | refine blk_alloc ?_ _)); refine blk_put (cs := #[.slice none 0 0, .slice none 0 0]) ?_ 0 _ rfl; (with_reducible repeat (first | refine blk_drewN ?_ _ | refine blk_drew ?_ | refine blk_alloc ?_ _)); exact BK189.out) Try.underlying52 rfl (by kernel_rfl) rfl (by (with_reducible repeat (first | refine blk_drewN ?_ _ | refine blk_drew ?_ | refine blk_alloc ?_ _)); refine blk_put (cs := #[.int .i64 t208, .int .i64 t209, .string t210, .slice none 0 0]) ?_ 3 _ rfl; (with_reducible repeat (first | refine blk_drewN ?_ _ | refine blk_drew ?_ | refine blk_alloc ?_ _)); refine blk_put (cs := #[.int .i64 t208, .int .i64 t209, .string x191002_1, .slice none 0 0]) ?_ 2 _ rfl; (with_reducible repeat (first | refine blk_drewN ?_ _ | refine blk_drew ?_ | refine blk_alloc ?_ _)); refine blk_put (cs := #[.int .i64 t208, .int .i64 x191001_1, .string x191002_1, .slice none 0 0]) ?_ 1 _ rfl; (with_reducible repeat (first | refine blk_drewN ?_ _ | refine blk_drew ?_ | refine blk_alloc ?_ _)); refine blk_put (cs := #[.int .i64 x191000_1, .int .i64 x191001_1, .string x191002_1, .slice none 0 0]) ?_ 0 _ rfl; (with_reducible repeat (first | refine blk_drewN ?_ _ | refine blk_drew ?_ | refine blk_alloc ?_ _)); refine blk_far ?_ NB190_189.out _; (with_reducible repeat (first | refine blk_drewN ?_ _ | refine blk_drew ?_ | refine blk_alloc ?_ _)); refine blk_far ?_ NB190_189.out _; (with_reducible repeat (first | refine blk_drewN ?_ _ | refine blk_drew ?_ | refine blk_alloc ?_ _)); exact BK190.out) Try.underlying33 rfl (by kernel_rfl)) rfl ?_
          exact ⟨_, _, _, by first | rfl | (simp [errW_none, errW_some] <;> rfl) | (simp [*, errW_none, errW_some] <;> rfl), by first | exact Kd.S_nil _ _ _ _ _ | exact Kd.N_nil _ _ _ _ _ | exact Kd.V_nil _ _ _ _ _ | exact Kd.Q_nil _ _ _ _ _ | exact Kd.R_nil _ _ _ _ _, by first | exact Kd.R_nil _ _ _ _ _ | exact Kd.N_nil _ _ _ _ _ | exact Kd.V_nil _ _ _ _ _ | exact Kd.Q_nil _ _ _ _ _ | exact Kd.S_nil _ _ _ _ _, by (with_reducible repeat (first | apply Kd.N_alloc | apply Kd.N_drewN | apply Kd.N_drew)); exact Kd.N_mono (Kd.N_far (p := ⟨gb190, 3, none⟩) (Kd.N_far (p := ⟨gb190, 2, none⟩) (Kd.N_far (p := ⟨gb190, 1, none⟩) (Kd.N_far (p := ⟨gb190, 0, none⟩) (Kd.N_far (p := ⟨gb189, 1, none⟩) (Kd.N_far (p := ⟨gb189, 0, none⟩) (Kd.N_mono (Kd.N_mono HO213.out (fun k_ hk => (⟨hk, hk.2.1⟩ : _ ∧ k_ ≠ gb189))) (fun k_ hk => (⟨hk, hk.1.2.2⟩ : _ ∧ k_ ≠ gb190))) (fun _ hk => hk.1.2) (.slice none 0 0)) (fun _ hk => hk.1.2) (.slice none 0 0)) (fun _ hk => hk.2) (.int .i64 t208)) (fun _ hk => hk.2) (.int .i64 t209)) (fun _ hk => hk.2) (.string t210)) (fun _ hk => hk.2) (.slice Ao36 t211.length co36)) (fun _ hk => ⟨hk.1.1.1, ⟨(by simp [Value.ownBlock]), (by simp [Value.ownBlock])⟩⟩), by repeat (first | (with_reducible first | exact HB.out | apply below_alloc | apply pw_below_drewN | apply below_drew1 | refine below_set ?_ GE189.out | refine below_set ?_ GE190.out) | exact HB.out)⟩
        · rw [if_neg c30] at H
          have c30b0 : decide (4096 < x4_1) = false := decide_eq_false c30
          clear c30
          by_cases c37 : x5_1 > 4096
          · rw [if_pos c37] at H
            have c37b0 : decide (4096 < x5_1) = true := decide_eq_true c37
            clear c37
            replace H := Option.bind_eq_some_iff.mp H
            obtain ⟨⟨t214, t215, t216, t217⟩, A380, H⟩ := H
            replace H : (some (([] : List (S55)), ([] : List Int), t214, t215, t216, t217)) = some (r1, r2, r3, r4, r5, r6) := H
            have A38 := Aside0.mk A380
            clear A380
            simp only [Option.some.injEq, Prod.mk.injEq] at H
            obtain ⟨rfl, rfl, rfl, rfl, rfl, rfl⟩ := H
            go_wp2_with (first | ((with_reducible refine gate_callee (f := 62) rfl ?_); refine goesL_ (some 58) rfl rfl Try.func62 (by kernel_rfl) rfl #[.int .i64 42, .int .i64 x5_1] rfl (by (try simp only [List.map_toArray, List.map_cons, List.map_nil]); first | done | rfl | (simp only [List.length_drop, List.length_take]; rfl)) ?_; (with_reducible refine (tendrilnum_At.calls 42 x5_1 t214 t215 t216 t217 _ A38.out).mono ?_); rintro e w39 ⟨v218, rfl, ho0, hb⟩; refine ⟨_, rfl, ?_⟩; have n0_ := Aside0.mk (Kd.N_lower (Kd.N_mono (ok' := fun k_ => (w.heap.size ≤ k_) ∧ k_ ≠ gb189 ∧ k_ ≠ gb190) (Kd.R_N (Kd.R_bound ho0)) (fun k_ hk_ => ⟨(Nat.le_trans (below_size (by repeat (first | (with_reducible first | exact HB.out | apply below_alloc | apply pw_below_drewN | apply below_drew1 | refine below_set ?_ GE189.out | refine below_set ?_ GE190.out) | exact HB.out))) hk_.2.1), (Kd.freshB (g := gb189) (o := .cells #[.slice none 0 0, .slice none 0 0] 52 (0, 0)) (by (with_reducible repeat (first | refine blk_drewN ?_ _ | refine blk_drew ?_ | refine blk_alloc ?_ _)); exact BK189.out) k_ hk_.2.1), (Kd.freshB (g := gb190) (o := .cells #[.int .i64 x191000_1, .int .i64 x191001_1, .string x191002_1, .slice none 0 0] 33 (0, 0)) (by (with_reducible repeat (first | refine blk_drewN ?_ _ | refine blk_drew ?_ | refine blk_alloc ?_ _)); exact BK190.out) k_ hk_.2.1)⟩)) (below_size (by repeat (first | (with_reducible first | exact HB.out | apply below_alloc | apply pw_below_drewN | apply below_drew1 | refine below_set ?_ GE189.out | refine below_set ?_ GE190.out) | exact HB.out)))); have n1_ := Aside0.mk (blk_below (g := gb189) (o := .cells #[.slice none 0 0, .slice none 0 0] 52 (0, 0)) (by (with_reducible repeat (first | refine blk_drewN ?_ _ | refine blk_drew ?_ | refine blk_alloc ?_ _)); exact BK189.out) hb); have n2_ := Aside0.mk (blk_below (g := gb190) (o := .cells #[.int .i64 x191000_1, .int .i64 x191001_1, .string x191002_1, .slice none 0 0] 33 (0, 0)) (by (with_reducible repeat (first | refine blk_drewN ?_ _ | refine blk_drew ?_ | refine blk_alloc ?_ _)); exact BK190.out) hb); have n3_ := Aside0.mk (below_step (by repeat (first | (with_reducible first | exact HB.out | apply below_alloc | apply pw_below_drewN | apply below_drew1 | refine below_set ?_ GE189.out | refine below_set ?_ GE190.out) | exact HB.out)) hb); clear BK189; clear BK190; clear HB; have HO219 := n0_; have BK189 := n1_; have BK190 := n2_; have HB := n3_; clear n0_ n1_ n2_ n3_; (try clear hb); (try clear hb2); (try clear hk); (try clear hi); (try clear ho0); have hnb40 := NB189_190.out; have hnc40 := NB190_189.out; have hcz41_0 : w39.cell? ⟨gb189, 0, none⟩ = some (.slice none 0 0) := (blk_cell BK189.out 0).trans rfl; have hcz41_1 : w39.cell? ⟨gb189, 1, none⟩ = some (.slice none 0 0) := (blk_cell BK189.out 1).trans rfl; have hfz41_0 := blk_frozen BK189.out 0; have hfz41_1 := blk_frozen BK189.out 1; have hcz42_0 : w39.cell? ⟨gb190, 0, none⟩ = some (.int .i64 x191000_1) := (blk_cell BK190.out 0).trans rfl; have hcz42_1 : w39.cell? ⟨gb190, 1, none⟩ = some (.int .i64 x191001_1) := (blk_cell BK190.out 1).trans rfl; have hcz42_2 : w39.cell? ⟨gb190, 2, none⟩ = some (.string x191002_1) := (blk_cell BK190.out 2).trans rfl; have hcz42_3 : w39.cell? ⟨gb190, 3, none⟩ = some (.slice none 0 0) := (blk_cell BK190.out 3).trans rfl; have hfz42_0 := blk_frozen BK190.out 0; have hfz42_1 := blk_frozen BK190.out 1; have hfz42_2 := blk_frozen BK190.out 2; have hfz42_3 := blk_frozen BK190.out 3; obtain ⟨Ao43, co43, eo43⟩ := Kd.N_slice HO219.out; subst eo43))
            refine bodyPost_ret (results_cc rfl _ _ gb189 gb190 52 33 #[.slice none 0 0, .slice none 0 0] #[.int .i64 t214, .int .i64 t215, .string t216, .slice Ao43 t217.length co43] (0, 0) (0, 0) _ _ rfl (by (with_reducible repeat (first | refine blk_drewN ?_ _ | refine blk_drew ?_ | refine blk_alloc ?_ _)); refine blk_far ?_ NB189_190.out _; (with_reducible repeat (first | refine blk_drewN ?_ _ | refine blk_drew ?_ | refine blk_alloc ?_ _)); refine blk_far ?_ NB189_190.out _; (with_reducible repeat (first | refine blk_drewN ?_ _ | refine blk_drew ?_ | refine blk_alloc ?_ _)); refine blk_far ?_ NB189_190.out _; (with_reducible repeat (first | refine blk_drewN ?_ _ | refine blk_drew ?_ | refine blk_alloc ?_ _)); refine blk_far ?_ NB189_190.out _; (with_reducible repeat (first | refine blk_drewN ?_ _ | refine blk_drew ?_ | refine blk_alloc ?_ _)); refine blk_put (cs := #[.slice none 0 0, .slice none 0 0]) ?_ 1 _ rfl; (with_reducible repeat (first | refine blk_drewN ?_ _ | refine blk_drew ?_ | refine blk_alloc ?_ _)); refine blk_put (cs := #[.slice none 0 0, .slice none 0 0]) ?_ 0 _ rfl; (with_reducible repeat (first | refine blk_drewN ?_ _ | refine blk_drew ?_ | refine blk_alloc ?_ _)); exact BK189.out) Try.underlying52 rfl (by kernel_rfl) rfl (by (with_reducible repeat (first | refine blk_drewN ?_ _ | refine blk_drew ?_ | refine blk_alloc ?_ _)); refine blk_put (cs := #[.int .i64 t214, .int .i64 t215, .string t216, .slice none 0 0]) ?_ 3 _ rfl; (with_reducible repeat (first | refine blk_drewN ?_ _ | refine blk_drew ?_ | refine blk_alloc ?_ _)); refine blk_put (cs := #[.int .i64 t214, .int .i64 t215, .string x191002_1, .slice none 0 0]) ?_ 2 _ rfl; (with_reducible repeat (first | refine blk_drewN ?_ _ | refine blk_drew ?_ | refine blk_alloc ?_ _)); refine blk_put (cs := #[.int .i64 t214, .int .i64 x191001_1, .string x191002_1, .slice none 0 0]) ?_ 1 _ rfl; (with_reducible repeat (first | refine blk_drewN ?_ _ | refine blk_drew ?_ | refine blk_alloc ?_ _)); refine blk_put (cs := #[.int .i64 x191000_1, .int .i64 x191001_1, .string x191002_1, .slice none 0 0]) ?_ 0 _ rfl; (with_reducible repeat (first | refine blk_drewN ?_ _ | refine blk_drew ?_ | refine blk_alloc ?_ _)); refine blk_far ?_ NB190_189.out _; (with_reducible repeat (first | refine blk_drewN ?_ _ | refine blk_drew ?_ | refine blk_alloc ?_ _)); refine blk_far ?_ NB190_189.out _; (with_reducible repeat (first | refine blk_drewN ?_ _ | refine blk_drew ?_ | refine blk_alloc ?_ _)); exact BK190.out) Try.underlying33 rfl (by kernel_rfl)) rfl ?_
            exact ⟨_, _, _, by first | rfl | (simp [errW_none, errW_some] <;> rfl) | (simp [*, errW_none, errW_some] <;> rfl), by first | exact Kd.S_nil _ _ _ _ _ | exact Kd.N_nil _ _ _ _ _ | exact Kd.V_nil _ _ _ _ _ | exact Kd.Q_nil _ _ _ _ _ | exact Kd.R_nil _ _ _ _ _, by first | exact Kd.R_nil _ _ _ _ _ | exact Kd.N_nil _ _ _ _ _ | exact Kd.V_nil _ _ _ _ _ | exact Kd.Q_nil _ _ _ _ _ | exact Kd.S_nil _ _ _ _ _, by (with_reducible repeat (first | apply Kd.N_alloc | apply Kd.N_drewN | apply Kd.N_drew)); exact Kd.N_mono (Kd.N_far (p := ⟨gb190, 3, none⟩) (Kd.N_far (p := ⟨gb190, 2, none⟩) (Kd.N_far (p := ⟨gb190, 1, none⟩) (Kd.N_far (p := ⟨gb190, 0, none⟩) (Kd.N_far (p := ⟨gb189, 1, none⟩) (Kd.N_far (p := ⟨gb189, 0, none⟩) (Kd.N_mono (Kd.N_mono HO219.out (fun k_ hk => (⟨hk, hk.2.1⟩ : _ ∧ k_ ≠ gb189))) (fun k_ hk => (⟨hk, hk.1.2.2⟩ : _ ∧ k_ ≠ gb190))) (fun _ hk => hk.1.2) (.slice none 0 0)) (fun _ hk => hk.1.2) (.slice none 0 0)) (fun _ hk => hk.2) (.int .i64 t214)) (fun _ hk => hk.2) (.int .i64 t215)) (fun _ hk => hk.2) (.string t216)) (fun _ hk => hk.2) (.slice Ao43 t217.length co43)) (fun _ hk => ⟨hk.1.1.1, ⟨(by simp [Value.ownBlock]), (by simp [Value.ownBlock])⟩⟩), by repeat (first | (with_reducible first | exact HB.out | apply below_alloc | apply pw_below_drewN | apply below_drew1 | refine below_set ?_ GE189.out | refine below_set ?_ GE190.out) | exact HB.out)⟩
          · rw [if_neg c37] at H
            have c37b0 : decide (4096 < x5_1) = false := decide_eq_false c37
            clear c37
            have H' := Aside0.mk H
            clear H
            go_wp2_with (first | ((with_reducible refine gate_dst (N := 8) rfl ?_); refine box_event ?hg (N := 8) ?hd (cs := #[.slice none 0 0, .slice none 0 0]) (t := 52) ?hr ?_; (case hd => rfl); (case hg => rfl); (case hr => first | (go_simp; done) | (go_simp; rfl)); intro gb220 hg w44 hbox hb; have n0_ := Aside0.mk (blk_below (g := gb189) (o := .cells #[.slice none 0 0, .slice none 0 0] 52 (0, 0)) (by (with_reducible repeat (first | refine blk_drewN ?_ _ | refine blk_drew ?_ | refine blk_alloc ?_ _)); exact BK189.out) hb); have n1_ := Aside0.mk (blk_below (g := gb190) (o := .cells #[.int .i64 x191000_1, .int .i64 x191001_1, .string x191002_1, .slice none 0 0] 33 (0, 0)) (by (with_reducible repeat (first | refine blk_drewN ?_ _ | refine blk_drew ?_ | refine blk_alloc ?_ _)); exact BK190.out) hb); have n2_ := Aside0.mk (below_step (by repeat (first | (with_reducible first | exact HB.out | apply below_alloc | apply pw_below_drewN | apply below_drew1 | refine below_set ?_ GE189.out | refine below_set ?_ GE190.out) | exact HB.out)) hb); have n3_ := Aside0.mk (hbox); have n4_ := Aside0.mk ((by rw [hg]; exact (below_size (by repeat (first | (with_reducible first | exact HB.out | apply below_alloc | apply pw_below_drewN | apply below_drew1 | refine below_set ?_ GE189.out | refine below_set ?_ GE190.out) | exact HB.out))) : w.heap.size ≤ gb220)); have n5_ := Aside0.mk ((by rw [hg]; exact (below_size (by repeat (first | (with_reducible first | exact HB.out | apply below_alloc | apply pw_below_drewN | apply below_drew1 | refine below_set ?_ GE189.out | refine below_set ?_ GE190.out) | exact HB.out))) : w.heap.size ≤ gb220)); have n6_ := Aside0.mk ((by rw [hg]; exact Nat.ne_of_lt (blk_lt (g := gb189) (o := .cells #[.slice none 0 0, .slice none 0 0] 52 (0, 0)) (by (with_reducible repeat (first | refine blk_drewN ?_ _ | refine blk_drew ?_ | refine blk_alloc ?_ _)); exact BK189.out)) : gb189 ≠ gb220)); have n7_ := Aside0.mk ((by rw [hg]; exact Nat.ne_of_gt (blk_lt (g := gb189) (o := .cells #[.slice none 0 0, .slice none 0 0] 52 (0, 0)) (by (with_reducible repeat (first | refine blk_drewN ?_ _ | refine blk_drew ?_ | refine blk_alloc ?_ _)); exact BK189.out)) : gb220 ≠ gb189)); have n8_ := Aside0.mk ((by rw [hg]; exact Nat.ne_of_lt (blk_lt (g := gb190) (o := .cells #[.int .i64 x191000_1, .int .i64 x191001_1, .string x191002_1, .slice none 0 0] 33 (0, 0)) (by (with_reducible repeat (first | refine blk_drewN ?_ _ | refine blk_drew ?_ | refine blk_alloc ?_ _)); exact BK190.out)) : gb190 ≠ gb220)); have n9_ := Aside0.mk ((by rw [hg]; exact Nat.ne_of_gt (blk_lt (g := gb190) (o := .cells #[.int .i64 x191000_1, .int .i64 x191001_1, .string x191002_1, .slice none 0 0] 33 (0, 0)) (by (with_reducible repeat (first | refine blk_drewN ?_ _ | refine blk_drew ?_ | refine blk_alloc ?_ _)); exact BK190.out)) : gb220 ≠ gb190)); clear BK189; clear BK190; clear HB; have BK189 := n0_; have BK190 := n1_; have HB := n2_; have BK220 := n3_; have GW220 := n4_; have GE220 := n5_; have NB189_220 := n6_; have NB220_189 := n7_; have NB190_220 := n8_; have NB220_190 := n9_; clear n0_ n1_ n2_ n3_ n4_ n5_ n6_ n7_ n8_ n9_; clear hb hbox hg))
            go_loopg [9] k1 (fun kq v9 w' => ∃ (x9_2 : Int) (x221000_2 : List (S55)) (x221001_2 : List Int) (u221000 : Value) (u221001 : Value), v9 = .int .i64 x9_2 ∧ Aside0 (tendrilref04_Join.l1 kq l0 x9_2 x221000_2 x221001_2 = some (r1, r2, r3, r4, r5, r6)) ∧ Aside0 (kq ≤ k1) ∧ Aside0 (Kd.N k55 55 w' w.heap.size (fun k_ => (w.heap.size ≤ k_) ∧ some k_ ≠ (u221001 : Value).ownBlock ∧ k_ ≠ gb189 ∧ k_ ≠ gb190 ∧ k_ ≠ gb220) u221000 x221000_2) ∧ Aside0 (Kd.R (Kd.int .i64) 3 w' w.heap.size (fun k_ => (w.heap.size ≤ k_)) u221001 x221001_2) ∧ Aside0 (w'.heap[gb189]? = some (.cells #[(.slice none 0 0), (.slice none 0 0)] 52 (0, 0))) ∧ Aside0 (w'.heap[gb190]? = some (.cells #[.int .i64 x191000_1, .int .i64 x191001_1, .string x191002_1, (.slice none 0 0)] 33 (0, 0))) ∧ Aside0 (w'.heap[gb220]? = some (.cells #[u221000, u221001] 52 (0, 0))) ∧ Aside0 (Below w.heap.size w w'))
            case atStart => exact ⟨(0), (([] : List (S55))), (([] : List Int)), (.slice none 0 0), (.slice none 0 0), (by first | rfl | (simp; done) | (simp [*]; done)), H', ⟨Nat.le_refl _⟩, ⟨by first | exact Kd.S_nil _ _ _ _ _ | exact Kd.N_nil _ _ _ _ _ | exact Kd.V_nil _ _ _ _ _ | exact Kd.Q_nil _ _ _ _ _ | exact Kd.R_nil _ _ _ _ _⟩, ⟨by first | exact Kd.R_nil _ _ _ _ _ | exact Kd.N_nil _ _ _ _ _ | exact Kd.V_nil _ _ _ _ _ | exact Kd.Q_nil _ _ _ _ _ | exact Kd.S_nil _ _ _ _ _⟩, ⟨by (with_reducible repeat (first | refine blk_drewN ?_ _ | refine blk_drew ?_ | refine blk_alloc ?_ _)); exact BK189.out⟩, ⟨by (with_reducible repeat (first | refine blk_drewN ?_ _ | refine blk_drew ?_ | refine blk_alloc ?_ _)); exact BK190.out⟩, ⟨by (with_reducible repeat (first | refine blk_drewN ?_ _ | refine blk_drew ?_ | refine blk_alloc ?_ _)); exact BK220.out⟩, ⟨by repeat (first | (with_reducible first | exact HB.out | apply below_alloc | apply pw_below_drewN | apply below_drew1 | refine below_set ?_ GE189.out | refine below_set ?_ GE190.out | refine below_set ?_ GE220.out) | exact HB.out)⟩⟩
            case round =>
              clear H'
              try clear c1
              try clear p1
              try clear q1
              try clear hx1
              try clear c2
              try clear p2
              try clear q2
              try clear hx2
              try clear c3
              try clear c4
              try clear c4b0
              try clear c5
              try clear c5b0
              try clear c6
              try clear p6
              try clear c7
              try clear c8
              try clear c12
              try clear c13
              try clear c19
              try clear p19
              try clear q19
              try clear hx19
              try clear c20
              try clear p20
              try clear q20
              try clear hx20
              try clear c25
              try clear c26
              try clear c30
              try clear c30b0
              try clear c33
              try clear c36
              try clear c37
              try clear c37b0
              try clear c40
              try clear hcz14_0
              try clear hcz14_1
              try clear hcz14_2
              try clear hcz14_3
              try clear hcz17_0
              try clear hcz17_1
              try clear hcz17_2
              try clear hcz17_3
              try clear hcz20_0
              try clear hcz20_1
              try clear hcz21_0
              try clear hcz21_1
              try clear hcz21_2
              try clear hcz21_3
              try clear hcz27_0
              try clear hcz27_1
              try clear hcz27_2
              try clear hcz27_3
              try clear hcz34_0
              try clear hcz34_1
              try clear hcz35_0
              try clear hcz35_1
              try clear hcz35_2
              try clear hcz35_3
              try clear hcz41_0
              try clear hcz41_1
              try clear hcz42_0
              try clear hcz42_1
              try clear hcz42_2
              try clear hcz42_3
              try clear hfz14_0
              try clear hfz14_1
              try clear hfz14_2
              try clear hfz14_3
              try clear hfz17_0
              try clear hfz17_1
              try clear hfz17_2
              try clear hfz17_3
              try clear hfz20_0
              try clear hfz20_1
              try clear hfz21_0
              try clear hfz21_1
              try clear hfz21_2
              try clear hfz21_3
              try clear hfz27_0
              try clear hfz27_1
              try clear hfz27_2
              try clear hfz27_3
              try clear hfz34_0
              try clear hfz34_1
              try clear hfz35_0
              try clear hfz35_1
              try clear hfz35_2
              try clear hfz35_3
              try clear hfz41_0
              try clear hfz41_1
              try clear hfz42_0
              try clear hfz42_1
              try clear hfz42_2
              try clear hfz42_3
              try clear hx191_0
              try clear hx191_1
              try clear hx206_0
              try clear hx206_1
              try clear hx207_0
              try clear hx207_1
              try clear p191
              try clear p2
              try clear p206
              try clear p207
              try clear q191
              try clear q206
              try clear q207
              obtain ⟨x9_2, x221000_2, x221001_2, u221000, u221001, rfl, HA, HK2, HO_221000, HO_221001, BK189, BK190, BK220, HB⟩ := hrel
              cases gk with
              | zero => exact absurd HA.out (by simp [tendrilref04_Join.l1])
              | succ k2 =>
                have H := HA.out
                clear HA
                simp only [tendrilref04_Join.l1] at H
                by_cases c45 : x9_2 < (l0.length : Int)
                · rw [if_pos c45] at H
                  have c45b0 : decide (x9_2 < (l0.length : Int)) = true := decide_eq_true c45
                  clear c45
                  have H' := Aside0.mk H
                  clear H
                  have hnb46 := NB220_189.out
                  have hnc46 := NB189_220.out
                  have hnb47 := NB220_190.out
                  have hnc47 := NB190_220.out
                  have hcz48_0 : wr.cell? ⟨gb220, 0, none⟩ = some (u221000) := (blk_cell BK220.out 0).trans rfl
                  have hcz48_1 : wr.cell? ⟨gb220, 1, none⟩ = some (u221001) := (blk_cell BK220.out 1).trans rfl
                  have hfz48_0 := blk_frozen BK220.out 0
                  have hfz48_1 := blk_frozen BK220.out 1
                  obtain ⟨Ao49, co49, eo49⟩ := Kd.N_slice HO_221000.out
                  subst eo49
                  go_wp2
                  go_loopg [11] k2 (fun kq v11 w' => ∃ (x11_3 : Int) (x221000_3 : List (S55)) (u221000 : Value), v11 = .int .i64 x11_3 ∧ Aside0 (tendrilref04_Join.l2 kq l0 x9_2 (x221000_2.length : Int) x11_3 x221000_3 x221001_2 = some (r1, r2, r3, r4, r5, r6)) ∧ Aside0 (kq ≤ k2) ∧ Aside0 (Kd.N k55 55 w' w.heap.size (fun k_ => (w.heap.size ≤ k_) ∧ some k_ ≠ (u221001 : Value).ownBlock ∧ k_ ≠ gb189 ∧ k_ ≠ gb190 ∧ k_ ≠ gb220) u221000 x221000_3) ∧ Aside0 (Kd.R (Kd.int .i64) 3 w' w.heap.size (fun k_ => (w.heap.size ≤ k_)) u221001 x221001_2) ∧ Aside0 (w'.heap[gb189]? = some (.cells #[(.slice none 0 0), (.slice none 0 0)] 52 (0, 0))) ∧ Aside0 (w'.heap[gb190]? = some (.cells #[.int .i64 x191000_1, .int .i64 x191001_1, .string x191002_1, (.slice none 0 0)] 33 (0, 0))) ∧ Aside0 (w'.heap[gb220]? = some (.cells #[u221000, u221001] 52 (0, 0))) ∧ Aside0 (Below w.heap.size w w'))
                  case atStart => exact ⟨(0), (x221000_2), (.slice Ao49 x221000_2.length co49), (by first | rfl | (simp; done) | (simp [*]; done)), H', ⟨Nat.le_refl _⟩, ⟨by (with_reducible repeat (first | apply Kd.N_alloc | apply Kd.N_drewN | apply Kd.N_drew)); exact HO_221000.out⟩, ⟨by (with_reducible repeat (first | apply Kd.R_alloc | apply Kd.R_drewN | apply Kd.R_drew)); exact HO_221001.out⟩, ⟨by (with_reducible repeat (first | refine blk_drewN ?_ _ | refine blk_drew ?_ | refine blk_alloc ?_ _)); exact BK189.out⟩, ⟨by (with_reducible repeat (first | refine blk_drewN ?_ _ | refine blk_drew ?_ | refine blk_alloc ?_ _)); exact BK190.out⟩, ⟨by (with_reducible repeat (first | refine blk_drewN ?_ _ | refine blk_drew ?_ | refine blk_alloc ?_ _)); exact BK220.out⟩, ⟨by repeat (first | (with_reducible first | exact HB.out | apply below_alloc | apply pw_below_drewN | apply below_drew1 | refine below_set ?_ GE189.out | refine below_set ?_ GE190.out | refine below_set ?_ GE220.out) | exact HB.out)⟩⟩
                  case round =>
                    clear H'
                    try clear c1
                    try clear p1
                    try clear q1
                    try clear hx1
                    try clear c2
                    try clear p2
                    try clear q2
                    try clear hx2
                    try clear c3
                    try clear c4
                    try clear c4b0
                    try clear c5
                    try clear c5b0
                    try clear c6
                    try clear p6
                    try clear c7
                    try clear c8
                    try clear c12
                    try clear c13
                    try clear c19
                    try clear p19
                    try clear q19
                    try clear hx19
                    try clear c20
                    try clear p20
                    try clear q20
                    try clear hx20
                    try clear c25
                    try clear c26
                    try clear c30
                    try clear c30b0
                    try clear c33
                    try clear c36
                    try clear c37
                    try clear c37b0
                    try clear c40
                    try clear c45
                    try clear c45b0
                    try clear c46
                    try clear c47
                    try clear hcz14_0
                    try clear hcz14_1
                    try clear hcz14_2
                    try clear hcz14_3
                    try clear hcz17_0
                    try clear hcz17_1
                    try clear hcz17_2
                    try clear hcz17_3
                    try clear hcz20_0
                    try clear hcz20_1
                    try clear hcz21_0
                    try clear hcz21_1
                    try clear hcz21_2
                    try clear hcz21_3
                    try clear hcz27_0
                    try clear hcz27_1
                    try clear hcz27_2
                    try clear hcz27_3
                    try clear hcz34_0
                    try clear hcz34_1
                    try clear hcz35_0
                    try clear hcz35_1
                    try clear hcz35_2
                    try clear hcz35_3
                    try clear hcz41_0
                    try clear hcz41_1
                    try clear hcz42_0
                    try clear hcz42_1
                    try clear hcz42_2
                    try clear hcz42_3
                    try clear hcz48_0
                    try clear hcz48_1
                    try clear hfz14_0
                    try clear hfz14_1
                    try clear hfz14_2
                    try clear hfz14_3
                    try clear hfz17_0
                    try clear hfz17_1
                    try clear hfz17_2
                    try clear hfz17_3
                    try clear hfz20_0
                    try clear hfz20_1
                    try clear hfz21_0
                    try clear hfz21_1
                    try clear hfz21_2
                    try clear hfz21_3
                    try clear hfz27_0
                    try clear hfz27_1
                    try clear hfz27_2
                    try clear hfz27_3
                    try clear hfz34_0
                    try clear hfz34_1
                    try clear hfz35_0
                    try clear hfz35_1
                    try clear hfz35_2
                    try clear hfz35_3
                    try clear hfz41_0
                    try clear hfz41_1
                    try clear hfz42_0
                    try clear hfz42_1
                    try clear hfz42_2
                    try clear hfz42_3
                    try clear hfz48_0
                    try clear hfz48_1
                    try clear hx191_0
                    try clear hx191_1
                    try clear hx206_0
                    try clear hx206_1
                    try clear hx207_0
                    try clear hx207_1
                    try clear p1
                    try clear p19
                    try clear p191
                    try clear p2
                    try clear p20
                    try clear p206
                    try clear p207
                    try clear p6
                    try clear q1
                    try clear q19
                    try clear q191
                    try clear q2
                    try clear q20
                    try clear q206
                    try clear q207
                    obtain ⟨x11_3, x221000_3, u221000, rfl, HA, HK3, HO_221000, HO_221001, BK189, BK190, BK220, HB⟩ := hrel
                    cases gk with
                    | zero => exact absurd HA.out (by simp [tendrilref04_Join.l2])
                    | succ k3 =>
                      have H := HA.out
                      clear HA
                      simp only [tendrilref04_Join.l2] at H
                      by_cases c50 : 0 ≤ x9_2
                      · rw [if_pos c50] at H
                        have c50b0 : decide (0 ≤ x9_2) = true := decide_eq_true c50
                        clear c50
                        by_cases c51 : x9_2 < (l0.length : Int)
                        · rw [if_pos c51] at H
                          have c51b0 : decide (x9_2 < (l0.length : Int)) = true := decide_eq_true c51
                          clear c51
                          by_cases c52 : x11_3 < (((rd_T52 l0 x9_2).f0).length : Int)
                          · rw [if_pos c52] at H
                            have c52b0 : decide (x11_3 < (((rd_T52 l0 x9_2).f0).length : Int)) = true := decide_eq_true c52
                            clear c52
                            by_cases c53 : 0 ≤ x11_3
                            · rw [if_pos c53] at H
                              have c53b0 : decide (0 ≤ x11_3) = true := decide_eq_true c53
                              clear c53
                              have H' := Aside0.mk H
                              clear H
                              have p227 : 0 ≤ (x9_2 : Int) := of_decide_eq_true (by first | (with_reducible assumption) | assumption)
                              have q227 : x9_2 < (l0.length : Int) := of_decide_eq_true (by first | (with_reducible assumption) | assumption)
                              obtain ⟨ad227, A227_0, c227_0, A227_1, c227_1, e227, hx227_0, hx227_1, hl227_0, hi227_0, hl227_1, hi227_1⟩ := at_T52 HR0.out x9_2 p227 q227
                              cases e227
                              replace hx227_0 := (HB.out.cell (World.block_lt_of_cell? w _ hx227_0)).trans hx227_0
                              replace hx227_1 := (HB.out.cell (World.block_lt_of_cell? w _ hx227_1)).trans hx227_1
                              have HR227_0 := Aside0.mk hi227_0
                              have HC227_0 := Aside0.mk hl227_0
                              clear hi227_0 hl227_0
                              have HR227_1 := Aside0.mk hi227_1
                              have HC227_1 := Aside0.mk hl227_1
                              clear hi227_1 hl227_1
                              replace p227 := eq_true p227
                              replace q227 := eq_true q227
                              have p228 : 0 ≤ (x9_2 : Int) := of_decide_eq_true (by first | (with_reducible assumption) | assumption)
                              have q228 : x9_2 < (l0.length : Int) := of_decide_eq_true (by first | (with_reducible assumption) | assumption)
                              obtain ⟨ad228, A228_0, c228_0, A228_1, c228_1, e228, hx228_0, hx228_1, hl228_0, hi228_0, hl228_1, hi228_1⟩ := at_T52 HR0.out x9_2 p228 q228
                              obtain rfl : ad227 = ad228 := (by injection e228)
                              replace hx228_0 := (HB.out.cell (World.block_lt_of_cell? w _ hx228_0)).trans hx228_0
                              replace hx228_1 := (HB.out.cell (World.block_lt_of_cell? w _ hx228_1)).trans hx228_1
                              have HR228_0 := Aside0.mk hi228_0
                              have HC228_0 := Aside0.mk hl228_0
                              clear hi228_0 hl228_0
                              have HR228_1 := Aside0.mk hi228_1
                              have HC228_1 := Aside0.mk hl228_1
                              clear hi228_1 hl228_1
                              replace p228 := eq_true p228
                              replace q228 := eq_true q228
                              have ea_ := Option.some.inj (hx227_0.symm.trans hx228_0)
                              injection ea_ with ea_ en_ ec_
                              subst ea_
                              subst ec_
                              clear en_
                              have ea_ := Option.some.inj (hx227_1.symm.trans hx228_1)
                              injection ea_ with ea_ en_ ec_
                              subst ea_
                              subst ec_
                              clear en_
                              have p229 : 0 ≤ (x11_3 : Int) := of_decide_eq_true (by first | (with_reducible assumption) | assumption)
                              have q229 : x11_3 < (((rd_T52 l0 x9_2).f0).length : Int) := of_decide_eq_true (by first | (with_reducible assumption) | assumption)
                              obtain ⟨ad229, A229_3, c229_3, e229, hx229_0, hx229_1, hx229_2, hx229_3, hl229_3, hi229_3⟩ := at_T55 HR228_0.out x11_3 p229 q229
                              cases e229
                              replace hx229_0 := (HB.out.cell (World.block_lt_of_cell? w _ hx229_0)).trans hx229_0
                              replace hx229_1 := (HB.out.cell (World.block_lt_of_cell? w _ hx229_1)).trans hx229_1
                              replace hx229_2 := (HB.out.cell (World.block_lt_of_cell? w _ hx229_2)).trans hx229_2
                              replace hx229_3 := (HB.out.cell (World.block_lt_of_cell? w _ hx229_3)).trans hx229_3
                              have HR229_3 := Aside0.mk hi229_3
                              have HC229_3 := Aside0.mk hl229_3
                              clear hi229_3 hl229_3
                              replace p229 := eq_true p229
                              replace q229 := eq_true q229
                              go_wp2_with (first | ((with_reducible refine gate_dst (N := 12) rfl ?_); refine box_event ?hg (N := 12) ?hd (cs := #[.int .i64 0, .string (⟨#[]⟩ : ByteArray), .int .i64 0, .slice none 0 0]) (t := 55) ?hr ?_; (case hd => rfl); (case hg => rfl); (case hr => first | (go_simp; done) | (go_simp; rfl)); intro gb230 hg w54 hbox hb; have n0_ := Aside0.mk (Kd.N_below (Kd.N_elderB (by (with_reducible repeat (first | apply Kd.N_alloc | apply Kd.N_drewN | apply Kd.N_drew)); exact HO_221000.out) gb230 (Nat.le_of_eq hg.symm)) hb); have n1_ := Aside0.mk (Kd.R_below (by (with_reducible repeat (first | apply Kd.R_alloc | apply Kd.R_drewN | apply Kd.R_drew)); exact HO_221001.out) hb); have n2_ := Aside0.mk (blk_below (g := gb189) (o := .cells #[.slice none 0 0, .slice none 0 0] 52 (0, 0)) (by (with_reducible repeat (first | refine blk_drewN ?_ _ | refine blk_drew ?_ | refine blk_alloc ?_ _)); exact BK189.out) hb); have n3_ := Aside0.mk (blk_below (g := gb190) (o := .cells #[.int .i64 x191000_1, .int .i64 x191001_1, .string x191002_1, .slice none 0 0] 33 (0, 0)) (by (with_reducible repeat (first | refine blk_drewN ?_ _ | refine blk_drew ?_ | refine blk_alloc ?_ _)); exact BK190.out) hb); have n4_ := Aside0.mk (blk_below (g := gb220) (o := .cells #[u221000, u221001] 52 (0, 0)) (by (with_reducible repeat (first | refine blk_drewN ?_ _ | refine blk_drew ?_ | refine blk_alloc ?_ _)); exact BK220.out) hb); have n5_ := Aside0.mk (below_step (by repeat (first | (with_reducible first | exact HB.out | apply below_alloc | apply pw_below_drewN | apply below_drew1 | refine below_set ?_ GE189.out | refine below_set ?_ GE190.out | refine below_set ?_ GE220.out) | exact HB.out)) hb); have n6_ := Aside0.mk (hbox); have n7_ := Aside0.mk ((by rw [hg]; exact (below_size (by repeat (first | (with_reducible first | exact HB.out | apply below_alloc | apply pw_below_drewN | apply below_drew1 | refine below_set ?_ GE189.out | refine below_set ?_ GE190.out | refine below_set ?_ GE220.out) | exact HB.out))) : w.heap.size ≤ gb230)); have n8_ := Aside0.mk ((by rw [hg]; exact (below_size (by repeat (first | (with_reducible first | exact HB.out | apply below_alloc | apply pw_below_drewN | apply below_drew1 | refine below_set ?_ GE189.out | refine below_set ?_ GE190.out | refine below_set ?_ GE220.out) | exact HB.out))) : w.heap.size ≤ gb230)); have n9_ := Aside0.mk ((by rw [hg]; exact Nat.ne_of_lt (blk_lt (g := gb189) (o := .cells #[.slice none 0 0, .slice none 0 0] 52 (0, 0)) (by (with_reducible repeat (first | refine blk_drewN ?_ _ | refine blk_drew ?_ | refine blk_alloc ?_ _)); exact BK189.out)) : gb189 ≠ gb230)); have n10_ := Aside0.mk ((by rw [hg]; exact Nat.ne_of_gt (blk_lt (g := gb189) (o := .cells #[.slice none 0 0, .slice none 0 0] 52 (0, 0)) (by (with_reducible repeat (first | refine blk_drewN ?_ _ | refine blk_drew ?_ | refine blk_alloc ?_ _)); exact BK189.out)) : gb230 ≠ gb189)); have n11_ := Aside0.mk ((by rw [hg]; exact Nat.ne_of_lt (blk_lt (g := gb190) (o := .cells #[.int .i64 x191000_1, .int .i64 x191001_1, .string x191002_1, .slice none 0 0] 33 (0, 0)) (by (with_reducible repeat (first | refine blk_drewN ?_ _ | refine blk_drew ?_ | refine blk_alloc ?_ _)); exact BK190.out)) : gb190 ≠ gb230)); have n12_ := Aside0.mk ((by rw [hg]; exact Nat.ne_of_gt (blk_lt (g := gb190) (o := .cells #[.int .i64 x191000_1, .int .i64 x191001_1, .string x191002_1, .slice none 0 0] 33 (0, 0)) (by (with_reducible repeat (first | refine blk_drewN ?_ _ | refine blk_drew ?_ | refine blk_alloc ?_ _)); exact BK190.out)) : gb230 ≠ gb190)); have n13_ := Aside0.mk ((by rw [hg]; exact Nat.ne_of_lt (blk_lt (g := gb220) (o := .cells #[u221000, u221001] 52 (0, 0)) (by (with_reducible repeat (first | refine blk_drewN ?_ _ | refine blk_drew ?_ | refine blk_alloc ?_ _)); exact BK220.out)) : gb220 ≠ gb230)); have n14_ := Aside0.mk ((by rw [hg]; exact Nat.ne_of_gt (blk_lt (g := gb220) (o := .cells #[u221000, u221001] 52 (0, 0)) (by (with_reducible repeat (first | refine blk_drewN ?_ _ | refine blk_drew ?_ | refine blk_alloc ?_ _)); exact BK220.out)) : gb230 ≠ gb220)); clear HO_221000; clear HO_221001; clear BK189; clear BK190; clear BK220; clear HB; have HO_221000 := n0_; have HO_221001 := n1_; have BK189 := n2_; have BK190 := n3_; have BK220 := n4_; have HB := n5_; have BK230 := n6_; have GW230 := n7_; have GE230 := n8_; have NB189_230 := n9_; have NB230_189 := n10_; have NB190_230 := n11_; have NB230_190 := n12_; have NB220_230 := n13_; have NB230_220 := n14_; clear n0_ n1_ n2_ n3_ n4_ n5_ n6_ n7_ n8_ n9_ n10_ n11_ n12_ n13_ n14_; clear hb hbox hg; have hnb55 := NB230_189.out; have hnc55 := NB189_230.out; have hnb56 := NB230_190.out; have hnc56 := NB190_230.out; have hnb57 := NB230_220.out; have hnc57 := NB220_230.out; have hcz58_0 : w54.cell? ⟨gb230, 0, none⟩ = some (.int .i64 0) := (blk_cell BK230.out 0).trans rfl; have hcz58_1 : w54.cell? ⟨gb230, 1, none⟩ = some (.string (⟨#[]⟩ : ByteArray)) := (blk_cell BK230.out 1).trans rfl; have hcz58_2 : w54.cell? ⟨gb230, 2, none⟩ = some (.int .i64 0) := (blk_cell BK230.out 2).trans rfl; have hcz58_3 : w54.cell? ⟨gb230, 3, none⟩ = some (.slice none 0 0) := (blk_cell BK230.out 3).trans rfl; have hfz58_0 := blk_frozen BK230.out 0; have hfz58_1 := blk_frozen BK230.out 1; have hfz58_2 := blk_frozen BK230.out 2; have hfz58_3 := blk_frozen BK230.out 3))
                              go_loopg [13, 14] k3 (fun kq v13 v14 w' => ∃ (x13_4 : List Int) (x14_4 : Int), v14 = .int .i64 x14_4 ∧ Aside0 (tendrilref04_Join.l3 kq l0 x9_2 (x221000_2.length : Int) x11_3 x13_4 x14_4 x221000_3 x221001_2 ((rd_T55 ((rd_T52 l0 x9_2).f0) x11_3).f0) ((rd_T55 ((rd_T52 l0 x9_2).f0) x11_3).f1) ((rd_T55 ((rd_T52 l0 x9_2).f0) x11_3).f2) ((rd_T55 ((rd_T52 l0 x9_2).f0) x11_3).f3) = some (r1, r2, r3, r4, r5, r6)) ∧ Aside0 (kq ≤ k3) ∧ Aside0 (Kd.R (Kd.int .i64) 3 w' w.heap.size (fun k_ => (w.heap.size ≤ k_) ∧ some k_ ≠ (u221001 : Value).ownBlock) v13 x13_4) ∧ Aside0 (Kd.N k55 55 w' w.heap.size (fun k_ => (w.heap.size ≤ k_) ∧ some k_ ≠ (v13 : Value).ownBlock ∧ some k_ ≠ (u221001 : Value).ownBlock ∧ k_ ≠ gb189 ∧ k_ ≠ gb190 ∧ k_ ≠ gb220 ∧ k_ ≠ gb230) u221000 x221000_3) ∧ Aside0 (Kd.R (Kd.int .i64) 3 w' w.heap.size (fun k_ => (w.heap.size ≤ k_) ∧ some k_ ≠ (v13 : Value).ownBlock) u221001 x221001_2) ∧ Aside0 (w'.heap[gb189]? = some (.cells #[(.slice none 0 0), (.slice none 0 0)] 52 (0, 0))) ∧ Aside0 (w'.heap[gb190]? = some (.cells #[.int .i64 x191000_1, .int .i64 x191001_1, .string x191002_1, (.slice none 0 0)] 33 (0, 0))) ∧ Aside0 (w'.heap[gb220]? = some (.cells #[u221000, u221001] 52 (0, 0))) ∧ Aside0 (w'.heap[gb230]? = some (.cells #[.int .i64 ((rd_T55 ((rd_T52 l0 x9_2).f0) x11_3).f0), .string ((rd_T55 ((rd_T52 l0 x9_2).f0) x11_3).f1), .int .i64 ((rd_T55 ((rd_T52 l0 x9_2).f0) x11_3).f2), (.slice A229_3 ((rd_T55 ((rd_T52 l0 x9_2).f0) x11_3).f3).length c229_3)] 55 (0, 0))) ∧ Aside0 (Below w.heap.size w w'))
                              case atStart => exact ⟨(([] : List Int)), (0), (by first | rfl | (simp; done) | (simp [*]; done)), H', ⟨Nat.le_refl _⟩, ⟨by first | exact Kd.R_nil _ _ _ _ _ | exact Kd.N_nil _ _ _ _ _ | exact Kd.V_nil _ _ _ _ _ | exact Kd.Q_nil _ _ _ _ _ | exact Kd.S_nil _ _ _ _ _⟩, ⟨by (with_reducible repeat (first | apply Kd.N_alloc | apply Kd.N_drewN | apply Kd.N_drew)); exact Kd.N_mono (Kd.N_far (p := ⟨gb230, 3, none⟩) (Kd.N_far (p := ⟨gb230, 2, none⟩) (Kd.N_far (p := ⟨gb230, 1, none⟩) (Kd.N_far (p := ⟨gb230, 0, none⟩) (Kd.N_mono HO_221000.out (fun k_ hk => (⟨hk, hk.2⟩ : _ ∧ k_ ≠ gb230))) (fun _ hk => hk.2) (.int .i64 ((rd_T55 ((rd_T52 l0 x9_2).f0) x11_3).f0))) (fun _ hk => hk.2) (.string ((rd_T55 ((rd_T52 l0 x9_2).f0) x11_3).f1))) (fun _ hk => hk.2) (.int .i64 ((rd_T55 ((rd_T52 l0 x9_2).f0) x11_3).f2))) (fun _ hk => hk.2) (.slice A229_3 ((rd_T55 ((rd_T52 l0 x9_2).f0) x11_3).f3).length c229_3)) (fun _ hk => ⟨hk.1.1.1, ⟨(by simp [Value.ownBlock]), ⟨hk.1.1.2.1, ⟨hk.1.1.2.2.1, ⟨hk.1.1.2.2.2.1, ⟨hk.1.1.2.2.2.2, hk.1.2⟩⟩⟩⟩⟩⟩)⟩, ⟨by (with_reducible repeat (first | apply Kd.R_alloc | apply Kd.R_drewN | apply Kd.R_drew)); exact Kd.R_mono (Kd.R_far (p := ⟨gb230, 3, none⟩) (Kd.R_far (p := ⟨gb230, 2, none⟩) (Kd.R_far (p := ⟨gb230, 1, none⟩) (Kd.R_far (p := ⟨gb230, 0, none⟩) (Kd.R_types HO_221001.out BK230.out (by decide)) (fun _ hk => hk.2) (.int .i64 ((rd_T55 ((rd_T52 l0 x9_2).f0) x11_3).f0))) (fun _ hk => hk.2) (.string ((rd_T55 ((rd_T52 l0 x9_2).f0) x11_3).f1))) (fun _ hk => hk.2) (.int .i64 ((rd_T55 ((rd_T52 l0 x9_2).f0) x11_3).f2))) (fun _ hk => hk.2) (.slice A229_3 ((rd_T55 ((rd_T52 l0 x9_2).f0) x11_3).f3).length c229_3)) (fun _ hk => ⟨hk.1, (by simp [Value.ownBlock])⟩)⟩, ⟨by (with_reducible repeat (first | refine blk_drewN ?_ _ | refine blk_drew ?_ | refine blk_alloc ?_ _)); refine blk_far ?_ NB189_230.out _; (with_reducible repeat (first | refine blk_drewN ?_ _ | refine blk_drew ?_ | refine blk_alloc ?_ _)); refine blk_far ?_ NB189_230.out _; (with_reducible repeat (first | refine blk_drewN ?_ _ | refine blk_drew ?_ | refine blk_alloc ?_ _)); refine blk_far ?_ NB189_230.out _; (with_reducible repeat (first | refine blk_drewN ?_ _ | refine blk_drew ?_ | refine blk_alloc ?_ _)); refine blk_far ?_ NB189_230.out _; (with_reducible repeat (first | refine blk_drewN ?_ _ | refine blk_drew ?_ | refine blk_alloc ?_ _)); exact BK189.out⟩, ⟨by (with_reducible repeat (first | refine blk_drewN ?_ _ | refine blk_drew ?_ | refine blk_alloc ?_ _)); refine blk_far ?_ NB190_230.out _; (with_reducible repeat (first | refine blk_drewN ?_ _ | refine blk_drew ?_ | refine blk_alloc ?_ _)); refine blk_far ?_ NB190_230.out _; (with_reducible repeat (first | refine blk_drewN ?_ _ | refine blk_drew ?_ | refine blk_alloc ?_ _)); refine blk_far ?_ NB190_230.out _; (with_reducible repeat (first | refine blk_drewN ?_ _ | refine blk_drew ?_ | refine blk_alloc ?_ _)); refine blk_far ?_ NB190_230.out _; (with_reducible repeat (first | refine blk_drewN ?_ _ | refine blk_drew ?_ | refine blk_alloc ?_ _)); exact BK190.out⟩, ⟨by (with_reducible repeat (first | refine blk_drewN ?_ _ | refine blk_drew ?_ | refine blk_alloc ?_ _)); refine blk_far ?_ NB220_230.out _; (with_reducible repeat (first | refine blk_drewN ?_ _ | refine blk_drew ?_ | refine blk_alloc ?_ _)); refine blk_far ?_ NB220_230.out _; (with_reducible repeat (first | refine blk_drewN ?_ _ | refine blk_drew ?_ | refine blk_alloc ?_ _)); refine blk_far ?_ NB220_230.out _; (with_reducible repeat (first | refine blk_drewN ?_ _ | refine blk_drew ?_ | refine blk_alloc ?_ _)); refine blk_far ?_ NB220_230.out _; (with_reducible repeat (first | refine blk_drewN ?_ _ | refine blk_drew ?_ | refine blk_alloc ?_ _)); exact BK220.out⟩, ⟨by (with_reducible repeat (first | refine blk_drewN ?_ _ | refine blk_drew ?_ | refine blk_alloc ?_ _)); refine blk_put (cs := #[.int .i64 ((rd_T55 ((rd_T52 l0 x9_2).f0) x11_3).f0), .string ((rd_T55 ((rd_T52 l0 x9_2).f0) x11_3).f1), .int .i64 ((rd_T55 ((rd_T52 l0 x9_2).f0) x11_3).f2), .slice none 0 0]) ?_ 3 _ rfl; (with_reducible repeat (first | refine blk_drewN ?_ _ | refine blk_drew ?_ | refine blk_alloc ?_ _)); refine blk_put (cs := #[.int .i64 ((rd_T55 ((rd_T52 l0 x9_2).f0) x11_3).f0), .string ((rd_T55 ((rd_T52 l0 x9_2).f0) x11_3).f1), .int .i64 0, .slice none 0 0]) ?_ 2 _ rfl; (with_reducible repeat (first | refine blk_drewN ?_ _ | refine blk_drew ?_ | refine blk_alloc ?_ _)); refine blk_put (cs := #[.int .i64 ((rd_T55 ((rd_T52 l0 x9_2).f0) x11_3).f0), .string (⟨#[]⟩ : ByteArray), .int .i64 0, .slice none 0 0]) ?_ 1 _ rfl; (with_reducible repeat (first | refine blk_drewN ?_ _ | refine blk_drew ?_ | refine blk_alloc ?_ _)); refine blk_put (cs := #[.int .i64 0, .string (⟨#[]⟩ : ByteArray), .int .i64 0, .slice none 0 0]) ?_ 0 _ rfl; (with_reducible repeat (first | refine blk_drewN ?_ _ | refine blk_drew ?_ | refine blk_alloc ?_ _)); exact BK230.out⟩, ⟨by repeat (first | (with_reducible first | exact HB.out | apply below_alloc | apply pw_below_drewN | apply below_drew1 | refine below_set ?_ GE189.out | refine below_set ?_ GE190.out | refine below_set ?_ GE220.out | refine below_set ?_ GE230.out) | exact HB.out)⟩⟩
                              case round =>
                                clear H'
                                try clear c1
                                try clear p1
                                try clear q1
                                try clear hx1
                                try clear c2
                                try clear p2
                                try clear q2
                                try clear hx2
                                try clear c3
                                try clear c4
                                try clear c4b0
                                try clear c5
                                try clear c5b0
                                try clear c6
                                try clear p6
                                try clear c7
                                try clear c8
                                try clear c12
                                try clear c13
                                try clear c19
                                try clear p19
                                try clear q19
                                try clear hx19
                                try clear c20
                                try clear p20
                                try clear q20
                                try clear hx20
                                try clear c22
                                try clear p22
                                try clear q22
                                try clear hx22
                                try clear c25
                                try clear c26
                                try clear c30
                                try clear c30b0
                                try clear c33
                                try clear c36
                                try clear c37
                                try clear c37b0
                                try clear c40
                                try clear c45
                                try clear c45b0
                                try clear c46
                                try clear c47
                                try clear c50
                                try clear c50b0
                                try clear c51
                                try clear c51b0
                                try clear c52
                                try clear c52b0
                                try clear c53
                                try clear c53b0
                                try clear c55
                                try clear c56
                                try clear c57
                                try clear hcz14_0
                                try clear hcz14_1
                                try clear hcz14_2
                                try clear hcz14_3
                                try clear hcz17_0
                                try clear hcz17_1
                                try clear hcz17_2
                                try clear hcz17_3
                                try clear hcz20_0
                                try clear hcz20_1
                                try clear hcz21_0
                                try clear hcz21_1
                                try clear hcz21_2
                                try clear hcz21_3
                                try clear hcz27_0
                                try clear hcz27_1
                                try clear hcz27_2
                                try clear hcz27_3
                                try clear hcz34_0
                                try clear hcz34_1
                                try clear hcz35_0
                                try clear hcz35_1
                                try clear hcz35_2
                                try clear hcz35_3
                                try clear hcz41_0
                                try clear hcz41_1
                                try clear hcz42_0
                                try clear hcz42_1
                                try clear hcz42_2
                                try clear hcz42_3
                                try clear hcz48_0
                                try clear hcz48_1
                                try clear hcz58_0
                                try clear hcz58_1
                                try clear hcz58_2
                                try clear hcz58_3
                                try clear hfz14_0
                                try clear hfz14_1
                                try clear hfz14_2
                                try clear hfz14_3
                                try clear hfz17_0
                                try clear hfz17_1
                                try clear hfz17_2
                                try clear hfz17_3
                                try clear hfz20_0
                                try clear hfz20_1
                                try clear hfz21_0
                                try clear hfz21_1
                                try clear hfz21_2
                                try clear hfz21_3
                                try clear hfz27_0
                                try clear hfz27_1
                                try clear hfz27_2
                                try clear hfz27_3
                                try clear hfz34_0
                                try clear hfz34_1
                                try clear hfz35_0
                                try clear hfz35_1
                                try clear hfz35_2
                                try clear hfz35_3
                                try clear hfz41_0
                                try clear hfz41_1
                                try clear hfz42_0
                                try clear hfz42_1
                                try clear hfz42_2
                                try clear hfz42_3
                                try clear hfz48_0
                                try clear hfz48_1
                                try clear hfz58_0
                                try clear hfz58_1
                                try clear hfz58_2
                                try clear hfz58_3
                                try clear hx191_0
                                try clear hx191_1
                                try clear hx206_0
                                try clear hx206_1
                                try clear hx207_0
                                try clear hx207_1
                                try clear hx227_0
                                try clear hx227_1
                                try clear hx228_0
                                try clear hx228_1
                                try clear hx229_0
                                try clear hx229_1
                                try clear hx229_2
                                try clear hx229_3
                                try clear p1
                                try clear p19
                                try clear p191
                                try clear p2
                                try clear p20
                                try clear p206
                                try clear p207
                                try clear p227
                                try clear p228
                                try clear p229
                                try clear p6
                                try clear q1
                                try clear q19
                                try clear q191
                                try clear q2
                                try clear q20
                                try clear q206
                                try clear q207
                                try clear q227
                                try clear q228
                                try clear q229
                                obtain ⟨x13_4, x14_4, rfl, HA, HK4, HO_13, HO_221000, HO_221001, BK189, BK190, BK220, BK230, HB⟩ := hrel
                                cases gk with
                                | zero => exact absurd HA.out (by simp [tendrilref04_Join.l3])
                                | succ k4 =>
                                  have H := HA.out
                                  clear HA
                                  simp only [tendrilref04_Join.l3] at H
                                  by_cases c59 : x14_4 < (((rd_T55 ((rd_T52 l0 x9_2).f0) x11_3).f3).length : Int)
                                  · rw [if_pos c59] at H
                                    have c59b0 : decide (x14_4 < (((rd_T55 ((rd_T52 l0 x9_2).f0) x11_3).f3).length : Int)) = true := decide_eq_true c59
                                    clear c59
                                    by_cases c60 : 0 ≤ x14_4
                                    · rw [if_pos c60] at H
                                      have c60b0 : decide (0 ≤ x14_4) = true := decide_eq_true c60
                                      clear c60
                                      by_cases c61 : x13_4.length < 17592186044416
                                      · rw [if_pos c61] at H
                                        have LMc61 := Aside0.mk c61
                                        clear c61
                                        obtain ⟨y232, hy232⟩ : ∃ y_ : List Int, y_ = (x13_4 ++ [wrap64 ((rd ((rd_T55 ((rd_T52 l0 x9_2).f0) x11_3).f3) x14_4) + (x221000_2.length : Int))]) := ⟨_, rfl⟩
                                        replace H : (tendrilref04_Join.l3 k4 l0 x9_2 (x221000_2.length : Int) x11_3 y232 (wrap64 (x14_4 + 1)) x221000_3 x221001_2 ((rd_T55 ((rd_T52 l0 x9_2).f0) x11_3).f0) ((rd_T55 ((rd_T52 l0 x9_2).f0) x11_3).f1) ((rd_T55 ((rd_T52 l0 x9_2).f0) x11_3).f2) ((rd_T55 ((rd_T52 l0 x9_2).f0) x11_3).f3)) = some (r1, r2, r3, r4, r5, r6) := by first | (rw [hy232]; with_reducible exact H) | (have H2_ := (Option.bind_some _ _).symm.trans H; rw [hy232]; with_reducible exact H2_) | (have H2_ := (Option.bind_some _ _).symm.trans H; with_reducible exact H2_) | with_reducible exact H | (rw [hy232]; exact H) | exact H
                                        have Ny232 := Aside0.mk hy232
                                        clear hy232
                                        have H' := Aside0.mk H
                                        clear H
                                        have hnb62 := NB230_189.out
                                        have hnc62 := NB189_230.out
                                        have hnb63 := NB230_190.out
                                        have hnc63 := NB190_230.out
                                        have hnb64 := NB230_220.out
                                        have hnc64 := NB220_230.out
                                        have hcz65_0 : wr.cell? ⟨gb230, 0, none⟩ = some (.int .i64 ((rd_T55 ((rd_T52 l0 x9_2).f0) x11_3).f0)) := (blk_cell BK230.out 0).trans rfl
                                        have hcz65_1 : wr.cell? ⟨gb230, 1, none⟩ = some (.string ((rd_T55 ((rd_T52 l0 x9_2).f0) x11_3).f1)) := (blk_cell BK230.out 1).trans rfl
                                        have hcz65_2 : wr.cell? ⟨gb230, 2, none⟩ = some (.int .i64 ((rd_T55 ((rd_T52 l0 x9_2).f0) x11_3).f2)) := (blk_cell BK230.out 2).trans rfl
                                        have hcz65_3 : wr.cell? ⟨gb230, 3, none⟩ = some (.slice A229_3 ((rd_T55 ((rd_T52 l0 x9_2).f0) x11_3).f3).length c229_3) := (blk_cell BK230.out 3).trans rfl
                                        have hfz65_0 := blk_frozen BK230.out 0
                                        have hfz65_1 := blk_frozen BK230.out 1
                                        have hfz65_2 := blk_frozen BK230.out 2
                                        have hfz65_3 := blk_frozen BK230.out 3
                                        have p231 : 0 ≤ (x14_4 : Int) := of_decide_eq_true (by first | (with_reducible assumption) | assumption)
                                        have q231 : x14_4 < (((rd_T55 ((rd_T52 l0 x9_2).f0) x11_3).f3).length : Int) := of_decide_eq_true (by first | (with_reducible assumption) | assumption)
                                        obtain ⟨ad231, e231, hx231_0⟩ := Kd.at_int HR229_3.out x14_4 p231 q231
                                        cases e231
                                        replace hx231_0 := (HB.out.cell (World.block_lt_of_cell? w _ hx231_0)).trans hx231_0
                                        replace p231 := eq_true p231
                                        replace q231 := eq_true q231
                                        go_wp2_with (first | ((with_reducible refine gate_builtin (b := .append) (xs := #[.tmp 93, .tmp 101]) rfl ?_); at_builtin; refine Kd.R_append (Kd.int .i64) (w0 := w) w.heap.size rfl (.tmp 93) (.tmp 101) 50 3 (.int .i64 0) 8 rfl Try.underlying50 info3 rfl (by decide) (by omega) u13 x13_4 (wrap64 ((rd ((rd_T55 ((rd_T52 l0 x9_2).f0) x11_3).f3) x14_4) + (x221000_2.length : Int))) [.int .i64 (wrap64 ((rd ((rd_T55 ((rd_T52 l0 x9_2).f0) x11_3).f3) x14_4) + (x221000_2.length : Int)))] (fun k_ => (w.heap.size ≤ k_) ∧ some k_ ≠ (u221001 : Value).ownBlock) (fun _ => False) rfl rfl ?aP (fun _ hk => hk.elim) ?aF ?aO ?aB ?aS ?aL ?_; (case aP => exact rfl); (case aB => exact (by repeat (first | (with_reducible first | exact HB.out | apply below_alloc | apply pw_below_drewN | apply below_drew1 | refine below_set ?_ GE189.out | refine below_set ?_ GE190.out | refine below_set ?_ GE220.out | refine below_set ?_ GE230.out) | exact HB.out))); (case aF => exact (fun k_ hk => ⟨(Nat.le_trans (below_size (by repeat (first | (with_reducible first | exact HB.out | apply below_alloc | apply pw_below_drewN | apply below_drew1 | refine below_set ?_ GE189.out | refine below_set ?_ GE190.out | refine below_set ?_ GE220.out | refine below_set ?_ GE230.out) | exact HB.out))) hk), Kd.fresh' (Kd.R_lt (by (with_reducible repeat (first | apply Kd.R_alloc | apply Kd.R_drewN | apply Kd.R_drew)); exact HO_221001.out)) k_ hk⟩)); (case aO => exact (by (with_reducible repeat (first | apply Kd.R_alloc | apply Kd.R_drewN | apply Kd.R_drew)); exact HO_13.out)); (case aS => exact (below_size (by repeat (first | (with_reducible first | exact HB.out | apply below_alloc | apply pw_below_drewN | apply below_drew1 | refine below_set ?_ GE189.out | refine below_set ?_ GE190.out | refine below_set ?_ GE220.out | refine below_set ?_ GE230.out) | exact HB.out)))); (case aL => have := LMc61.out; omega); intro v233 w66 ho hb hg hat; rw [← Ny232.out] at ho; have n0_ := Aside0.mk (Kd.N_afterv (ok := (fun k_ => (w.heap.size ≤ k_) ∧ some k_ ≠ (u221001 : Value).ownBlock ∧ k_ ≠ gb189 ∧ k_ ≠ gb190 ∧ k_ ≠ gb220 ∧ k_ ≠ gb230)) (by (with_reducible repeat (first | apply Kd.N_alloc | apply Kd.N_drewN | apply Kd.N_drew)); exact Kd.N_mono HO_221000.out (fun _ hk => ⟨⟨hk.1, ⟨hk.2.2.1, ⟨hk.2.2.2.1, ⟨hk.2.2.2.2.1, ⟨hk.2.2.2.2.2.1, hk.2.2.2.2.2.2⟩⟩⟩⟩⟩, hk.2.1⟩)) hg hat); have n1_ := Aside0.mk (Kd.R_after (ok := (fun k_ => (w.heap.size ≤ k_))) (by (with_reducible repeat (first | apply Kd.R_alloc | apply Kd.R_drewN | apply Kd.R_drew)); exact HO_221001.out) hg hat); have n2_ := Aside0.mk (blk_grown (g := gb189) (o := .cells #[.slice none 0 0, .slice none 0 0] 52 (0, 0)) (by (with_reducible repeat (first | refine blk_drewN ?_ _ | refine blk_drew ?_ | refine blk_alloc ?_ _)); exact BK189.out) hg (Kd.R_ne HO_13.out BK189.out (by decide))); have n3_ := Aside0.mk (blk_grown (g := gb190) (o := .cells #[.int .i64 x191000_1, .int .i64 x191001_1, .string x191002_1, .slice none 0 0] 33 (0, 0)) (by (with_reducible repeat (first | refine blk_drewN ?_ _ | refine blk_drew ?_ | refine blk_alloc ?_ _)); exact BK190.out) hg (Kd.R_ne HO_13.out BK190.out (by decide))); have n4_ := Aside0.mk (blk_grown (g := gb220) (o := .cells #[u221000, u221001] 52 (0, 0)) (by (with_reducible repeat (first | refine blk_drewN ?_ _ | refine blk_drew ?_ | refine blk_alloc ?_ _)); exact BK220.out) hg (Kd.R_ne HO_13.out BK220.out (by decide))); have n5_ := Aside0.mk (blk_grown (g := gb230) (o := .cells #[.int .i64 ((rd_T55 ((rd_T52 l0 x9_2).f0) x11_3).f0), .string ((rd_T55 ((rd_T52 l0 x9_2).f0) x11_3).f1), .int .i64 ((rd_T55 ((rd_T52 l0 x9_2).f0) x11_3).f2), .slice (some ad231) ((rd_T55 ((rd_T52 l0 x9_2).f0) x11_3).f3).length c229_3] 55 (0, 0)) (by (with_reducible repeat (first | refine blk_drewN ?_ _ | refine blk_drew ?_ | refine blk_alloc ?_ _)); exact BK230.out) hg (Kd.R_ne HO_13.out BK230.out (by decide))); have n6_ := Aside0.mk (hb); have n7_ := Aside0.mk (ho); clear HO_221000; clear HO_221001; clear BK189; clear BK190; clear BK220; clear BK230; clear HB; clear HO_13; have HO_221000 := n0_; have HO_221001 := n1_; have BK189 := n2_; have BK190 := n3_; have BK220 := n4_; have BK230 := n5_; have HB := n6_; have HO234 := n7_; clear n0_ n1_ n2_ n3_ n4_ n5_ n6_ n7_; clear ho hb hg hat))
                                        go_roundg k4
                                        case measure => have := HK1.out; have := HK2.out; have := HK3.out; have := HK4.out; omega
                                        case rel => exact ⟨(y232), (wrap64 (x14_4 + 1)), (by first | rfl | (simp; done) | (simp [*]; done)), H', ⟨by have := HK1.out; have := HK2.out; have := HK3.out; have := HK4.out; omega⟩, ⟨by (with_reducible repeat (first | apply Kd.R_alloc | apply Kd.R_drewN | apply Kd.R_drew)); exact HO234.out⟩, ⟨by (with_reducible repeat (first | apply Kd.N_alloc | apply Kd.N_drewN | apply Kd.N_drew)); exact Kd.N_mono HO_221000.out (fun _ hk => ⟨hk.1.1, ⟨hk.2, ⟨hk.1.2.1, ⟨hk.1.2.2.1, ⟨hk.1.2.2.2.1, ⟨hk.1.2.2.2.2.1, hk.1.2.2.2.2.2⟩⟩⟩⟩⟩⟩)⟩, ⟨by (with_reducible repeat (first | apply Kd.R_alloc | apply Kd.R_drewN | apply Kd.R_drew)); exact HO_221001.out⟩, ⟨by (with_reducible repeat (first | refine blk_drewN ?_ _ | refine blk_drew ?_ | refine blk_alloc ?_ _)); exact BK189.out⟩, ⟨by (with_reducible repeat (first | refine blk_drewN ?_ _ | refine blk_drew ?_ | refine blk_alloc ?_ _)); exact BK190.out⟩, ⟨by (with_reducible repeat (first | refine blk_drewN ?_ _ | refine blk_drew ?_ | refine blk_alloc ?_ _)); exact BK220.out⟩, ⟨by (with_reducible repeat (first | refine blk_drewN ?_ _ | refine blk_drew ?_ | refine blk_alloc ?_ _)); exact BK230.out⟩, ⟨by repeat (first | (with_reducible first | exact HB.out | apply below_alloc | apply pw_below_drewN | apply below_drew1 | refine below_set ?_ GE189.out | refine below_set ?_ GE190.out | refine below_set ?_ GE220.out | refine below_set ?_ GE230.out) | exact HB.out)⟩⟩
                                      · rw [if_neg c61] at H
                                        exact absurd H (by simp)
                                    · rw [if_neg c60] at H
                                      exact absurd H (by simp)
                                  · rw [if_neg c59] at H
                                    have c59b0 : decide (x14_4 < (((rd_T55 ((rd_T52 l0 x9_2).f0) x11_3).f3).length : Int)) = false := decide_eq_false c59
                                    clear c59
                                    by_cases c67 : x221000_3.length < 2513169434916
                                    · rw [if_pos c67] at H
                                      have LMc67 := Aside0.mk c67
                                      clear c67
                                      obtain ⟨y235, hy235⟩ : ∃ y_ : List (S55), y_ = (x221000_3 ++ [(⟨((rd_T55 ((rd_T52 l0 x9_2).f0) x11_3).f0), ((rd_T55 ((rd_T52 l0 x9_2).f0) x11_3).f1), ((rd_T55 ((rd_T52 l0 x9_2).f0) x11_3).f2), x13_4⟩ : S55)]) := ⟨_, rfl⟩
                                      replace H : (tendrilref04_Join.l2 k4 l0 x9_2 (x221000_2.length : Int) (wrap64 (x11_3 + 1)) y235 x221001_2) = some (r1, r2, r3, r4, r5, r6) := by first | (rw [hy235]; with_reducible exact H) | (have H2_ := (Option.bind_some _ _).symm.trans H; rw [hy235]; with_reducible exact H2_) | (have H2_ := (Option.bind_some _ _).symm.trans H; with_reducible exact H2_) | with_reducible exact H | (rw [hy235]; exact H) | exact H
                                      have Ny235 := Aside0.mk hy235
                                      clear hy235
                                      have H' := Aside0.mk H
                                      clear H
                                      have hnb68 := NB230_189.out
                                      have hnc68 := NB189_230.out
                                      have hnb69 := NB230_190.out
                                      have hnc69 := NB190_230.out
                                      have hnb70 := NB230_220.out
                                      have hnc70 := NB220_230.out
                                      have hcz71_0 : wr.cell? ⟨gb230, 0, none⟩ = some (.int .i64 ((rd_T55 ((rd_T52 l0 x9_2).f0) x11_3).f0)) := (blk_cell BK230.out 0).trans rfl
                                      have hcz71_1 : wr.cell? ⟨gb230, 1, none⟩ = some (.string ((rd_T55 ((rd_T52 l0 x9_2).f0) x11_3).f1)) := (blk_cell BK230.out 1).trans rfl
                                      have hcz71_2 : wr.cell? ⟨gb230, 2, none⟩ = some (.int .i64 ((rd_T55 ((rd_T52 l0 x9_2).f0) x11_3).f2)) := (blk_cell BK230.out 2).trans rfl
                                      have hcz71_3 : wr.cell? ⟨gb230, 3, none⟩ = some (.slice A229_3 ((rd_T55 ((rd_T52 l0 x9_2).f0) x11_3).f3).length c229_3) := (blk_cell BK230.out 3).trans rfl
                                      have hfz71_0 := blk_frozen BK230.out 0
                                      have hfz71_1 := blk_frozen BK230.out 1
                                      have hfz71_2 := blk_frozen BK230.out 2
                                      have hfz71_3 := blk_frozen BK230.out 3
                                      obtain ⟨Ao72, co72, eo72⟩ := Kd.R_slice HO_13.out
                                      subst eo72
                                      go_wp2_with (first | ((with_reducible refine gate_store (t := 50) (p := 104) rfl ?_); refine store_event (t := 50) (p := 104) (v := ?vo_w73) (w1 := (wr.setCell ⟨gb230, 3, none⟩ (.slice Ao72 x13_4.length co72))) ?hg ?ho ?hn ?hr ?_; (case ho => rfl); (case hg => rfl); (case hn => rfl); (case hr => first | (go_simp; done) | (go_simp; rfl)); intro w73 hw; have n0_ : Aside0 (Kd.R (Kd.int .i64) 3 w73 w.heap.size (fun k_ => (w.heap.size ≤ k_) ∧ some k_ ≠ (u221001 : Value).ownBlock) (.slice Ao72 x13_4.length co72) x13_4) := ⟨(by rw [hw]; exact (by (with_reducible repeat (first | apply Kd.R_alloc | apply Kd.R_drewN | apply Kd.R_drew)); exact Kd.R_mono (Kd.R_far (p := ⟨gb230, 3, none⟩) (Kd.R_types HO_13.out BK230.out (by decide)) (fun _ hk => hk.2) (.slice Ao72 x13_4.length co72)) (fun _ hk => ⟨hk.1.1, hk.1.2⟩)))⟩; have n1_ : Aside0 (Kd.N k55 55 w73 w.heap.size (fun k_ => (w.heap.size ≤ k_) ∧ some k_ ≠ (.slice Ao72 x13_4.length co72 : Value).ownBlock ∧ some k_ ≠ (u221001 : Value).ownBlock ∧ k_ ≠ gb189 ∧ k_ ≠ gb190 ∧ k_ ≠ gb220 ∧ k_ ≠ gb230) u221000 x221000_3) := ⟨(by rw [hw]; exact (by (with_reducible repeat (first | apply Kd.N_alloc | apply Kd.N_drewN | apply Kd.N_drew)); exact Kd.N_mono (Kd.N_far (p := ⟨gb230, 3, none⟩) (Kd.N_mono HO_221000.out (fun k_ hk => (⟨hk, hk.2.2.2.2.2.2⟩ : _ ∧ k_ ≠ gb230))) (fun _ hk => hk.2) (.slice Ao72 x13_4.length co72)) (fun _ hk => ⟨hk.1.1, ⟨hk.1.2.1, ⟨hk.1.2.2.1, ⟨hk.1.2.2.2.1, ⟨hk.1.2.2.2.2.1, ⟨hk.1.2.2.2.2.2.1, hk.1.2.2.2.2.2.2⟩⟩⟩⟩⟩⟩)))⟩; have n2_ : Aside0 (Kd.R (Kd.int .i64) 3 w73 w.heap.size (fun k_ => (w.heap.size ≤ k_) ∧ some k_ ≠ (.slice Ao72 x13_4.length co72 : Value).ownBlock) u221001 x221001_2) := ⟨(by rw [hw]; exact (by (with_reducible repeat (first | apply Kd.R_alloc | apply Kd.R_drewN | apply Kd.R_drew)); exact Kd.R_mono (Kd.R_far (p := ⟨gb230, 3, none⟩) (Kd.R_types HO_221001.out BK230.out (by decide)) (fun _ hk => hk.2) (.slice Ao72 x13_4.length co72)) (fun _ hk => ⟨hk.1.1, hk.1.2⟩)))⟩; have n3_ : Aside0 (w73.heap[gb189]? = some (.cells #[.slice none 0 0, .slice none 0 0] 52 (0, 0))) := ⟨(by rw [hw]; exact (by (with_reducible repeat (first | refine blk_drewN ?_ _ | refine blk_drew ?_ | refine blk_alloc ?_ _)); refine blk_far ?_ NB189_230.out _; (with_reducible repeat (first | refine blk_drewN ?_ _ | refine blk_drew ?_ | refine blk_alloc ?_ _)); exact BK189.out))⟩; have n4_ : Aside0 (w73.heap[gb190]? = some (.cells #[.int .i64 x191000_1, .int .i64 x191001_1, .string x191002_1, .slice none 0 0] 33 (0, 0))) := ⟨(by rw [hw]; exact (by (with_reducible repeat (first | refine blk_drewN ?_ _ | refine blk_drew ?_ | refine blk_alloc ?_ _)); refine blk_far ?_ NB190_230.out _; (with_reducible repeat (first | refine blk_drewN ?_ _ | refine blk_drew ?_ | refine blk_alloc ?_ _)); exact BK190.out))⟩; have n5_ : Aside0 (w73.heap[gb220]? = some (.cells #[u221000, u221001] 52 (0, 0))) := ⟨(by rw [hw]; exact (by (with_reducible repeat (first | refine blk_drewN ?_ _ | refine blk_drew ?_ | refine blk_alloc ?_ _)); refine blk_far ?_ NB220_230.out _; (with_reducible repeat (first | refine blk_drewN ?_ _ | refine blk_drew ?_ | refine blk_alloc ?_ _)); exact BK220.out))⟩; have n6_ : Aside0 (w73.heap[gb230]? = some (.cells #[.int .i64 ((rd_T55 ((rd_T52 l0 x9_2).f0) x11_3).f0), .string ((rd_T55 ((rd_T52 l0 x9_2).f0) x11_3).f1), .int .i64 ((rd_T55 ((rd_T52 l0 x9_2).f0) x11_3).f2), .slice Ao72 x13_4.length co72] 55 (0, 0))) := ⟨(by rw [hw]; exact (by (with_reducible repeat (first | refine blk_drewN ?_ _ | refine blk_drew ?_ | refine blk_alloc ?_ _)); refine blk_put (cs := #[.int .i64 ((rd_T55 ((rd_T52 l0 x9_2).f0) x11_3).f0), .string ((rd_T55 ((rd_T52 l0 x9_2).f0) x11_3).f1), .int .i64 ((rd_T55 ((rd_T52 l0 x9_2).f0) x11_3).f2), .slice A229_3 ((rd_T55 ((rd_T52 l0 x9_2).f0) x11_3).f3).length c229_3]) ?_ 3 _ rfl; (with_reducible repeat (first | refine blk_drewN ?_ _ | refine blk_drew ?_ | refine blk_alloc ?_ _)); exact BK230.out))⟩; have n7_ : Aside0 (Below w.heap.size w w73) := ⟨(by rw [hw]; exact (by repeat (first | (with_reducible first | exact HB.out | apply below_alloc | apply pw_below_drewN | apply below_drew1 | refine below_set ?_ GE189.out | refine below_set ?_ GE190.out | refine below_set ?_ GE220.out | refine below_set ?_ GE230.out) | exact HB.out)))⟩; clear hw; clear HO_13; clear HO_221000; clear HO_221001; clear BK189; clear BK190; clear BK220; clear BK230; clear HB; have HO_13 := n0_; have HO_221000 := n1_; have HO_221001 := n2_; have BK189 := n3_; have BK190 := n4_; have BK220 := n5_; have BK230 := n6_; have HB := n7_; clear n0_ n1_ n2_ n3_ n4_ n5_ n6_ n7_; have hnb74 := NB220_189.out; have hnc74 := NB189_220.out; have hnb75 := NB220_190.out; have hnc75 := NB190_220.out; have hcz76_0 : w73.cell? ⟨gb220, 0, none⟩ = some (u221000) := (blk_cell BK220.out 0).trans rfl; have hcz76_1 : w73.cell? ⟨gb220, 1, none⟩ = some (u221001) := (blk_cell BK220.out 1).trans rfl; have hfz76_0 := blk_frozen BK220.out 0; have hfz76_1 := blk_frozen BK220.out 1; have hcz77_0 : w73.cell? ⟨gb230, 0, none⟩ = some (.int .i64 ((rd_T55 ((rd_T52 l0 x9_2).f0) x11_3).f0)) := (blk_cell BK230.out 0).trans rfl; have hcz77_1 : w73.cell? ⟨gb230, 1, none⟩ = some (.string ((rd_T55 ((rd_T52 l0 x9_2).f0) x11_3).f1)) := (blk_cell BK230.out 1).trans rfl; have hcz77_2 : w73.cell? ⟨gb230, 2, none⟩ = some (.int .i64 ((rd_T55 ((rd_T52 l0 x9_2).f0) x11_3).f2)) := (blk_cell BK230.out 2).trans rfl; have hcz77_3 : w73.cell? ⟨gb230, 3, none⟩ = some (.slice Ao72 x13_4.length co72) := (blk_cell BK230.out 3).trans rfl; have hfz77_0 := blk_frozen BK230.out 0; have hfz77_1 := blk_frozen BK230.out 1; have hfz77_2 := blk_frozen BK230.out 2; have hfz77_3 := blk_frozen BK230.out 3) | ((with_reducible refine gate_builtin (b := .append) (xs := #[.tmp 106, .tmp 108]) rfl ?_); at_builtin; refine Kd.N_append k55 (w0 := w) w.heap.size rfl (.tmp 106) (.tmp 108) 49 55 (.agg #[(.int .i64 0), (.string ⟨#[]⟩), (.int .i64 0), (.slice none 0 0)]) 56 rfl Try.underlying49 info55 rfl (by decide) (by omega) u221000 x221000_3 (⟨((rd_T55 ((rd_T52 l0 x9_2).f0) x11_3).f0), ((rd_T55 ((rd_T52 l0 x9_2).f0) x11_3).f1), ((rd_T55 ((rd_T52 l0 x9_2).f0) x11_3).f2), x13_4⟩ : S55) [.int .i64 ((rd_T55 ((rd_T52 l0 x9_2).f0) x11_3).f0), .string ((rd_T55 ((rd_T52 l0 x9_2).f0) x11_3).f1), .int .i64 ((rd_T55 ((rd_T52 l0 x9_2).f0) x11_3).f2), .slice Ao72 x13_4.length co72] (fun k_ => (w.heap.size ≤ k_) ∧ some k_ ≠ (u221001 : Value).ownBlock ∧ k_ ≠ gb189 ∧ k_ ≠ gb190 ∧ k_ ≠ gb220 ∧ k_ ≠ gb230) (fun k_ => ((fun k_ => (w.heap.size ≤ k_) ∧ some k_ ≠ (u221001 : Value).ownBlock ∧ k_ ≠ gb189 ∧ k_ ≠ gb190 ∧ k_ ≠ gb220 ∧ k_ ≠ gb230)) k_ ∧ some k_ ≠ (u221000 : Value).ownBlock) rfl rfl ?aP (fun _ hk => hk) ?aF ?aO ?aB ?aS ?aL ?_; (case aP => exact (k55_mkF _ _ (⟨((rd_T55 ((rd_T52 l0 x9_2).f0) x11_3).f0), ((rd_T55 ((rd_T52 l0 x9_2).f0) x11_3).f1), ((rd_T55 ((rd_T52 l0 x9_2).f0) x11_3).f2), x13_4⟩ : S55) (Kd.R_reads' (Kd.R_mono (ok' := (fun k_ => ((fun k_ => (w.heap.size ≤ k_) ∧ some k_ ≠ (u221001 : Value).ownBlock ∧ k_ ≠ gb189 ∧ k_ ≠ gb190 ∧ k_ ≠ gb220 ∧ k_ ≠ gb230)) k_ ∧ some k_ ≠ (u221000 : Value).ownBlock)) (Kd.R_types (Kd.R_types (Kd.R_types (Kd.R_types (Kd.R_apart' (HO_13.out) (Kd.N_typed HO_221000.out) (by decide)) BK189.out (by decide)) BK190.out (by decide)) BK220.out (by decide)) BK230.out (by decide)) (fun k_ hk => ⟨⟨hk.1.1.1.1.1.1, ⟨hk.1.1.1.1.1.2, ⟨hk.1.1.1.2, ⟨hk.1.1.2, ⟨hk.1.2, hk.2⟩⟩⟩⟩⟩, hk.1.1.1.1.2⟩))).2.1 (Kd.R_F (Kd.R_mono (ok' := (fun k_ => ((fun k_ => (w.heap.size ≤ k_) ∧ some k_ ≠ (u221001 : Value).ownBlock ∧ k_ ≠ gb189 ∧ k_ ≠ gb190 ∧ k_ ≠ gb220 ∧ k_ ≠ gb230)) k_ ∧ some k_ ≠ (u221000 : Value).ownBlock)) (Kd.R_types (Kd.R_types (Kd.R_types (Kd.R_types (Kd.R_apart' (HO_13.out) (Kd.N_typed HO_221000.out) (by decide)) BK189.out (by decide)) BK190.out (by decide)) BK220.out (by decide)) BK230.out (by decide)) (fun k_ hk => ⟨⟨hk.1.1.1.1.1.1, ⟨hk.1.1.1.1.1.2, ⟨hk.1.1.1.2, ⟨hk.1.1.2, ⟨hk.1.2, hk.2⟩⟩⟩⟩⟩, hk.1.1.1.1.2⟩))))); (case aB => exact (by repeat (first | (with_reducible first | exact HB.out | apply below_alloc | apply pw_below_drewN | apply below_drew1 | refine below_set ?_ GE189.out | refine below_set ?_ GE190.out | refine below_set ?_ GE220.out | refine below_set ?_ GE230.out) | exact HB.out))); (case aF => exact (fun k_ hk => ⟨(Nat.le_trans (below_size (by repeat (first | (with_reducible first | exact HB.out | apply below_alloc | apply pw_below_drewN | apply below_drew1 | refine below_set ?_ GE189.out | refine below_set ?_ GE190.out | refine below_set ?_ GE220.out | refine below_set ?_ GE230.out) | exact HB.out))) hk), Kd.fresh' (Kd.R_lt (by (with_reducible repeat (first | apply Kd.R_alloc | apply Kd.R_drewN | apply Kd.R_drew)); exact HO_221001.out)) k_ hk, Kd.freshB (g := gb189) (o := .cells #[.slice none 0 0, .slice none 0 0] 52 (0, 0)) (by (with_reducible repeat (first | refine blk_drewN ?_ _ | refine blk_drew ?_ | refine blk_alloc ?_ _)); exact BK189.out) k_ hk, Kd.freshB (g := gb190) (o := .cells #[.int .i64 x191000_1, .int .i64 x191001_1, .string x191002_1, .slice none 0 0] 33 (0, 0)) (by (with_reducible repeat (first | refine blk_drewN ?_ _ | refine blk_drew ?_ | refine blk_alloc ?_ _)); exact BK190.out) k_ hk, Kd.freshB (g := gb220) (o := .cells #[u221000, u221001] 52 (0, 0)) (by (with_reducible repeat (first | refine blk_drewN ?_ _ | refine blk_drew ?_ | refine blk_alloc ?_ _)); exact BK220.out) k_ hk, Kd.freshB (g := gb230) (o := .cells #[.int .i64 ((rd_T55 ((rd_T52 l0 x9_2).f0) x11_3).f0), .string ((rd_T55 ((rd_T52 l0 x9_2).f0) x11_3).f1), .int .i64 ((rd_T55 ((rd_T52 l0 x9_2).f0) x11_3).f2), .slice Ao72 x13_4.length co72] 55 (0, 0)) (by (with_reducible repeat (first | refine blk_drewN ?_ _ | refine blk_drew ?_ | refine blk_alloc ?_ _)); exact BK230.out) k_ hk⟩)); (case aO => exact (by (with_reducible repeat (first | apply Kd.N_alloc | apply Kd.N_drewN | apply Kd.N_drew)); exact Kd.N_mono HO_221000.out (fun _ hk => ⟨hk.1, ⟨hk.2.2.1, ⟨hk.2.2.2.1, ⟨hk.2.2.2.2.1, ⟨hk.2.2.2.2.2.1, hk.2.2.2.2.2.2⟩⟩⟩⟩⟩))); (case aS => exact (below_size (by repeat (first | (with_reducible first | exact HB.out | apply below_alloc | apply pw_below_drewN | apply below_drew1 | refine below_set ?_ GE189.out | refine below_set ?_ GE190.out | refine below_set ?_ GE220.out | refine below_set ?_ GE230.out) | exact HB.out)))); (case aL => have := LMc67.out; omega); intro v236 w78 ho hb hg hat; rw [← Ny235.out] at ho; have n0_ := Aside0.mk (Kd.R_over' (by (with_reducible repeat (first | apply Kd.R_alloc | apply Kd.R_drewN | apply Kd.R_drew)); exact HO_221001.out) (Kd.N_typed (by (with_reducible repeat (first | apply Kd.N_alloc | apply Kd.N_drewN | apply Kd.N_drew)); exact HO_221000.out)) (by decide) hg); have n1_ := Aside0.mk (blk_grown (g := gb189) (o := .cells #[.slice none 0 0, .slice none 0 0] 52 (0, 0)) (by (with_reducible repeat (first | refine blk_drewN ?_ _ | refine blk_drew ?_ | refine blk_alloc ?_ _)); exact BK189.out) hg (Kd.N_ne HO_221000.out BK189.out (by decide))); have n2_ := Aside0.mk (blk_grown (g := gb190) (o := .cells #[.int .i64 x191000_1, .int .i64 x191001_1, .string x191002_1, .slice none 0 0] 33 (0, 0)) (by (with_reducible repeat (first | refine blk_drewN ?_ _ | refine blk_drew ?_ | refine blk_alloc ?_ _)); exact BK190.out) hg (Kd.N_ne HO_221000.out BK190.out (by decide))); have n3_ := Aside0.mk (blk_grown (g := gb220) (o := .cells #[u221000, u221001] 52 (0, 0)) (by (with_reducible repeat (first | refine blk_drewN ?_ _ | refine blk_drew ?_ | refine blk_alloc ?_ _)); exact BK220.out) hg (Kd.N_ne HO_221000.out BK220.out (by decide))); have n4_ := Aside0.mk (blk_grown (g := gb230) (o := .cells #[.int .i64 ((rd_T55 ((rd_T52 l0 x9_2).f0) x11_3).f0), .string ((rd_T55 ((rd_T52 l0 x9_2).f0) x11_3).f1), .int .i64 ((rd_T55 ((rd_T52 l0 x9_2).f0) x11_3).f2), .slice Ao72 x13_4.length co72] 55 (0, 0)) (by (with_reducible repeat (first | refine blk_drewN ?_ _ | refine blk_drew ?_ | refine blk_alloc ?_ _)); exact BK230.out) hg (Kd.N_away HO_221000.out (fun _ hk => hk.2.2.2.2.2.2))); have n5_ := Aside0.mk (hb); have n6_ := Aside0.mk (ho); clear HO_221001; clear BK189; clear BK190; clear BK220; clear BK230; clear HB; clear HO_221000; clear HO_13; have HO_221001 := n0_; have BK189 := n1_; have BK190 := n2_; have BK220 := n3_; have BK230 := n4_; have HB := n5_; have HO237 := n6_; clear n0_ n1_ n2_ n3_ n4_ n5_ n6_; clear ho hb hg hat; obtain ⟨Ao79, co79, eo79⟩ := Kd.N_slice HO237.out; subst eo79; have hcz80_0 : w78.cell? ⟨gb220, 0, none⟩ = some (u221000) := (blk_cell BK220.out 0).trans rfl; have hcz80_1 : w78.cell? ⟨gb220, 1, none⟩ = some (u221001) := (blk_cell BK220.out 1).trans rfl; have hfz80_0 := blk_frozen BK220.out 0; have hfz80_1 := blk_frozen BK220.out 1))
                                      go_roundg k4
                                      case measure => have := HK1.out; have := HK2.out; have := HK3.out; have := HK4.out; omega
                                      case rel => exact ⟨(wrap64 (x11_3 + 1)), (y235), (.slice Ao79 y235.length co79), (by first | rfl | (simp; done) | (simp [*]; done)), H', ⟨by have := HK1.out; have := HK2.out; have := HK3.out; have := HK4.out; omega⟩, ⟨by (with_reducible repeat (first | apply Kd.N_alloc | apply Kd.N_drewN | apply Kd.N_drew)); exact Kd.N_mono (Kd.N_far (p := ⟨gb220, 0, none⟩) (Kd.N_mono HO237.out (fun k_ hk => (⟨hk, hk.2.2.2.2.1⟩ : _ ∧ k_ ≠ gb220))) (fun _ hk => hk.2) (.slice Ao79 y235.length co79)) (fun _ hk => ⟨hk.1.1, ⟨hk.1.2.1, ⟨hk.1.2.2.1, ⟨hk.1.2.2.2.1, hk.1.2.2.2.2.1⟩⟩⟩⟩)⟩, ⟨by (with_reducible repeat (first | apply Kd.R_alloc | apply Kd.R_drewN | apply Kd.R_drew)); exact Kd.R_mono (Kd.R_far (p := ⟨gb220, 0, none⟩) (Kd.R_types HO_221001.out BK220.out (by decide)) (fun _ hk => hk.2) (.slice Ao79 y235.length co79)) (fun _ hk => hk.1.1)⟩, ⟨by (with_reducible repeat (first | refine blk_drewN ?_ _ | refine blk_drew ?_ | refine blk_alloc ?_ _)); refine blk_far ?_ NB189_220.out _; (with_reducible repeat (first | refine blk_drewN ?_ _ | refine blk_drew ?_ | refine blk_alloc ?_ _)); exact BK189.out⟩, ⟨by (with_reducible repeat (first | refine blk_drewN ?_ _ | refine blk_drew ?_ | refine blk_alloc ?_ _)); refine blk_far ?_ NB190_220.out _; (with_reducible repeat (first | refine blk_drewN ?_ _ | refine blk_drew ?_ | refine blk_alloc ?_ _)); exact BK190.out⟩, ⟨by (with_reducible repeat (first | refine blk_drewN ?_ _ | refine blk_drew ?_ | refine blk_alloc ?_ _)); refine blk_put (cs := #[u221000, u221001]) ?_ 0 _ rfl; (with_reducible repeat (first | refine blk_drewN ?_ _ | refine blk_drew ?_ | refine blk_alloc ?_ _)); exact BK220.out⟩, ⟨by repeat (first | (with_reducible first | exact HB.out | apply below_alloc | apply pw_below_drewN | apply below_drew1 | refine below_set ?_ GE189.out | refine below_set ?_ GE190.out | refine below_set ?_ GE220.out | refine below_set ?_ GE230.out) | exact HB.out)⟩⟩
                                    · rw [if_neg c67] at H
                                      exact absurd H (by simp)
                            · rw [if_neg c53] at H
                              exact absurd H (by simp)
                          · rw [if_neg c52] at H
                            have c52b0 : decide (x11_3 < (((rd_T52 l0 x9_2).f0).length : Int)) = false := decide_eq_false c52
                            clear c52
                            have H' := Aside0.mk H
                            clear H
                            have p227 : 0 ≤ (x9_2 : Int) := of_decide_eq_true (by first | (with_reducible assumption) | assumption)
                            have q227 : x9_2 < (l0.length : Int) := of_decide_eq_true (by first | (with_reducible assumption) | assumption)
                            obtain ⟨ad227, A227_0, c227_0, A227_1, c227_1, e227, hx227_0, hx227_1, hl227_0, hi227_0, hl227_1, hi227_1⟩ := at_T52 HR0.out x9_2 p227 q227
                            cases e227
                            replace hx227_0 := (HB.out.cell (World.block_lt_of_cell? w _ hx227_0)).trans hx227_0
                            replace hx227_1 := (HB.out.cell (World.block_lt_of_cell? w _ hx227_1)).trans hx227_1
                            have HR227_0 := Aside0.mk hi227_0
                            have HC227_0 := Aside0.mk hl227_0
                            clear hi227_0 hl227_0
                            have HR227_1 := Aside0.mk hi227_1
                            have HC227_1 := Aside0.mk hl227_1
                            clear hi227_1 hl227_1
                            replace p227 := eq_true p227
                            replace q227 := eq_true q227
                            go_wp2
                            go_loopg [15] k3 (fun kq v15 w' => ∃ (x15_4 : Int) (x221001_4 : List Int) (u221001 : Value), v15 = .int .i64 x15_4 ∧ Aside0 (tendrilref04_Join.l4 kq l0 x9_2 (x221000_2.length : Int) x15_4 x221000_3 x221001_4 = some (r1, r2, r3, r4, r5, r6)) ∧ Aside0 (kq ≤ k3) ∧ Aside0 (Kd.N k55 55 w' w.heap.size (fun k_ => (w.heap.size ≤ k_) ∧ some k_ ≠ (u221001 : Value).ownBlock ∧ k_ ≠ gb189 ∧ k_ ≠ gb190 ∧ k_ ≠ gb220) u221000 x221000_3) ∧ Aside0 (Kd.R (Kd.int .i64) 3 w' w.heap.size (fun k_ => (w.heap.size ≤ k_)) u221001 x221001_4) ∧ Aside0 (w'.heap[gb189]? = some (.cells #[(.slice none 0 0), (.slice none 0 0)] 52 (0, 0))) ∧ Aside0 (w'.heap[gb190]? = some (.cells #[.int .i64 x191000_1, .int .i64 x191001_1, .string x191002_1, (.slice none 0 0)] 33 (0, 0))) ∧ Aside0 (w'.heap[gb220]? = some (.cells #[u221000, u221001] 52 (0, 0))) ∧ Aside0 (Below w.heap.size w w'))
                            case atStart => exact ⟨(0), (x221001_2), (u221001), (by first | rfl | (simp; done) | (simp [*]; done)), H', ⟨Nat.le_refl _⟩, ⟨by (with_reducible repeat (first | apply Kd.N_alloc | apply Kd.N_drewN | apply Kd.N_drew)); exact HO_221000.out⟩, ⟨by (with_reducible repeat (first | apply Kd.R_alloc | apply Kd.R_drewN | apply Kd.R_drew)); exact HO_221001.out⟩, ⟨by (with_reducible repeat (first | refine blk_drewN ?_ _ | refine blk_drew ?_ | refine blk_alloc ?_ _)); exact BK189.out⟩, ⟨by (with_reducible repeat (first | refine blk_drewN ?_ _ | refine blk_drew ?_ | refine blk_alloc ?_ _)); exact BK190.out⟩, ⟨by (with_reducible repeat (first | refine blk_drewN ?_ _ | refine blk_drew ?_ | refine blk_alloc ?_ _)); exact BK220.out⟩, ⟨by repeat (first | (with_reducible first | exact HB.out | apply below_alloc | apply pw_below_drewN | apply below_drew1 | refine below_set ?_ GE189.out | refine below_set ?_ GE190.out | refine below_set ?_ GE220.out) | exact HB.out)⟩⟩
                            case round =>
                              clear H'
                              try clear c1
                              try clear p1
                              try clear q1
                              try clear hx1
                              try clear c2
                              try clear p2
                              try clear q2
                              try clear hx2
                              try clear c3
                              try clear c4
                              try clear c4b0
                              try clear c5
                              try clear c5b0
                              try clear c6
                              try clear p6
                              try clear c7
                              try clear c8
                              try clear c12
                              try clear c13
                              try clear c19
                              try clear p19
                              try clear q19
                              try clear hx19
                              try clear c20
                              try clear p20
                              try clear q20
                              try clear hx20
                              try clear c22
                              try clear p22
                              try clear q22
                              try clear hx22
                              try clear p23
                              try clear q23
                              try clear hx23
                              try clear c25
                              try clear c26
                              try clear c30
                              try clear c30b0
                              try clear c33
                              try clear c36
                              try clear c37
                              try clear c37b0
                              try clear c40
                              try clear c45
                              try clear c45b0
                              try clear c46
                              try clear c47
                              try clear c50
                              try clear c50b0
                              try clear c51
                              try clear c51b0
                              try clear c52
                              try clear c52b0
                              try clear c53
                              try clear c53b0
                              try clear c55
                              try clear c56
                              try clear c57
                              try clear c59
                              try clear c59b0
                              try clear c60
                              try clear c60b0
                              try clear c61
                              try clear c62
                              try clear c63
                              try clear c64
                              try clear p64
                              try clear c67
                              try clear c68
                              try clear c69
                              try clear c70
                              try clear c74
                              try clear c75
                              try clear hcz14_0
                              try clear hcz14_1
                              try clear hcz14_2
                              try clear hcz14_3
                              try clear hcz17_0
                              try clear hcz17_1
                              try clear hcz17_2
                              try clear hcz17_3
                              try clear hcz20_0
                              try clear hcz20_1
                              try clear hcz21_0
                              try clear hcz21_1
                              try clear hcz21_2
                              try clear hcz21_3
                              try clear hcz27_0
                              try clear hcz27_1
                              try clear hcz27_2
                              try clear hcz27_3
                              try clear hcz34_0
                              try clear hcz34_1
                              try clear hcz35_0
                              try clear hcz35_1
                              try clear hcz35_2
                              try clear hcz35_3
                              try clear hcz41_0
                              try clear hcz41_1
                              try clear hcz42_0
                              try clear hcz42_1
                              try clear hcz42_2
                              try clear hcz42_3
                              try clear hcz48_0
                              try clear hcz48_1
                              try clear hcz58_0
                              try clear hcz58_1
                              try clear hcz58_2
                              try clear hcz58_3
                              try clear hcz65_0
                              try clear hcz65_1
                              try clear hcz65_2
                              try clear hcz65_3
                              try clear hcz71_0
                              try clear hcz71_1
                              try clear hcz71_2
                              try clear hcz71_3
                              try clear hcz76_0
                              try clear hcz76_1
                              try clear hcz77_0
                              try clear hcz77_1
                              try clear hcz77_2
                              try clear hcz77_3
                              try clear hcz80_0
                              try clear hcz80_1
                              try clear hfz14_0
                              try clear hfz14_1
                              try clear hfz14_2
                              try clear hfz14_3
                              try clear hfz17_0
                              try clear hfz17_1
                              try clear hfz17_2
                              try clear hfz17_3
                              try clear hfz20_0
                              try clear hfz20_1
                              try clear hfz21_0
                              try clear hfz21_1
                              try clear hfz21_2
                              try clear hfz21_3
                              try clear hfz27_0
                              try clear hfz27_1
                              try clear hfz27_2
                              try clear hfz27_3
                              try clear hfz34_0
                              try clear hfz34_1
                              try clear hfz35_0
                              try clear hfz35_1
                              try clear hfz35_2
                              try clear hfz35_3
                              try clear hfz41_0
                              try clear hfz41_1
                              try clear hfz42_0
                              try clear hfz42_1
                              try clear hfz42_2
                              try clear hfz42_3
                              try clear hfz48_0
                              try clear hfz48_1
                              try clear hfz58_0
                              try clear hfz58_1
                              try clear hfz58_2
                              try clear hfz58_3
                              try clear hfz65_0
                              try clear hfz65_1
                              try clear hfz65_2
                              try clear hfz65_3
                              try clear hfz71_0
                              try clear hfz71_1
                              try clear hfz71_2
                              try clear hfz71_3
                              try clear hfz76_0
                              try clear hfz76_1
                              try clear hfz77_0
                              try clear hfz77_1
                              try clear hfz77_2
                              try clear hfz77_3
                              try clear hfz80_0
                              try clear hfz80_1
                              try clear hx191_0
                              try clear hx191_1
                              try clear hx206_0
                              try clear hx206_1
                              try clear hx207_0
                              try clear hx207_1
                              try clear hx227_0
                              try clear hx227_1
                              try clear hx228_0
                              try clear hx228_1
                              try clear hx229_0
                              try clear hx229_1
                              try clear hx229_2
                              try clear hx229_3
                              try clear hx231_0
                              try clear p1
                              try clear p19
                              try clear p191
                              try clear p2
                              try clear p20
                              try clear p206
                              try clear p207
                              try clear p22
                              try clear p227
                              try clear p228
                              try clear p229
                              try clear p231
                              try clear p6
                              try clear q1
                              try clear q19
                              try clear q191
                              try clear q2
                              try clear q20
                              try clear q206
                              try clear q207
                              try clear q22
                              try clear q227
                              try clear q228
                              try clear q229
                              try clear q231
                              obtain ⟨x15_4, x221001_4, u221001, rfl, HA, HK4, HO_221000, HO_221001, BK189, BK190, BK220, HB⟩ := hrel
                              cases gk with
                              | zero => exact absurd HA.out (by simp [tendrilref04_Join.l4])
                              | succ k4 =>
                                have H := HA.out
                                clear HA
                                simp only [tendrilref04_Join.l4] at H
                                by_cases c81 : 0 ≤ x9_2
                                · rw [if_pos c81] at H
                                  have c81b0 : decide (0 ≤ x9_2) = true := decide_eq_true c81
                                  clear c81
                                  by_cases c82 : x9_2 < (l0.length : Int)
                                  · rw [if_pos c82] at H
                                    have c82b0 : decide (x9_2 < (l0.length : Int)) = true := decide_eq_true c82
                                    clear c82
                                    by_cases c83 : x15_4 < (((rd_T52 l0 x9_2).f1).length : Int)
                                    · rw [if_pos c83] at H
                                      have c83b0 : decide (x15_4 < (((rd_T52 l0 x9_2).f1).length : Int)) = true := decide_eq_true c83
                                      clear c83
                                      by_cases c84 : 0 ≤ x15_4
                                      · rw [if_pos c84] at H
                                        have c84b0 : decide (0 ≤ x15_4) = true := decide_eq_true c84
                                        clear c84
                                        by_cases c85 : x221001_4.length < 17592186044416
                                        · rw [if_pos c85] at H
                                          have LMc85 := Aside0.mk c85
                                          clear c85
                                          obtain ⟨y241, hy241⟩ : ∃ y_ : List Int, y_ = (x221001_4 ++ [wrap64 ((rd ((rd_T52 l0 x9_2).f1) x15_4) + (x221000_2.length : Int))]) := ⟨_, rfl⟩
                                          replace H : (tendrilref04_Join.l4 k4 l0 x9_2 (x221000_2.length : Int) (wrap64 (x15_4 + 1)) x221000_3 y241) = some (r1, r2, r3, r4, r5, r6) := by first | (rw [hy241]; with_reducible exact H) | (have H2_ := (Option.bind_some _ _).symm.trans H; rw [hy241]; with_reducible exact H2_) | (have H2_ := (Option.bind_some _ _).symm.trans H; with_reducible exact H2_) | with_reducible exact H | (rw [hy241]; exact H) | exact H
                                          have Ny241 := Aside0.mk hy241
                                          clear hy241
                                          have H' := Aside0.mk H
                                          clear H
                                          have p238 : 0 ≤ (x9_2 : Int) := of_decide_eq_true (by first | (with_reducible assumption) | assumption)
                                          have q238 : x9_2 < (l0.length : Int) := of_decide_eq_true (by first | (with_reducible assumption) | assumption)
                                          obtain ⟨ad238, A238_0, c238_0, A238_1, c238_1, e238, hx238_0, hx238_1, hl238_0, hi238_0, hl238_1, hi238_1⟩ := at_T52 HR0.out x9_2 p238 q238
                                          obtain rfl : ad227 = ad238 := (by injection e238)
                                          replace hx238_0 := (HB.out.cell (World.block_lt_of_cell? w _ hx238_0)).trans hx238_0
                                          replace hx238_1 := (HB.out.cell (World.block_lt_of_cell? w _ hx238_1)).trans hx238_1
                                          have HR238_0 := Aside0.mk hi238_0
                                          have HC238_0 := Aside0.mk hl238_0
                                          clear hi238_0 hl238_0
                                          have HR238_1 := Aside0.mk hi238_1
                                          have HC238_1 := Aside0.mk hl238_1
                                          clear hi238_1 hl238_1
                                          replace p238 := eq_true p238
                                          replace q238 := eq_true q238
                                          try go_wp2
                                          have n0_ := Aside0.mk (Kd.N_drew HO_221000.out)
                                          have n1_ := Aside0.mk (Kd.R_drew HO_221001.out)
                                          have n2_ := Aside0.mk (blk_drew BK189.out)
                                          have n3_ := Aside0.mk (blk_drew BK190.out)
                                          have n4_ := Aside0.mk (blk_drew BK220.out)
                                          have n5_ := Aside0.mk (below_drew1 HB.out)
                                          clear HO_221000
                                          clear HO_221001
                                          clear BK189
                                          clear BK190
                                          clear BK220
                                          clear HB
                                          have HO_221000 := n0_
                                          have HO_221001 := n1_
                                          have BK189 := n2_
                                          have BK190 := n3_
                                          have BK220 := n4_
                                          have HB := n5_
                                          clear n0_ n1_ n2_ n3_ n4_ n5_
                                          have p239 : 0 ≤ (x9_2 : Int) := of_decide_eq_true (by first | (with_reducible assumption) | assumption)
                                          have q239 : x9_2 < (l0.length : Int) := of_decide_eq_true (by first | (with_reducible assumption) | assumption)
                                          obtain ⟨ad239, A239_0, c239_0, A239_1, c239_1, e239, hx239_0, hx239_1, hl239_0, hi239_0, hl239_1, hi239_1⟩ := at_T52 HR0.out x9_2 p239 q239
                                          have hw239_1 := hx239_1
                                          have hw239_0 := hx239_0
                                          obtain rfl : ad227 = ad239 := (by injection e239)
                                          replace hx239_0 := (HB.out.cell (World.block_lt_of_cell? w _ hx239_0)).trans hx239_0
                                          replace hx239_1 := (HB.out.cell (World.block_lt_of_cell? w _ hx239_1)).trans hx239_1
                                          have HR239_0 := Aside0.mk hi239_0
                                          have HC239_0 := Aside0.mk hl239_0
                                          clear hi239_0 hl239_0
                                          have HR239_1 := Aside0.mk hi239_1
                                          have HC239_1 := Aside0.mk hl239_1
                                          clear hi239_1 hl239_1
                                          replace p239 := eq_true p239
                                          replace q239 := eq_true q239
                                          have p240 : 0 ≤ (x15_4 : Int) := of_decide_eq_true (by first | (with_reducible assumption) | assumption)
                                          have q240 : x15_4 < (((rd_T52 l0 x9_2).f1).length : Int) := of_decide_eq_true (by first | (with_reducible assumption) | assumption)
                                          obtain ⟨ad240, e240, hx240_0⟩ := Kd.at_int HR239_1.out x15_4 p240 q240
                                          have hw240_0 := hx240_0
                                          cases e240
                                          replace hx240_0 := (HB.out.cell (World.block_lt_of_cell? w _ hx240_0)).trans hx240_0
                                          replace p240 := eq_true p240
                                          replace q240 := eq_true q240
                                          refine start_ (n := 16) (S := fun w' => w'.cell? ⟨gb220, 0, none⟩ = some (u221000) ∧ w'.cell? ⟨gb220, 1, none⟩ = some (u221001) ∧ w'.cell? (ad227.add ((x9_2).toNat * 2)) = some (.slice A239_0 ((rd_T52 l0 x9_2).f0).length c239_0) ∧ w'.cell? ⟨(ad227.add ((x9_2).toNat * 2)).block, (ad227.add ((x9_2).toNat * 2)).off + 1, none⟩ = some (.slice (some ad240) ((rd_T52 l0 x9_2).f1).length c239_1) ∧ w'.cell? (ad240.add (x15_4).toNat) = some (.int .i64 (rd ((rd_T52 l0 x9_2).f1) x15_4))) (ds := [15]) #[false, false, false, false, false, false, false, false, false, false, false, false, false, false, false, false] (by kernel_rfl) rfl rfl ⟨(blk_cell BK220.out 0).trans rfl, (blk_cell BK220.out 1).trans rfl, ((HB.out.cell (World.block_lt_of_cell? w _ hw239_0)).trans hw239_0), ((HB.out.cell (World.block_lt_of_cell? w _ hw239_1)).trans hw239_1), ((HB.out.cell (World.block_lt_of_cell? w _ hw240_0)).trans hw240_0)⟩ (fun hHeld => ?_); refine with_tabW tendrilref04_Join.tab34 tendrilref04_Join.bits34 (fun HT_ HW_ => ?_)
                                          generalize wr.drew = w86 at HO_221000 HO_221001 BK189 BK190 BK220 HB HR239_0 HR239_1 hx239_0 hx239_1 hx240_0 hHeld ⊢
                                          refine pure_ (i := 0) (N := some 121) (v := ?_) (a' := ?_) #[true, false, false, false, false, false, false, false, false, false, false, false, false, false, false, false] rfl rfl (any_of HT_.out (by kernel_rfl)) (fun _ _ _ h => h) (Or.inl ⟨by rfl, ?_⟩) ?_ ?_
                                          rotate_left
                                          · intro w'
                                            go_simp
                                            with_reducible rfl
                                          rotate_left
                                          · simp only [Act.put, List.setIfInBounds_toArray, List.set_cons_zero, List.set_cons_succ, i64_w, i32_w]
                                            rfl
                                          refine pure_ (i := 2) (N := some 123) (v := ?_) (a' := ?_) #[true, false, true, false, false, false, false, false, false, false, false, false, false, false, false, false] rfl rfl (any_of HT_.out (by kernel_rfl)) (fun _ _ _ h => h) (Or.inl ⟨by rfl, ?_⟩) ?_ ?_
                                          rotate_left
                                          · intro w'
                                            go_simp
                                            with_reducible rfl
                                          rotate_left
                                          · simp only [Act.put, List.setIfInBounds_toArray, List.set_cons_zero, List.set_cons_succ, i64_w, i32_w]
                                            rfl
                                          refine pure_ (i := 3) (N := some 124) (v := ?_) (a' := ?_) #[true, false, true, true, false, false, false, false, false, false, false, false, false, false, false, false] rfl rfl (any_of HT_.out (by kernel_rfl)) (fun _ _ _ h => h) (Or.inl ⟨by rfl, ?_⟩) ?_ ?_
                                          rotate_left
                                          · intro w'
                                            go_simp
                                            with_reducible rfl
                                          rotate_left
                                          · simp only [Act.put, List.setIfInBounds_toArray, List.set_cons_zero, List.set_cons_succ, i64_w, i32_w]
                                            rfl
                                          refine pure_ (i := 4) (N := some 125) (v := ?_) (a' := ?_) #[true, false, true, true, true, false, false, false, false, false, false, false, false, false, false, false] rfl rfl (any_of HT_.out (by kernel_rfl)) (fun _ _ _ h => h) (Or.inl ⟨by rfl, ?_⟩) ?_ ?_
                                          rotate_left
                                          · intro w'
                                            go_simp
                                            with_reducible rfl
                                          rotate_left
                                          · simp only [Act.put, List.setIfInBounds_toArray, List.set_cons_zero, List.set_cons_succ, i64_w, i32_w]
                                            rfl
                                          refine pure_ (i := 5) (N := some 126) (v := ?_) (a' := ?_) #[true, false, true, true, true, true, false, false, false, false, false, false, false, false, false, false] rfl rfl (any_of HT_.out (by kernel_rfl)) (fun _ _ _ h => h) (Or.inl ⟨by rfl, ?_⟩) ?_ ?_
                                          rotate_left
                                          · intro w'
                                            go_simp
                                            with_reducible rfl
                                          rotate_left
                                          · simp only [Act.put, List.setIfInBounds_toArray, List.set_cons_zero, List.set_cons_succ, i64_w, i32_w]
                                            rfl
                                          refine pure_ (i := 7) (N := some 128) (v := ?_) (a' := ?_) #[true, false, true, true, true, true, false, true, false, false, false, false, false, false, false, false] rfl rfl (any_of HT_.out (by kernel_rfl)) (fun _ _ _ h => h) (Or.inl ⟨by rfl, ?_⟩) ?_ ?_
                                          rotate_left
                                          · intro w'
                                            go_simp
                                            with_reducible rfl
                                          rotate_left
                                          · simp only [Act.put, List.setIfInBounds_toArray, List.set_cons_zero, List.set_cons_succ, i64_w, i32_w]
                                            rfl
                                          refine pure_ (i := 10) (N := some 131) (v := ?_) (a' := ?_) #[true, false, true, true, true, true, false, true, false, false, true, false, false, false, false, false] rfl rfl (any_of HT_.out (by kernel_rfl)) (fun _ _ _ h => h) (Or.inl ⟨by rfl, ?_⟩) ?_ ?_
                                          rotate_left
                                          · intro w'
                                            go_simp
                                            with_reducible rfl
                                          rotate_left
                                          · simp only [Act.put, List.setIfInBounds_toArray, List.set_cons_zero, List.set_cons_succ, i64_w, i32_w]
                                            rfl
                                          refine take_ (i := 1) (N := some 122) (v := ?_) (a' := ?_) #[true, true, true, true, true, true, false, true, false, false, true, false, false, false, false, false] rfl rfl (take_ofW HT_.out HW_.out (by kernel_rfl)) (fun _ _ _ h => h) (Or.inl ⟨by rfl, ?_⟩) hHeld ?_ ?_
                                          rotate_left
                                          · rintro w' ⟨s0, s1, s2, s3, s4⟩
                                            go_simp
                                            with_reducible rfl
                                          rotate_left
                                          · simp only [Act.put, List.setIfInBounds_toArray, List.set_cons_zero, List.set_cons_succ, i64_w, i32_w]
                                            rfl
                                          refine take_ (i := 6) (N := some 127) (v := ?_) (a' := ?_) #[true, true, true, true, true, true, true, true, false, false, true, false, false, false, false, false] rfl rfl (take_ofW HT_.out HW_.out (by kernel_rfl)) (fun _ _ _ h => h) (Or.inl ⟨by rfl, ?_⟩) hHeld ?_ ?_
                                          rotate_left
                                          · rintro w' ⟨s0, s1, s2, s3, s4⟩
                                            go_simp
                                            with_reducible rfl
                                          rotate_left
                                          · simp only [Act.put, List.setIfInBounds_toArray, List.set_cons_zero, List.set_cons_succ, i64_w, i32_w]
                                            rfl
                                          refine pure_ (i := 8) (N := some 129) (v := ?_) (a' := ?_) #[true, true, true, true, true, true, true, true, true, false, true, false, false, false, false, false] rfl rfl (any_of HT_.out (by kernel_rfl)) (fun _ _ _ h => h) (Or.inl ⟨by rfl, ?_⟩) ?_ ?_
                                          rotate_left
                                          · intro w'
                                            go_simp
                                            with_reducible rfl
                                          rotate_left
                                          · simp only [Act.put, List.setIfInBounds_toArray, List.set_cons_zero, List.set_cons_succ, i64_w, i32_w]
                                            rfl
                                          refine take_ (i := 9) (N := some 130) (v := ?_) (a' := ?_) #[true, true, true, true, true, true, true, true, true, true, true, false, false, false, false, false] rfl rfl (take_ofW HT_.out HW_.out (by kernel_rfl)) (fun _ _ _ h => h) (Or.inl ⟨by rfl, ?_⟩) hHeld ?_ ?_
                                          rotate_left
                                          · rintro w' ⟨s0, s1, s2, s3, s4⟩
                                            go_simp
                                            with_reducible rfl
                                          rotate_left
                                          · simp only [Act.put, List.setIfInBounds_toArray, List.set_cons_zero, List.set_cons_succ, i64_w, i32_w]
                                            rfl
                                          refine pure_ (i := 11) (N := some 132) (v := ?_) (a' := ?_) #[true, true, true, true, true, true, true, true, true, true, true, true, false, false, false, false] rfl rfl (any_of HT_.out (by kernel_rfl)) (fun _ _ _ h => h) (Or.inl ⟨by rfl, ?_⟩) ?_ ?_
                                          rotate_left
                                          · intro w'
                                            go_simp
                                            with_reducible rfl
                                          rotate_left
                                          · simp only [Act.put, List.setIfInBounds_toArray, List.set_cons_zero, List.set_cons_succ, i64_w, i32_w]
                                            rfl
                                          refine one_ (i := 12) (N := some 133) #[true, true, true, true, true, true, true, true, true, true, true, true, true, false, false, false] rfl rfl (one_of HT_.out (by kernel_rfl)) (by decide) (fun K hK => ?_)
                                          refine value_ (w1 := ?_) (v := ?_) (by rfl) rfl ?_ ?_
                                          rotate_left 2
                                          · go_simp
                                            constructor
                                            · rfl
                                            · rfl
                                          refine hK.out _ _ ⟨(blk_cell (blk_alloc BK220.out _) 0).trans rfl, (blk_cell (blk_alloc BK220.out _) 1).trans rfl, (World.cell?_alloc_lt _ _ _ (World.block_lt_of_cell? _ _ (((HB.out.cell (World.block_lt_of_cell? w _ hw239_0)).trans hw239_0)))).trans (((HB.out.cell (World.block_lt_of_cell? w _ hw239_0)).trans hw239_0)), (World.cell?_alloc_lt _ _ _ (World.block_lt_of_cell? _ _ (((HB.out.cell (World.block_lt_of_cell? w _ hw239_1)).trans hw239_1)))).trans (((HB.out.cell (World.block_lt_of_cell? w _ hw239_1)).trans hw239_1)), (World.cell?_alloc_lt _ _ _ (World.block_lt_of_cell? _ _ (((HB.out.cell (World.block_lt_of_cell? w _ hw240_0)).trans hw240_0)))).trans (((HB.out.cell (World.block_lt_of_cell? w _ hw240_0)).trans hw240_0))⟩ (fun hHeld => ?_)
                                          clear hK K
                                          refine norm_ (a' := ?_) ?_ ?_
                                          rotate_left
                                          · show Act.put _ (some 133) _ = _
                                            simp only [Act.put, List.setIfInBounds_toArray, List.set_cons_zero, List.set_cons_succ, i64_w, i32_w]
                                            rfl
                                          refine one_ (i := 13) (N := some 134) #[true, true, true, true, true, true, true, true, true, true, true, true, true, true, false, false] rfl rfl (one_of HT_.out (by kernel_rfl)) (by decide) (fun K hK => ?_)
                                          refine Kd.R_append_step (Kd.int .i64) (w0 := w) w.heap.size (by rfl) (.tmp 122) (.tmp 133) 50 3 (.int .i64 0) 8 rfl Try.underlying50 info3 rfl (by decide) (by omega) u221001 x221001_4 (wrap64 ((rd ((rd_T52 l0 x9_2).f1) x15_4) + (x221000_2.length : Int))) [.int .i64 (wrap64 ((rd ((rd_T52 l0 x9_2).f1) x15_4) + (x221000_2.length : Int)))] (fun k_ => (w.heap.size ≤ k_)) (fun _ => False) rfl rfl ?aP (fun _ hk => hk.elim) ?aF ?aO ?aB ?aS ?aL ?_
                                          (case aP => exact rfl)
                                          (case aB => exact (by repeat (first | (with_reducible first | exact HB.out | apply below_alloc | apply pw_below_drewN | apply below_drew1 | refine below_set ?_ GE189.out | refine below_set ?_ GE190.out | refine below_set ?_ GE220.out) | exact HB.out)))
                                          (case aF => exact (fun k_ hk => (Nat.le_trans (below_size (by repeat (first | (with_reducible first | exact HB.out | apply below_alloc | apply pw_below_drewN | apply below_drew1 | refine below_set ?_ GE189.out | refine below_set ?_ GE190.out | refine below_set ?_ GE220.out) | exact HB.out))) hk)))
                                          (case aO => exact (by (with_reducible repeat (first | apply Kd.R_alloc | apply Kd.R_drewN | apply Kd.R_drew)); exact HO_221001.out))
                                          (case aS => exact (below_size (by repeat (first | (with_reducible first | exact HB.out | apply below_alloc | apply pw_below_drewN | apply below_drew1 | refine below_set ?_ GE189.out | refine below_set ?_ GE190.out | refine below_set ?_ GE220.out) | exact HB.out))))
                                          (case aL => have := LMc85.out; omega)
                                          intro v242 w87 ho hb hg hat
                                          rw [← Ny241.out] at ho
                                          have n0_ := Aside0.mk (Kd.N_afterv (ok := (fun k_ => (w.heap.size ≤ k_) ∧ k_ ≠ gb189 ∧ k_ ≠ gb190 ∧ k_ ≠ gb220)) (by (with_reducible repeat (first | apply Kd.N_alloc | apply Kd.N_drewN | apply Kd.N_drew)); exact Kd.N_mono HO_221000.out (fun _ hk => ⟨⟨hk.1, ⟨hk.2.2.1, ⟨hk.2.2.2.1, hk.2.2.2.2⟩⟩⟩, hk.2.1⟩)) hg hat)
                                          have n1_ := Aside0.mk (blk_grown (g := gb189) (o := .cells #[.slice none 0 0, .slice none 0 0] 52 (0, 0)) (by (with_reducible repeat (first | refine blk_drewN ?_ _ | refine blk_drew ?_ | refine blk_alloc ?_ _)); exact BK189.out) hg (Kd.R_ne HO_221001.out BK189.out (by decide)))
                                          have n2_ := Aside0.mk (blk_grown (g := gb190) (o := .cells #[.int .i64 x191000_1, .int .i64 x191001_1, .string x191002_1, .slice none 0 0] 33 (0, 0)) (by (with_reducible repeat (first | refine blk_drewN ?_ _ | refine blk_drew ?_ | refine blk_alloc ?_ _)); exact BK190.out) hg (Kd.R_ne HO_221001.out BK190.out (by decide)))
                                          have n3_ := Aside0.mk (blk_grown (g := gb220) (o := .cells #[u221000, u221001] 52 (0, 0)) (by (with_reducible repeat (first | refine blk_drewN ?_ _ | refine blk_drew ?_ | refine blk_alloc ?_ _)); exact BK220.out) hg (Kd.R_ne HO_221001.out BK220.out (by decide)))
                                          have n4_ := Aside0.mk (hb)
                                          have n5_ := Aside0.mk (ho)
                                          clear HO_221000
                                          clear BK189
                                          clear BK190
                                          clear BK220
                                          clear HB
                                          clear HO_221001
                                          have HO_221000 := n0_
                                          have BK189 := n1_
                                          have BK190 := n2_
                                          have BK220 := n3_
                                          have HB := n4_
                                          have HO243 := n5_
                                          clear n0_ n1_ n2_ n3_ n4_ n5_
                                          clear ho hb hg hat
                                          obtain ⟨Ao88, co88, eo88⟩ := Kd.R_slice HO243.out
                                          (first | subst eo88 | (injection eo88 with f1_ f2_ f3_; have f4_ := f1_.symm; have f5_ := f3_.symm; clear f1_ f2_ f3_; subst f4_; subst f5_))
                                          refine hK.out _ _ ⟨(blk_cell BK220.out 0).trans rfl, (blk_cell BK220.out 1).trans rfl, ((HB.out.cell (World.block_lt_of_cell? w _ hw239_0)).trans hw239_0), ((HB.out.cell (World.block_lt_of_cell? w _ hw239_1)).trans hw239_1), ((HB.out.cell (World.block_lt_of_cell? w _ hw240_0)).trans hw240_0)⟩ (fun hHeld => ?_)
                                          clear hK K
                                          refine norm_ (a' := ?_) ?_ ?_
                                          rotate_left
                                          · show Act.put _ (some 134) _ = _
                                            simp only [Act.put, List.setIfInBounds_toArray, List.set_cons_zero, List.set_cons_succ, i64_w, i32_w]
                                            rfl
                                          refine pure_ (i := 14) (N := some 135) (v := ?_) (a' := ?_) #[true, true, true, true, true, true, true, true, true, true, true, true, true, true, true, false] rfl rfl (any_of HT_.out (by kernel_rfl)) (fun _ _ _ h => h) (Or.inl ⟨by rfl, ?_⟩) ?_ ?_
                                          rotate_left
                                          · intro w'
                                            go_simp
                                            with_reducible rfl
                                          rotate_left
                                          · simp only [Act.put, List.setIfInBounds_toArray, List.set_cons_zero, List.set_cons_succ, i64_w, i32_w]
                                            rfl
                                          refine last_ (i := 15) (N := none) #[true, true, true, true, true, true, true, true, true, true, true, true, true, true, true, true] rfl rfl (one_of HT_.out (by kernel_rfl)) (by decide) (fun K hK => ?_)
                                          have hs89 : w87.cell? ⟨gb220, 1, none⟩ = some (u221001) := (blk_cell BK220.out 1).trans rfl
                                          have hfs89 := blk_frozen BK220.out 1
                                          have hns89_0 := NB189_220.out
                                          have hns89_1 := NB190_220.out
                                          have hms89_0 := NB220_189.out
                                          have hms89_1 := NB220_190.out
                                          refine skip_ (w1 := ?_) (by rfl) rfl ?_ ?_
                                          rotate_left
                                          · go_simp
                                            rfl
                                          refine hK.out _ _ ?_
                                          clear hK K
                                          refine done_ (done_of HT_.out (by kernel_rfl)) ?_
                                          try go_wp2
                                          go_roundg k4
                                          case measure => have := HK1.out; have := HK2.out; have := HK3.out; have := HK4.out; omega
                                          case rel => exact ⟨(wrap64 (x15_4 + 1)), (y241), (.slice Ao88 y241.length co88), (by first | rfl | (simp; done) | (simp [*]; done)), H', ⟨by have := HK1.out; have := HK2.out; have := HK3.out; have := HK4.out; omega⟩, ⟨by (with_reducible repeat (first | apply Kd.N_alloc | apply Kd.N_drewN | apply Kd.N_drew)); exact Kd.N_mono (Kd.N_far (p := ⟨gb220, 1, none⟩) (Kd.N_mono HO_221000.out (fun k_ hk => (⟨hk, hk.1.2.2.2⟩ : _ ∧ k_ ≠ gb220))) (fun _ hk => hk.2) (.slice Ao88 y241.length co88)) (fun _ hk => ⟨hk.1.1.1, ⟨hk.1.2, ⟨hk.1.1.2.1, ⟨hk.1.1.2.2.1, hk.1.1.2.2.2⟩⟩⟩⟩)⟩, ⟨by (with_reducible repeat (first | apply Kd.R_alloc | apply Kd.R_drewN | apply Kd.R_drew)); exact Kd.R_mono (Kd.R_far (p := ⟨gb220, 1, none⟩) (Kd.R_types HO243.out BK220.out (by decide)) (fun _ hk => hk.2) (.slice Ao88 y241.length co88)) (fun _ hk => hk.1)⟩, ⟨by (with_reducible repeat (first | refine blk_drewN ?_ _ | refine blk_drew ?_ | refine blk_alloc ?_ _)); refine blk_far ?_ NB189_220.out _; (with_reducible repeat (first | refine blk_drewN ?_ _ | refine blk_drew ?_ | refine blk_alloc ?_ _)); exact BK189.out⟩, ⟨by (with_reducible repeat (first | refine blk_drewN ?_ _ | refine blk_drew ?_ | refine blk_alloc ?_ _)); refine blk_far ?_ NB190_220.out _; (with_reducible repeat (first | refine blk_drewN ?_ _ | refine blk_drew ?_ | refine blk_alloc ?_ _)); exact BK190.out⟩, ⟨by (with_reducible repeat (first | refine blk_drewN ?_ _ | refine blk_drew ?_ | refine blk_alloc ?_ _)); refine blk_put (cs := #[u221000, u221001]) ?_ 1 _ rfl; (with_reducible repeat (first | refine blk_drewN ?_ _ | refine blk_drew ?_ | refine blk_alloc ?_ _)); exact BK220.out⟩, ⟨by repeat (first | (with_reducible first | exact HB.out | apply below_alloc | apply pw_below_drewN | apply below_drew1 | refine below_set ?_ GE189.out | refine below_set ?_ GE190.out | refine below_set ?_ GE220.out) | exact HB.out)⟩⟩
                                        · rw [if_neg c85] at H
                                          exact absurd H (by simp)
                                      · rw [if_neg c84] at H
                                        exact absurd H (by simp)
                                    · rw [if_neg c83] at H
                                      have c83b0 : decide (x15_4 < (((rd_T52 l0 x9_2).f1).length : Int)) = false := decide_eq_false c83
                                      clear c83
                                      have H' := Aside0.mk H
                                      clear H
                                      have p238 : 0 ≤ (x9_2 : Int) := of_decide_eq_true (by first | (with_reducible assumption) | assumption)
                                      have q238 : x9_2 < (l0.length : Int) := of_decide_eq_true (by first | (with_reducible assumption) | assumption)
                                      obtain ⟨ad238, A238_0, c238_0, A238_1, c238_1, e238, hx238_0, hx238_1, hl238_0, hi238_0, hl238_1, hi238_1⟩ := at_T52 HR0.out x9_2 p238 q238
                                      obtain rfl : ad227 = ad238 := (by injection e238)
                                      replace hx238_0 := (HB.out.cell (World.block_lt_of_cell? w _ hx238_0)).trans hx238_0
                                      replace hx238_1 := (HB.out.cell (World.block_lt_of_cell? w _ hx238_1)).trans hx238_1
                                      have HR238_0 := Aside0.mk hi238_0
                                      have HC238_0 := Aside0.mk hl238_0
                                      clear hi238_0 hl238_0
                                      have HR238_1 := Aside0.mk hi238_1
                                      have HC238_1 := Aside0.mk hl238_1
                                      clear hi238_1 hl238_1
                                      replace p238 := eq_true p238
                                      replace q238 := eq_true q238
                                      go_wp2
                                      go_roundg k4
                                      case measure => have := HK1.out; have := HK2.out; have := HK3.out; have := HK4.out; omega
                                      case rel => exact ⟨(wrap64 (x9_2 + 1)), (x221000_3), (x221001_4), (u221000), (u221001), (by first | rfl | (simp; done) | (simp [*]; done)), H', ⟨by have := HK1.out; have := HK2.out; have := HK3.out; have := HK4.out; omega⟩, ⟨by (with_reducible repeat (first | apply Kd.N_alloc | apply Kd.N_drewN | apply Kd.N_drew)); exact HO_221000.out⟩, ⟨by (with_reducible repeat (first | apply Kd.R_alloc | apply Kd.R_drewN | apply Kd.R_drew)); exact HO_221001.out⟩, ⟨by (with_reducible repeat (first | refine blk_drewN ?_ _ | refine blk_drew ?_ | refine blk_alloc ?_ _)); exact BK189.out⟩, ⟨by (with_reducible repeat (first | refine blk_drewN ?_ _ | refine blk_drew ?_ | refine blk_alloc ?_ _)); exact BK190.out⟩, ⟨by (with_reducible repeat (first | refine blk_drewN ?_ _ | refine blk_drew ?_ | refine blk_alloc ?_ _)); exact BK220.out⟩, ⟨by repeat (first | (with_reducible first | exact HB.out | apply below_alloc | apply pw_below_drewN | apply below_drew1 | refine below_set ?_ GE189.out | refine below_set ?_ GE190.out | refine below_set ?_ GE220.out) | exact HB.out)⟩⟩
                                  · rw [if_neg c82] at H
                                    exact absurd H (by simp)
                                · rw [if_neg c81] at H
                                  exact absurd H (by simp)
                        · rw [if_neg c51] at H
                          exact absurd H (by simp)
                      · rw [if_neg c50] at H
                        exact absurd H (by simp)
                · rw [if_neg c45] at H
                  have c45b0 : decide (x9_2 < (l0.length : Int)) = false := decide_eq_false c45
                  clear c45
                  replace H := Option.bind_eq_some_iff.mp H
                  obtain ⟨⟨t221, t222, t223, t224⟩, A900, H⟩ := H
                  replace H : (some (x221000_2, x221001_2, t221, t222, t223, t224)) = some (r1, r2, r3, r4, r5, r6) := H
                  have A90 := Aside0.mk A900
                  clear A900
                  simp only [Option.some.injEq, Prod.mk.injEq] at H
                  obtain ⟨rfl, rfl, rfl, rfl, rfl, rfl⟩ := H
                  try go_wp2
                  have n0_ := Aside0.mk (Kd.N_drew HO_221000.out)
                  have n1_ := Aside0.mk (Kd.R_drew HO_221001.out)
                  have n2_ := Aside0.mk (blk_drew BK189.out)
                  have n3_ := Aside0.mk (blk_drew BK190.out)
                  have n4_ := Aside0.mk (blk_drew BK220.out)
                  have n5_ := Aside0.mk (below_drew1 HB.out)
                  clear HO_221000
                  clear HO_221001
                  clear BK189
                  clear BK190
                  clear BK220
                  clear HB
                  have HO_221000 := n0_
                  have HO_221001 := n1_
                  have BK189 := n2_
                  have BK190 := n3_
                  have BK220 := n4_
                  have HB := n5_
                  clear n0_ n1_ n2_ n3_ n4_ n5_
                  refine start_ (n := 4) (S := fun w' => w'.cell? ⟨gb220, 0, none⟩ = some (u221000) ∧ w'.cell? ⟨gb220, 1, none⟩ = some (u221001)) (ds := []) #[false, false, false, false] (by kernel_rfl) rfl rfl ⟨(blk_cell BK220.out 0).trans rfl, (blk_cell BK220.out 1).trans rfl⟩ (fun hHeld => ?_)
                  generalize wr.drew = w91 at HO_221000 HO_221001 BK189 BK190 BK220 HB hHeld ⊢
                  refine take_ (i := 0) (N := some 136) (v := ?_) (a' := ?_) #[true, false, false, false] rfl rfl (by kernel_rfl) (fun _ _ _ h => h) (Or.inl ⟨by rfl, ?_⟩) hHeld ?_ ?_
                  rotate_left
                  · rintro w' ⟨s0, s1⟩
                    go_simp
                    with_reducible rfl
                  rotate_left
                  · simp only [Act.put, List.setIfInBounds_toArray, List.set_cons_zero, List.set_cons_succ, i64_w, i32_w]
                    rfl
                  refine one_ (i := 1) (N := some 137) #[true, true, false, false] rfl rfl (by kernel_rfl) (by decide) (fun K hK => ?_)
                  refine goes_ Try.func58 (by kernel_rfl) rfl #[] (by rfl) rfl rfl (by (try simp only [List.map_toArray, List.map_cons, List.map_nil]); first | done | rfl | (simp only [List.length_drop, List.length_take]; rfl)) ?_
                  with_reducible refine (tendrilnum_No.calls  t221 t222 t223 t224 _ A90.out).mono ?_
                  rintro e w92 ⟨v225, rfl, ho0, hb⟩
                  refine ⟨_, rfl, ?_⟩
                  have n0_ := Aside0.mk (Kd.N_elder' (by (with_reducible repeat (first | apply Kd.N_alloc | apply Kd.N_drewN | apply Kd.N_drew)); exact HO_221000.out) (Kd.N_base (Kd.R_N ho0)) hb)
                  have n1_ := Aside0.mk (Kd.R_below (by (with_reducible repeat (first | apply Kd.R_alloc | apply Kd.R_drewN | apply Kd.R_drew)); exact HO_221001.out) hb)
                  have n2_ := Aside0.mk (Kd.N_lower (Kd.N_mono (ok' := fun k_ => (w.heap.size ≤ k_) ∧ some k_ ≠ (u221000 : Value).ownBlock ∧ some k_ ≠ (u221001 : Value).ownBlock ∧ k_ ≠ gb189 ∧ k_ ≠ gb190 ∧ k_ ≠ gb220) (Kd.R_N (Kd.R_bound ho0)) (fun k_ hk_ => ⟨(Nat.le_trans (below_size (by repeat (first | (with_reducible first | exact HB.out | apply below_alloc | apply pw_below_drewN | apply below_drew1 | refine below_set ?_ GE189.out | refine below_set ?_ GE190.out | refine below_set ?_ GE220.out) | exact HB.out))) hk_.2.1), (Kd.fresh' (Kd.N_lt (by (with_reducible repeat (first | apply Kd.N_alloc | apply Kd.N_drewN | apply Kd.N_drew)); exact HO_221000.out)) k_ hk_.2.1), (Kd.fresh' (Kd.R_lt (by (with_reducible repeat (first | apply Kd.R_alloc | apply Kd.R_drewN | apply Kd.R_drew)); exact HO_221001.out)) k_ hk_.2.1), (Kd.freshB (g := gb189) (o := .cells #[.slice none 0 0, .slice none 0 0] 52 (0, 0)) (by (with_reducible repeat (first | refine blk_drewN ?_ _ | refine blk_drew ?_ | refine blk_alloc ?_ _)); exact BK189.out) k_ hk_.2.1), (Kd.freshB (g := gb190) (o := .cells #[.int .i64 x191000_1, .int .i64 x191001_1, .string x191002_1, .slice none 0 0] 33 (0, 0)) (by (with_reducible repeat (first | refine blk_drewN ?_ _ | refine blk_drew ?_ | refine blk_alloc ?_ _)); exact BK190.out) k_ hk_.2.1), (Kd.freshB (g := gb220) (o := .cells #[u221000, u221001] 52 (0, 0)) (by (with_reducible repeat (first | refine blk_drewN ?_ _ | refine blk_drew ?_ | refine blk_alloc ?_ _)); exact BK220.out) k_ hk_.2.1)⟩)) (below_size (by repeat (first | (with_reducible first | exact HB.out | apply below_alloc | apply pw_below_drewN | apply below_drew1 | refine below_set ?_ GE189.out | refine below_set ?_ GE190.out | refine below_set ?_ GE220.out) | exact HB.out))))
                  have n3_ := Aside0.mk (blk_below (g := gb189) (o := .cells #[.slice none 0 0, .slice none 0 0] 52 (0, 0)) (by (with_reducible repeat (first | refine blk_drewN ?_ _ | refine blk_drew ?_ | refine blk_alloc ?_ _)); exact BK189.out) hb)
                  have n4_ := Aside0.mk (blk_below (g := gb190) (o := .cells #[.int .i64 x191000_1, .int .i64 x191001_1, .string x191002_1, .slice none 0 0] 33 (0, 0)) (by (with_reducible repeat (first | refine blk_drewN ?_ _ | refine blk_drew ?_ | refine blk_alloc ?_ _)); exact BK190.out) hb)
                  have n5_ := Aside0.mk (blk_below (g := gb220) (o := .cells #[u221000, u221001] 52 (0, 0)) (by (with_reducible repeat (first | refine blk_drewN ?_ _ | refine blk_drew ?_ | refine blk_alloc ?_ _)); exact BK220.out) hb)
                  have n6_ := Aside0.mk (below_step (by repeat (first | (with_reducible first | exact HB.out | apply below_alloc | apply pw_below_drewN | apply below_drew1 | refine below_set ?_ GE189.out | refine below_set ?_ GE190.out | refine below_set ?_ GE220.out) | exact HB.out)) hb)
                  clear HO_221000
                  clear HO_221001
                  clear BK189
                  clear BK190
                  clear BK220
                  clear HB
                  have HO_221000 := n0_
                  have HO_221001 := n1_
                  have HO226 := n2_
                  have BK189 := n3_
                  have BK190 := n4_
                  have BK220 := n5_
                  have HB := n6_
                  clear n0_ n1_ n2_ n3_ n4_ n5_ n6_
                  (try clear hb)
                  (try clear hb2)
                  (try clear hk)
                  (try clear hi)
                  (try clear ho0)
                  obtain ⟨Ao93, co93, eo93⟩ := Kd.N_slice HO_221000.out
                  (first | subst eo93 | (injection eo93 with f1_ f2_ f3_; have f4_ := f1_.symm; have f5_ := f3_.symm; clear f1_ f2_ f3_; subst f4_; subst f5_))
                  obtain ⟨Ao95, co95, eo95⟩ := Kd.R_slice HO_221001.out
                  (first | subst eo95 | (injection eo95 with f1_ f2_ f3_; have f4_ := f1_.symm; have f5_ := f3_.symm; clear f1_ f2_ f3_; subst f4_; subst f5_))
                  obtain ⟨Ao100, co100, eo100⟩ := Kd.N_slice HO226.out
                  (first | subst eo100 | (injection eo100 with f1_ f2_ f3_; have f4_ := f1_.symm; have f5_ := f3_.symm; clear f1_ f2_ f3_; subst f4_; subst f5_))
                  refine hK.out _ _ ⟨(blk_cell BK220.out 0).trans rfl, (blk_cell BK220.out 1).trans rfl⟩ (fun hHeld => ?_)
                  clear hK K
                  refine norm_ (a' := ?_) ?_ ?_
                  rotate_left
                  · show Act.put _ (some 137) _ = _
                    simp only [Act.put, List.setIfInBounds_toArray, List.set_cons_zero, List.set_cons_succ, i64_w, i32_w]
                    rfl
                  refine one_ (i := 2) (N := none) #[true, true, true, false] rfl rfl (by kernel_rfl) (by decide) (fun K hK => ?_)
                  have hs94 : w92.cell? ⟨gb189, 0, none⟩ = some (.slice none 0 0) := (blk_cell BK189.out 0).trans rfl
                  have hfs94 := blk_frozen BK189.out 0
                  have hns94_1 := NB190_189.out
                  have hns94_2 := NB220_189.out
                  have hms94_1 := NB189_190.out
                  have hms94_2 := NB189_220.out
                  have hs96 : w92.cell? ⟨gb189, 1, none⟩ = some (.slice none 0 0) := (blk_cell BK189.out 1).trans rfl
                  have hfs96 := blk_frozen BK189.out 1
                  have hns96_1 := NB190_189.out
                  have hns96_2 := NB220_189.out
                  have hms96_1 := NB189_190.out
                  have hms96_2 := NB189_220.out
                  refine skip_ (w1 := ?_) (by rfl) rfl ?_ ?_
                  rotate_left
                  · go_simp
                    rfl
                  refine hK.out _ _ ⟨((cell_far (p := ⟨gb189, _, none⟩) NB220_189.out _).trans (((cell_far (p := ⟨gb189, _, none⟩) NB220_189.out _).trans (hHeld.1)))), ((cell_far (p := ⟨gb189, _, none⟩) NB220_189.out _).trans (((cell_far (p := ⟨gb189, _, none⟩) NB220_189.out _).trans (hHeld.2))))⟩ (fun hHeld => ?_)
                  clear hK K
                  refine one_ (i := 3) (N := none) #[true, true, true, true] rfl rfl (by kernel_rfl) (by decide) (fun K hK => ?_)
                  have hs97 : w92.cell? ⟨gb190, 0, none⟩ = some (.int .i64 x191000_1) := (blk_cell BK190.out 0).trans rfl
                  have hfs97 := blk_frozen BK190.out 0
                  have hns97_0 := NB189_190.out
                  have hns97_2 := NB220_190.out
                  have hms97_0 := NB190_189.out
                  have hms97_2 := NB190_220.out
                  have hs98 : w92.cell? ⟨gb190, 1, none⟩ = some (.int .i64 x191001_1) := (blk_cell BK190.out 1).trans rfl
                  have hfs98 := blk_frozen BK190.out 1
                  have hns98_0 := NB189_190.out
                  have hns98_2 := NB220_190.out
                  have hms98_0 := NB190_189.out
                  have hms98_2 := NB190_220.out
                  have hs99 : w92.cell? ⟨gb190, 2, none⟩ = some (.string x191002_1) := (blk_cell BK190.out 2).trans rfl
                  have hfs99 := blk_frozen BK190.out 2
                  have hns99_0 := NB189_190.out
                  have hns99_2 := NB220_190.out
                  have hms99_0 := NB190_189.out
                  have hms99_2 := NB190_220.out
                  have hs101 : w92.cell? ⟨gb190, 3, none⟩ = some (.slice none 0 0) := (blk_cell BK190.out 3).trans rfl
                  have hfs101 := blk_frozen BK190.out 3
                  have hns101_0 := NB189_190.out
                  have hns101_2 := NB220_190.out
                  have hms101_0 := NB190_189.out
                  have hms101_2 := NB190_220.out
                  refine skip_ (w1 := ?_) (by rfl) rfl ?_ ?_
                  rotate_left
                  · go_simp
                    rfl
                  refine hK.out _ _ ⟨((cell_far (p := ⟨gb190, _, none⟩) NB220_190.out _).trans (((cell_far (p := ⟨gb190, _, none⟩) NB220_190.out _).trans (((cell_far (p := ⟨gb190, _, none⟩) NB220_190.out _).trans (((cell_far (p := ⟨gb190, _, none⟩) NB220_190.out _).trans (hHeld.1)))))))), ((cell_far (p := ⟨gb190, _, none⟩) NB220_190.out _).trans (((cell_far (p := ⟨gb190, _, none⟩) NB220_190.out _).trans (((cell_far (p := ⟨gb190, _, none⟩) NB220_190.out _).trans (((cell_far (p := ⟨gb190, _, none⟩) NB220_190.out _).trans (hHeld.2))))))))⟩ (fun hHeld => ?_)
                  clear hK K
                  refine done_ (by kernel_rfl) ?_
                  try go_wp2
                  refine bodyPost_ret (results_cc rfl _ _ gb189 gb190 52 33 #[.slice Ao93 x221000_2.length co93, .slice Ao95 x221001_2.length co95] #[.int .i64 t221, .int .i64 t222, .string t223, .slice Ao100 t224.length co100] (0, 0) (0, 0) _ _ rfl (by (with_reducible repeat (first | refine blk_drewN ?_ _ | refine blk_drew ?_ | refine blk_alloc ?_ _)); refine blk_far ?_ NB189_190.out _; (with_reducible repeat (first | refine blk_drewN ?_ _ | refine blk_drew ?_ | refine blk_alloc ?_ _)); refine blk_far ?_ NB189_190.out _; (with_reducible repeat (first | refine blk_drewN ?_ _ | refine blk_drew ?_ | refine blk_alloc ?_ _)); refine blk_far ?_ NB189_190.out _; (with_reducible repeat (first | refine blk_drewN ?_ _ | refine blk_drew ?_ | refine blk_alloc ?_ _)); refine blk_far ?_ NB189_190.out _; (with_reducible repeat (first | refine blk_drewN ?_ _ | refine blk_drew ?_ | refine blk_alloc ?_ _)); refine blk_put (cs := #[.slice Ao93 x221000_2.length co93, .slice none 0 0]) ?_ 1 _ rfl; (with_reducible repeat (first | refine blk_drewN ?_ _ | refine blk_drew ?_ | refine blk_alloc ?_ _)); refine blk_put (cs := #[.slice none 0 0, .slice none 0 0]) ?_ 0 _ rfl; (with_reducible repeat (first | refine blk_drewN ?_ _ | refine blk_drew ?_ | refine blk_alloc ?_ _)); exact BK189.out) Try.underlying52 rfl (by kernel_rfl) rfl (by (with_reducible repeat (first | refine blk_drewN ?_ _ | refine blk_drew ?_ | refine blk_alloc ?_ _)); refine blk_put (cs := #[.int .i64 t221, .int .i64 t222, .string t223, .slice none 0 0]) ?_ 3 _ rfl; (with_reducible repeat (first | refine blk_drewN ?_ _ | refine blk_drew ?_ | refine blk_alloc ?_ _)); refine blk_put (cs := #[.int .i64 t221, .int .i64 t222, .string x191002_1, .slice none 0 0]) ?_ 2 _ rfl; (with_reducible repeat (first | refine blk_drewN ?_ _ | refine blk_drew ?_ | refine blk_alloc ?_ _)); refine blk_put (cs := #[.int .i64 t221, .int .i64 x191001_1, .string x191002_1, .slice none 0 0]) ?_ 1 _ rfl; (with_reducible repeat (first | refine blk_drewN ?_ _ | refine blk_drew ?_ | refine blk_alloc ?_ _)); refine blk_put (cs := #[.int .i64 x191000_1, .int .i64 x191001_1, .string x191002_1, .slice none 0 0]) ?_ 0 _ rfl; (with_reducible repeat (first | refine blk_drewN ?_ _ | refine blk_drew ?_ | refine blk_alloc ?_ _)); refine blk_far ?_ NB190_189.out _; (with_reducible repeat (first | refine blk_drewN ?_ _ | refine blk_drew ?_ | refine blk_alloc ?_ _)); refine blk_far ?_ NB190_189.out _; (with_reducible repeat (first | refine blk_drewN ?_ _ | refine blk_drew ?_ | refine blk_alloc ?_ _)); exact BK190.out) Try.underlying33 rfl (by kernel_rfl)) rfl ?_
                  exact ⟨_, _, _, by first | rfl | (simp [errW_none, errW_some] <;> rfl) | (simp [*, errW_none, errW_some] <;> rfl), by (with_reducible repeat (first | apply Kd.N_alloc | apply Kd.N_drewN | apply Kd.N_drew)); exact Kd.N_mono (Kd.N_far (p := ⟨gb190, 3, none⟩) (Kd.N_far (p := ⟨gb190, 2, none⟩) (Kd.N_far (p := ⟨gb190, 1, none⟩) (Kd.N_far (p := ⟨gb190, 0, none⟩) (Kd.N_far (p := ⟨gb189, 1, none⟩) (Kd.N_far (p := ⟨gb189, 0, none⟩) (Kd.N_mono (Kd.N_mono HO_221000.out (fun k_ hk => (⟨hk, hk.1.2.2.1⟩ : _ ∧ k_ ≠ gb189))) (fun k_ hk => (⟨hk, hk.1.1.2.2.2.1⟩ : _ ∧ k_ ≠ gb190))) (fun _ hk => hk.1.2) (.slice Ao93 x221000_2.length co93)) (fun _ hk => hk.1.2) (.slice Ao95 x221001_2.length co95)) (fun _ hk => hk.2) (.int .i64 t221)) (fun _ hk => hk.2) (.int .i64 t222)) (fun _ hk => hk.2) (.string t223)) (fun _ hk => hk.2) (.slice Ao100 t224.length co100)) (fun _ hk => ⟨hk.1.1.1.1, ⟨hk.1.1.1.2.1, hk.1.1.2⟩⟩), by (with_reducible repeat (first | apply Kd.R_alloc | apply Kd.R_drewN | apply Kd.R_drew)); exact Kd.R_mono (Kd.R_far (p := ⟨gb190, 3, none⟩) (Kd.R_far (p := ⟨gb190, 2, none⟩) (Kd.R_far (p := ⟨gb190, 1, none⟩) (Kd.R_far (p := ⟨gb190, 0, none⟩) (Kd.R_far (p := ⟨gb189, 1, none⟩) (Kd.R_far (p := ⟨gb189, 0, none⟩) (Kd.R_types (Kd.R_types HO_221001.out BK189.out (by decide)) BK190.out (by decide)) (fun _ hk => hk.1.2) (.slice Ao93 x221000_2.length co93)) (fun _ hk => hk.1.2) (.slice Ao95 x221001_2.length co95)) (fun _ hk => hk.2) (.int .i64 t221)) (fun _ hk => hk.2) (.int .i64 t222)) (fun _ hk => hk.2) (.string t223)) (fun _ hk => hk.2) (.slice Ao100 t224.length co100)) (fun _ hk => hk.1.1), by (with_reducible repeat (first | apply Kd.N_alloc | apply Kd.N_drewN | apply Kd.N_drew)); exact Kd.N_mono (Kd.N_far (p := ⟨gb190, 3, none⟩) (Kd.N_far (p := ⟨gb190, 2, none⟩) (Kd.N_far (p := ⟨gb190, 1, none⟩) (Kd.N_far (p := ⟨gb190, 0, none⟩) (Kd.N_far (p := ⟨gb189, 1, none⟩) (Kd.N_far (p := ⟨gb189, 0, none⟩) (Kd.N_mono (Kd.N_mono HO226.out (fun k_ hk => (⟨hk, hk.2.2.2.1⟩ : _ ∧ k_ ≠ gb189))) (fun k_ hk => (⟨hk, hk.1.2.2.2.2.1⟩ : _ ∧ k_ ≠ gb190))) (fun _ hk => hk.1.2) (.slice Ao93 x221000_2.length co93)) (fun _ hk => hk.1.2) (.slice Ao95 x221001_2.length co95)) (fun _ hk => hk.2) (.int .i64 t221)) (fun _ hk => hk.2) (.int .i64 t222)) (fun _ hk => hk.2) (.string t223)) (fun _ hk => hk.2) (.slice Ao100 t224.length co100)) (fun _ hk => ⟨hk.1.1.1, ⟨hk.1.1.2.1, hk.1.1.2.2.1⟩⟩), by repeat (first | (with_reducible first | exact HB.out | apply below_alloc | apply pw_below_drewN | apply below_drew1 | refine below_set ?_ GE189.out | refine below_set ?_ GE190.out | refine below_set ?_ GE220.out) | exact HB.out)⟩

end Go.Proofs.Ytgcjfobmccoibaa.PGraphChecks
