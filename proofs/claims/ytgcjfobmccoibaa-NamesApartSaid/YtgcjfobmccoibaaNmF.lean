/- Copy of a table of names: maps.Clone, slices.Clone. What is asked: how the table lies. -/
import Derived.Laws.Externs
import Derived.MapKept
import Derived.Deep.RegionWith
import Derived.Test.YtgcjfobmccoibaaNmD
set_option linter.unusedSimpArgs false
set_option linter.unusedVariables false
namespace Go.Proofs.Ytgcjfobmccoibaa.Nm
open Go.RowKit Go.Proofs.YtgcjfobmccoibaaW.PrintWords Go.Proofs.YtgcjfobmccoibaaW.PrintLast Go.Proofs.YtgcjfobmccoibaaW.PrintMore

theorem run_mclone (w : World) {r : Nat} {es : Array MapEntry} {clock : Nat} (t : TypeId) (hb : w.heap[r]? = some (.map es clock)) :
    (Extern.MapsClone.clone #[.iface t (.map (some r))]).run Try.prog w = .ok (.iface t (.map (some w.heap.size))) (w.alloc (.map es clock)) := by
  have e : Extern.MapsClone.clone #[.iface t (.map (some r))] = (getObj r >>= fun o => match o with
      | .map entries clock => (newObj (.map entries clock) >>= fun n => pure (.iface t (.map (some n))))
      | _ => stuck "maps.clone: a map expected") := rfl
  rw [e]
  simp [MapKept.run_getObj_map hb, Result.andThen, go_sem]

set_option maxRecDepth 100000 in
set_option maxHeartbeats 1000000 in
theorem mclone_calls (b : Nat) (es : Array MapEntry) (clock : Nat) (w : World) (hb : w.heap[b]? = some (.map es clock)) :
    Calls Try.prog 66 #[.map (some b)] w fun e w' => e = .returned (.map (some w.heap.size)) ∧ w' = w.alloc (.map es clock) := by
  have hq : ∀ (w : World), (binOp .eql 90 (.map (some b)) (.map none)).run Try.prog w = .ok (.bool false) w := fun w => by kernel_rfl
  have ht : ∀ (x : Nat) (w : World), (Instr.typeAssert (.iface 90 (.map (some x))) 20 90 false).run Try.prog w = .ok (.map (some x)) w := fun x w => by kernel_rfl
  go_enter Try.func66, Try.ntmps66
  go_wp2
  rw [run_callFunc_extern Try.func84 (by kernel_rfl) (by kernel_rfl) (by kernel_rfl) (e := Extern.MapsClone.clone) (by kernel_rfl), run_mclone w 90 hb]
  simp only [Result.andThen]
  rw [Oper.upon_value]
  go_wp2
  go_ret
  exact ⟨rfl, rfl⟩

theorem copy_mid {w w1 : World} {p bm : Nat} {L : List ByteArray} {v : Value} (hb : w.heap[bm]? = some (.map (ents 0 L).toArray L.length)) (c1 : w.cell? ⟨p, 1, none⟩ = some (.map (some bm)))
    (hR : Kd.R Kd.string 9 w1 w.drew.heap.size (fun k => w.drew.heap.size ≤ k) v L) (hB : Below w.drew.heap.size w.drew w1) :
    Aside0 (w1.heap[bm]? = some (.map (ents 0 L).toArray L.length) ∧ w1.cell? ⟨p, 1, none⟩ = some (.map (some bm)) ∧ Kd.R Kd.string 9 w1 w.heap.size (fun k => w.heap.size ≤ k) v L ∧ Below w.heap.size w w1) := by
  have h0 := below_drew (Below.refl w.heap.size w)
  have hB1 : Below w.heap.size w w1 := below_then h0 h0.size hB
  exact ⟨(hB1.block bm (blk_lt hb)).trans hb, (hB1.cell (p := ⟨p, 1, none⟩) (World.block_lt_of_cell? w _ c1)).trans c1, hR, hB1⟩

theorem copy_end {w w1 : World} {L : List ByteArray} {v : Value} (hR : Kd.R Kd.string 9 w1 w.heap.size (fun k => w.heap.size ≤ k) v L) (hB : Below w.heap.size w w1) :
    Tbl ((w1.alloc (.map (ents 0 L).toArray L.length)).alloc (.cells #[v, .map (some w1.heap.size)] 92)) w.heap.size (fun k => w.heap.size ≤ k) (w1.heap.size + 1) L ∧
      Below w.heap.size w ((w1.alloc (.map (ents 0 L).toArray L.length)).alloc (.cells #[v, .map (some w1.heap.size)] 92)) := by
  have hs := hB.size
  have h1 := (hB.alloc hs (.map (ents 0 L).toArray L.length))
  have h2 := h1.alloc h1.size (.cells #[v, .map (some w1.heap.size)] 92)
  have e1 := (below_alloc (Below.refl w1.heap.size w1) (.map (ents 0 L).toArray L.length))
  have e2 := e1.alloc e1.size (.cells #[v, .map (some w1.heap.size)] 92)
  have hl := blk_last (w1.alloc (.map (ents 0 L).toArray L.length)) (.cells #[v, .map (some w1.heap.size)] 92)
  rw [World.size_alloc] at hl
  exact ⟨⟨v, w1.heap.size, hl, blk_old _ (blk_last w1 _), Kd.R_step hR (fun k _ hk => e2.block k hk), by omega, hs, by omega, hs⟩, h2⟩

set_option maxRecDepth 100000 in
set_option maxHeartbeats 2000000 in
theorem copy_calls {w : World} {base p : Nat} {ok : Nat → Prop} {L : List ByteArray} (h : Tbl w base ok p L) (hl : L.length ≤ 100000) :
    Calls Try.prog 32 #[.pointer (some ⟨p, 0, none⟩)] w fun e w' => ∃ q, e = .returned (.pointer (some ⟨q, 0, none⟩)) ∧ Tbl w' w.heap.size (fun k => w.heap.size ≤ k) q L ∧ Below w.heap.size w w' := by
  obtain ⟨A, c, bm, c0, c1, hb, hlc, hc, f0⟩ := h.cells
  have HC := Aside0.mk hc
  have HB := Aside0.mk hb
  clear hc h hb
  go_enter Try.func32, Try.ntmps32
  go_wp2_with fail
  go_region_with (first
    | (go_at_call 64; refine (clone_calls _ A c L (Kd.C_drew HC.out) hl).mono ?_; rintro e w1 ⟨v, rfl, hR, hB⟩; obtain ⟨A1, cc1, rfl⟩ := Kd.R_slice hR; have HX := copy_mid HB.out c1 hR hB; have d1 := HX.out.2.1; clear hR hB)
    | (go_at_call 66; refine (mclone_calls bm _ _ _ HX.out.1).mono ?_; rintro e w2 ⟨rfl, rfl⟩))
  all_goals (go_wp2_with fail)
  all_goals go_ret
  all_goals exact ⟨_, rfl, copy_end HX.out.2.2.1 HX.out.2.2.2⟩

end Go.Proofs.Ytgcjfobmccoibaa.Nm
