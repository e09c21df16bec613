/- A table of names in memory: what stands in its blocks; what New, Len, Find and Name come to. No condition but those that each theorem states. -/
import Derived.Test.YtgcjfobmccoibaaNm1
import Derived.Test.YtgcjfobmccoibaaPNamesApartx1
import Derived.Test.YtgcjfobmccoibaaPGraphChecksx1
import Derived.WalkSpells
namespace Go.Proofs.Ytgcjfobmccoibaa.Nm
open Go.RowKit Go.Proofs.YtgcjfobmccoibaaW.PrintWords Go.Proofs.YtgcjfobmccoibaaW.PrintLast Go.Proofs.YtgcjfobmccoibaaW.PrintMore

/-- Block p is a table that holds the names L in their order; its blocks are among ok. -/
def Tbl (w : World) (base : Nat) (ok : Nat → Prop) (p : Nat) (L : List ByteArray) : Prop :=
  ∃ v bm, w.heap[p]? = some (.cells #[v, .map (some bm)] 92 (0, 0)) ∧ w.heap[bm]? = some (.map (ents 0 L).toArray L.length) ∧ Kd.R Kd.string 9 w base ok v L ∧ base ≤ p ∧ base ≤ bm ∧ ok p ∧ ok bm

section
variable {w w1 : World} {base p : Nat} {ok ok' S : Nat → Prop} {L : List ByteArray}
theorem Tbl.step (h : Tbl w base ok p L) (hm : ∀ k, ok k → k < w.heap.size → w1.heap[k]? = w.heap[k]?) : Tbl w1 base ok p L := by
  obtain ⟨v, bm, h1, h2, h3, h4, h5, h6, h7⟩ := h
  exact ⟨v, bm, (hm p h6 (blk_lt h1)).trans h1, (hm bm h7 (blk_lt h2)).trans h2, Kd.R_step h3 hm, h4, h5, h6, h7⟩
theorem Tbl.mono (h : Tbl w base ok p L) (hok : ∀ k, ok k → ok' k) : Tbl w base ok' p L := by
  obtain ⟨v, bm, h1, h2, h3, h4, h5, h6, h7⟩ := h
  exact ⟨v, bm, h1, h2, Kd.R_mono h3 hok, h4, h5, hok _ h6, hok _ h7⟩
theorem Tbl.below (h : Tbl w base ok p L) (hb : Below w.heap.size w w1) : Tbl w1 base ok p L := h.step (fun k _ hk => hb.block k hk)
theorem Tbl.drawn (h : Tbl w base ok p L) (hb : Drawn0 w w1) : Tbl w1 base ok p L := h.below hb.below
theorem Tbl.kept (h : Tbl w base ok p L) (hk : Kept w w1 S) (hne : ∀ k, ok k → ¬ S k) : Tbl w1 base ok p L := h.step (fun k ho hlt => hk.2 k hlt (hne k ho))
end


theorem blk_last (w : World) (o : Obj) : (w.alloc o).heap[w.heap.size]? = some o := by
  show (w.heap.push o)[w.heap.size]? = some o
  simp
theorem blk_old {w : World} (o : Obj) {k : Nat} {x : Obj} (h : w.heap[k]? = some x) : (w.alloc o).heap[k]? = some x := by
  rw [Below.heap_alloc w o k (blk_lt h)]; exact h

set_option maxHeartbeats 400000 in
theorem new_calls (w : World) :
    Calls Try.prog 16 #[] w fun e w' => ∃ p, e = .returned (.pointer (some ⟨p, 0, none⟩)) ∧ Tbl w' w.heap.size (fun k => w.heap.size ≤ k) p [] ∧ Below w.heap.size w w' := by
  have hmm := @run_makeMap Try.prog
  go_enter Try.func16, Try.ntmps16
  go_wp2
  go_ret
  refine ⟨w.heap.size + 1, rfl, ⟨.slice none 0 0, w.heap.size, ?_, ?_, Kd.R_nil _ _ _ _ _, by omega, by omega, by omega, Nat.le_refl _⟩, ((Below.refl _ _).alloc (Nat.le_refl _) _).alloc (by simp) _⟩
  · have := blk_last (w.alloc (.map #[] 0)) (.cells #[.slice none 0 0, .map (some w.heap.size)] 92)
    simpa using this
  · exact blk_old _ (blk_last w _)

/-- The cells of a table. -/
theorem Tbl.cells {w : World} {base p : Nat} {ok : Nat → Prop} {L : List ByteArray} (h : Tbl w base ok p L) :
    ∃ A c bm, w.cell? ⟨p, 0, none⟩ = some (.slice A L.length c) ∧ w.cell? ⟨p, 1, none⟩ = some (.map (some bm)) ∧ w.heap[bm]? = some (.map (ents 0 L).toArray L.length) ∧ L.length ≤ c ∧ Kd.C Kd.string w A L.length L ∧ w.frozen? ⟨p, 0, none⟩ = false := by
  obtain ⟨v, bm, h1, h2, h3, _⟩ := h
  obtain ⟨A, c, rfl, hl, hc⟩ := Kd.R_reads h3
  exact ⟨A, c, bm, by simp [World.cell?, h1], by simp [World.cell?, h1], h2, hl, hc, by simp [World.frozen?, h1]⟩

set_option maxHeartbeats 400000 in
theorem len_calls {w : World} {base p : Nat} {ok : Nat → Prop} {L : List ByteArray} (h : Tbl w base ok p L) :
    Calls Try.prog 20 #[.pointer (some ⟨p, 0, none⟩)] w fun e w' => e = .returned (.int .i64 (L.length : Int)) ∧ w = w' := by
  obtain ⟨A, c, bm, c0, c1, hb, hl, hc, f0⟩ := h.cells
  go_enter Try.func20, Try.ntmps20
  go_wp2
  go_ret
  exact ⟨rfl, rfl⟩

set_option maxHeartbeats 400000 in
theorem len_nil (w : World) : Calls Try.prog 20 #[.pointer none] w fun e w' => e = .returned (.int .i64 0) ∧ w = w' := by
  go_enter Try.func20, Try.ntmps20
  go_wp2
  go_ret
  exact ⟨rfl, rfl⟩

set_option maxHeartbeats 400000 in
theorem find_calls {w : World} {base p : Nat} {ok : Nat → Prop} {L : List ByteArray} (h : Tbl w base ok p L) (s : ByteArray) :
    Calls Try.prog 22 #[.pointer (some ⟨p, 0, none⟩), .string s] w fun e w' => e = .returned (.tuple #[.int .i64 (((idx s L).getD 0 : Nat) : Int), .bool (idx s L).isSome]) ∧ w = w' := by
  obtain ⟨A, c, bm, c0, c1, hb, hl, hc, f0⟩ := h.cells
  go_enter Try.func22, Try.ntmps22
  go_wp2_with (at_lookup; refine wp_look rfl _ _ rfl bm s L rfl rfl hb ?_)
  go_ret2
  exact ⟨rfl, rfl⟩

set_option maxHeartbeats 400000 in
theorem find_nil (s : ByteArray) (w : World) : Calls Try.prog 22 #[.pointer none, .string s] w fun e w' => e = .returned (.tuple #[.int .i64 0, .bool false]) ∧ w = w' := by
  go_enter Try.func22, Try.ntmps22
  go_wp2
  go_ret2
  exact ⟨rfl, rfl⟩

end Go.Proofs.Ytgcjfobmccoibaa.Nm
