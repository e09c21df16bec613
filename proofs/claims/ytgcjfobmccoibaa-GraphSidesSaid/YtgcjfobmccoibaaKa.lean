/- The map of a table of names, as the model holds it: which entries stand in it, what a look-up of a name and a store of a new name come to. No condition but those that each theorem states. (and what the parts below say) -/
import Derived.Test.YtgcjfobmccoibaaProg
import Derived.WalkKit
import Derived.Maps.OwnSet
import Derived.Test.YtgcjfobmccoibaaPNamesApartx1
import Derived.Test.YtgcjfobmccoibaaPGraphChecksx1
import Derived.WalkSpells
import Derived.Lib.Hide
import Derived.Deep.DeepMust
import Derived.Deep.QuietTactic
import Derived.BigQuiet
/-! The map of a table of names, as the model holds it: which entries stand in it, what a look-up of a name and a store of a new name come to. No condition but those that each theorem states. -/
namespace Go.Proofs.Ytgcjfobmccoibaa.Nm
open Go.RowKit

/-- The entry of name s at number i. -/
def ent (i : Nat) (s : ByteArray) : MapEntry := { key := .string s, val := .int .i64 (i : Int), born := i }
/-- The entries of names, numbered from i on. -/
def ents : Nat → List ByteArray → List MapEntry
  | _, [] => []
  | i, s :: L => ent i s :: ents (i + 1) L
/-- The place of a name in a list. -/
def idx (s : ByteArray) : List ByteArray → Option Nat
  | [] => none
  | x :: L => if x = s then some 0 else (idx s L).map (· + 1)

theorem ents_length : ∀ (L : List ByteArray) (i : Nat), (ents i L).length = L.length
  | [], _ => rfl
  | _ :: L, i => by simp [ents, ents_length L (i + 1)]

theorem ents_append : ∀ (L : List ByteArray) (i : Nat) (s : ByteArray), ents i (L ++ [s]) = ents i L ++ [ent (i + L.length) s]
  | [], i, s => by simp [ents]
  | x :: L, i, s => by
    simp only [List.cons_append, ents, ents_append L (i + 1) s, List.length_cons]
    rw [show i + 1 + L.length = i + (L.length + 1) by omega]

theorem idx_lt {s : ByteArray} : ∀ {L : List ByteArray} {i : Nat}, idx s L = some i → i < L.length ∧ L[i]? = some s
  | [], i, h => by simp [idx] at h
  | x :: L, i, h => by
    unfold idx at h
    split at h
    · rename_i hx
      cases h
      simp [hx]
    · cases hj : idx s L with
      | none => simp [hj] at h
      | some j =>
        simp only [hj, Option.map_some, Option.some.injEq] at h
        subst h
        have := idx_lt hj
        simpa using this

theorem idx_none {s : ByteArray} : ∀ {L : List ByteArray}, idx s L = none ↔ s ∉ L
  | [] => by simp [idx]
  | x :: L => by
    unfold idx
    by_cases hx : x = s
    · simp [hx]
    · rw [if_neg hx, Option.map_eq_none_iff, idx_none (L := L)]
      simp [List.mem_cons, Ne.symm hx]

theorem findNow_ents (s : ByteArray) : ∀ (L : List ByteArray) (i k : Nat),
    Instr.findNow .string (.string s) (ents i L) k = some ((idx s L).map fun j => (k + j, Value.int .i64 ((i + j : Nat) : Int)))
  | [], i, k => by simp [ents, Instr.findNow, idx]
  | x :: L, i, k => by
    simp only [ents, ent, Instr.findNow, Instr.sameNow]
    by_cases hx : x = s
    · subst hx
      rw [(MapKept.bytes_beq x x).2 rfl]
      simp [idx]
    · have h1 : (s == x) = false := Bool.eq_false_iff.2 fun e => hx ((MapKept.bytes_beq s x).1 e).symm
      rw [h1]
      simp only []
      rw [findNow_ents s L (i + 1) (k + 1), idx, if_neg hx]
      cases idx s L with
      | none => rfl
      | some j => simp; omega

/-- A look-up with 'ok' in a map that holds just the names of L. -/
theorem run_look {w : World} {b : Nat} {L : List ByteArray} (hb : w.heap[b]? = some (.map (ents 0 L).toArray L.length)) (s : ByteArray) :
    (Instr.lookup 90 (.map (some b)) (.string s) true).run Try.prog w = .ok (.tuple #[.int .i64 (((idx s L).getD 0 : Nat) : Int), .bool (idx s L).isSome]) w := by
  have hz : (zeroValue 3).run Try.prog w = .ok (.int .i64 0) w := by kernel_rfl
  have hf := findNow_ents s L 0 0
  have hk := MapKept.run_findKey (w := w) (l := ents 0 L) Try.underlying9 hf
  have hc := MapKept.run_checkKey (w := w) (k := .string s) Try.underlying9 (by simp [MapKept.IsKey]) (ents 0 L).isEmpty 9999
  simp only [Nat.reduceAdd] at hc
  cases hi : idx s L with
  | none =>
    rw [hi] at hk
    simp only [Option.map_none] at hk
    simp [Instr.lookup, run_underlying Try.underlying90, MapKept.run_getObj_map hb, hc, hk, hz, Result.andThen]
  | some j =>
    rw [hi] at hk
    simp only [Option.map_some, Nat.zero_add] at hk
    simp [Instr.lookup, run_underlying Try.underlying90, MapKept.run_getObj_map hb, hc, hk, Result.andThen]

/-- A store of a new name under its number. -/
theorem run_store {w : World} {b : Nat} {L : List ByteArray} (hb : w.heap[b]? = some (.map (ents 0 L).toArray L.length)) (s : ByteArray) (hs : s ∉ L) :
    (Instr.mapUpdate 90 (.map (some b)) (.string s) (.int .i64 (L.length : Int))).run Try.prog w = .ok () (ChangeMaps.setBlock w b (.map (ents 0 (L ++ [s])).toArray (L.length + 1))) := by
  have hf := findNow_ents s L 0 0
  rw [idx_none.2 hs] at hf
  have hk := MapKept.run_findKey (w := w) (l := ents 0 L) Try.underlying9 hf
  have hc := MapKept.run_checkKey (w := w) (k := .string s) Try.underlying9 (by simp [MapKept.IsKey]) false 9999
  simp only [Nat.reduceAdd] at hc
  simp only [Option.map_none] at hk
  simp [Instr.mapUpdate, run_underlying Try.underlying90, MapKept.run_getObj_map hb, hc, hk, MapKept.run_setObj_map _ hb, Result.andThen, ChangeMaps.setBlock, ents_append, ent]

section
variable {ops : Array Oper} {rest : List Oper} {o : Oper} {a : Act} {Q : Exit → Act → World → Prop} {w : World}

theorem wp_look (hg : o.guard = none) (m x : Operand) (hop : o.op = Op.lookup 90 m x true) (b : Nat) (s : ByteArray) (L : List ByteArray)
    (hm : a.eval m = .map (some b)) (hx : a.eval x = .string s) (hb : w.heap[b]? = some (.map (ents 0 L).toArray L.length))
    (hK : wpList Try.prog ops Q rest (a.put o.dst (.tuple #[.int .i64 (((idx s L).getD 0 : Nat) : Int), .bool (idx s L).isSome])) w) : wpList Try.prog ops Q (o :: rest) a w := by
  refine wpList_plain hg fun K' hK' => ?_
  unfold Oper.wp
  simp [execOp, hop, hm, hx, run_look hb, Result.andThen]
  exact hK' _ _ hK

theorem wp_store (hg : o.guard = none) (m x v : Operand) (hop : o.op = Op.mapUpdate 90 m x v) (b : Nat) (s : ByteArray) (L : List ByteArray)
    (hm : a.eval m = .map (some b)) (hx : a.eval x = .string s) (hv : a.eval v = .int .i64 (L.length : Int)) (hb : w.heap[b]? = some (.map (ents 0 L).toArray L.length)) (hs : s ∉ L)
    (hK : wpList Try.prog ops Q rest (a.put o.dst undef) (ChangeMaps.setBlock w b (.map (ents 0 (L ++ [s])).toArray (L.length + 1)))) : wpList Try.prog ops Q (o :: rest) a w := by
  refine wpList_plain hg fun K' hK' => ?_
  unfold Oper.wp
  simp [execOp, hop, hm, hx, hv, run_store hb s hs, Result.andThen]
  exact hK' _ _ hK
end

end Go.Proofs.Ytgcjfobmccoibaa.Nm

/-! A table of names in memory: what stands in its blocks; what New, Len, Find and Name come to. No condition but those that each theorem states. -/
namespace Go.Proofs.Ytgcjfobmccoibaa.Nm
open Go.RowKit Go.Proofs.YtgcjfobmccoibaaW.PrintWords Go.Proofs.YtgcjfobmccoibaaW.PrintLast Go.Proofs.YtgcjfobmccoibaaW.PrintMore

/-- Block p is a table that holds the names L in their order; its blocks are among ok. -/
def Tbl (w : World) (base : Nat) (ok : Nat → Prop) (p : Nat) (L : List ByteArray) : Prop :=
  ∃ v bm, w.heap[p]? = some (.cells #[v, .map (some bm)] 92 (0, 0)) ∧ w.heap[bm]? = some (.map (ents 0 L).toArray L.length) ∧ Kd.R Kd.string 9 w base ok v L ∧ base ≤ p ∧ base ≤ bm ∧ ok p ∧ ok bm

section
variable {w w1 : World} {base p : Nat} {ok ok' S : Nat → Prop} {L : List ByteArray}
theorem Tbl.step (h : Tbl w base ok p L) (hm : ∀ k, ok k → k < w.heap.size → w1.heap[k]? = w.heap[k]?) : Tbl w1 base ok p L := by
  obtain ⟨v, bm, h1, h2, h3, h4, h5, h6, h7⟩ := h
  exact ⟨v, bm, (hm p h6 (blk_lt h1)).trans h1, (hm bm h7 (blk_lt h2)).trans h2, Kd.R_step h3 hm, h4, h5, h6, h7⟩
theorem Tbl.mono (h : Tbl w base ok p L) (hok : ∀ k, ok k → ok' k) : Tbl w base ok' p L := by
  obtain ⟨v, bm, h1, h2, h3, h4, h5, h6, h7⟩ := h
  exact ⟨v, bm, h1, h2, Kd.R_mono h3 hok, h4, h5, hok _ h6, hok _ h7⟩
theorem Tbl.below (h : Tbl w base ok p L) (hb : Below w.heap.size w w1) : Tbl w1 base ok p L := h.step (fun k _ hk => hb.block k hk)
theorem Tbl.drawn (h : Tbl w base ok p L) (hb : Drawn0 w w1) : Tbl w1 base ok p L := h.below hb.below
theorem Tbl.kept (h : Tbl w base ok p L) (hk : Kept w w1 S) (hne : ∀ k, ok k → ¬ S k) : Tbl w1 base ok p L := h.step (fun k ho hlt => hk.2 k hlt (hne k ho))
end


theorem blk_last (w : World) (o : Obj) : (w.alloc o).heap[w.heap.size]? = some o := by
  show (w.heap.push o)[w.heap.size]? = some o
  simp
theorem blk_old {w : World} (o : Obj) {k : Nat} {x : Obj} (h : w.heap[k]? = some x) : (w.alloc o).heap[k]? = some x := by
  rw [Below.heap_alloc w o k (blk_lt h)]; exact h

set_option maxHeartbeats 400000 in
theorem new_calls (w : World) :
    Calls Try.prog 16 #[] w fun e w' => ∃ p, e = .returned (.pointer (some ⟨p, 0, none⟩)) ∧ Tbl w' w.heap.size (fun k => w.heap.size ≤ k) p [] ∧ Below w.heap.size w w' := by
  have hmm := @run_makeMap Try.prog
  go_enter Try.func16, Try.ntmps16
  go_wp2
  go_ret
  refine ⟨w.heap.size + 1, rfl, ⟨.slice none 0 0, w.heap.size, ?_, ?_, Kd.R_nil _ _ _ _ _, by omega, by omega, by omega, Nat.le_refl _⟩, ((Below.refl _ _).alloc (Nat.le_refl _) _).alloc (by simp) _⟩
  · have := blk_last (w.alloc (.map #[] 0)) (.cells #[.slice none 0 0, .map (some w.heap.size)] 92)
    simpa using this
  · exact blk_old _ (blk_last w _)

/-- The cells of a table. -/
theorem Tbl.cells {w : World} {base p : Nat} {ok : Nat → Prop} {L : List ByteArray} (h : Tbl w base ok p L) :
    ∃ A c bm, w.cell? ⟨p, 0, none⟩ = some (.slice A L.length c) ∧ w.cell? ⟨p, 1, none⟩ = some (.map (some bm)) ∧ w.heap[bm]? = some (.map (ents 0 L).toArray L.length) ∧ L.length ≤ c ∧ Kd.C Kd.string w A L.length L ∧ w.frozen? ⟨p, 0, none⟩ = false := by
  obtain ⟨v, bm, h1, h2, h3, _⟩ := h
  obtain ⟨A, c, rfl, hl, hc⟩ := Kd.R_reads h3
  exact ⟨A, c, bm, by simp [World.cell?, h1], by simp [World.cell?, h1], h2, hl, hc, by simp [World.frozen?, h1]⟩

set_option maxHeartbeats 400000 in
theorem len_calls {w : World} {base p : Nat} {ok : Nat → Prop} {L : List ByteArray} (h : Tbl w base ok p L) :
    Calls Try.prog 20 #[.pointer (some ⟨p, 0, none⟩)] w fun e w' => e = .returned (.int .i64 (L.length : Int)) ∧ w = w' := by
  obtain ⟨A, c, bm, c0, c1, hb, hl, hc, f0⟩ := h.cells
  go_enter Try.func20, Try.ntmps20
  go_wp2
  go_ret
  exact ⟨rfl, rfl⟩

set_option maxHeartbeats 400000 in
theorem len_nil (w : World) : Calls Try.prog 20 #[.pointer none] w fun e w' => e = .returned (.int .i64 0) ∧ w = w' := by
  go_enter Try.func20, Try.ntmps20
  go_wp2
  go_ret
  exact ⟨rfl, rfl⟩

set_option maxHeartbeats 400000 in
theorem find_calls {w : World} {base p : Nat} {ok : Nat → Prop} {L : List ByteArray} (h : Tbl w base ok p L) (s : ByteArray) :
    Calls Try.prog 22 #[.pointer (some ⟨p, 0, none⟩), .string s] w fun e w' => e = .returned (.tuple #[.int .i64 (((idx s L).getD 0 : Nat) : Int), .bool (idx s L).isSome]) ∧ w = w' := by
  obtain ⟨A, c, bm, c0, c1, hb, hl, hc, f0⟩ := h.cells
  go_enter Try.func22, Try.ntmps22
  go_wp2_with (at_lookup; refine wp_look rfl _ _ rfl bm s L rfl rfl hb ?_)
  go_ret2
  exact ⟨rfl, rfl⟩

set_option maxHeartbeats 400000 in
theorem find_nil (s : ByteArray) (w : World) : Calls Try.prog 22 #[.pointer none, .string s] w fun e w' => e = .returned (.tuple #[.int .i64 0, .bool false]) ∧ w = w' := by
  go_enter Try.func22, Try.ntmps22
  go_wp2
  go_ret2
  exact ⟨rfl, rfl⟩

end Go.Proofs.Ytgcjfobmccoibaa.Nm

/-! Which texts are names: both texts of Good come to the same test; and what Name comes to. No condition but those that each theorem states. -/
namespace Go.Proofs.Ytgcjfobmccoibaa.Nm
open Go.RowKit Go.Proofs.YtgcjfobmccoibaaW.PrintWords Go.Proofs.YtgcjfobmccoibaaW.PrintLast Go.Proofs.YtgcjfobmccoibaaW.PrintMore

/-- From place i on all bytes are those of names. -/
def bytesOk (s : ByteArray) (i : Nat) : Prop := ∀ j : Nat, i ≤ j → j < s.size → 33 ≤ bt s (j : Int) ∧ bt s (j : Int) ≤ 126
instance (s : ByteArray) (i : Nat) : Decidable (bytesOk s i) :=
  decidable_of_iff (∀ j, j < s.size → i ≤ j → 33 ≤ bt s (j : Int) ∧ bt s (j : Int) ≤ 126) ⟨fun h j a b => h j b a, fun h j a b => h j b a⟩
/-- A text is a name. -/
def goodB (s : ByteArray) : Bool := decide (1 ≤ s.size ∧ s.size ≤ 32 ∧ bytesOk s 0)

theorem bytesOk_end (s : ByteArray) (i : Nat) (h : s.size ≤ i) : bytesOk s i := fun j a b => by omega
theorem bytesOk_step {s : ByteArray} {i : Nat} (h : i < s.size) (hb : 33 ≤ bt s (i : Int) ∧ bt s (i : Int) ≤ 126) : bytesOk s i ↔ bytesOk s (i + 1) := by
  constructor
  · intro k j a b
    exact k j (by omega) b
  · intro k j a b
    by_cases e : j = i
    · subst e; exact hb
    · exact k j (by omega) b
theorem wrap_one {i : Nat} (h : i ≤ 9223372036854775806) : wrap64 ((i : Int) + 1) = ((i + 1 : Nat) : Int) := by
  unfold wrap64; omega

theorem good_loop (s : ByteArray) (hs : s.size ≤ 32) : ∀ (d k i : Nat), i + d = s.size → d < k →
    PGraphChecks.names_Good.l0 k s (s.size : Int) (i : Int) = some (decide (bytesOk s i))
  | 0, k, i, hd, hk => by
    obtain ⟨k, rfl⟩ : ∃ m, k = m + 1 := ⟨k - 1, by omega⟩
    simp only [PGraphChecks.names_Good.l0]
    rw [if_neg (by omega), decide_eq_true (bytesOk_end s i (by omega))]
  | d + 1, k, i, hd, hk => by
    obtain ⟨k, rfl⟩ : ∃ m, k = m + 1 := ⟨k - 1, by omega⟩
    simp only [PGraphChecks.names_Good.l0]
    rw [if_pos (by omega), if_pos (by omega), if_pos (by omega)]
    by_cases h1 : bt s (i : Int) < 33
    · rw [if_pos h1, decide_eq_false (fun h => by have := h i (Nat.le_refl _) (by omega); omega)]
    · rw [if_neg h1]
      by_cases h2 : bt s (i : Int) > 126
      · rw [if_pos h2, decide_eq_false (fun h => by have := h i (Nat.le_refl _) (by omega); omega)]
      · rw [if_neg h2, wrap_one (by omega), good_loop s hs d k (i + 1) (by omega) (by omega)]
        rw [decide_eq_decide.2 (bytesOk_step (by omega) ⟨by omega, by omega⟩).symm]

theorem rgood_loop (s : ByteArray) (hs : s.size ≤ 32) : ∀ (d k i : Nat), i + d = s.size → d < k →
    PGraphChecks.tendrilref03_Good.l0 k s (i : Int) = some (decide (bytesOk s i))
  | 0, k, i, hd, hk => by
    obtain ⟨k, rfl⟩ : ∃ m, k = m + 1 := ⟨k - 1, by omega⟩
    simp only [PGraphChecks.tendrilref03_Good.l0]
    rw [if_neg (by omega), decide_eq_true (bytesOk_end s i (by omega))]
  | d + 1, k, i, hd, hk => by
    obtain ⟨k, rfl⟩ : ∃ m, k = m + 1 := ⟨k - 1, by omega⟩
    simp only [PGraphChecks.tendrilref03_Good.l0]
    rw [if_pos (by omega), if_pos (by omega)]
    by_cases h1 : bt s (i : Int) ≤ 32
    · rw [if_pos h1, decide_eq_false (fun h => by have := h i (Nat.le_refl _) (by omega); omega)]
    · rw [if_neg h1]
      by_cases h2 : bt s (i : Int) ≥ 127
      · rw [if_pos h2, decide_eq_false (fun h => by have := h i (Nat.le_refl _) (by omega); omega)]
      · rw [if_neg h2, wrap_one (by omega), rgood_loop s hs d k (i + 1) (by omega) (by omega)]
        rw [decide_eq_decide.2 (bytesOk_step (by omega) ⟨by omega, by omega⟩).symm]

theorem toList_nil {s : ByteArray} : s.toList = [] ↔ s.size = 0 := by
  rw [Go.ByteArray.toList_eq]
  constructor
  · intro h
    have := congrArg List.length h
    simpa using this
  · intro h
    exact List.eq_nil_of_length_eq_zero (by simpa using h)

theorem good_f (s : ByteArray) : PGraphChecks.names_Good.f 40 s = some (goodB s) := by
  unfold PGraphChecks.names_Good.f goodB
  by_cases h0 : s.size = 0
  · rw [if_pos (toList_nil.2 h0)]
    simp only [PGraphChecks.names_Good.j0]
    rw [decide_eq_false (by omega)]
    rfl
  · rw [if_neg (fun h => h0 (toList_nil.1 h))]
    by_cases h1 : s.size ≤ 32
    · rw [decide_eq_false (by omega)]
      simp only [PGraphChecks.names_Good.j0]
      rw [if_neg (by decide), show (0 : Int) = ((0 : Nat) : Int) from rfl, good_loop s h1 s.size 39 0 (by omega) (by omega)]
      exact congrArg some (decide_eq_decide.2 ⟨fun h => ⟨by omega, h1, h⟩, fun h => h.2.2⟩)
    · rw [decide_eq_true (by omega)]
      simp only [PGraphChecks.names_Good.j0]
      rw [decide_eq_false (by omega)]
      rfl

theorem rgood_f (s : ByteArray) : PGraphChecks.tendrilref03_Good.f 40 s = some (goodB s) := by
  unfold PGraphChecks.tendrilref03_Good.f goodB
  by_cases h0 : s.size = 0
  · rw [if_pos (by omega)]
    simp only [PGraphChecks.tendrilref03_Good.j0]
    rw [decide_eq_false (by omega)]
    rfl
  · rw [if_neg (by omega)]
    by_cases h1 : s.size ≤ 32
    · rw [decide_eq_false (by omega)]
      simp only [PGraphChecks.tendrilref03_Good.j0]
      rw [if_neg (by decide), show (0 : Int) = ((0 : Nat) : Int) from rfl, rgood_loop s h1 s.size 39 0 (by omega) (by omega)]
      exact congrArg some (decide_eq_decide.2 ⟨fun h => ⟨by omega, h1, h⟩, fun h => h.2.2⟩)
    · rw [decide_eq_true (by omega)]
      simp only [PGraphChecks.tendrilref03_Good.j0]
      rw [decide_eq_false (by omega)]
      rfl

theorem good_calls (s : ByteArray) (w : World) : Calls Try.prog 23 #[.string s] w fun e w' => e = .returned (.bool (goodB s)) ∧ Drawn0 w w' := PGraphChecks.names_Good.calls 40 s _ w (good_f s)
theorem rgood_calls (s : ByteArray) (w : World) : Calls Try.prog 24 #[.string s] w fun e w' => e = .returned (.bool (goodB s)) ∧ Drawn0 w w' := PGraphChecks.tendrilref03_Good.calls 40 s _ w (rgood_f s)

end Go.Proofs.Ytgcjfobmccoibaa.Nm

/-! What Name and Put of a table come to; errors as they lie in memory. No condition but those that each theorem states. -/
namespace Go.Proofs.Ytgcjfobmccoibaa.Nm
open Go.RowKit Go.Proofs.YtgcjfobmccoibaaW.PrintWords Go.Proofs.YtgcjfobmccoibaaW.PrintLast Go.Proofs.YtgcjfobmccoibaaW.PrintMore

/-- An error value: nil, or a chain of faults: each with its code, its place, its name. -/
def IsErr (w : World) (ok : Nat → Prop) : Value → List (Int × Int × ByteArray) → Prop
  | ev, [] => ev = .nilIface
  | ev, (c, a, n) :: r => ∃ b cv, ev = .iface 93 (.pointer (some ⟨b, 0, none⟩)) ∧ ok b ∧ w.heap[b]? = some (.cells #[.int .i64 c, .int .i64 a, .string n, cv] 96 (0, 0)) ∧ IsErr w ok cv r

theorem IsErr.step {w w1 : World} {ok : Nat → Prop} (hm : ∀ k, ok k → k < w.heap.size → w1.heap[k]? = w.heap[k]?) : ∀ {r : List (Int × Int × ByteArray)} {ev : Value}, IsErr w ok ev r → IsErr w1 ok ev r
  | [], _, h => h
  | (_, _, _) :: _, _, ⟨b, cv, h1, h2, h3, h4⟩ => ⟨b, cv, h1, h2, (hm b h2 (blk_lt h3)).trans h3, h4.step hm⟩
theorem IsErr.mono {w : World} {ok ok' : Nat → Prop} (hok : ∀ k, ok k → ok' k) : ∀ {r : List (Int × Int × ByteArray)} {ev : Value}, IsErr w ok ev r → IsErr w ok' ev r
  | [], _, h => h
  | (_, _, _) :: _, _, ⟨b, cv, h1, h2, h3, h4⟩ => ⟨b, cv, h1, hok _ h2, h3, h4.mono hok⟩
theorem IsErr.below {w w1 : World} {ok : Nat → Prop} {r : List (Int × Int × ByteArray)} {ev : Value} (h : IsErr w ok ev r) (hb : Below w.heap.size w w1) : IsErr w1 ok ev r := h.step (fun k _ hk => hb.block k hk)
theorem IsErr.kept {w w1 : World} {ok S : Nat → Prop} {r : List (Int × Int × ByteArray)} {ev : Value} (h : IsErr w ok ev r) (hk : Kept w w1 S) (hne : ∀ k, ok k → ¬ S k) : IsErr w1 ok ev r := h.step (fun k ho hlt => hk.2 k hlt (hne k ho))

set_option maxRecDepth 100000 in
set_option maxHeartbeats 1000000 in
theorem name_out {w : World} {base p : Nat} {ok : Nat → Prop} {L : List ByteArray} (h : Tbl w base ok p L) (n : Int) (hn : n < 0 ∨ (L.length : Int) ≤ n) :
    Calls Try.prog 21 #[.pointer (some ⟨p, 0, none⟩), .int .i64 n] w fun e w' => e = .returned (.tuple #[.string ⟨#[]⟩, .bool false]) ∧ w = w' := by
  rcases hn with hn | hn
  · go_enter Try.func21, Try.ntmps21
    go_wp2_with fail
    go_ret2
    exact ⟨rfl, rfl⟩
  · by_cases h0 : n < 0
    · go_enter Try.func21, Try.ntmps21
      go_wp2_with fail
      go_ret2
      exact ⟨rfl, rfl⟩
    · go_enter Try.func21, Try.ntmps21
      go_wp2_with (go_at_call 20; refine (len_calls h).mono ?_; rintro e w' ⟨rfl, rfl⟩)
      go_ret2
      exact ⟨rfl, rfl⟩

set_option maxRecDepth 100000 in
set_option maxHeartbeats 1000000 in
theorem name_in {w : World} {base p : Nat} {ok : Nat → Prop} {L : List ByteArray} (h : Tbl w base ok p L) (n : Nat) (hn : n < L.length) :
    Calls Try.prog 21 #[.pointer (some ⟨p, 0, none⟩), .int .i64 (n : Int)] w fun e w' => e = .returned (.tuple #[.string (L.getD n ByteArray.empty), .bool true]) ∧ w = w' := by
  obtain ⟨A, c, bm, c0, c1, hb, hl, hc, f0⟩ := h.cells
  obtain ⟨ad, cc, rfl, hcl, hK, hcc⟩ := Kd.C_get hc ByteArray.empty (n : Int) (by omega) (by omega)
  have hK' : cc = [.string (L.getD n ByteArray.empty)] := hK
  subst hK'
  have hx : w.cell? (ad.add n) = some (.string (L.getD n ByteArray.empty)) := by
    have := hcc 0 _ rfl
    simpa [Kd.string, Kd.scalar] using this
  generalize L.getD n ByteArray.empty = s at hx
  have h1 : ¬ ((n : Int) < 0) := by omega
  go_enter Try.func21, Try.ntmps21
  go_wp2_with (go_at_call 20; refine (len_calls h).mono ?_; rintro e w' ⟨rfl, rfl⟩)
  go_ret2
  exact ⟨rfl, rfl⟩

/-- What Put answers: the names behind it, the number, the fault. -/
def putL (L : List ByteArray) (s : ByteArray) : List ByteArray := if goodB s = true ∧ idx s L = none ∧ L.length ≠ 1024 then L ++ [s] else L
def putN (L : List ByteArray) (s : ByteArray) : Nat := if goodB s = true then ((idx s L).getD (if L.length = 1024 then 0 else L.length)) else 0
def putE (L : List ByteArray) (s : ByteArray) : List (Int × Int × ByteArray) := if goodB s = true then (if idx s L = none ∧ L.length = 1024 then [(31, -1, s)] else []) else [(30, -1, s)]

theorem isErr_made {w W : World} (hb : Below w.heap.size w W) (c a : Int) (n : ByteArray) : IsErr (W.alloc (.cells #[.int .i64 c, .int .i64 a, .string n, .nilIface] 96)) (fun k => w.heap.size ≤ k) (.iface 93 (.pointer (some ⟨W.heap.size, 0, none⟩))) [(c, a, n)] :=
  ⟨W.heap.size, .nilIface, rfl, hb.size, blk_last W _, rfl⟩
theorem below_drawn (w : World) (n : Nat) : Below w.heap.size w (w.drewN n) := Drawn0.below ⟨⟨n, rfl⟩⟩

set_option maxRecDepth 100000 in
set_option maxHeartbeats 1000000 in
theorem put_bad {w : World} {base p : Nat} {ok : Nat → Prop} {L : List ByteArray} (_h : Tbl w base ok p L) (s : ByteArray) (hg : goodB s = false) :
    Calls Try.prog 17 #[.pointer (some ⟨p, 0, none⟩), .string s] w fun e w' => ∃ ev, e = .returned (.tuple #[.int .i64 0, ev]) ∧ IsErr w' (fun k => w.heap.size ≤ k) ev [(30, -1, s)] ∧ Below w.heap.size w w' := by
  have HG := Lib.hid hg
  go_enter Try.func17, Try.ntmps17
  clear hg
  go_wp2_with (go_at_call 23; refine (good_calls s _).mono ?_; rw [HG.out]; rintro e w' ⟨rfl, ⟨n, rfl⟩⟩)
  go_ret2
  exact ⟨_, rfl, isErr_made (below_drawn w n) _ _ _, (below_drawn w n).alloc (by simp) _⟩

theorem put_nil (s : ByteArray) (w : World) :
    Calls Try.prog 17 #[.pointer none, .string s] w fun e w' => ∃ ev, e = .returned (.tuple #[.int .i64 0, ev]) ∧ IsErr w' (fun k => w.heap.size ≤ k) ev [(1, -1, ⟨#[]⟩)] ∧ Below w.heap.size w w' := by
  go_enter Try.func17, Try.ntmps17
  go_wp2
  go_ret2
  exact ⟨_, rfl, isErr_made (Below.refl _ w) _ _ _, (Below.refl _ w).alloc (Nat.le_refl _) _⟩

set_option maxRecDepth 100000 in
set_option maxHeartbeats 1000000 in
theorem put_there {w : World} {base p : Nat} {ok : Nat → Prop} {L : List ByteArray} (h : Tbl w base ok p L) (s : ByteArray) (hg : goodB s = true) (i : Nat) (hi : idx s L = some i) :
    Calls Try.prog 17 #[.pointer (some ⟨p, 0, none⟩), .string s] w fun e w' => e = .returned (.tuple #[.int .i64 (i : Int), .nilIface]) ∧ Drawn0 w w' := by
  obtain ⟨A, c, bm, c0, c1, hb, hl, hc, f0⟩ := h.cells
  have HG := Lib.hid hg
  have HI := Lib.hid hi
  clear hg hi
  go_enter Try.func17, Try.ntmps17
  go_wp2_with (first | (go_at_call 23; refine (good_calls s _).mono ?_; rw [HG.out]; rintro e w' ⟨rfl, ⟨n, rfl⟩⟩) | (at_lookup; refine wp_look rfl _ _ rfl bm s L rfl rfl hb ?_; rw [HI.out]; simp only [Option.getD_some, Option.isSome_some]))
  go_ret2
  exact ⟨rfl, ⟨n, rfl⟩⟩

set_option maxRecDepth 100000 in
set_option maxHeartbeats 1000000 in
theorem put_full {w : World} {base p : Nat} {ok : Nat → Prop} {L : List ByteArray} (h : Tbl w base ok p L) (s : ByteArray) (hg : goodB s = true) (hi : idx s L = none) (hf : L.length = 1024) :
    Calls Try.prog 17 #[.pointer (some ⟨p, 0, none⟩), .string s] w fun e w' => ∃ ev, e = .returned (.tuple #[.int .i64 0, ev]) ∧ IsErr w' (fun k => w.heap.size ≤ k) ev [(31, -1, s)] ∧ Below w.heap.size w w' := by
  obtain ⟨A, c, bm, c0, c1, hb, hl, hc, f0⟩ := h.cells
  have HG := Lib.hid hg
  have HI := Lib.hid hi
  have HF := Lib.hid hf
  have hfb : ((L.length : Int) == 1024) = true := by simp [hf]
  clear hg hi hf
  go_enter Try.func17, Try.ntmps17
  go_wp2_with (first | (go_at_call 23; refine (good_calls s _).mono ?_; rw [HG.out]; rintro e w' ⟨rfl, ⟨n, rfl⟩⟩) | (at_lookup; refine wp_look rfl _ _ rfl bm s L rfl rfl hb ?_; rw [HI.out]; simp only [Option.getD_none, Option.isSome_none]))
  go_ret2
  exact ⟨_, rfl, isErr_made (below_drawn w n) _ _ _, (below_drawn w n).alloc (by simp) _⟩

theorem own_not_map {α : Type} {d : Kd α} {e base b : Nat} {w : World} {ok : Nat → Prop} {v : Value} {xs : List α} {es : Array MapEntry} {k : Nat} (h : d.R e w base ok v xs) (hb : w.heap[b]? = some (.map es k)) : some b ≠ v.ownBlock := by
  intro he
  obtain ⟨inner, ho⟩ := Kd.R_own h
  obtain ⟨cells, hc⟩ := own_typed ho b he.symm
  rw [hb] at hc
  cases hc

theorem R_notmap {α : Type} {d : Kd α} {e base b : Nat} {w : World} {ok : Nat → Prop} {v : Value} {xs : List α} {es : Array MapEntry} {k : Nat} (h : d.R e w base ok v xs) (hb : w.heap[b]? = some (.map es k)) : d.R e w base (fun k => ok k ∧ k ≠ b) v xs :=
  Kd.R_mono (Kd.R_bound h) (fun j hj => ⟨hj.1, fun e => by
    obtain ⟨_, _, _, q, _, cells, hc⟩ := hj
    rw [e, hb] at hc
    cases hc⟩)

theorem set_same {w : World} {b : Nat} {o : Obj} (h : w.heap[b]? = some o) (o' : Obj) : (ChangeMaps.setBlock w b o').heap[b]? = some o' := by
  simp only [ChangeMaps.setBlock]
  rw [Array.getElem?_setIfInBounds_self_of_lt (blk_lt h)]
theorem set_other (w : World) {b k : Nat} (o' : Obj) (h : k ≠ b) : (ChangeMaps.setBlock w b o').heap[k]? = w.heap[k]? := by
  simp only [ChangeMaps.setBlock]
  rw [Array.getElem?_setIfInBounds_ne (Ne.symm h)]
theorem set_size (w : World) (b : Nat) (o' : Obj) : (ChangeMaps.setBlock w b o').heap.size = w.heap.size := by simp [ChangeMaps.setBlock]

/-- What Put leaves of a new name: the list has grown, the field and the map have been written. -/
theorem put_end {w0 w w1 : World} {p bm n : Nat} {ok : Nat → Prop} {L : List ByteArray} {s : ByteArray} {v v1 : Value} (h4 : w0.heap.size ≤ p) (h5 : w0.heap.size ≤ bm) (h6 : ok p) (h7 : ok bm) (hv : ∀ k, v.ownBlock = some k → ok k)
    (hne : bm ≠ p) (HS : Kd.string.R 9 w1 w0.heap.size (fun k => ok k ∨ w.heap.size ≤ k) v1 (L ++ [s])) (HB1 : Below w0.heap.size w0 w1) (HG : (w.drewN n).grownBy w1 v.ownBlock)
    (HP1 : w1.heap[p]? = some (.cells #[v, .map (some bm)] 92 (0, 0))) (HM1 : w1.heap[bm]? = some (.map (ents 0 L).toArray L.length)) :
    Tbl (ChangeMaps.setBlock (w1.setCell ⟨p, 0, none⟩ v1) bm (.map (ents 0 (L ++ [s])).toArray (L.length + 1))) w0.heap.size (fun k => ok k ∨ w.heap.size ≤ k) p (L ++ [s]) ∧
    Below w0.heap.size w0 (ChangeMaps.setBlock (w1.setCell ⟨p, 0, none⟩ v1) bm (.map (ents 0 (L ++ [s])).toArray (L.length + 1))) ∧
    Kept w (ChangeMaps.setBlock (w1.setCell ⟨p, 0, none⟩ v1) bm (.map (ents 0 (L ++ [s])).toArray (L.length + 1))) ok := by
  have hm2 : (w1.setCell ⟨p, 0, none⟩ v1).heap[bm]? = some (.map (ents 0 L).toArray L.length) := by rw [Below.heap_setCell _ _ _ _ hne]; exact HM1
  have hb2 : Below w0.heap.size w0 (w1.setCell ⟨p, 0, none⟩ v1) := HB1.setCell h4 _
  refine ⟨⟨v1, bm, ?_, ?_, ?_, h4, h5, .inl h6, .inl h7⟩, ?_, ?_⟩
  · rw [set_other _ _ (Ne.symm hne)]
    exact blk_put HP1 0 v1 rfl
  · rw [set_same hm2]; simp
  · have hr := R_notmap (Kd.R_set (g := p) HS HP1 (by decide) 0 v1) hm2
    exact Kd.R_mono (Kd.R_step hr (fun k hk _ => set_other _ _ hk.2)) (fun _ hk => hk.1)
  · refine hb2.trans ⟨rfl, rfl, rfl, by rw [set_size]; exact Nat.le_refl _, fun k hk => set_other _ _ (by omega)⟩
  · refine ⟨by rw [set_size]; simp [World.setCell]; exact HG.size, fun k hk hn => ?_⟩
    rw [set_other _ _ (fun e : k = bm => hn (by rw [e]; exact h7)), Below.heap_setCell _ _ _ _ (fun e : k = p => hn (by rw [e]; exact h6))]
    exact HG.block k hk (fun e => hn (hv k e.symm))

theorem info9 : (Try.prog.info? 9).map (fun i => (i.zero, i.size, i.bytes)) = some (some (.string ⟨#[]⟩), 1, 16) := by kernel_rfl

set_option maxRecDepth 100000 in
set_option maxHeartbeats 1000000 in
theorem put_new {w0 w : World} {p : Nat} {ok : Nat → Prop} {L : List ByteArray} (hB : Below w0.heap.size w0 w) (h : Tbl w w0.heap.size ok p L) (s : ByteArray) (hg : goodB s = true) (hi : idx s L = none) (hf : L.length < 1024) :
    Calls Try.prog 17 #[.pointer (some ⟨p, 0, none⟩), .string s] w fun e w' => e = .returned (.tuple #[.int .i64 (L.length : Int), .nilIface]) ∧ Tbl w' w0.heap.size (fun k => ok k ∨ w.heap.size ≤ k) p (L ++ [s]) ∧ Below w0.heap.size w0 w' ∧ Kept w w' ok := by
  obtain ⟨v, bm, h1, h2, h3, h4, h5, h6, h7⟩ := h
  have h3' := h3
  obtain ⟨A, c, rfl, hl, hc⟩ := Kd.R_reads h3
  have c0 : w.cell? ⟨p, 0, none⟩ = some (.slice A L.length c) := by simp [World.cell?, h1]
  have c1 : w.cell? ⟨p, 1, none⟩ = some (.map (some bm)) := by simp [World.cell?, h1]
  have HG := Lib.hid hg
  have HI := Lib.hid hi
  have hfb : ((L.length : Int) == 1024) = false := by simp; omega
  clear hg hi
  go_enter Try.func17, Try.ntmps17
  have HL := Aside0.mk hf
  have HO := Aside0.mk h3'.1
  have HR := Aside0.mk (Kd.R_mono h3' (ok' := fun k => ok k ∨ w.heap.size ≤ k) (fun _ h => .inl h))
  have HB := Aside0.mk hB
  have H1 := Aside0.mk h1
  have H2 := Aside0.mk h2
  have hne : Aside0 (bm ≠ p) := ⟨fun e => by rw [e, h1] at h2; cases h2⟩
  clear h3' h3 hc hf hB h1
  go_wp2_with (first | (go_at_call 23; refine (good_calls s _).mono ?_; rw [HG.out]; rintro e w' ⟨rfl, ⟨n, rfl⟩⟩) | (at_lookup; refine wp_look rfl _ _ rfl bm s L rfl rfl h2 ?_; rw [HI.out]; simp only [Option.getD_none, Option.isSome_none]; clear h2 HG) | (at_builtin; go_must (refine Kd.R_append Kd.string (w0 := w0) (W := w.drewN n) w0.heap.size rfl (.tmp 47) (.tmp 49) 25 9 (.string ⟨#[]⟩) 16 rfl Try.underlying25 info9 rfl (by decide) (by decide) (.slice A L.length c) L s [.string s] (fun k => ok k ∨ w.heap.size ≤ k) (fun _ => False) rfl rfl rfl (fun _ h => h.elim) (fun _ h => .inr h) (Kd.R_drewN HR.out n) (pw_below_drewN HB.out n) HB.out.size (by have := HL.out; omega) ?_); go_must (intro v1 w1 hR hB1 hg hat; obtain ⟨A1, cc, rfl⟩ := Kd.R_slice hR; have HS := Aside0.mk hR; have HB1 := Aside0.mk hB1; have HGr := Aside0.mk hg; have HAt := Aside0.mk hat; have hp1 := (hg.block p (blk_lt H1.out) (Kd.R_ne HR.out H1.out (by decide))).trans H1.out; have hb1 := (hg.block bm (blk_lt H2.out) (own_not_map HR.out H2.out)).trans H2.out; have c0 : w1.cell? ⟨p, 0, none⟩ = some (.slice A L.length c) := (by simp [World.cell?, hp1]); have c1 : w1.cell? ⟨p, 1, none⟩ = some (.map (some bm)) := (by simp [World.cell?, hp1]); have f0 : w1.frozen? ⟨p, 0, none⟩ = false := (by simp [World.frozen?, hp1]); have HP1 := Aside0.mk hp1; have HM1 := Aside0.mk hb1; clear hR hB1 hg hat hp1 hb1)) | (at_mapUpdate; go_must (refine wp_store rfl (.tmp 56) (.tmp 57) (.tmp 58) rfl bm s L rfl rfl rfl (by rw [Below.heap_setCell _ _ _ _ hne.out]; exact HM1.out) (idx_none.1 HI.out) ?_)))
  go_ret2
  exact ⟨rfl, put_end h4 h5 h6 h7 HO.out hne.out (by simpa using HS.out) HB1.out HGr.out HP1.out HM1.out⟩

/-- Put, all its ways together. -/
theorem put_calls {w0 w : World} {p : Nat} {ok : Nat → Prop} {L : List ByteArray} (hB : Below w0.heap.size w0 w) (h : Tbl w w0.heap.size ok p L) (hl : L.length ≤ 1024) (s : ByteArray) :
    Calls Try.prog 17 #[.pointer (some ⟨p, 0, none⟩), .string s] w fun e w' => ∃ ev, e = .returned (.tuple #[.int .i64 (putN L s : Int), ev]) ∧ IsErr w' (fun k => w.heap.size ≤ k) ev (putE L s) ∧
      Tbl w' w0.heap.size (fun k => ok k ∨ w.heap.size ≤ k) p (putL L s) ∧ Below w0.heap.size w0 w' ∧ Kept w w' ok := by
  have hT : ∀ {w'}, Below w.heap.size w w' → Tbl w' w0.heap.size (fun k => ok k ∨ w.heap.size ≤ k) p L := fun hb => (h.below hb).mono (fun _ hk => .inl hk)
  cases hg : goodB s with
  | false =>
    refine (put_bad h s hg).mono ?_
    rintro e w' ⟨ev, rfl, he, hb⟩
    refine ⟨ev, by simp [putN, hg], by simpa [putE, hg] using he, ?_, below_then hB hB.size hb, Kept.of_below hb _⟩
    have : putL L s = L := by simp [putL, hg]
    rw [this]; exact hT hb
  | true =>
    cases hi : idx s L with
    | some i =>
      refine (put_there h s hg i hi).mono ?_
      rintro e w' ⟨rfl, hd⟩
      refine ⟨.nilIface, by simp [putN, hg, hi], by simp [putE, hg, hi, IsErr], ?_, below_then hB hB.size hd.below, Kept.of_below hd.below _⟩
      have : putL L s = L := by simp [putL, hi]
      rw [this]; exact hT hd.below
    | none =>
      by_cases hf : L.length = 1024
      · refine (put_full h s hg hi hf).mono ?_
        rintro e w' ⟨ev, rfl, he, hb⟩
        refine ⟨ev, by simp [putN, hg, hi, hf], by simpa [putE, hg, hi, hf] using he, ?_, below_then hB hB.size hb, Kept.of_below hb _⟩
        have : putL L s = L := by simp [putL, hf]
        rw [this]; exact hT hb
      · refine (put_new hB h s hg hi (by omega)).mono ?_
        rintro e w' ⟨rfl, ht, hb, hk⟩
        refine ⟨.nilIface, by simp [putN, hg, hi, hf], by simp [putE, hg, hi, hf, IsErr], ?_, hb, hk⟩
        have : putL L s = L ++ [s] := by simp [putL, hg, hi, hf]
        rw [this]; exact ht

end Go.Proofs.Ytgcjfobmccoibaa.Nm

/-! Is: whether an error is just a chain of faults. No condition but those that each theorem states. -/
namespace Go.Proofs.Ytgcjfobmccoibaa.Nm
open Go.RowKit Go.Proofs.YtgcjfobmccoibaaW.PrintWords Go.Proofs.YtgcjfobmccoibaaW.PrintLast Go.Proofs.YtgcjfobmccoibaaW.PrintMore

/-- The four cells of a fault as plain numbers (its code, its place, its name, its causes): they tell this chain. -/
def FIs (w : World) (ok : Nat → Prop) : Int → Int → ByteArray → Value → List (Int × Int × ByteArray) → Prop
  | c, _, _, _, [] => c = 0
  | c, a, n, v, (c', a', n') :: r => c = c' ∧ c ≠ 0 ∧ a = a' ∧ n = n' ∧
    match r with
    | [] => ∃ A k, v = .slice A 0 k
    | (c2, a2, n2) :: r' => ∃ b o k v2, v = .slice (some ⟨b, o, none⟩) 1 k ∧ ok b ∧
      w.cell? ⟨b, o, none⟩ = some (.int .i64 c2) ∧ w.cell? ⟨b, o + 1, none⟩ = some (.int .i64 a2) ∧ w.cell? ⟨b, o + 2, none⟩ = some (.string n2) ∧ w.cell? ⟨b, o + 3, none⟩ = some v2 ∧ (∃ A2 l2 k2, v2 = .slice A2 l2 k2) ∧ FIs w ok c2 a2 n2 v2 ((c2, a2, n2) :: r')

theorem FIs.step {w w1 : World} {ok : Nat → Prop} (hm : ∀ k, ok k → k < w.heap.size → w1.heap[k]? = w.heap[k]?) : ∀ {r : List (Int × Int × ByteArray)} {c a : Int} {n : ByteArray} {v : Value}, FIs w ok c a n v r → FIs w1 ok c a n v r
  | [], _, _, _, _, h => h
  | [(_, _, _)], _, _, _, _, h => h
  | (_, _, _) :: (c2, a2, n2) :: r', _, _, _, _, h => by
    obtain ⟨h1, h2, h3, h4, b, o, k, v2, h5, h6, h7, h8, h9, h10, h11, h12⟩ := h
    have hb : w1.heap[b]? = w.heap[b]? := hm b h6 (World.block_lt_of_cell? w _ h7)
    have hc : ∀ j, w1.cell? ⟨b, j, none⟩ = w.cell? ⟨b, j, none⟩ := fun j => World.cell?_of_block (w := w) hb
    exact ⟨h1, h2, h3, h4, b, o, k, v2, h5, h6, (hc _).trans h7, (hc _).trans h8, (hc _).trans h9, (hc _).trans h10, h11, h12.step hm⟩

theorem bytes_ne {a b : ByteArray} (h : a ≠ b) : (a.toList == b.toList) = false := by
  rw [← beq_toListBytes]
  exact Bool.eq_false_iff.2 fun e => h ((MapKept.bytes_beq a b).1 e)
theorem ta_nil (w : World) : (Instr.typeAssert .nilIface 28 93 true).run Try.prog w = .ok (.tuple #[.pointer none, .bool false]) w := by kernel_rfl
theorem ta_fault (x : Value) (w : World) : (Instr.typeAssert (.iface 93 x) 28 93 true).run Try.prog w = .ok (.tuple #[x, .bool true]) w := by kernel_rfl

theorem is_next {w wr : World} {ok : Nat → Prop} {cv : Value} {re r : List (Int × Int × ByteArray)} {c2 a2 : Int} {n2 : ByteArray} {A2 : Option Addr} {l2 k2 nq : Nat} {x0 x1 x2 x3 : Value} (hok : ∀ k, ok k → k < w.heap.size)
    (HX : wr.heap[w.heap.size]? = some (.cells #[x0, x1, x2, x3] 33 (0, 0))) (HB : Below w.heap.size w wr) (he : IsErr wr ok cv re) (hf : FIs wr ok c2 a2 n2 (.slice A2 l2 k2) r) :
    IsErr (((((wr.drewN nq).setCell ⟨w.heap.size, 0, none⟩ (.int .i64 c2)).setCell ⟨w.heap.size, 1, none⟩ (.int .i64 a2)).setCell ⟨w.heap.size, 2, none⟩ (.string n2)).setCell ⟨w.heap.size, 3, none⟩ (.slice A2 l2 k2)) ok cv re ∧
    FIs (((((wr.drewN nq).setCell ⟨w.heap.size, 0, none⟩ (.int .i64 c2)).setCell ⟨w.heap.size, 1, none⟩ (.int .i64 a2)).setCell ⟨w.heap.size, 2, none⟩ (.string n2)).setCell ⟨w.heap.size, 3, none⟩ (.slice A2 l2 k2)) ok c2 a2 n2 (.slice A2 l2 k2) r ∧
    (((((wr.drewN nq).setCell ⟨w.heap.size, 0, none⟩ (.int .i64 c2)).setCell ⟨w.heap.size, 1, none⟩ (.int .i64 a2)).setCell ⟨w.heap.size, 2, none⟩ (.string n2)).setCell ⟨w.heap.size, 3, none⟩ (.slice A2 l2 k2)).heap[w.heap.size]? = some (.cells #[.int .i64 c2, .int .i64 a2, .string n2, .slice A2 l2 k2] 33 (0, 0)) ∧
    Below w.heap.size w (((((wr.drewN nq).setCell ⟨w.heap.size, 0, none⟩ (.int .i64 c2)).setCell ⟨w.heap.size, 1, none⟩ (.int .i64 a2)).setCell ⟨w.heap.size, 2, none⟩ (.string n2)).setCell ⟨w.heap.size, 3, none⟩ (.slice A2 l2 k2)) ∧
    (∃ A l k, (Value.slice A2 l2 k2) = .slice A l k) := by
  have hm : ∀ k, ok k → k < wr.heap.size → (((((wr.drewN nq).setCell ⟨w.heap.size, 0, none⟩ (.int .i64 c2)).setCell ⟨w.heap.size, 1, none⟩ (.int .i64 a2)).setCell ⟨w.heap.size, 2, none⟩ (.string n2)).setCell ⟨w.heap.size, 3, none⟩ (.slice A2 l2 k2)).heap[k]? = wr.heap[k]? := by
    intro k hk _
    have hne : k ≠ w.heap.size := Nat.ne_of_lt (hok k hk)
    rw [Below.heap_setCell _ _ _ _ hne, Below.heap_setCell _ _ _ _ hne, Below.heap_setCell _ _ _ _ hne, Below.heap_setCell _ _ _ _ hne]
    rfl
  refine ⟨he.step hm, hf.step hm, ?_, ((((pw_below_drewN HB nq).setCell (Nat.le_refl _) _).setCell (Nat.le_refl _) _).setCell (Nat.le_refl _) _).setCell (Nat.le_refl _) _, ⟨_, _, _, rfl⟩⟩
  exact blk_put (blk_put (blk_put (blk_put (blk_drewN HX nq) 0 (.int .i64 c2) rfl) 1 (.int .i64 a2) rfl) 2 (.string n2) rfl) 3 (.slice A2 l2 k2) rfl

set_option maxRecDepth 100000 in
set_option maxHeartbeats 1000000 in
theorem is_try (w : World) (ok : Nat → Prop) (ev : Value) (re r : List (Int × Int × ByteArray)) (c a : Int) (n : ByteArray) (v : Value) (hv : ∃ A2 l2 k2, v = .slice A2 l2 k2) (hok : ∀ k, ok k → k < w.heap.size) (he : IsErr w ok ev re) (hf : FIs w ok c a n v r) :
    Calls Try.prog 19 #[ev, .agg #[.int .i64 c, .int .i64 a, .string n, v]] w fun e w' => e = .returned (.bool (decide (re = r))) ∧ Below w.heap.size w w' := by
  have htn := ta_nil
  have htf := ta_fault
  go_enter Try.func19, Try.ntmps19
  go_wp2
  go_loopg [0] r.length (fun g v0 wr => ∃ ev' re' r' c' a' n' vv, ev' = v0 ∧ g = r'.length ∧ Aside0 (decide (re' = r') = decide (re = r)) ∧ IsErr wr ok ev' re' ∧ FIs wr ok c' a' n' vv r' ∧ wr.heap[w.heap.size]? = some (.cells #[.int .i64 c', .int .i64 a', .string n', vv] 33 (0, 0)) ∧ Below w.heap.size w wr ∧ (∃ A2 l2 k2, vv = .slice A2 l2 k2))
  case atStart => 
    have hb := (Below.refl w.heap.size w).alloc (Nat.le_refl _) (.cells #[.int .i64 c, .int .i64 a, .string n, v] 33)
    exact ⟨ev, re, r, c, a, n, v, rfl, rfl, ⟨rfl⟩, he.below hb, hf.step (fun k _ hk => hb.block k hk), blk_last w _, hb, hv⟩
  case round =>
    clear he hf
    obtain ⟨ev', re', r', c', a', n', vv, rfl, rfl, HD, he, hf, hbx, hB, hv1⟩ := hrel
    have b0 := blk_cell hbx 0
    have b1 := blk_cell hbx 1
    have b2 := blk_cell hbx 2
    have b3 := blk_cell hbx 3
    simp only [List.getElem?_toArray, List.getElem?_cons_zero, List.getElem?_cons_succ] at b0 b1 b2 b3
    have HB := Aside0.mk hB
    have HX := Aside0.mk hbx
    clear hB hbx
    cases r' with
    | nil =>
      have hc : c' = 0 := hf
      subst hc
      cases re' with
      | nil =>
        have he' : ev' = .nilIface := he
        subst he'
        clear he hf
        go_wp2
        go_ret
        exact ⟨by rw [← HD.out]; rfl, HB.out⟩
      | cons x re' =>
        obtain ⟨cx, ax, nx⟩ := x
        obtain ⟨bx, cv, rfl, hk, hbk, hr⟩ := he
        go_wp2
        go_ret
        exact ⟨by rw [← HD.out]; rfl, HB.out⟩
    | cons x r' =>
      obtain ⟨cy, ay, ny⟩ := x
      unfold FIs at hf
      obtain ⟨rfl, hc0, rfl, rfl, hrest⟩ := hf
      have hc0b : (c' == 0) = false := by simpa using hc0
      clear hc0
      cases re' with
      | nil =>
        have he' : ev' = .nilIface := he
        subst he'
        clear he
        go_wp2
        go_quiet (fail)
        go_wp2
        go_ret
        exact ⟨by rw [← HD.out]; rfl, pw_below_drewN HB.out _⟩
      | cons x re' =>
        obtain ⟨cx, ax, nx⟩ := x
        obtain ⟨bx, cv, rfl, hk, hbk, hr⟩ := he
        have d0 := blk_cell hbk 0
        have d1 := blk_cell hbk 1
        have d2 := blk_cell hbk 2
        have d3 := blk_cell hbk 3
        simp only [List.getElem?_toArray, List.getElem?_cons_zero, List.getElem?_cons_succ] at d0 d1 d2 d3
        by_cases hcc : cx = c'
        · subst hcc
          have e0 : (cx != cx) = false := by simp
          by_cases haa : ax = a'
          · subst haa
            have e1 : (ax != ax) = false := by simp
            by_cases hnn : nx = n'
            · subst hnn
              have e2 : (nx.toList == nx.toList) = true := by simp
              cases r' with
              | nil =>
                obtain ⟨A, kk, rfl⟩ := hrest
                cases re' with
                | nil =>
                  have hr' : cv = .nilIface := hr
                  subst hr'
                  clear hr
                  go_wp2
                  go_quiet (fail)
                  go_wp2
                  go_ret
                  exact ⟨by rw [← HD.out]; simp, pw_below_drewN HB.out _⟩
                | cons x2 re2 =>
                  obtain ⟨c3, a3, n3⟩ := x2
                  obtain ⟨b3', cv3, rfl, hk3, hbk3, hr3⟩ := hr
                  go_wp2
                  go_quiet (fail)
                  go_wp2
                  go_ret
                  exact ⟨by rw [← HD.out]; simp, pw_below_drewN HB.out _⟩
              | cons y r2 =>
                obtain ⟨c2, a2, n2⟩ := y
                obtain ⟨b, o, kk, v2, rfl, hbo, g0, g1, g2, g3, ⟨A2, l2, k2, rfl⟩, hf2⟩ := hrest
                have fb : wr.frozen? ⟨w.heap.size, 0, none⟩ = false := blk_frozen HX.out 0
                have fb1 : wr.frozen? ⟨w.heap.size, 1, none⟩ = false := blk_frozen HX.out 1
                have fb2 : wr.frozen? ⟨w.heap.size, 2, none⟩ = false := blk_frozen HX.out 2
                have fb3 : wr.frozen? ⟨w.heap.size, 3, none⟩ = false := blk_frozen HX.out 3
                go_wp2
                go_quiet (fail)
                go_wp2
                go_roundg (((c2, a2, n2) :: r2).length)
                case measure => simp
                case rel => exact ⟨cv, re', (c2, a2, n2) :: r2, c2, a2, n2, .slice A2 l2 k2, rfl, rfl, ⟨by rw [← HD.out]; simp⟩, is_next hok HX.out HB.out hr hf2⟩
            · have e2 : (nx.toList == n'.toList) = false := bytes_ne hnn
              have HN := Aside0.mk hnn
              clear hnn
              go_wp2
              go_quiet (fail)
              go_wp2
              go_ret
              exact ⟨by rw [← HD.out]; simp [HN.out], pw_below_drewN HB.out _⟩
          · have e1 : (ax != a') = true := by simpa using haa
            have HN := Aside0.mk haa
            clear haa
            go_wp2
            go_quiet (fail)
            go_wp2
            go_ret
            exact ⟨by rw [← HD.out]; simp [HN.out], pw_below_drewN HB.out _⟩
        · have e0 : (cx != c') = true := by simpa using hcc
          have HN := Aside0.mk hcc
          clear hcc
          go_wp2
          go_quiet (fail)
          go_wp2
          go_ret
          exact ⟨by rw [← HD.out]; simp [HN.out], pw_below_drewN HB.out _⟩

theorem IsErr.bound {w : World} {ok : Nat → Prop} : ∀ {r : List (Int × Int × ByteArray)} {ev : Value}, IsErr w ok ev r → IsErr w (fun k => ok k ∧ k < w.heap.size) ev r
  | [], _, h => h
  | (_, _, _) :: _, _, ⟨b, cv, h1, h2, h3, h4⟩ => ⟨b, cv, h1, ⟨h2, blk_lt h3⟩, h3, h4.bound⟩
theorem FIs.bound {w : World} {ok : Nat → Prop} : ∀ {r : List (Int × Int × ByteArray)} {c a : Int} {n : ByteArray} {v : Value}, FIs w ok c a n v r → FIs w (fun k => ok k ∧ k < w.heap.size) c a n v r
  | [], _, _, _, _, h => h
  | [(_, _, _)], _, _, _, _, h => h
  | (_, _, _) :: (c2, a2, n2) :: r', _, _, _, _, h => by
    obtain ⟨h1, h2, h3, h4, b, o, k, v2, h5, h6, h7, h8, h9, h10, h11, h12⟩ := h
    exact ⟨h1, h2, h3, h4, b, o, k, v2, h5, ⟨h6, World.block_lt_of_cell? w _ h7⟩, h7, h8, h9, h10, h11, h12.bound⟩
theorem FIs.mono {w : World} {ok ok' : Nat → Prop} (hok : ∀ k, ok k → ok' k) : ∀ {r : List (Int × Int × ByteArray)} {c a : Int} {n : ByteArray} {v : Value}, FIs w ok c a n v r → FIs w ok' c a n v r
  | [], _, _, _, _, h => h
  | [(_, _, _)], _, _, _, _, h => h
  | (_, _, _) :: (c2, a2, n2) :: r', _, _, _, _, h => by
    obtain ⟨h1, h2, h3, h4, b, o, k, v2, h5, h6, h7, h8, h9, h10, h11, h12⟩ := h
    exact ⟨h1, h2, h3, h4, b, o, k, v2, h5, hok _ h6, h7, h8, h9, h10, h11, h12.mono hok⟩

/-- Is: whether the error is just this chain. -/
theorem is_calls (w : World) (ok ok' : Nat → Prop) (ev : Value) (re r : List (Int × Int × ByteArray)) (c a : Int) (n : ByteArray) (v : Value) (hv : ∃ A2 l2 k2, v = .slice A2 l2 k2) (he : IsErr w ok ev re) (hf : FIs w ok' c a n v r) :
    Calls Try.prog 19 #[ev, .agg #[.int .i64 c, .int .i64 a, .string n, v]] w fun e w' => e = .returned (.bool (decide (re = r))) ∧ Below w.heap.size w w' :=
  is_try w (fun k => k < w.heap.size) ev re r c a n v hv (fun _ h => h) (he.bound.mono (fun _ h => h.2)) (hf.bound.mono (fun _ h => h.2))

end Go.Proofs.Ytgcjfobmccoibaa.Nm

/-! The document's answer for Put: its list, its number, its fault; and the fixed fact. No condition but those that each theorem states. -/
set_option linter.unusedSimpArgs false
set_option linter.unusedVariables false
namespace Go.Proofs.Ytgcjfobmccoibaa.Nm
open Go.RowKit Go.Proofs.YtgcjfobmccoibaaW.PrintWords Go.Proofs.YtgcjfobmccoibaaW.PrintLast Go.Proofs.YtgcjfobmccoibaaW.PrintMore

theorem idx_at {s : ByteArray} {L : List ByteArray} {j : Nat} (hj : j < L.length) (h : s ∉ L.take j) (e : L.getD j ByteArray.empty = s) : idx s L = some j := by
  induction L generalizing j with
  | nil => simp at hj
  | cons x L ih =>
    cases j with
    | zero => simp at e; simp [idx, e]
    | succ j =>
      simp only [List.take_succ_cons, List.mem_cons, not_or] at h
      simp only [idx]
      rw [if_neg (fun e => h.1 e.symm), ih (by simpa using hj) h.2 (by simpa using e)]
      rfl

set_option maxRecDepth 100000 in
set_option maxHeartbeats 1000000 in
theorem rfind_calls (w : World) (A : Option Addr) (c : Nat) (L : List ByteArray) (s : ByteArray) (hc : Kd.C Kd.string w A L.length L) (hl : L.length ≤ 9223372036854775806) :
    Calls Try.prog 25 #[.slice A L.length c, .string s] w fun e w' => e = .returned (.tuple #[.int .i64 (((idx s L).getD 0 : Nat) : Int), .bool (idx s L).isSome]) ∧ w = w' := by
  have HC := Aside0.mk hc
  clear hc
  go_enter Try.func25, Try.ntmps25
  go_wp2
  go_loop [6] (fun i => ∃ k : Nat, k ≤ L.length ∧ i = .int .i64 (k : Int) ∧ Aside0 (s ∉ L.take k)) (fun i => L.length - (intOf i).toNat)
  case atStart => exact ⟨0, Nat.zero_le _, rfl, ⟨by simp⟩⟩
  case round =>
    obtain ⟨k, hk, rfl, hn⟩ := hrel
    by_cases hlt : k < L.length
    · obtain ⟨ad, cc, rfl, hcl, hK, hcc⟩ := Kd.C_get HC.out ByteArray.empty (k : Int) (by omega) (by omega)
      have hK' : cc = [.string (L.getD k ByteArray.empty)] := hK
      subst hK'
      have hx : w.cell? (ad.add k) = some (.string (L.getD k ByteArray.empty)) := by
        have := hcc 0 _ rfl
        simpa [Kd.string, Kd.scalar] using this
      clear hK hcl hcc
      obtain ⟨t, ht⟩ : ∃ t, t = L.getD k ByteArray.empty := ⟨_, rfl⟩
      rw [← ht] at hx
      have HT := Aside0.mk ht
      clear ht
      by_cases he : t = s
      · subst he
        have e1 : (t.toList == t.toList) = true := by simp
        go_wp2
        go_ret2
        refine ⟨?_, rfl⟩
        rw [idx_at hlt hn.out HT.out.symm]
        rfl
      · have e1 : (t.toList == s.toList) = false := bytes_ne he
        have HE := Aside0.mk he
        clear he
        go_wp2
        go_round
        case rel =>
          refine ⟨k + 1, by omega, by go_num, ⟨?_⟩⟩
          rw [List.take_succ_eq_append_getElem hlt, List.mem_append, not_or]
          refine ⟨hn.out, ?_⟩
          have : L[k] = t := by rw [HT.out]; simp [hlt]
          rw [this]
          simpa using fun e : s = t => HE.out e.symm
        case measure => simp [intOf]; omega
    · have hk' : k = L.length := by omega
      have HK := Aside0.mk hk'
      clear hk'
      go_wp2
      go_ret2
      refine ⟨?_, rfl⟩
      have : idx s L = none := idx_none.2 (by have := hn.out; rw [HK.out, List.take_length] at this; exact this)
      rw [this]
      rfl

set_option maxHeartbeats 1000000 in
theorem named_calls (w : World) (c : Int) (n : ByteArray) :
    Calls Try.prog 57 #[.int .i64 c, .string n] w fun e w' => e = .returned (.agg #[.int .i64 c, .int .i64 (-1), .string n, .slice none 0 0]) ∧ Below w.heap.size w w' := by
  go_enter Try.func57, Try.ntmps57
  go_wp2
  exact bodyPost_ret (v := .agg #[.int .i64 c, .int .i64 (-1), .string n, .slice none 0 0]) (by simp [results, Try.results57, go_sem]) rfl ⟨rfl, (Below.refl _ _).alloc (Nat.le_refl _) _⟩

set_option maxHeartbeats 1000000 in
theorem no_calls (w : World) :
    Calls Try.prog 58 #[] w fun e w' => e = .returned (.agg #[.int .i64 0, .int .i64 0, .string ⟨#[]⟩, .slice none 0 0]) ∧ Below w.heap.size w w' := by
  go_enter Try.func58, Try.ntmps58
  go_wp2
  exact bodyPost_ret (v := .agg #[.int .i64 0, .int .i64 0, .string ⟨#[]⟩, .slice none 0 0]) (by simp [results, Try.results58, go_sem]) rfl ⟨rfl, (Below.refl _ _).alloc (Nat.le_refl _) _⟩

/-- The fault that a chain of one or none is, as a value. -/
def fVal : List (Int × Int × ByteArray) → Value
  | [] => .agg #[.int .i64 0, .int .i64 0, .string ⟨#[]⟩, .slice none 0 0]
  | (c, a, n) :: _ => .agg #[.int .i64 c, .int .i64 a, .string n, .slice none 0 0]

/-- Four cells of a fault written into block g. -/
def set4 (w : World) (g : Nat) (c a : Int) (n : ByteArray) : World :=
  (((w.setCell ⟨g, 0, none⟩ (.int .i64 c)).setCell ⟨g, 1, none⟩ (.int .i64 a)).setCell ⟨g, 2, none⟩ (.string n)).setCell ⟨g, 3, none⟩ (.slice none 0 0)
theorem set4_blk {w : World} {g : Nat} {x0 x1 x2 x3 : Value} (h : w.heap[g]? = some (.cells #[x0, x1, x2, x3] 33 (0, 0))) (c a : Int) (n : ByteArray) :
    (set4 w g c a n).heap[g]? = some (.cells #[.int .i64 c, .int .i64 a, .string n, .slice none 0 0] 33 (0, 0)) :=
  blk_put (blk_put (blk_put (blk_put h 0 (.int .i64 c) rfl) 1 (.int .i64 a) rfl) 2 (.string n) rfl) 3 (.slice none 0 0) rfl
theorem set4_below {w0 w : World} {B g : Nat} (h : Below B w0 w) (hg : B ≤ g) (c a : Int) (n : ByteArray) : Below B w0 (set4 w g c a n) :=
  (((h.setCell hg _).setCell hg _).setCell hg _).setCell hg _
theorem set4_kept {w0 w : World} {S : Nat → Prop} {g : Nat} (h : Kept w0 w S) (hg : w0.heap.size ≤ g) (c a : Int) (n : ByteArray) : Kept w0 (set4 w g c a n) S :=
  (((h.setCell (.inr hg) _).setCell (.inr hg) _).setCell (.inr hg) _).setCell (.inr hg) _
theorem set4_R {α : Type} {d : Kd α} {e base : Nat} {w : World} {ok : Nat → Prop} {v : Value} {xs : List α} (h : d.R e w base ok v xs) {g : Nat} {x0 x1 x2 x3 : Value} (hb : w.heap[g]? = some (.cells #[x0, x1, x2, x3] 33 (0, 0))) (ht : ∀ q, q ∈ e :: d.E → q ≠ 33) (c a : Int) (n : ByteArray) : d.R e (set4 w g c a n) base ok v xs := by
  have h1 := Kd.R_set h hb ht 0 (.int .i64 c)
  have b1 := blk_put hb 0 (.int .i64 c) rfl
  have h2 := Kd.R_set h1 b1 ht 1 (.int .i64 a)
  have b2 := blk_put b1 1 (.int .i64 a) rfl
  have h3 := Kd.R_set h2 b2 ht 2 (.string n)
  have b3 := blk_put b2 2 (.string n) rfl
  exact Kd.R_set h3 b3 ht 3 (.slice none 0 0)

theorem box_below (w : World) (o : Obj) (n : Nat) : Below w.heap.size w ((w.alloc o).drewN n) := pw_below_drewN ((Below.refl _ _).alloc (Nat.le_refl _) _) n

/-- The three results of the document's Put, out of its frame. -/
theorem res18 {tmps : Array Value} {W : World} {v : Value} {k c a : Int} {n : ByteArray} {g : Nat} (h4 : tmps.getD 4 undef = v) (h5 : tmps.getD 5 undef = .int .i64 k) (h6 : tmps.getD 6 undef = .pointer (some ⟨g, 0, none⟩))
    (hg : W.heap[g]? = some (.cells #[.int .i64 c, .int .i64 a, .string n, .slice none 0 0] 33 (0, 0))) :
    (results Try.f18 tmps).run Try.prog W = .ok (.tuple #[v, .int .i64 k, .agg #[.int .i64 c, .int .i64 a, .string n, .slice none 0 0]]) W := by
  refine results_list (rs := [.tmp 4, .tmp 5, .cell 6 33]) rfl (vs := [v, .int .i64 k, .agg #[.int .i64 c, .int .i64 a, .string n, .slice none 0 0]]) (by simp) ?_
  rw [← h4, ← h5]
  exact .tmp (.tmp (.cell g 33 #[.int .i64 c, .int .i64 a, .string n, .slice none 0 0] (0, 0) _ h6 hg Try.underlying33 rfl (by kernel_rfl) .nil))

set_option maxRecDepth 100000 in
set_option maxHeartbeats 1000000 in
theorem rput_bad {w : World} {v : Value} (s : ByteArray) (hg : goodB s = false) :
    Calls Try.prog 18 #[v, .string s] w fun e w' => e = .returned (.tuple #[v, .int .i64 0, fVal [(30, -1, s)]]) ∧ Below w.heap.size w w' := by
  have HG := Lib.hid hg
  clear hg
  go_enter Try.func18, Try.ntmps18
  go_wp2_with (first | (go_at_call 24; refine (rgood_calls s _).mono ?_; rw [HG.out]; rintro e w' ⟨rfl, ⟨n, rfl⟩⟩) | (go_at_call 57; refine (named_calls _ _ _).mono ?_; rintro e w2 ⟨rfl, hb⟩; have hx := blk_below (blk_drewN (blk_last w _) _) hb; have c0 := blk_cell hx 0; have c1 := blk_cell hx 1; have c2 := blk_cell hx 2; have c3 := blk_cell hx 3; have f0 := blk_frozen hx 0; have f1 := blk_frozen hx 1; have f2 := blk_frozen hx 2; have f3 := blk_frozen hx 3; have HX := Aside0.mk hx; have HB := Aside0.mk hb; clear hx hb))
  exact bodyPost_ret (res18 rfl rfl rfl (set4_blk HX.out _ _ _)) rfl ⟨rfl, set4_below (below_then (box_below w _ n) (box_below w _ n).size HB.out) (Nat.le_refl _) _ _ _⟩

theorem C_box {w : World} {α : Type} {d : Kd α} {A : Option Addr} {k : Nat} {xs : List α} (h : d.C w A k xs) (o : Obj) : ∀ n, d.C ((w.alloc o).drewN n) A k xs := fun n => Kd.C_below (Kd.C_below h (below_alloc (Below.refl _ _) o)) (below_drawn _ n)

set_option maxRecDepth 100000 in
set_option maxHeartbeats 1000000 in
theorem rput_there {w : World} {A : Option Addr} {c : Nat} {L : List ByteArray} (hc : Kd.C Kd.string w A L.length L) (hl : L.length ≤ 1024) (s : ByteArray) (hg : goodB s = true) (i : Nat) (hi : idx s L = some i) :
    Calls Try.prog 18 #[.slice A L.length c, .string s] w fun e w' => e = .returned (.tuple #[.slice A L.length c, .int .i64 (i : Int), fVal []]) ∧ Below w.heap.size w w' := by
  have HG := Lib.hid hg
  have HI := Lib.hid hi
  have HC := Aside0.mk (C_box hc (.cells #[.int .i64 0, .int .i64 0, .string ⟨#[]⟩, .slice none 0 0] 33))
  clear hg hi hc
  go_enter Try.func18, Try.ntmps18
  go_wp2_with (first | (go_at_call 24; refine (rgood_calls s _).mono ?_; rw [HG.out]; rintro e w' ⟨rfl, ⟨n, rfl⟩⟩) | (go_at_call 25; refine (rfind_calls _ A c L s (by exact HC.out _) (by omega)).mono ?_; rw [HI.out]; rintro e w' ⟨rfl, rfl⟩; simp only [Option.getD_some, Option.isSome_some, Option.getD_none, Option.isSome_none]) | (go_at_call 58; refine (no_calls _).mono ?_; rintro e w2 ⟨rfl, hb⟩; have hx := blk_below (blk_drewN (blk_last w _) _) hb; have c0 := blk_cell hx 0; have c1 := blk_cell hx 1; have c2 := blk_cell hx 2; have c3 := blk_cell hx 3; have f0 := blk_frozen hx 0; have f1 := blk_frozen hx 1; have f2 := blk_frozen hx 2; have f3 := blk_frozen hx 3; have HX := Aside0.mk hx; have HB := Aside0.mk hb; clear hx hb))
  exact bodyPost_ret (res18 rfl rfl rfl (set4_blk HX.out _ _ _)) rfl ⟨rfl, set4_below (below_then (box_below w _ n) (box_below w _ n).size HB.out) (Nat.le_refl _) _ _ _⟩

set_option maxRecDepth 100000 in
set_option maxHeartbeats 1000000 in
theorem rput_full {w : World} {A : Option Addr} {c : Nat} {L : List ByteArray} (hc : Kd.C Kd.string w A L.length L) (s : ByteArray) (hg : goodB s = true) (hi : idx s L = none) (hf : L.length = 1024) :
    Calls Try.prog 18 #[.slice A L.length c, .string s] w fun e w' => e = .returned (.tuple #[.slice A L.length c, .int .i64 0, fVal [(31, -1, s)]]) ∧ Below w.heap.size w w' := by
  have HG := Lib.hid hg
  have HI := Lib.hid hi
  have HC := Aside0.mk (C_box hc (.cells #[.int .i64 0, .int .i64 0, .string ⟨#[]⟩, .slice none 0 0] 33))
  have hl : L.length ≤ 1024 := by omega
  have hf1 : decide (1024 ≤ L.length) = true := by simp [hf]
  have hf2 : decide (1024 ≤ (L.length : Int)) = true := by simp [hf]
  clear hg hi hc hf
  go_enter Try.func18, Try.ntmps18
  go_wp2_with (first | (go_at_call 24; refine (rgood_calls s _).mono ?_; rw [HG.out]; rintro e w' ⟨rfl, ⟨n, rfl⟩⟩) | (go_at_call 25; refine (rfind_calls _ A c L s (by exact HC.out _) (by omega)).mono ?_; rw [HI.out]; rintro e w' ⟨rfl, rfl⟩; simp only [Option.getD_some, Option.isSome_some, Option.getD_none, Option.isSome_none]) | (go_at_call 57; refine (named_calls _ _ _).mono ?_; rintro e w2 ⟨rfl, hb⟩; have hx := blk_below (blk_drewN (blk_last w _) _) hb; have c0 := blk_cell hx 0; have c1 := blk_cell hx 1; have c2 := blk_cell hx 2; have c3 := blk_cell hx 3; have f0 := blk_frozen hx 0; have f1 := blk_frozen hx 1; have f2 := blk_frozen hx 2; have f3 := blk_frozen hx 3; have HX := Aside0.mk hx; have HB := Aside0.mk hb; clear hx hb))
  exact bodyPost_ret (res18 rfl rfl rfl (set4_blk HX.out _ _ _)) rfl ⟨rfl, set4_below (below_then (box_below w _ n) (box_below w _ n).size HB.out) (Nat.le_refl _) _ _ _⟩

theorem len_snoc {α : Type} (L : List α) (s : α) : (L ++ [s]).length = L.length + 1 := by simp
theorem t9_33 : (9 : TypeId) ≠ 33 := by decide

/-- What the document's Put leaves of a new name. -/
theorem rput_end {w0 w w1 w2 : World} {n : Nat} {ok : Nat → Prop} {o : Obj} {L : List ByteArray} {v v1 : Value} {x0 x1 x2 x3 : Value} (hv : ∀ k, v.ownBlock = some k → ok k) (hB : Below w0.heap.size w0 w)
    (HS : Kd.string.R 9 w1 w0.heap.size (fun k => ok k ∨ w.heap.size ≤ k) v1 L) (HB1 : Below w0.heap.size w0 w1) (HG : ((w.alloc o).drewN n).grownBy w1 v.ownBlock) (HB2 : Below w1.heap.size w1 w2)
    (HX : w2.heap[w.heap.size]? = some (.cells #[x0, x1, x2, x3] 33 (0, 0))) (c a : Int) (s : ByteArray) :
    Kd.string.R 9 (set4 w2 w.heap.size c a s) w0.heap.size (fun k => ok k ∨ w.heap.size ≤ k) v1 L ∧ Below w0.heap.size w0 (set4 w2 w.heap.size c a s) ∧ Kept w (set4 w2 w.heap.size c a s) ok := by
  refine ⟨set4_R (Kd.R_below HS HB2) HX (by decide) _ _ _, set4_below (below_then HB1 HB1.size HB2) hB.size _ _ _, set4_kept ?_ (Nat.le_refl _) _ _ _⟩
  have h1 : Kept w ((w.alloc o).drewN n) ok := Kept.of_below (box_below w o n) ok
  exact (Kept.of_grown HG h1 (fun k hk => .inl (hv k hk))).below HB2

set_option maxRecDepth 100000 in
set_option maxHeartbeats 1000000 in
theorem rput_new {w0 w : World} {ok : Nat → Prop} {v : Value} {L : List ByteArray} (hB : Below w0.heap.size w0 w) (ho : Kd.R Kd.string 9 w w0.heap.size ok v L) (s : ByteArray) (hg : goodB s = true) (hi : idx s L = none) (hf : L.length < 1024) :
    Calls Try.prog 18 #[v, .string s] w fun e w' => ∃ v', e = .returned (.tuple #[v', .int .i64 (L.length : Int), fVal []]) ∧ Kd.R Kd.string 9 w' w0.heap.size (fun k => ok k ∨ w.heap.size ≤ k) v' (L ++ [s]) ∧ Below w0.heap.size w0 w' ∧ Kept w w' ok := by
  obtain ⟨A, c, rfl, hlc, hc⟩ := Kd.R_reads ho
  have HG := Lib.hid hg
  have HI := Lib.hid hi
  have HC := Aside0.mk (C_box hc (.cells #[.int .i64 0, .int .i64 0, .string ⟨#[]⟩, .slice none 0 0] 33))
  have HL := Aside0.mk hf
  have HV := Aside0.mk ho.1
  have HXB := Aside0.mk (fun n => blk_drewN (blk_last w (.cells #[.int .i64 0, .int .i64 0, .string ⟨#[]⟩, .slice none 0 0] 33)) n)
  have HR := Aside0.mk (Kd.R_mono ho (ok' := fun k => ok k ∨ w.heap.size ≤ k) (fun _ h => .inl h))
  have HB := Aside0.mk hB
  have hf1 : decide (1024 ≤ L.length) = false := by simp; omega
  have hf2 : decide (1024 ≤ (L.length : Int)) = false := by simp; omega
  have hl : L.length ≤ 1024 := by omega
  clear hg hi hc hf ho hB
  go_enter Try.func18, Try.ntmps18
  go_wp2_with (first | (go_at_call 24; refine (rgood_calls s _).mono ?_; rw [HG.out]; rintro e w' ⟨rfl, ⟨n, rfl⟩⟩) | (go_at_call 25; refine (rfind_calls _ A c L s (by exact HC.out _) (by omega)).mono ?_; rw [HI.out]; rintro e w' ⟨rfl, rfl⟩; simp only [Option.getD_some, Option.isSome_some, Option.getD_none, Option.isSome_none]) | (at_builtin; go_must (refine Kd.R_append Kd.string (w0 := w0) (W := (w.alloc (.cells #[.int .i64 0, .int .i64 0, .string ⟨#[]⟩, .slice none 0 0] 33)).drewN n) w0.heap.size rfl (.tmp 31) (.tmp 33) 25 9 (.string ⟨#[]⟩) 16 rfl Try.underlying25 info9 rfl (by decide) (by decide) (.slice A L.length c) L s [.string s] (fun k => ok k ∨ w.heap.size ≤ k) (fun _ => False) rfl (by show Value.slice (some ⟨w.heap.size + 1, 0, none⟩) 1 1 = _; simp) rfl (fun _ h => h.elim) (fun k h => .inr (Nat.le_trans (box_below w _ n).size h)) (Kd.R_below HR.out (box_below w _ n)) (below_then HB.out HB.out.size (box_below w _ n)) (Nat.le_trans HB.out.size (box_below w _ n).size) (by have := HL.out; omega) ?_); go_must (intro v1 w1 hR hB1 hg hat; obtain ⟨A1, cc, rfl⟩ := Kd.R_slice hR; have HX1 := Aside0.mk (blk_grown (HXB.out n) hg (Kd.R_ne (Kd.R_below HR.out (box_below w (.cells #[.int .i64 0, .int .i64 0, .string ⟨#[]⟩, .slice none 0 0] 33) n)) (HXB.out n) t9_33)); have HS := Aside0.mk hR; have HB1 := Aside0.mk hB1; have HGr := Aside0.mk hg; clear hR hB1 hg hat)) | (go_at_call 58; refine (no_calls _).mono ?_; rintro e w2 ⟨rfl, hb⟩; have hx := blk_below HX1.out hb; have c0 := blk_cell hx 0; have c1 := blk_cell hx 1; have c2 := blk_cell hx 2; have c3 := blk_cell hx 3; have f0 := blk_frozen hx 0; have f1 := blk_frozen hx 1; have f2 := blk_frozen hx 2; have f3 := blk_frozen hx 3; have HX := Aside0.mk hx; have HB2 := Aside0.mk hb; clear hx hb))
  exact bodyPost_ret (res18 rfl rfl rfl (set4_blk HX.out _ _ _)) rfl ⟨_, rfl, rput_end HV.out HB.out (by have h := HS.out; rwa [len_snoc] at h) HB1.out HGr.out HB2.out HX.out _ _ _⟩

/-- The document's Put, all its ways together: the same list, number and fault as Put's. -/
theorem rput_calls {w0 w : World} {ok : Nat → Prop} {v : Value} {L : List ByteArray} (hB : Below w0.heap.size w0 w) (ho : Kd.R Kd.string 9 w w0.heap.size ok v L) (hl : L.length ≤ 1024) (s : ByteArray) :
    Calls Try.prog 18 #[v, .string s] w fun e w' => ∃ v', e = .returned (.tuple #[v', .int .i64 (putN L s : Int), fVal (putE L s)]) ∧ Kd.R Kd.string 9 w' w0.heap.size (fun k => ok k ∨ w.heap.size ≤ k) v' (putL L s) ∧ Below w0.heap.size w0 w' ∧ Kept w w' ok := by
  have hT : ∀ {w'}, Below w.heap.size w w' → Kd.R Kd.string 9 w' w0.heap.size (fun k => ok k ∨ w.heap.size ≤ k) v L := fun hb => Kd.R_mono (Kd.R_below ho hb) (fun _ hk => .inl hk)
  cases hg : goodB s with
  | false =>
    refine (rput_bad s hg).mono ?_
    rintro e w' ⟨rfl, hb⟩
    refine ⟨v, by simp [putN, putE, hg], ?_, below_then hB hB.size hb, Kept.of_below hb _⟩
    have : putL L s = L := by simp [putL, hg]
    rw [this]; exact hT hb
  | true =>
    cases hi : idx s L with
    | some i =>
      obtain ⟨A, c, rfl, hlc, hc⟩ := Kd.R_reads ho
      refine (rput_there hc hl s hg i hi).mono ?_
      rintro e w' ⟨rfl, hb⟩
      refine ⟨.slice A L.length c, by simp [putN, putE, hg, hi], ?_, below_then hB hB.size hb, Kept.of_below hb _⟩
      have : putL L s = L := by simp [putL, hi]
      rw [this]; exact hT hb
    | none =>
      by_cases hf : L.length = 1024
      · obtain ⟨A, c, rfl, hlc, hc⟩ := Kd.R_reads ho
        refine (rput_full hc s hg hi hf).mono ?_
        rintro e w' ⟨rfl, hb⟩
        refine ⟨.slice A L.length c, by simp [putN, putE, hg, hi, hf], ?_, below_then hB hB.size hb, Kept.of_below hb _⟩
        have : putL L s = L := by simp [putL, hf]
        rw [this]; exact hT hb
      · refine (rput_new hB ho s hg hi (by omega)).mono ?_
        rintro e w' ⟨v', rfl, hr, hb, hk⟩
        refine ⟨v', by simp [putN, putE, hg, hi, hf], ?_, hb, hk⟩
        have : putL L s = L ++ [s] := by simp [putL, hg, hi, hf]
        rw [this]; exact hr

end Go.Proofs.Ytgcjfobmccoibaa.Nm
